/- A region that draws its order, by an invariant over what has come up. No program in sight. -/
import Derived.Test.YthjplfflkdnfnaaMem
import Derived.Orders
namespace Go.Proofs.Ythjplfflkdnfnaa
open Go.RowKit

/-- operation i has come up -/
def on (l : Array Bool) (i : Nat) : Bool := l.getD i false
theorem on_ne {l : Array Bool} {i j : Nat} (h : i ≠ j) : on (l.setIfInBounds i true) j = on l j := by
  unfold on; simp [h]
theorem on_same {l : Array Bool} {i : Nat} (h : i < l.size) : on (l.setIfInBounds i true) i = true := by
  unfold on; simp [h]
theorem ev_ne {a : Act} {d k : Nat} {v : Value} (h : d ≠ k) : (a.put (some d) v).eval (.tmp k) = a.eval (.tmp k) := by
  simp [Act.put, Act.eval, h]
theorem ev_same {a : Act} {d : Nat} {v : Value} (h : d < a.tmps.size) : (a.put (some d) v).eval (.tmp d) = v := by
  simp [Act.put, Act.eval, h]
theorem ev_get {a : Act} {k : Nat} {v : Value} (h : a.eval (.tmp k) = v) : a.tmps[k]?.getD undef = v := by rw [← h]; simp [Act.eval]
theorem size_put (a : Act) (d : Option Tmp) (v : Value) : (a.put d v).tmps.size = a.tmps.size := by
  cases d <;> simp [Act.put]
theorem defers_put (a : Act) (d : Option Tmp) (v : Value) : (a.put d v).defers = a.defers := by
  cases d <;> simp [Act.put]

section
variable {P : Program} {ops : Array Oper} {Q : Exit → Act → World → Prop} {md : Region.Mode}

theorem all_on (hdep : ∀ (i : Nat) (o : Oper), ops[i]? = some o → ∀ e ∈ o.after, e.on < i) {l : Array Bool} (hs : l.size = ops.size) (h : Region.ready md ops l = []) : ∀ i, i < ops.size → on l i = true := by
  intro i
  induction i using Nat.strongRecOn with
  | ind i ih =>
    intro hi
    cases hl : on l i with
    | true => rfl
    | false =>
      exfalso
      have hm : i ∈ Region.ready md ops l := mem_ready.2 ⟨by
        unfold on at hl
        have : i < l.size := by omega
        simp [this] at hl ⊢; exact hl, ops[i], by simp [hi], fun e he _ => ih e.on (hdep i _ (by simp [hi]) e he) (Nat.lt_trans (hdep i _ (by simp [hi]) e he) hi)⟩
      rw [h] at hm
      cases hm

/-- every edge goes back -/
def forwards (ops : Array Oper) : Bool := (List.range ops.size).all fun i => match ops[i]? with
  | some o => o.after.all fun e => decide (e.on < i)
  | none => true
theorem forwards_spec (h : forwards ops = true) : ∀ (i : Nat) (o : Oper), ops[i]? = some o → ∀ e ∈ o.after, e.on < i := by
  intro i o hi e he
  have hlt : i < ops.size := (Array.getElem?_eq_some_iff.1 hi).1
  have := List.all_eq_true.1 h i (List.mem_range.2 hlt)
  rw [hi] at this
  simpa using Array.all_eq_true'.1 this e he

theorem count_set {l : Array Bool} {i : Nat} (h : l.getD i true = false) : (l.setIfInBounds i true).toList.count false + 1 = l.toList.count false := by
  have hi : i < l.size := by
    by_cases hi : i < l.size
    · exact hi
    · simp [hi] at h
  have hv : l[i] = false := by simpa [hi] using h
  obtain ⟨l⟩ := l
  simp only [List.setIfInBounds_toArray, List.getElem_toArray] at *
  clear h
  induction l generalizing i with
  | nil => simp at hi
  | cons x l ih =>
    cases i with
    | zero => simp at hv; subst hv; simp
    | succ i =>
      simp only [List.set_cons_succ, List.count_cons, List.getElem_cons_succ] at hv ⊢
      have := ih (by simpa using hi) hv
      omega

/-- what holds at the start, and is kept by every operation that may come up, holds at the end -/
theorem wpAny_inv (Inv : Array Bool → Act → World → Prop)
    (step : ∀ (l : Array Bool) (a : Act) (w : World) (i : Nat) (o : Oper), l.size = ops.size → Inv l a w → ops[i]? = some o → i < l.size → on l i = false → (∀ e ∈ o.after, Region.binds md e = true → on l e.on = true) →
      wpOp P ops Q i (fun a' w' => Inv (l.setIfInBounds i true) a' w') a w)
    (hfin : ∀ (l : Array Bool) (a : Act) (w : World), l.size = ops.size → Inv l a w → Region.ready md ops l = [] → Q .normal a w) :
    ∀ (fuel : Nat) (l : Array Bool) (a : Act) (w : World), l.size = ops.size → l.toList.count false ≤ fuel → Inv l a w → wpAny P md ops Q fuel l a w := by
  intro fuel
  induction fuel with
  | zero =>
    intro l a w hs hc hI
    have h0 : Region.ready md ops l = [] := by
      cases hr : Region.ready md ops l with
      | nil => rfl
      | cons x xs =>
        have hx : x ∈ Region.ready md ops l := by rw [hr]; simp
        have := count_set (mem_ready.1 hx).1
        omega
    exact ⟨h0, hfin l a w hs hI h0⟩
  | succ fuel ih =>
    intro l a w hs hc hI
    refine ⟨fun h0 => hfin l a w hs hI h0, fun i hi => ?_⟩
    obtain ⟨h0, o, ho, hd⟩ := mem_ready.1 hi
    have hlt : i < l.size := by
      by_cases h : i < l.size
      · exact h
      · simp [h] at h0
    have hon : on l i = false := by unfold on; simp [hlt] at h0 ⊢; exact h0
    refine wpOp_mono (fun a' w' hI' => ih _ a' w' (by simpa using hs) ?_ hI') (step l a w i o hs hI ho hlt hon hd)
    have := count_set h0
    omega

theorem wp_region_inv {id : Nat} {a : Act} {w : World} (hm : P.follows .mixedOrders = true) (Inv : Array Bool → Act → World → Prop)
    (step : ∀ (l : Array Bool) (a : Act) (w : World) (i : Nat) (o : Oper), l.size = ops.size → Inv l a w → ops[i]? = some o → i < l.size → on l i = false → (∀ e ∈ o.after, Region.binds .any e = true → on l e.on = true) →
      wpOp P ops Q i (fun a' w' => Inv (l.setIfInBounds i true) a' w') a w)
    (hfin : ∀ (l : Array Bool) (a : Act) (w : World), l.size = ops.size → Inv l a w → Region.ready .any ops l = [] → Q .normal a w)
    (h : Inv (Array.replicate ops.size false) a w.drew) : (Code.region id ops true).wp P Q a w :=
  wp_region_any hm (wpAny_inv Inv step hfin ops.size _ a _ (by simp) (by simp) h)
/-- an operation without a guard -/
theorem wpOp_mk {i : Nat} {o : Oper} {K : Act → World → Prop} {a : Act} {w : World} (ho : ops[i]? = some o) (hg : o.guard = none) (h : o.wp P a w K Q) : wpOp P ops Q i K a w := by
  unfold wpOp
  simp only [ho]
  have : Region.wanted o (yielded ops a.tmps) = true := by simp [Region.wanted, hg]
  simp only [this, if_true]
  exact .inl h
end
end Go.Proofs.Ythjplfflkdnfnaa
