/- The reference's list of messages in memory; append onto one. -/
import Derived.Test.YtddoepaplbnlcaaMbY
import Derived.Deep.RegionLaw
namespace Go.Proofs.Ytddoepaplbnlcaa
open Go.RowKit Go.Shelf
namespace Mb

theorem info_r : (Try.prog.info? 36).map (fun i => (i.zero, i.size, i.bytes)) = some (some (.agg #[.int .i64 0, .int .i64 0, .int .i64 0, .int .i64 0, .string ⟨#[]⟩, .slice none 0 0]), 6, 72) := by kernel_rfl
theorem size_r : (Try.prog.info? 36).map (·.size) = some 6 := by kernel_rfl
theorem elem_r : Try.prog.elem 26 = 36 := by kernel_rfl
/-- a list of messages that is read: it lies in blocks of M -/
structure IsM (w : World) (M : List Nat) (A : Option Addr) (n c : Nat) (xs : List Mm) : Prop where
  rd : Rd w A (cells6 xs)
  b : 0 < n → ∀ b off, A = some ⟨b, off, none⟩ → b ∈ M
  hn : xs.length = n
  nc : n ≤ c
  cm : c ≤ maxLen
  ok : ∀ x ∈ xs, x.ok w M
  ml : ∀ y ∈ M, y < w.heap.size
theorem IsM.same {w w' : World} {M : List Nat} {A : Option Addr} {n c : Nat} {xs : List Mm} (h : IsM w M A n c xs) (k : Same M w w') (hs : w.heap.size ≤ w'.heap.size) : IsM w' M A n c xs :=
  ⟨k.rd h.rd (fun hp => h.b (by rw [cells6_len, h.hn] at hp; omega)), h.b, h.hn, h.nc, h.cm, fun x hx => (h.ok x hx).same k, fun y hy => Nat.lt_of_lt_of_le (h.ml y hy) hs⟩
theorem IsM.below {w w' : World} {M : List Nat} {A : Option Addr} {n c : Nat} {xs : List Mm} (h : IsM w M A n c xs) (hb : Below w.heap.size w w') : IsM w' M A n c xs := h.same (Same.of_below h.ml hb) hb.size
/-- a value that is a list of messages -/
def Mo (M : List Nat) (l : List Msg) (v : Value) (w : World) : Prop := ∃ A n c xs, v = .slice A n c ∧ IsM w M A n c xs ∧ xs.map (·.m) = l
theorem Mo.same {w w' : World} {M : List Nat} {l : List Msg} {v : Value} (h : Mo M l v w) (k : Same M w w') (hs : w.heap.size ≤ w'.heap.size) : Mo M l v w' := by
  obtain ⟨A, n, c, xs, h1, h2, h3⟩ := h
  exact ⟨A, n, c, xs, h1, h2.same k hs, h3⟩
theorem Mo.below {w w' : World} {M : List Nat} {l : List Msg} {v : Value} (h : Mo M l v w) (hb : Below w.heap.size w w') : Mo M l v w' := by
  obtain ⟨A, n, c, xs, h1, h2, h3⟩ := h
  exact ⟨A, n, c, xs, h1, h2.below hb, h3⟩
theorem Mo.lt {w : World} {M : List Nat} {l : List Msg} {v : Value} (h : Mo M l v w) : ∀ y ∈ M, y < w.heap.size := by
  obtain ⟨_, _, _, _, _, h, _⟩ := h
  exact h.ml
/-- a list that was made of M and of new blocks -/
def NewM (M : List Nat) (l : List Msg) (v : Value) (w w' : World) : Prop := ∃ M', Mo M' l v w' ∧ (∀ y ∈ M', y ∈ M ∨ (w.heap.size ≤ y ∧ y < w'.heap.size)) ∧ Below w.heap.size w w'
theorem Mo.new {w w' : World} {M : List Nat} {l : List Msg} {v : Value} (h : Mo M l v w) (hb : Below w.heap.size w w') : NewM M l v w w' := ⟨M, h.below hb, fun _ hy => .inl hy, hb⟩
theorem own_ge {w : World} {B n sz : Nat} {e : TypeId} {v : Value} {xs : List Value} (h : w.ownsRow B e sz v n xs) (b : Nat) (hb : v.ownBlock = some b) : B ≤ b := by
  rcases h.2 with ⟨rfl, rfl⟩ | ⟨g, cap, cur, rfl, hg, _⟩
  · cases hb
  · have : g = b := by simpa [Value.ownBlock] using hb
    omega
theorem rd_cutS {w : World} {A : Option Addr} {xs : List Mm} {P c : Nat} (h : Rd w A (cells6 xs)) (hP : P ≤ xs.length) (hc : xs.length ≤ c) : Rd w (cutS A P c 6) (cells6 (xs.drop P)) := by
  by_cases hcp : c = P
  · rw [List.drop_eq_nil_of_le (by omega)]; exact Rd.nil
  · have he : cells6 (xs.drop P) = (cells6 xs).drop (P * 6) := (flat_drop Mm.len xs P hP).symm
    rw [he]
    intro j v hj
    rw [List.getElem?_drop] at hj
    obtain ⟨b, off, rfl, hc⟩ := h _ v hj
    refine ⟨b, off + P * 6, ?_, by rw [Nat.add_assoc]; exact hc⟩
    unfold cutS
    rw [if_neg hcp]
    simp [addr_add]
theorem rd_take6 {w : World} {A : Option Addr} {xs : List Mm} {P : Nat} (h : Rd w A (cells6 xs)) (hP : P ≤ xs.length) : Rd w A (cells6 (xs.take P)) := by
  have he : cells6 (xs.take P) = (cells6 xs).take (P * 6) := (flat_take Mm.len xs P hP).symm
  rw [he]; exact h.take _
/-- what was made is a list -/
theorem newM_of {w w' : World} {M N' : List Nat} {B r cap : Nat} {X : Option Addr} {ys : List Mm} {e : TypeId} (hb : Below w.heap.size w w') (ho : w'.ownsRow B e 6 (.slice X r cap) r (cells6 ys)) (hB : w.heap.size ≤ B) (hl : ys.length = r) (hok : ∀ y ∈ ys, y.ok w' N') (hN : ∀ y ∈ N', y ∈ M ∨ (w.heap.size ≤ y ∧ y < w'.heap.size)) (hM : ∀ y ∈ M, y < w.heap.size) :
    NewM M (ys.map (·.m)) (.slice X r cap) w w' := by
  obtain ⟨_, _, e0, h1, h2, _, hr⟩ := own_formS ho
  cases e0
  have hX : ∀ b off, X = some ⟨b, off, none⟩ → w.heap.size ≤ b ∧ b < w'.heap.size := fun b off e => by
    rcases ho.2 with ⟨h, _⟩ | ⟨g, cap, cur, h, hb, hh, _⟩
    · injection h with h _ _; rw [h] at e; cases e
    · injection h with h _ _; rw [h] at e; cases e
      exact ⟨Nat.le_trans hB hb, (Array.getElem?_eq_some_iff.1 hh).1⟩
  refine ⟨(Value.slice X r cap).ownBlock.toList ++ N', ⟨X, r, cap, ys, rfl, ⟨hr, fun _ b off e => by rw [e]; simp [Value.ownBlock], hl, h1, h2, fun y hy => (hok y hy).sub (fun z hz => List.mem_append_right _ hz), fun y hy => ?_⟩, rfl⟩, fun y hy => ?_, hb⟩
  · rcases List.mem_append.1 hy with hy | hy
    · cases hX' : X with
      | none => rw [hX'] at hy; simp [Value.ownBlock] at hy
      | some a =>
        rcases ho.2 with ⟨h, _⟩ | ⟨g, cap, cur, h, hb, hh, _⟩
        · injection h with h _ _; rw [h] at hX'; cases hX'
        · rw [h] at hy
          simp [Value.ownBlock] at hy
          subst hy
          exact (Array.getElem?_eq_some_iff.1 hh).1
    · rcases hN y hy with h | h
      · have := hM y h; have := hb.size; omega
      · exact h.2
  · rcases List.mem_append.1 hy with hy | hy
    · rcases ho.2 with ⟨h, _⟩ | ⟨g, cap, cur, h, hb, hh, _⟩
      · rw [h] at hy; simp [Value.ownBlock] at hy
      · rw [h] at hy
        simp [Value.ownBlock] at hy
        subst hy
        exact .inr ⟨Nat.le_trans hB hb, (Array.getElem?_eq_some_iff.1 hh).1⟩
    · exact hN y hy
variable {o : Oper} {ops : Array Oper} {a : Act} {K : Act → World → Prop} {Q : Exit → Act → World → Prop} {E : Prop}
/-- append onto a []Message of the call's own -/
theorem stepM (B : Nat) (w : World) (hgd : o.guard = none) (s x : Operand) (ho : o.op = .call { callee := .builtin .append, args := #[s, x], argTypes := #[26, 26] })
    (v : Value) (ns : Nat) (os ms : List Mm) (hs : a.eval s = v) (hown : w.ownsRow B 36 6 v ns (cells6 os))
    (A : Option Addr) (m c : Nat) (hx : a.eval x = .slice A m c) (hm : ms.length = m) (hr : Rd w A (cells6 ms)) (r : Nat) (er : ns + m = r) (hlen : r ≤ 1000000) (hB : B ≤ w.heap.size)
    (h : ∀ X cap w', Hid (w'.ownsRow B 36 6 (.slice X r cap) r (cells6 (os ++ ms))) → Hid (App w v w' (.slice X r cap)) → Hid (Below B w w') → K (a.put o.dst (.slice X r cap)) w') :
    if Region.wanted o (yielded ops a.tmps) = true then Oper.wp Try.prog o a w K Q else E := by
  subst er
  exact step_appS w hgd s x _ ho B _ _ 6 72 Try.underlying26 info_r rfl (by omega) v ns _ hs hown A m c _ hx (by rw [cells6_len, hm]) hr (cells6_one ms) (by simp only [maxLen]; omega) (by omega) hB fun X cap w' h2 h3 => by
    have e : cells6 os ++ cells6 ms = cells6 (os ++ ms) := by simp [cells6]
    rw [e] at h2
    exact h X cap w' h2 h3 ((h3.chg (fun b hb => Option.mem_toList.2 hb)).below hB (fun b hb => own_ge hown b (Option.mem_toList.1 hb)))
theorem own_made0 (w : World) (O : Obj) (e : TypeId) (sz : Nat) : ((w.alloc O).alloc (.cells #[] e)).ownsRow w.heap.size e sz (.slice (some ⟨w.heap.size + 1, 0, none⟩) 0 0) 0 [] :=
  ⟨by simp, .inr ⟨w.heap.size + 1, 0, #[], rfl, by omega, heap_alloc2_new w O _, Nat.le_refl _, Nat.zero_le _, by simp, by simp⟩⟩
theorem own_made1 (w : World) (e : TypeId) (sz : Nat) : (w.alloc (.cells #[] e)).ownsRow w.heap.size e sz (.slice (some ⟨w.heap.size, 0, none⟩) 0 0) 0 [] := World.ownsRow_made _ _ 0 (Nat.le_refl _) (by simp [maxLen]) (by simp)
theorem rd_row {w : World} {b : Nat} {cs : List Value} {e : TypeId} {fr : Nat × Nat} (hh : w.heap[b]? = some (.cells cs.toArray e fr)) : Rd w (some ⟨b, 0, none⟩) cs :=
  Rd.mk fun i u hu => by rw [Nat.zero_add, cell_of_row _ _ _ _ _ _ hh]; simpa using hu
end Mb
end Go.Proofs.Ytddoepaplbnlcaa
