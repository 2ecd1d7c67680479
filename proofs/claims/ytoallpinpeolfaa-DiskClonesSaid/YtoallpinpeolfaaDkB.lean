/- The walks of package disk: the memory of a disk, and the small methods. -/
import Derived.Test.YtoallpinpeolfaaRows
import Derived.Test.YtoallpinpeolfaaMemS
import Derived.Test.YtoallpinpeolfaaDkA
import Derived.Outline
import Derived.WalkLawsBesides
import Derived.WalkSpells
import Derived.Deep.DeepFit
import Derived.Deep.WholeRow
import Derived.Deep.QuietTactic
import Derived.BigQuiet
import Derived.Deep.RegionHeld3
import Derived.Deep.RegionWith
import Derived.Deep.RegionLaw
import Derived.Lib.MinMax
namespace Go.Proofs.Ytoallpinpeolfaa
open Go.RowKit
theorem below_drew (w : World) : Below w.heap.size w w.drew := (Below.refl _ _).drew
namespace Dk

theorem info_u8 : (Try.prog.info? 5).map (fun i => (i.zero, i.size, i.bytes)) = some (some (.int .u8 0), 1, 1) := by kernel_rfl
theorem info_wr : (Try.prog.info? 74).map (fun i => (i.zero, i.size, i.bytes)) = some (some (.agg #[.int .i64 0, .slice none 0 0]), 2, 32) := by kernel_rfl
theorem size_u8 : (Try.prog.info? 5).map (·.size) = some 1 := by kernel_rfl

/-- a pending write in memory: the write, the address and the capacity of its data -/
structure Pm where
  q : Pc
  a : Option Addr
  c : Nat
def Pm.cells (m : Pm) : List Value := [.int .i64 (m.q.s : Int), .slice m.a m.q.d.length m.c]
def pcells (P : List Pm) : List Value := (P.map Pm.cells).flatten
theorem pcells_len (P : List Pm) : (pcells P).length = P.length * 2 := by
  induction P with
  | nil => rfl
  | cons m P ih =>
    show (m.cells ++ pcells P).length = _
    rw [List.length_append, ih, List.length_cons]; show 2 + _ = _; omega
theorem pcells_one (P : List Pm) : ∀ u ∈ pcells P, u.oneCell' = true := by
  intro u hu
  simp only [pcells, List.mem_flatten, List.mem_map] at hu
  obtain ⟨l, ⟨m, _, rfl⟩, hu⟩ := hu
  simp only [Pm.cells, List.mem_cons, List.not_mem_nil, or_false] at hu
  rcases hu with rfl | rfl <;> rfl
theorem pcells_get (P : List Pm) (i j : Nat) (hi : i < P.length) (hj : j < 2) : (pcells P)[i * 2 + j]? = (P[i].cells)[j]? := by
  unfold pcells
  induction P generalizing i with
  | nil => simp at hi
  | cons c cs ih =>
    rw [List.map_cons, List.flatten_cons]
    have hl : c.cells.length = 2 := rfl
    cases i with
    | zero => rw [List.getElem?_append_left (by omega)]; simp
    | succ i =>
      rw [List.getElem?_append_right (by omega), show (i + 1) * 2 + j - c.cells.length = i * 2 + j by omega, ih i (by simpa using hi)]
      rfl
theorem pcells_snoc (P : List Pm) (m : Pm) : pcells (P ++ [m]) = pcells P ++ m.cells := by
  unfold pcells; simp

/-- the data of the writes read, and lie in blocks of E -/
def PRd (w : World) (E : List Nat) (P : List Pm) : Prop := ∀ m ∈ P, RB w m.a m.q.d ∧ m.q.d.length ≤ m.c ∧ m.c ≤ maxLen ∧ ∀ b off, m.a = some ⟨b, off, none⟩ → b ∈ E
/-- block g holds a disk; it may write the blocks M, and reads the blocks E besides -/
structure IsD' (w : World) (g : Nat) (M E : List Nat) (D : St) (A : Option Addr) (ca : Nat) (X : Option Addr) (cx : Nat) (P : List Pm) : Prop where
  hd : w.heap[g]? = some (.cells #[.slice A (64 * D.n) ca, .slice X P.length cx, .int .i64 D.f, .bool D.x] 67 (0, 0))
  du : w.ownsRow 0 5 1 (.slice A (64 * D.n) ca) (64 * D.n) (D.b.map vb)
  pe : w.ownsRow 0 74 2 (.slice X P.length cx) P.length (pcells P)
  pd : D.p = P.map (·.q)
  pr : PRd w E P
  ok : D.ok
  mg : g ∈ M
  ma : ∀ b, (Value.slice A (64 * D.n) ca).ownBlock = some b → b ∈ M
  mx : ∀ b, (Value.slice X P.length cx).ownBlock = some b → b ∈ M
  me : ∀ x ∈ M, x ∉ E
  ml : ∀ x ∈ M, x < w.heap.size
  el : ∀ x ∈ E, x < w.heap.size
def IsD (w : World) (g : Nat) (M E : List Nat) (D : St) : Prop := ∃ A ca X cx P, IsD' w g M E D A ca X cx P

section
variable {w w' : World} {g : Nat} {M E S : List Nat} {D : St} {A X : Option Addr} {ca cx : Nat} {P : List Pm}
theorem PRd.chg (h : PRd w E P) (hc : Chg S w w') (hS : ∀ x ∈ S, x ∉ E) : PRd w' E P := fun m hm => by
  obtain ⟨h1, h2, h3, h4⟩ := h m hm
  exact ⟨hc.rd h1 (fun b off e hb => hS b hb (h4 b off e)), h2, h3, h4⟩
theorem IsD'.chg (h : IsD' w g M E D A ca X cx P) (hc : Chg S w w') (hM : ∀ x ∈ S, x ∉ M) (hE : ∀ x ∈ S, x ∉ E) : IsD' w' g M E D A ca X cx P := by
  refine ⟨hc.blk h.hd (fun hg => hM g hg h.mg), hc.ownS h.du (fun b hb hs => hM b hs (h.ma b hb)), hc.ownS h.pe (fun b hb hs => hM b hs (h.mx b hb)), h.pd, h.pr.chg hc hE, h.ok, h.mg, h.ma, h.mx, h.me,
    fun x hx => Nat.lt_of_lt_of_le (h.ml x hx) hc.size, fun x hx => Nat.lt_of_lt_of_le (h.el x hx) hc.size⟩
theorem IsD.chg (h : IsD w g M E D) (hc : Chg S w w') (hM : ∀ x ∈ S, x ∉ M) (hE : ∀ x ∈ S, x ∉ E) : IsD w' g M E D := by
  obtain ⟨A, ca, X, cx, P, h⟩ := h
  exact ⟨A, ca, X, cx, P, h.chg hc hM hE⟩
theorem IsD'.below (h : IsD' w g M E D A ca X cx P) (hb : Below w.heap.size w w') : IsD' w' g M E D A ca X cx P :=
  h.chg (Chg.of_below hb []) (by simp) (by simp)
theorem IsD.below (h : IsD w g M E D) (hb : Below w.heap.size w w') : IsD w' g M E D := h.chg (Chg.of_below hb []) (by simp) (by simp)
theorem IsD.ok (h : IsD w g M E D) : D.ok := by obtain ⟨_, _, _, _, _, h⟩ := h; exact h.ok
theorem IsD.mg (h : IsD w g M E D) : g ∈ M := by obtain ⟨_, _, _, _, _, h⟩ := h; exact h.mg
theorem IsD.ml (h : IsD w g M E D) : ∀ x ∈ M, x < w.heap.size := by obtain ⟨_, _, _, _, _, h⟩ := h; exact h.ml
theorem IsD.el (h : IsD w g M E D) : ∀ x ∈ E, x < w.heap.size := by obtain ⟨_, _, _, _, _, h⟩ := h; exact h.el
theorem IsD.me (h : IsD w g M E D) : ∀ x ∈ M, x ∉ E := by obtain ⟨_, _, _, _, _, h⟩ := h; exact h.me
theorem IsD'.cell0 (h : IsD' w g M E D A ca X cx P) : w.cell? ⟨g, 0, none⟩ = some (.slice A (64 * D.n) ca) := (cell_of_row _ _ 0 _ _ _ h.hd).trans rfl
theorem IsD'.cell1 (h : IsD' w g M E D A ca X cx P) : w.cell? ⟨g, 1, none⟩ = some (.slice X P.length cx) := (cell_of_row _ _ 1 _ _ _ h.hd).trans rfl
theorem IsD'.cell2 (h : IsD' w g M E D A ca X cx P) : w.cell? ⟨g, 2, none⟩ = some (.int .i64 D.f) := (cell_of_row _ _ 2 _ _ _ h.hd).trans rfl
theorem IsD'.cell3 (h : IsD' w g M E D A ca X cx P) : w.cell? ⟨g, 3, none⟩ = some (.bool D.x) := (cell_of_row _ _ 3 _ _ _ h.hd).trans rfl
theorem IsD'.frz (h : IsD' w g M E D A ca X cx P) (i : Nat) : w.frozen? ⟨g, i, none⟩ = false := frozen_of_row _ _ _ _ _ h.hd
theorem IsD'.lt (h : IsD' w g M E D A ca X cx P) : g < w.heap.size := h.ml g h.mg
/-- the head's numbers were written -/
theorem IsD'.head (h : IsD' w g M E D A ca X cx P) {f : Int} {x : Bool} (hc : Chg [g] w w') (hh : w'.heap[g]? = some (.cells #[.slice A (64 * D.n) ca, .slice X P.length cx, .int .i64 f, .bool x] 67 (0, 0))) (hf : -1 ≤ f ∧ f ≤ 9223372036854775807) :
    IsD' w' g M E { D with f := f, x := x } A ca X cx P := by
  have hne : ∀ b, (Value.slice A (64 * D.n) ca).ownBlock = some b → b ∉ [g] := own_ne (cs := [.slice A (64 * D.n) ca, .slice X P.length cx, .int .i64 D.f, .bool D.x]) h.du h.hd (by decide)
  have hne2 : ∀ b, (Value.slice X P.length cx).ownBlock = some b → b ∉ [g] := by
    intro b hb hm
    rcases h.pe.2 with ⟨e, _⟩ | ⟨g', cap, cur, e, _, hh', _⟩
    · rw [e] at hb; cases hb
    · rw [e] at hb
      simp only [List.mem_singleton] at hm
      subst hm
      have : g' = b := by simpa [Value.ownBlock] using hb
      subst this
      rw [h.hd] at hh'
      injection hh' with hh'
      injection hh' with _ ht
      exact absurd ht (by decide)
  refine ⟨hh, hc.ownS h.du hne, hc.ownS h.pe hne2, h.pd, h.pr.chg hc (fun x hx => by simp only [List.mem_singleton] at hx; subst hx; exact h.me x h.mg), ⟨h.ok.n1, h.ok.n2, h.ok.b, h.ok.p, hf.1, hf.2⟩, h.mg, h.ma, h.mx, h.me,
    fun x hx => Nat.lt_of_lt_of_le (h.ml x hx) hc.size, fun x hx => Nat.lt_of_lt_of_le (h.el x hx) hc.size⟩
end

/-- what a call that writes the disk leaves -/
def DkP (w : World) (g : Nat) (M E : List Nat) (D' : St) (w' : World) : Prop :=
  ∃ M' E', IsD w' g M' E' D' ∧ Chg M w w' ∧ (∀ x ∈ M', x ∈ M ∨ w.heap.size ≤ x) ∧ ∀ x ∈ E', x ∈ E ∨ w.heap.size ≤ x
theorem DkP.refl {w : World} {g : Nat} {M E : List Nat} {D : St} (h : IsD w g M E D) : DkP w g M E D w := ⟨M, E, h, Chg.refl _ _, fun _ h => .inl h, fun _ h => .inl h⟩

theorem sectors_calls (g : Nat) (M E : List Nat) (D : St) (w : World) (h : IsD w g M E D) : Calls Try.prog 40 #[.pointer (some ⟨g, 0, none⟩)] w fun e w' => e = .returned (.int .i64 (D.n : Int)) ∧ w = w' := by
  obtain ⟨A, ca, X, cx, P, h⟩ := h
  have c0 := h.cell0
  have hq : ((64 * D.n : Nat) : Int) / 64 = (D.n : Int) := by omega
  have hn := h.ok.n2
  have HQ := Lib.hid hq
  have HP : Hid (∀ z : Int, z = (D.n : Int) → (Ending.returned (.int .i64 z) = .returned (.int .i64 (D.n : Int)))) := by rintro z rfl; rfl
  clear h hq
  go_enter Try.func40, Try.ntmps40
  go_wp2_with fail
  go_ret
  exact ⟨HP.out _ (by omega), rfl⟩
theorem pending_calls (g : Nat) (M E : List Nat) (D : St) (w : World) (h : IsD w g M E D) : Calls Try.prog 24 #[.pointer (some ⟨g, 0, none⟩)] w fun e w' => e = .returned (.int .i64 (D.p.length : Int)) ∧ w = w' := by
  obtain ⟨A, ca, X, cx, P, h⟩ := h
  have c1 := h.cell1
  have HP : Hid (P.length = D.p.length) := by show _ = _; rw [h.pd]; simp
  rw [← HP.out]
  clear h
  go_enter Try.func24, Try.ntmps24
  go_wp2_with fail
  go_ret
  exact ⟨rfl, rfl⟩
theorem failed_calls (g : Nat) (M E : List Nat) (D : St) (w : World) (h : IsD w g M E D) : Calls Try.prog 23 #[.pointer (some ⟨g, 0, none⟩)] w fun e w' => e = .returned (.bool D.x) ∧ w = w' := by
  obtain ⟨A, ca, X, cx, P, h⟩ := h
  have c3 := h.cell3
  clear h
  go_enter Try.func23, Try.ntmps23
  go_wp2_with fail
  go_ret
  exact ⟨rfl, rfl⟩
theorem failAfter_calls (g : Nat) (M E : List Nat) (D : St) (n : Int) (w : World) (h : IsD w g M E D) (hn : n ≤ 9223372036854775807) :
    Calls Try.prog 22 #[.pointer (some ⟨g, 0, none⟩), .int .i64 n] w fun e w' => e = .returned (.tuple #[]) ∧ IsD w' g M E (failD D n) ∧ Chg [g] w w' := by
  obtain ⟨A, ca, X, cx, P, h⟩ := h
  have c2 := h.cell2
  have f2 := h.frz 2
  have hc : Chg [g] w (w.setCell ⟨g, 2, none⟩ (.int .i64 (max n (-1)))) := (Chg.refl [g] w).setCell (p := ⟨g, 2, none⟩) (.inl (by simp)) _
  have HF : Hid (IsD (w.setCell ⟨g, 2, none⟩ (.int .i64 (max n (-1)))) g M E (failD D n)) :=
    ⟨A, ca, X, cx, P, h.head hc (heap_setCell_same _ _ _ _ _ _ h.hd) ⟨by omega, by omega⟩⟩
  have HC := Lib.hid hc
  clear h hc
  go_enter Try.func22, Try.ntmps22
  go_wp2_with fail
  go_end0
  exact ⟨rfl, HF.out, HC.out⟩

theorem inside_calls (g : Nat) (M E : List Nat) (D : St) (s k : Int) (w : World) (h : IsD w g M E D) (hs : -9223372036854775808 ≤ s) (hs2 : s ≤ 9223372036854775807) : Calls Try.prog 32 #[.pointer (some ⟨g, 0, none⟩), .int .i64 s, .int .i64 k] w fun e w' => e = .returned (.bool (inB D.n s k)) ∧ w = w' := by
  have HS := Lib.hid (sectors_calls g M E D w h)
  have hn := h.ok.n2
  have HQ : Hid (∀ b, b = inB D.n s k → Ending.returned (.bool b) = .returned (.bool (inB D.n s k))) := by rintro b rfl; rfl
  generalize hb : inB D.n s k = r at *
  have HB := Lib.hid hb
  unfold inB at hb
  clear h
  by_cases h1 : 0 ≤ s
  · have d1 : decide (0 ≤ s) = true := by simpa using h1
    by_cases h2 : 0 ≤ k
    · have d2 : decide (0 ≤ k) = true := by simpa using h2
      by_cases h3 : s ≤ D.n
      · have d3 : decide (s ≤ (D.n : Int)) = true := by simpa using h3
        rw [d1, d2, d3] at hb
        have HB2 := Lib.hid hb
        clear hb
        go_enter Try.func32, Try.ntmps32
        go_wp2_with (go_at_call 40; refine HS.out.mono ?_; rintro e w' ⟨rfl, rfl⟩)
        go_ret
        exact ⟨HQ.out _ (by rw [← HB2.out]; simp), rfl⟩
      · have d3 : decide (s ≤ (D.n : Int)) = false := by simpa using h3
        rw [d1, d2, d3] at hb
        have HB2 := Lib.hid hb
        clear hb
        go_enter Try.func32, Try.ntmps32
        go_wp2_with (go_at_call 40; refine HS.out.mono ?_; rintro e w' ⟨rfl, rfl⟩)
        go_ret
        exact ⟨HQ.out _ (by rw [← HB2.out]; simp), rfl⟩
    · have d2 : decide (0 ≤ k) = false := by simpa using h2
      rw [d1, d2] at hb
      have HB2 := Lib.hid hb
      clear hb
      go_enter Try.func32, Try.ntmps32
      go_wp2_with fail
      go_ret
      exact ⟨HQ.out _ (by rw [← HB2.out]; simp), rfl⟩
  · have d1 : decide (0 ≤ s) = false := by simpa using h1
    rw [d1] at hb
    have HB2 := Lib.hid hb
    clear hb
    go_enter Try.func32, Try.ntmps32
    go_wp2_with fail
    go_ret
    exact ⟨HQ.out _ (by rw [← HB2.out]; simp), rfl⟩

/-- what burn leaves -/
def burnD (D : St) : St := if D.f = 0 then { D with x := true } else { D with f := burnF D.f }
set_option maxHeartbeats 400000 in
theorem burn_calls (g : Nat) (M E : List Nat) (D : St) (w : World) (h : IsD w g M E D) :
    Calls Try.prog 33 #[.pointer (some ⟨g, 0, none⟩)] w fun e w' => e = .returned (.bool (!decide (D.f = 0))) ∧ IsD w' g M E (burnD D) ∧ Chg [g] w w' := by
  obtain ⟨A, ca, X, cx, P, h⟩ := h
  have c2 := h.cell2
  have f2 := h.frz 2
  have f3 := h.frz 3
  have c3 := h.cell3
  have hf1 := h.ok.f1
  have hf2 := h.ok.f2
  have HI := Lib.hid h
  by_cases h0 : D.f = 0
  · have HD : Hid (burnD D = { D with f := D.f, x := true }) := by show _ = _; unfold burnD; rw [if_pos h0]
    have hc : Chg [g] w (w.setCell ⟨g, 3, none⟩ (.bool true)) := (Chg.refl [g] w).setCell (p := ⟨g, 3, none⟩) (.inl (by simp)) _
    have HF : Hid (IsD (w.setCell ⟨g, 3, none⟩ (.bool true)) g M E (burnD D)) := by
      rw [HD.out]; exact ⟨A, ca, X, cx, P, h.head hc (heap_setCell_same _ _ _ _ _ _ h.hd) ⟨hf1, hf2⟩⟩
    have HC := Lib.hid hc
    have q0 : (D.f == 0) = true := by simpa using h0
    have HE : Hid ((!decide (D.f = 0)) = false) := by show _ = _; rw [decide_eq_true h0]; rfl
    rw [HE.out]
    clear h hc h0
    go_enter Try.func33, Try.ntmps33
    go_wp2_with fail
    go_ret
    exact ⟨rfl, HF.out, HC.out⟩
  · have q0 : (D.f == 0) = false := by simpa using h0
    have HE : Hid ((!decide (D.f = 0)) = true) := by show _ = _; rw [decide_eq_false h0]; rfl
    rw [HE.out]
    by_cases hp : 0 < D.f
    · have HD : Hid (burnD D = { D with f := D.f - 1, x := D.x }) := by show _ = _; unfold burnD burnF; rw [if_neg h0, if_pos hp]
      have hc : Chg [g] w (w.setCell ⟨g, 2, none⟩ (.int .i64 (D.f - 1))) := (Chg.refl [g] w).setCell (p := ⟨g, 2, none⟩) (.inl (by simp)) _
      have HF : Hid (IsD (w.setCell ⟨g, 2, none⟩ (.int .i64 (D.f - 1))) g M E (burnD D)) := by
        rw [HD.out]; exact ⟨A, ca, X, cx, P, h.head hc (heap_setCell_same _ _ _ _ _ _ h.hd) ⟨by omega, by omega⟩⟩
      have HC := Lib.hid hc
      have d1 : decide (0 < D.f) = true := by simpa using hp
      clear h hc h0
      go_enter Try.func33, Try.ntmps33
      go_wp2_with fail
      go_ret
      exact ⟨rfl, HF.out, HC.out⟩
    · have HD : Hid (burnD D = D) := by show _ = _; unfold burnD burnF; rw [if_neg h0, if_neg hp]
      have d1 : decide (0 < D.f) = false := by simpa using hp
      rw [HD.out]
      clear h h0
      go_enter Try.func33, Try.ntmps33
      go_wp2_with fail
      go_ret
      exact ⟨rfl, ⟨A, ca, X, cx, P, HI.out⟩, Chg.refl _ _⟩
end Dk
end Go.Proofs.Ytoallpinpeolfaa
