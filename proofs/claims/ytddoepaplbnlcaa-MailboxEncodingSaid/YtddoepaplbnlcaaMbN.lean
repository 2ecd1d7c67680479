/- A box in memory; the walks of slices.Clone of numbers, New, Len. -/
import Derived.Test.YtddoepaplbnlcaaMbM
import Derived.WalkSpells
namespace Go.Proofs.Ytddoepaplbnlcaa
open Go.RowKit Go.Shelf
namespace Mb

theorem info_n : (Try.prog.info? 3).map (fun i => (i.zero, i.size, i.bytes)) = some (some (.int .i64 0), 1, 8) := by kernel_rfl
theorem ni_one (l : List Int) : ∀ u ∈ l.map (Value.int .i64), u.oneCell' = true := by
  intro u hu
  obtain ⟨x, _, rfl⟩ := List.mem_map.1 hu
  rfl
set_option maxRecDepth 100000 in
set_option maxHeartbeats 1000000 in
theorem cloneI_calls (A : Option Addr) (n c : Nat) (l : List Int) (w : World) (hn : l.length = n) (hr : Rd w A (l.map (Value.int .i64))) (hm : n ≤ 1000000) :
    Calls Try.prog 37 #[.slice A n c] w fun e w' => ∃ X cx, e = .returned (.slice X n cx) ∧ w'.ownsRow w.heap.size 3 1 (.slice X n cx) n (l.map (Value.int .i64)) ∧ Below w.heap.size w w' := by
  have HN := Lib.hid hn
  have HR := Lib.hid hr
  clear hn hr
  cases A with
  | none =>
    have hl : l = [] := by
      cases l with
      | nil => rfl
      | cons x l => obtain ⟨_, _, e, _⟩ := HR.out 0 (.int .i64 x) rfl; cases e
    subst hl
    obtain rfl : n = 0 := HN.out.symm
    have hq := fun w' => Lib.run_eql_slice_nil (P := Try.prog) w' 34 3 none 0 c 0 0 Try.underlying34
    go_enter Try.func37, Try.ntmps37
    go_wp2_with fail
    go_ret
    exact ⟨none, 0, rfl, ⟨rfl, .inl ⟨rfl, rfl⟩⟩, Below.refl _ _⟩
  | some a =>
    have hq := fun w' => Lib.run_eql_slice_nil (P := Try.prog) w' 34 3 (some a) n c 0 0 Try.underlying34
    go_enter Try.func37, Try.ntmps37
    go_wp2_with (at_builtin; refine wpList_apps _ rfl (.tmp 5) (.tmp 6) 34 rfl w.heap.size 3 (.int .i64 0) 8 Try.underlying34 info_n rfl (.slice (some ⟨w.heap.size, 0, none⟩) 0 0) 0 [] rfl (own_empty _ _ _ _ rfl (Nat.le_refl _)) (some a) n c (l.map (Value.int .i64)) rfl (by simp; exact HN.out) (Rd.alloc HR.out _) (ni_one _) (by simp only [maxLen]; omega) (by omega) (by simp) ?_; intro X cX w5 hown5 happ5; have HO5 := Lib.hid hown5; have HP5 := Lib.hid happ5; clear hown5 happ5)
    go_ret
    have hb5 : Below w.heap.size w w5 := (below1 w _).trans (HP5.out.below (own_empty w.heap.size _ _ _ rfl (Nat.le_refl _)) (by simp))
    refine ⟨X, cX, by simp, ?_, hb5⟩
    have := HO5.out
    simpa using this

/-- a box in memory: block g, its row, and the blocks N where arguments lie -/
structure IsBox (w : World) (B g : Nat) (N : List Nat) (A : Option Addr) (n c : Nat) (xs : List Mm) : Prop where
  hd : w.heap[g]? = some (.cells #[.slice A n c] 74 (0, 0))
  gB : B ≤ g
  ow : w.ownsRow B 76 6 (.slice A n c) n (cells6 xs)
  hn : xs.length = n
  ok : ∀ x ∈ xs, x.ok w N
  nn : ∀ y ∈ N, y < w.heap.size ∧ y ≠ g ∧ ∀ off, A ≠ some ⟨y, off, none⟩
  nb : ∀ y ∈ N, B ≤ y
section
variable {w w' : World} {B g n c : Nat} {N : List Nat} {A : Option Addr} {xs : List Mm}
theorem IsBox.lt (h : IsBox w B g N A n c xs) : g < w.heap.size := (Array.getElem?_eq_some_iff.1 h.hd).1
theorem IsBox.rd (h : IsBox w B g N A n c xs) : Rd w A (cells6 xs) := by
  obtain ⟨_, _, e, _, _, _, hr⟩ := own_formS h.ow
  cases e; exact hr
theorem IsBox.below (h : IsBox w B g N A n c xs) (hb : Below w.heap.size w w') : IsBox w' B g N A n c xs :=
  ⟨(hb.block _ h.lt).trans h.hd, h.gB, own_belowS h.ow hb, h.hn, fun x hx => (h.ok x hx).same (Same.of_below (fun y hy => (h.nn y hy).1) hb), fun y hy => ⟨Nat.lt_of_lt_of_le (h.nn y hy).1 hb.size, (h.nn y hy).2⟩, h.nb⟩
theorem IsBox.apart (h : IsBox w B g N A n c xs) : ∀ off, A ≠ some ⟨g, off, none⟩ := by
  intro off e
  rcases h.ow.2 with ⟨h2, _⟩ | ⟨g', c', cur, he, _, hh, _⟩
  · cases h2; cases e
  · cases he
    cases e
    have := h.hd
    rw [hh] at this
    injection this with this
    injection this with _ ht
    exact absurd ht (by decide)
/-- the blocks that a box may write -/
theorem IsBox.lts (h : IsBox w B g N A n c xs) : ∀ b off, A = some ⟨b, off, none⟩ → b < w.heap.size ∧ B ≤ b := by
  intro b off e
  rcases h.ow.2 with ⟨h2, _⟩ | ⟨g', c', cur, he, hb, hh, _⟩
  · cases h2; cases e
  · cases he; cases e
    exact ⟨(Array.getElem?_eq_some_iff.1 hh).1, hb⟩
end
/-- a box, as the law knows it: blocks K are not its own -/
def Bx (K : List Nat) (B g : Nat) (l : List Msg) (w : World) : Prop := ∃ N A n c xs, IsBox w B g N A n c xs ∧ xs.map (·.m) = l ∧ Inv l ∧ ∀ y ∈ K, y < w.heap.size ∧ y ≠ g ∧ ∀ off, A ≠ some ⟨y, off, none⟩
section
variable {w w' : World} {B g : Nat} {K : List Nat} {l : List Msg}
theorem Bx.below (h : Bx K B g l w) (hb : Below w.heap.size w w') : Bx K B g l w' := by
  obtain ⟨N, A, n, c, xs, h1, h2, h3, h4⟩ := h
  exact ⟨N, A, n, c, xs, h1.below hb, h2, h3, fun y hy => ⟨Nat.lt_of_lt_of_le (h4 y hy).1 hb.size, (h4 y hy).2⟩⟩
theorem Bx.inv (h : Bx K B g l w) : Inv l := by obtain ⟨_, _, _, _, _, _, _, h, _⟩ := h; exact h
theorem Bx.lt (h : Bx K B g l w) : ∀ y ∈ K, y < w.heap.size := by obtain ⟨_, _, _, _, _, _, _, _, h⟩ := h; exact fun y hy => (h y hy).1
/-- blocks made since are not the box's -/
theorem Bx.grow {K' : List Nat} (h : Bx K B g l w) (hb : Below w.heap.size w w') (hK : ∀ y ∈ K', y ∈ K ∨ (w.heap.size ≤ y ∧ y < w'.heap.size)) : Bx K' B g l w' := by
  obtain ⟨N, A, n, c, xs, h1, h2, h3, h4⟩ := h
  refine ⟨N, A, n, c, xs, h1.below hb, h2, h3, fun y hy => ?_⟩
  rcases hK y hy with hy | hy
  · exact ⟨Nat.lt_of_lt_of_le (h4 y hy).1 hb.size, (h4 y hy).2⟩
  · refine ⟨hy.2, fun e => ?_, fun off e => ?_⟩
    · subst e; have := h1.lt; omega
    · have := (h1.lts y off e).1; omega
/-- the box changes: what lay in K stands -/
structure BxW (K : List Nat) (B g : Nat) (l : List Msg) (w w' : World) : Prop where
  bx : Bx K B g l w'
  k : Same K w w'
  b : Below B w w'
/-- the row was changed and stored -/
theorem IsBox.upd {w1 w2 : World} {N N' : List Nat} {A A' : Option Addr} {n c c' : Nat} {xs xs' : List Mm} (h : IsBox w B g N A n c xs) (hB : B ≤ w.heap.size) (hb : Below w.heap.size w w1) (ho : w2.ownsRow B 76 6 (.slice A' xs'.length c') xs'.length (cells6 xs')) (ha : App w1 (.slice A n c) w2 (.slice A' xs'.length c'))
    (hok : ∀ x ∈ xs', x.ok w1 N') (hN : ∀ y ∈ N', y < w1.heap.size ∧ (y ∈ N ∨ w.heap.size ≤ y)) (hl : xs'.map (·.m) = l) (hi : Inv l) (hK : ∀ y ∈ K, y < w.heap.size ∧ y ≠ g ∧ ∀ off, A ≠ some ⟨y, off, none⟩) :
    BxW K B g l w (w2.setCell ⟨g, 0, none⟩ (.slice A' xs'.length c')) := by
  have hgl := h.lt
  have hsz := hb.size
  have hs2 := ha.size
  have hg2 : w2.heap[g]? = some (.cells #[.slice A n c] 74 (0, 0)) := ha.old ((hb.block _ hgl).trans h.hd) (fun e => by
    cases A with
    | none => cases e
    | some a =>
      obtain ⟨b, off, pr⟩ := a
      simp only [Value.ownBlock, Option.some.injEq] at e
      subst e
      rcases h.ow.2 with ⟨h2, _⟩ | ⟨g', c', cur, he, _⟩
      · cases h2
      · cases he; exact h.apart 0 rfl)
  -- the new row's block is the old one, or new
  have hrow : ∀ b off, A' = some ⟨b, off, none⟩ → (∃ off', A = some ⟨b, off', none⟩) ∨ w1.heap.size ≤ b := by
    intro b off e
    rcases ha.2 with h1 | ⟨b', h1, h2⟩
    · rw [e] at h1
      cases A with
      | none => cases h1
      | some a =>
        rcases h.ow.2 with ⟨h2, _⟩ | ⟨g', c', cur, he, _⟩
        · cases h2
        · cases he
          simp only [Value.ownBlock, Option.some.injEq] at h1
          subst h1
          exact .inl ⟨0, rfl⟩
    · rw [e] at h1
      simp only [Value.ownBlock, Option.some.injEq] at h1
      subst h1
      exact .inr h2
  have hfar : ∀ y, y < w1.heap.size → (∀ off, A ≠ some ⟨y, off, none⟩) → w2.heap[y]? = w1.heap[y]? := fun y hy hne => ha.1.block y hy (fun e => by
    cases A with
    | none => cases e
    | some a =>
      rcases h.ow.2 with ⟨h2, _⟩ | ⟨g', c', cur, he, _⟩
      · cases h2
      · cases he
        simp only [Value.ownBlock, Option.some.injEq] at e
        subst e
        exact hne 0 rfl)
  have hgN : ∀ y ∈ N', y ≠ g ∧ (∀ off, A ≠ some ⟨y, off, none⟩) ∧ ∀ off, A' ≠ some ⟨y, off, none⟩ := fun y hy => by
    have hA : ∀ off, A ≠ some ⟨y, off, none⟩ := fun off e => by
      rcases (hN y hy).2 with h1 | h1
      · exact (h.nn y h1).2.2 off e
      · have := (h.lts y off e).1; omega
    refine ⟨fun e => ?_, hA, fun off e => ?_⟩
    · subst e
      rcases (hN y hy).2 with h1 | h1
      · exact (h.nn y h1).2.1 rfl
      · omega
    · rcases hrow y off e with ⟨off', h1⟩ | h1
      · exact hA off' h1
      · have := (hN y hy).1; omega
  have hset : ∀ y, y ≠ g → (w2.setCell ⟨g, 0, none⟩ (.slice A' xs'.length c')).heap[y]? = w2.heap[y]? := fun y hy => Below.heap_setCell w2 _ _ y (fun e => hy e)
  have hg2l : g < w2.heap.size := (Array.getElem?_eq_some_iff.1 hg2).1
  have hz : (w2.setCell ⟨g, 0, none⟩ (.slice A' xs'.length c')).heap.size = w2.heap.size := by simp [World.setCell]
  have hSame : ∀ y, y < w1.heap.size → y ≠ g → (∀ off, A ≠ some ⟨y, off, none⟩) → (w2.setCell ⟨g, 0, none⟩ (.slice A' xs'.length c')).heap[y]? = w1.heap[y]? := fun y hy h1 h2 => (hset y h1).trans (hfar y hy h2)
  refine ⟨⟨N', A', xs'.length, c', xs', ⟨?_, h.gB, ?_, rfl, fun x hx => (hok x hx).same (fun y hy => hSame y (hN y hy).1 (hgN y hy).1 (hgN y hy).2.1), fun y hy => ⟨by rw [hz]; exact Nat.lt_of_lt_of_le (hN y hy).1 hs2, (hgN y hy).1, (hgN y hy).2.2⟩, fun y hy => (hN y hy).2.elim (h.nb y) (Nat.le_trans hB)⟩, hl, hi, fun y hy => ⟨?_, (hK y hy).2.1, fun off e => ?_⟩⟩, fun y hy => ?_, ?_⟩
  · exact heap_setCell_same _ _ _ _ _ _ hg2
  · obtain ⟨k1, k2⟩ := ho
    refine ⟨k1, k2.imp id fun ⟨b, cap, cur, e1, e2, e3, e4⟩ => ⟨b, cap, cur, e1, e2, ?_, e4⟩⟩
    refine (hset b (fun e => ?_)).trans e3
    subst e
    rw [hg2] at e3
    injection e3 with e3
    injection e3 with _ ht
    exact absurd ht (by decide)
  · rw [hz]; have := (hK y hy).1; omega
  · rcases hrow y off e with ⟨off', h1⟩ | h1
    · exact (hK y hy).2.2 off' h1
    · have := (hK y hy).1; omega
  · have h1 := hK y hy
    exact (hSame y (by omega) h1.2.1 h1.2.2).trans (hb.block y h1.1)
  · refine ⟨ha.1.os.trans hb.os, ha.1.tape.trans hb.tape, ha.1.output.trans hb.output, by rw [hz]; omega, fun y hy => ?_⟩
    have hyw : y < w.heap.size := by omega
    have hyg : y ≠ g := by have := h.gB; omega
    exact (hSame y (by omega) hyg (fun off e => by have := (h.lts y off e).2; omega)).trans (hb.block y hyw)
end
/-- a new box -/
theorem new_calls (w : World) : Calls Try.prog 32 #[] w fun e w' => e = .returned (.pointer (some ⟨w.heap.size, 0, none⟩)) ∧ Below w.heap.size w w' ∧ Bx [] w.heap.size w.heap.size [] w' := by
  have HP : Hid (Below w.heap.size w (w.alloc (.cells #[.slice none 0 0] 74)) ∧ Bx [] w.heap.size w.heap.size [] (w.alloc (.cells #[.slice none 0 0] 74))) :=
    Lib.hid ⟨below1 _ _, [], none, 0, 0, [], ⟨heap_alloc_new _ _, Nat.le_refl _, ⟨rfl, .inl ⟨rfl, rfl⟩⟩, rfl, by simp, by simp, by simp⟩, rfl, inv_nil, by simp⟩
  go_enter Try.func32, Try.ntmps32
  go_wp2_with fail
  go_ret
  exact ⟨rfl, HP.out.1, HP.out.2⟩
section
variable {w : World} {B g : Nat} {K : List Nat} {l : List Msg}
theorem len_calls (h : Bx K B g l w) : Calls Try.prog 20 #[.pointer (some ⟨g, 0, none⟩)] w fun e w' => e = .returned (.int .i64 (l.length : Int)) ∧ w = w' := by
  obtain ⟨N, A, n, c, xs, h1, h2, h3, h4⟩ := h
  have HL : Hid (l.length = n) := Lib.hid (by rw [← h2, List.length_map]; exact h1.hn)
  have c0 : w.cell? ⟨g, 0, none⟩ = some (.slice A n c) := (cell_of_row _ _ 0 _ _ _ h1.hd).trans rfl
  clear h1 h2 h3 h4
  go_enter Try.func20, Try.ntmps20
  go_wp2_with fail
  go_ret
  exact ⟨by rw [HL.out]; rfl, rfl⟩
end
end Mb
end Go.Proofs.Ytddoepaplbnlcaa
