/- The pair in memory. -/
import Derived.Test.YtjmcmilbkhacdaaTnN
namespace Go.Proofs.Ytjmcmilbkhacdaa
open Go.RowKit Go.Shelf
open Wi Wr
namespace Tc
/-- the pair: where it lies, and what it holds -/
structure Ms where
  x : Nat
  gn : Nat
  An : Option Addr
  nn : Nat
  cn : Nat
  last : Int
  ps : List Pk
  ga : Nat
  Aa : Option Addr
  na : Nat
  ca : Nat
  m : Value
  S : Nat
  k : Nat
  l : List Bs
  gb : Nat
  q : Nat
  r : Nat
  n : Nat
  E : Nat → Option Bs
  As : Option Addr
  ns : Nat
  cs : Nat
  sl : List Bs
  Ag : Option Addr
  ng : Nat
  cg : Nat
  gl : List Bs
/-- the blocks of its parts -/
def Ms.P (M : Ms) : Nat → List Nat
  | 0 => [M.x]
  | 1 => netS M.gn M.An
  | 2 => aS M.ga M.Aa
  | 3 => cS M.gb M.q
  | 4 => rowS M.As
  | _ => rowS M.Ag
structure IsP (B : Nat) (w : World) (M : Ms) : Prop where
  hd : w.heap[M.x]? = some (Obj.cells #[.pointer (some ⟨M.gn, 0, none⟩), .pointer (some ⟨M.ga, 0, none⟩), .pointer (some ⟨M.gb, 0, none⟩), .slice M.As M.ns M.cs, .slice M.Ag M.ng M.cg] 30 (0, 0))
  xB : B ≤ M.x
  net : IsNet B w M.gn M.An M.nn M.cn M.last M.ps
  snd : IsA B w M.ga M.Aa M.na M.ca M.m M.S M.k M.l
  rcv : IsC B w M.gb M.q M.r M.n M.E
  st : IsBr B w M.As M.ns M.cs M.sl
  gt : IsBr B w M.Ag M.ng M.cg M.gl
  dj : ∀ i j, i < 6 → j < 6 → i ≠ j → ∀ y ∈ M.P i, y ∉ M.P j
theorem IsP.nb {B : Nat} {w : World} {M : Ms} (h : IsP B w M) : ∀ i, i < 6 → NB B w (M.P i) := fun i hi => by
  match i, hi with
  | 0, _ => exact NB.cell h.hd h.xB (by decide)
  | 1, _ => exact netS_nb h.net
  | 2, _ => exact h.snd.nb
  | 3, _ => exact h.rcv.nb
  | 4, _ => exact h.st.nb
  | 5, _ => exact h.gt.nb
theorem IsP.lt {B : Nat} {w : World} {M : Ms} (h : IsP B w M) {i : Nat} (hi : i < 6) {y : Nat} (hy : y ∈ M.P i) : y < w.heap.size := (h.nb i hi y hy).1.2
theorem IsP.ge {B : Nat} {w : World} {M : Ms} (h : IsP B w M) {i : Nat} (hi : i < 6) {y : Nat} (hy : y ∈ M.P i) : B ≤ y := (h.nb i hi y hy).1.1
/-- one part changes: the parts stay disjoint -/
theorem IsP.dju {B : Nat} {w : World} {M M' : Ms} (h : IsP B w M) (k : Nat) (hk6 : k < 6) (hk : ∀ i, i < 6 → i ≠ k → M'.P i = M.P i) (hn : ∀ y ∈ M'.P k, y ∈ M.P k ∨ w.heap.size ≤ y) : ∀ i j, i < 6 → j < 6 → i ≠ j → ∀ y ∈ M'.P i, y ∉ M'.P j := by
  intro i j hi hj hij y hy hy2
  by_cases ei : i = k
  · subst ei
    rw [hk j hj (fun e => hij e.symm)] at hy2
    rcases hn y hy with h1 | h1
    · exact h.dj i j hi hj hij y h1 hy2
    · have := h.lt hj hy2; omega
  · rw [hk i hi ei] at hy
    by_cases ej : j = k
    · subst ej
      rcases hn y hy2 with h1 | h1
      · exact h.dj i j hi hj hij y hy h1
      · have := h.lt hi hy; omega
    · rw [hk j hj ej] at hy2
      exact h.dj i j hi hj hij y hy hy2
section
variable {B : Nat} {w w' : World} {M : Ms}
theorem IsP.below (h : IsP B w M) (hB : B ≤ w.heap.size) (hb : Below w.heap.size w w') : IsP B w' M := by
  have hc := Chg.of_below hb []
  have hf := Fz.of_below hB hb
  exact ⟨hc.blk h.hd (by simp), h.xB, h.net.st hc (by simp) hf, h.snd.st hc (by simp) hf, h.rcv.st hc (by simp) hf, h.st.st hc (by simp) hf, h.gt.st hc (by simp) hf, h.dj⟩
theorem IsP.chgb (h : IsP B w M) (hB : B ≤ w.heap.size) {i : Nat} (hi : i < 6) (hc : Chg (M.P i) w w') : Below B w w' := hc.below hB (fun _ hy => h.ge hi hy)
/-- the network was written -/
theorem IsP.net' (h : IsP B w M) (hB : B ≤ w.heap.size) {ps : List Pk} (hw : NetW B M.gn M.An ps w.heap.size w w') : ∃ A n c last, IsP B w' { M with An := A, nn := n, cn := c, last := last, ps := ps } ∧ Below B w w' := by
  obtain ⟨A, n, c, last, h1, h2⟩ := hw.net
  have hc : Chg (M.P 1) w w' := hw.chg
  have hf := (h.nb 1 (by omega)).fz hB hc
  have hd := fun j (hj : j < 6) (hne : 1 ≠ j) => h.dj 1 j (by omega) hj hne
  refine ⟨A, n, c, last, ⟨hc.blk h.hd (fun hm => hd 0 (by omega) (by omega) _ hm (by simp [Ms.P])), h.xB, h1, h.snd.st hc (hd 2 (by omega) (by omega)) hf, h.rcv.st hc (hd 3 (by omega) (by omega)) hf, h.st.st hc (hd 4 (by omega) (by omega)) hf, h.gt.st hc (hd 5 (by omega) (by omega)) hf, ?_⟩, h.chgb hB (by omega) hc⟩
  refine h.dju 1 (by omega) (fun i hi hne => ?_) (fun y hy => ?_)
  · match i, hi with
    | 0, _ => rfl
    | 1, _ => exact absurd rfl hne
    | 2, _ => rfl
    | 3, _ => rfl
    | 4, _ => rfl
    | 5, _ => rfl
  · simp only [Ms.P, netS, List.mem_cons, Option.mem_toList] at hy ⊢
    rcases hy with rfl | hy
    · exact .inl (.inl rfl)
    · rcases h2 with h2 | ⟨b, h2, h3⟩
      · rw [h2] at hy; exact .inl (.inr hy)
      · rw [h2] at hy; injection hy with hy; right; omega
/-- the sender was written -/
theorem IsP.snd' (h : IsP B w M) (hB : B ≤ w.heap.size) {A : Option Addr} {n c S k : Nat} {l : List Bs} (hs : IsA B w' M.ga A n c M.m S k l) (hc : Chg (aS M.ga M.Aa) w w') (hn : ∀ b ∈ rowS A, b ∈ rowS M.Aa ∨ w.heap.size ≤ b) : IsP B w' { M with Aa := A, na := n, ca := c, S := S, k := k, l := l } ∧ Below B w w' := by
  have hc : Chg (M.P 2) w w' := hc
  have hf := (h.nb 2 (by omega)).fz hB hc
  have hd := fun j (hj : j < 6) (hne : 2 ≠ j) => h.dj 2 j (by omega) hj hne
  refine ⟨⟨hc.blk h.hd (fun hm => hd 0 (by omega) (by omega) _ hm (by simp [Ms.P])), h.xB, h.net.st hc (hd 1 (by omega) (by omega)) hf, hs, h.rcv.st hc (hd 3 (by omega) (by omega)) hf, h.st.st hc (hd 4 (by omega) (by omega)) hf, h.gt.st hc (hd 5 (by omega) (by omega)) hf, ?_⟩, h.chgb hB (by omega) hc⟩
  refine h.dju 2 (by omega) (fun i hi hne => ?_) (fun y hy => ?_)
  · match i, hi with
    | 0, _ => rfl
    | 1, _ => rfl
    | 2, _ => exact absurd rfl hne
    | 3, _ => rfl
    | 4, _ => rfl
    | 5, _ => rfl
  · simp only [Ms.P, aS, List.mem_append, List.mem_singleton] at hy ⊢
    rcases hy with rfl | hy
    · exact .inl (.inl rfl)
    · exact (hn y hy).imp .inr id
/-- the receiver was written -/
theorem IsP.rcv' (h : IsP B w M) (hB : B ≤ w.heap.size) {r n : Nat} {E : Nat → Option Bs} (hs : IsC B w' M.gb M.q r n E) (hc : Chg (cS M.gb M.q) w w') : IsP B w' { M with r := r, n := n, E := E } ∧ Below B w w' := by
  have hc : Chg (M.P 3) w w' := hc
  have hf := (h.nb 3 (by omega)).fz hB hc
  have hd := fun j (hj : j < 6) (hne : 3 ≠ j) => h.dj 3 j (by omega) hj hne
  refine ⟨⟨hc.blk h.hd (fun hm => hd 0 (by omega) (by omega) _ hm (by simp [Ms.P])), h.xB, h.net.st hc (hd 1 (by omega) (by omega)) hf, h.snd.st hc (hd 2 (by omega) (by omega)) hf, hs, h.st.st hc (hd 4 (by omega) (by omega)) hf, h.gt.st hc (hd 5 (by omega) (by omega)) hf, h.dj⟩, h.chgb hB (by omega) hc⟩
/-- the pair's own cells were written -/
theorem IsP.own' (h : IsP B w M) (hB : B ≤ w.heap.size) (hc : Chg (M.P 0) w w') : Fz B w w' ∧ IsNet B w' M.gn M.An M.nn M.cn M.last M.ps ∧ IsA B w' M.ga M.Aa M.na M.ca M.m M.S M.k M.l ∧ IsC B w' M.gb M.q M.r M.n M.E ∧ IsBr B w' M.As M.ns M.cs M.sl ∧ IsBr B w' M.Ag M.ng M.cg M.gl ∧ Below B w w' := by
  have hf := (h.nb 0 (by omega)).fz hB hc
  have hd := fun j (hj : j < 6) (hne : 0 ≠ j) => h.dj 0 j (by omega) hj hne
  exact ⟨hf, h.net.st hc (hd 1 (by omega) (by omega)) hf, h.snd.st hc (hd 2 (by omega) (by omega)) hf, h.rcv.st hc (hd 3 (by omega) (by omega)) hf, h.st.st hc (hd 4 (by omega) (by omega)) hf, h.gt.st hc (hd 5 (by omega) (by omega)) hf, h.chgb hB (by omega) hc⟩
/-- a row of the pair was extended, and laid into it -/
theorem IsP.got' (h : IsP B w M) (hB : B ≤ w.heap.size) {A : Option Addr} {n c : Nat} {l : List Bs} {w1 : World} (hs : IsBr B w1 A n c l) (hc : Chg (rowS M.Ag) w w1) (hn : ∀ b ∈ rowS A, b ∈ rowS M.Ag ∨ w.heap.size ≤ b) : IsP B (w1.setCell ⟨M.x, 4, none⟩ (.slice A n c)) { M with Ag := A, ng := n, cg := c, gl := l } ∧ Below B w (w1.setCell ⟨M.x, 4, none⟩ (.slice A n c)) := by
  have hc : Chg (M.P 5) w w1 := hc
  have hf := (h.nb 5 (by omega)).fz hB hc
  have hd := fun j (hj : j < 6) (hne : 5 ≠ j) => h.dj 5 j (by omega) hj hne
  have hx : M.x ∉ M.P 5 := fun hm => hd 0 (by omega) (by omega) _ hm (by simp [Ms.P])
  have h1 := hc.blk h.hd hx
  have hB1 := Nat.le_trans hB hc.size
  have hc2 : Chg [M.x] w1 (w1.setCell ⟨M.x, 4, none⟩ (.slice A n c)) := (Chg.refl [M.x] w1).setCell (p := ⟨M.x, 4, none⟩) (.inl (by simp)) _
  have hf2 := (NB.cell h1 h.xB (by decide)).fz hB1 hc2
  have hxl := h.lt (i := 0) (by omega) (y := M.x) (by simp [Ms.P])
  have hxj : ∀ j, j < 6 → 0 ≠ j → ∀ y ∈ [M.x], y ∉ M.P j := fun j hj hne y hy => h.dj 0 j (by omega) hj hne y hy
  refine ⟨⟨heap_setCell_same _ _ _ _ _ _ h1, h.xB, (h.net.st hc (hd 1 (by omega) (by omega)) hf).st hc2 (hxj 1 (by omega) (by omega)) hf2, (h.snd.st hc (hd 2 (by omega) (by omega)) hf).st hc2 (hxj 2 (by omega) (by omega)) hf2, (h.rcv.st hc (hd 3 (by omega) (by omega)) hf).st hc2 (hxj 3 (by omega) (by omega)) hf2, (h.st.st hc (hd 4 (by omega) (by omega)) hf).st hc2 (hxj 4 (by omega) (by omega)) hf2, hs.st hc2 (fun y hy hm => ?_) hf2, ?_⟩, (h.chgb hB (by omega) hc).trans (hc2.below hB1 (fun y hy => by rw [List.mem_singleton.1 hy]; exact h.xB))⟩
  · rw [List.mem_singleton.1 hy] at hm
    rcases hn M.x hm with h3 | h3
    · exact hx h3
    · omega
  · refine h.dju 5 (by omega) (fun i hi hne => ?_) (fun y hy => hn y hy)
    match i, hi with
    | 0, _ => rfl
    | 1, _ => rfl
    | 2, _ => rfl
    | 3, _ => rfl
    | 4, _ => rfl
    | 5, _ => exact absurd rfl hne
theorem IsP.sent' (h : IsP B w M) (hB : B ≤ w.heap.size) {A : Option Addr} {n c : Nat} {l : List Bs} {w1 : World} (hs : IsBr B w1 A n c l) (hc : Chg (rowS M.As) w w1) (hn : ∀ b ∈ rowS A, b ∈ rowS M.As ∨ w.heap.size ≤ b) : IsP B (w1.setCell ⟨M.x, 3, none⟩ (.slice A n c)) { M with As := A, ns := n, cs := c, sl := l } ∧ Below B w (w1.setCell ⟨M.x, 3, none⟩ (.slice A n c)) := by
  have hc : Chg (M.P 4) w w1 := hc
  have hf := (h.nb 4 (by omega)).fz hB hc
  have hd := fun j (hj : j < 6) (hne : 4 ≠ j) => h.dj 4 j (by omega) hj hne
  have hx : M.x ∉ M.P 4 := fun hm => hd 0 (by omega) (by omega) _ hm (by simp [Ms.P])
  have h1 := hc.blk h.hd hx
  have hB1 := Nat.le_trans hB hc.size
  have hc2 : Chg [M.x] w1 (w1.setCell ⟨M.x, 3, none⟩ (.slice A n c)) := (Chg.refl [M.x] w1).setCell (p := ⟨M.x, 3, none⟩) (.inl (by simp)) _
  have hf2 := (NB.cell h1 h.xB (by decide)).fz hB1 hc2
  have hxl := h.lt (i := 0) (by omega) (y := M.x) (by simp [Ms.P])
  have hxj : ∀ j, j < 6 → 0 ≠ j → ∀ y ∈ [M.x], y ∉ M.P j := fun j hj hne y hy => h.dj 0 j (by omega) hj hne y hy
  refine ⟨⟨heap_setCell_same _ _ _ _ _ _ h1, h.xB, (h.net.st hc (hd 1 (by omega) (by omega)) hf).st hc2 (hxj 1 (by omega) (by omega)) hf2, (h.snd.st hc (hd 2 (by omega) (by omega)) hf).st hc2 (hxj 2 (by omega) (by omega)) hf2, (h.rcv.st hc (hd 3 (by omega) (by omega)) hf).st hc2 (hxj 3 (by omega) (by omega)) hf2, hs.st hc2 (fun y hy hm => ?_) hf2, (h.gt.st hc (hd 5 (by omega) (by omega)) hf).st hc2 (hxj 5 (by omega) (by omega)) hf2, ?_⟩, (h.chgb hB (by omega) hc).trans (hc2.below hB1 (fun y hy => by rw [List.mem_singleton.1 hy]; exact h.xB))⟩
  · rw [List.mem_singleton.1 hy] at hm
    rcases hn M.x hm with h3 | h3
    · exact hx h3
    · omega
  · refine h.dju 4 (by omega) (fun i hi hne => ?_) (fun y hy => hn y hy)
    match i, hi with
    | 0, _ => rfl
    | 1, _ => rfl
    | 2, _ => rfl
    | 3, _ => rfl
    | 4, _ => exact absurd rfl hne
    | 5, _ => rfl
/-- many were appended -/
theorem IsBr.pushs {n c m : Nat} {A A' : Option Addr} {c' : Nat} {l k : List Bs} (h : IsBr B w A n c l) (hB : B ≤ w.heap.size) (hx : ∀ x ∈ k, Pl B w x.a x.d x.c) (ho : w'.ownsRow B 32 1 (.slice A' (n + m) c') (n + m) (l.map bv ++ k.map bv)) (ha : App w (.slice A n c) w' (.slice A' (n + m) c')) :
    IsBr B w' A' (n + m) c' (l ++ k) ∧ Chg (rowS A) w w' ∧ ∀ b ∈ rowS A', b ∈ rowS A ∨ w.heap.size ≤ b := by
  have hc : Chg (rowS A) w w' := Chg.of_grown ha.1 (fun b hb => (mem_rowS n c).2 hb)
  have hf := h.nb.fz hB hc
  refine ⟨⟨by simpa using ho, fun y hy => ?_⟩, hc, fun b hb => ?_⟩
  · rcases List.mem_append.1 hy with hy | hy
    · exact (h.ok y hy).st hf
    · exact (hx y hy).st hf
  · have hb := (mem_rowS (n + m) c').1 hb
    rcases ha.2 with h1 | ⟨b', h1, h2⟩
    · left; rw [h1] at hb; exact (mem_rowS n c).2 hb
    · right; rw [hb] at h1; injection h1 with h1; omega
end
end Tc
end Go.Proofs.Ytjmcmilbkhacdaa
