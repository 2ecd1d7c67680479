/- pair.step, any kind; the operations in memory; the pair at the start. -/
import Derived.Test.YtjmcmilbkhacdaaTnT
import Derived.Test.YtjmcmilbkhacdaaTnU
namespace Go.Proofs.Ytjmcmilbkhacdaa
open Go.RowKit Go.Shelf
open Wi Wr
namespace Tc
theorem step_calls (B : Nat) (M : Ms) (K : Nat) (i : Int) (d : List UInt8) (a : Option Addr) (ca : Nat) (w : World) (h : IsP B w M) (hv : Inv M) (hB : B ≤ w.heap.size) (hS : M.S ≤ 100) (hn : M.n + mu M.ps ≤ 50000) (hd : Pl B w a d ca) (hdl : d.length ≤ 40) : Calls Try.prog 6 #[.pointer (some ⟨M.x, 0, none⟩), .agg #[.int .u8 (K : Int), .int .i64 i, .slice a d.length ca]] w (StpP B M K w) := by
  by_cases h01 : K = 0 ∨ K = 1
  · exact step_send B M K i d a ca w h hv hB (by omega) hn hd hdl h01
  · by_cases h23 : K = 2 ∨ K = 3
    · exact step_dlv B M K i a d.length ca w h hv hB (by omega) hn h23
    · by_cases h4 : K = 4
      · subst h4; exact step_drop B M i a d.length ca w h hv hB hn
      · by_cases h5 : K = 5
        · subst h5; exact step_dbl B M i a d.length ca w h hv hB hn
        · by_cases h6 : K = 6
          · subst h6; exact step_six B M i a d.length ca w h hv hB hS hn
          · exact step_none B M K i a d.length ca w h hv hB (by omega)
/-- an operation in memory -/
structure Wm where
  kd : UInt8
  i : Int
  d : List UInt8
  a : Option Addr
  c : Nat
def Wm.cells (m : Wm) : List Value := [vb m.kd, .int .i64 m.i, .slice m.a m.d.length m.c]
theorem Wm.len (m : Wm) : m.cells.length = 3 := rfl
structure Wm.ok (w : World) (m : Wm) : Prop where
  rd : RB w m.a m.d
  c1 : m.d.length ≤ m.c
  c2 : m.c ≤ maxLen
structure RdW (w : World) (A : Option Addr) (ms : List Wm) : Prop where
  rd : Rd w A (ms.map Wm.cells).flatten
  ok : ∀ m ∈ ms, m.ok w
theorem Wm.ok.pl {w w' : World} {m : Wm} (h : m.ok w) (hb : Below w.heap.size w w') : Pl w.heap.size w' m.a m.d m.c :=
  ⟨h.rd.below hb, h.c1, h.c2, fun hp b off e => .inl (RB.lt h.rd hp b off e)⟩
theorem RdW.cells {w w' : World} {A : Option Addr} {ms : List Wm} (h : RdW w A ms) (hb : Below w.heap.size w w') (i : Nat) (hi : i < ms.length) : ∃ b off, A = some ⟨b, off, none⟩ ∧
    w'.cell? ⟨b, off + i * 3, none⟩ = some (vb ms[i].kd) ∧ w'.cell? ⟨b, off + i * 3 + 1, none⟩ = some (.int .i64 ms[i].i) ∧ w'.cell? ⟨b, off + i * 3 + 2, none⟩ = some (.slice ms[i].a ms[i].d.length ms[i].c) := by
  have h' := Rd.below h.rd hb
  obtain ⟨b, off, e, h0⟩ := h' (i * 3) _ (flat_get Wm.len ms i 0 hi (by omega))
  have hj : ∀ j v, j < 3 → (ms[i].cells)[j]? = some v → w'.cell? ⟨b, off + i * 3 + j, none⟩ = some v := fun j v hj hv => by
    obtain ⟨b', off', e', h1⟩ := h' (i * 3 + j) v ((flat_get Wm.len ms i j hi hj).trans hv)
    rw [e] at e'; cases e'; rw [Nat.add_assoc]; exact h1
  exact ⟨b, off, e, h0, hj 1 _ (by omega) rfl, hj 2 _ (by omega) rfl⟩
/-- the pair as it is made -/
def M0 (x gn ga qa gb q : Nat) : Ms := ⟨x, gn, none, 0, 0, 0, [], ga, none, 0, 0, .map (some qa), 0, 0, [], gb, q, 0, 0, fun _ => none, none, 0, 0, [], none, 0, 0, []⟩
theorem M0.inv (x gn ga qa gb q : Nat) : Inv (M0 x gn ga qa gb q) :=
  ⟨rfl, Nat.le_refl _, Nat.le_refl _, rfl, rfl, fun s y h => (by cases h), fun p h => (by cases h), fun d h => (by cases h)⟩
theorem M0.ff (x gn ga qa gb q : Nat) : FF (M0 x gn ga qa gb q) :=
  ⟨fun s h1 h2 => by have h1 : 0 < s := h1; have h2 : s ≤ 0 := h2; omega, fun h => by have h : 0 < 0 := h; omega⟩
theorem M0.isP {B x gn ga qa gb q : Nat} {w w1 w2 w3 w4 : World} (hB : B ≤ w.heap.size) (hn : IsNet B w1 gn none 0 0 0 []) (hb1 : Below w.heap.size w w1)
    (ha : IsC B w2 ga qa 0 0 (fun _ => none)) (hga : w1.heap.size ≤ ga) (hb2 : Below w1.heap.size w1 w2)
    (hc : IsC B w3 gb q 0 0 (fun _ => none)) (hgb : w2.heap.size ≤ gb) (hq : w2.heap.size ≤ q) (hb3 : Below w2.heap.size w2 w3)
    (hx : x = w3.heap.size) (hd : w4.heap[x]? = some (Obj.cells #[.pointer (some ⟨gn, 0, none⟩), .pointer (some ⟨ga, 0, none⟩), .pointer (some ⟨gb, 0, none⟩), .slice none 0 0, .slice none 0 0] 30 (0, 0))) (hb4 : Below w3.heap.size w3 w4) : IsP B w4 (M0 x gn ga qa gb q) := by
  have hB1 := Nat.le_trans hB hb1.size
  have hB2 := Nat.le_trans hB1 hb2.size
  have hB3 := Nat.le_trans hB2 hb3.size
  have hs1 := hb1.size
  have hs2 := hb2.size
  have hs3 := hb3.size
  have g1 := ((hn.below hB1 hb2).below hB2 hb3).below hB3 hb4
  have g2 := (ha.st (Chg.of_below hb3 []) (by simp) (Fz.of_below hB2 hb3)).st (Chg.of_below hb4 []) (by simp) (Fz.of_below hB3 hb4)
  have g3 := hc.st (Chg.of_below hb4 []) (by simp) (Fz.of_below hB3 hb4)
  have l1 : gn < w1.heap.size := hn.lt
  have l2 : ga < w2.heap.size := (Array.getElem?_eq_some_iff.1 ha.hd).1
  have l3 : gb < w3.heap.size := (Array.getElem?_eq_some_iff.1 hc.hd).1
  have l4 : q < w3.heap.size := hc.mp.lt
  have hgq := hc.ne
  refine ⟨hd, by show B ≤ x; omega, g1, ⟨g2.hd, g2.gB, IsBr.nil _ _⟩, g3, IsBr.nil _ _, IsBr.nil _ _, fun i j hi hj hij y hy hy2 => ?_⟩
  have h0 : (M0 x gn ga qa gb q).P 0 = [x] := rfl
  have h1 : (M0 x gn ga qa gb q).P 1 = [gn] := rfl
  have h2 : (M0 x gn ga qa gb q).P 2 = [ga] := rfl
  have h3 : (M0 x gn ga qa gb q).P 3 = [gb, q] := rfl
  have h4 : (M0 x gn ga qa gb q).P 4 = [] := rfl
  have h5 : (M0 x gn ga qa gb q).P 5 = [] := rfl
  have hc1 : ∀ i, i < 6 → i = 0 ∨ i = 1 ∨ i = 2 ∨ i = 3 ∨ i = 4 ∨ i = 5 := fun i hi => by omega
  rcases hc1 i hi with rfl | rfl | rfl | rfl | rfl | rfl <;> rcases hc1 j hj with rfl | rfl | rfl | rfl | rfl | rfl <;> simp only [h0, h1, h2, h3, h4, h5, List.mem_cons, List.not_mem_nil, or_false] at hy hy2 <;> omega
end Tc
end Go.Proofs.Ytjmcmilbkhacdaa
