/- The walk of channel.Send. -/
import Derived.Test.YtjmcmilbkhacdaaTnH
namespace Go.Proofs.Ytjmcmilbkhacdaa
open Go.RowKit Go.Shelf
open Wi Wr
namespace Tc
theorem info_yy : (Try.prog.info? 32).map (fun i => (i.zero, i.size, i.bytes)) = some (some (.slice none 0 0), 1, 24) := by kernel_rfl
theorem size_yy : (Try.prog.info? 32).map (·.size) = some 1 := by kernel_rfl
/-- the sender's end has one payload more, and its datagram is made -/
def SendP (B g : Nat) (A : Option Addr) (m : Value) (S k : Nat) (l : List Bs) (d : List UInt8) (w : World) (e : Ending) (w' : World) : Prop :=
  ∃ X c, e = .returned (.tuple #[.int .i64 ((S + 1 : Nat) : Int), .slice X (datD (S + 1) d).length c]) ∧ Pl B w' X (datD (S + 1) d) c ∧ Chg (aS g A) w w' ∧
    ∃ A' n' c' x, x.d = d ∧ IsA B w' g A' n' c' m (S + 1) k (l ++ [x]) ∧ ∀ b ∈ rowS A', b ∈ rowS A ∨ w.heap.size ≤ b
theorem send_done {B g n c S S1 k : Nat} {A X X3 : Option Addr} {cX cx3 : Nat} {m : Value} {l : List Bs} {d : List UInt8} {w w1 w2 w3 : World} {o : Obj} (h : IsA B w g A n c m S k l) (hB : B ≤ w.heap.size) (hc1 : Chg [g] w w1)
    (ho1 : IsBr B w1 A n c l) (hb2 : Below w1.heap.size w1 w2) (hp : Pl B w2 X d cX)
    (ho3 : w3.ownsRow B 32 1 (.slice X3 (n + 1) cx3) (n + 1) (l.map bv ++ [.slice X d.length cX])) (ha : App (w2.alloc o) (.slice A n c) w3 (.slice X3 (n + 1) cx3)) (hg3 : w3.heap[g]? = some (Obj.cells #[.int .i64 (S1 : Int), .int .i64 (k : Int), .int .i64 0, .slice A n c, m] 45 (0, 0))) :
    IsA B (w3.setCell ⟨g, 3, none⟩ (.slice X3 (n + 1) cx3)) g X3 (n + 1) cx3 m S1 k (l ++ [⟨d, X, cX⟩]) ∧ Chg (aS g A) w (w3.setCell ⟨g, 3, none⟩ (.slice X3 (n + 1) cx3)) ∧ ∀ b ∈ rowS X3, b ∈ rowS A ∨ w.heap.size ≤ b := by
  have hB1 := Nat.le_trans hB hc1.size
  have hB2 := Nat.le_trans hB1 hb2.size
  have hba := below1 w2 o
  have hB3 := Nat.le_trans hB2 hba.size
  obtain ⟨h1, h2, h3⟩ := ((ho1.below hB1 hb2).below hB2 hba).push (x := ⟨d, X, cX⟩) hB3 (hp.st (Fz.of_below hB2 hba)) ho3 ha
  have hc4 : Chg [g] w3 (w3.setCell ⟨g, 3, none⟩ (.slice X3 (n + 1) cx3)) := (Chg.refl [g] w3).setCell (p := ⟨g, 3, none⟩) (.inl (by simp)) _
  have hcx : Chg (aS g A) w (w3.setCell ⟨g, 3, none⟩ (.slice X3 (n + 1) cx3)) := ((((hc1.mono (by simp [aS])).trans' (Chg.of_below hb2 _)).trans' (Chg.of_below hba _)).trans' (h2.mono (fun x hx => by simp [aS, hx]))).trans' (hc4.mono (by simp [aS]))
  refine ⟨⟨heap_setCell_same _ _ _ _ _ _ hg3, h.gB, h1.st hc4 (fun x hx hm => ?_) ((NB.cell hg3 h.gB (by decide)).fz (Nat.le_trans hB3 h2.size) hc4)⟩, hcx, fun b hb => (h3 b hb).imp id (fun hle => ?_)⟩
  · rw [List.mem_singleton.1 hx] at hm
    exact own_tyne h1.ow hg3 (by decide) ((mem_rowS _ _).1 hm)
  · have := hc1.size; have := hb2.size; have := hba.size; omega
set_option maxRecDepth 100000 in
set_option maxHeartbeats 4000000 in
theorem chSend_calls (B g n c : Nat) (A : Option Addr) (m : Value) (S k : Nat) (l : List Bs) (d : List UInt8) (a : Option Addr) (ca : Nat) (w : World) (h : IsA B w g A n c m S k l) (hB : B ≤ w.heap.size) (hS : S ≤ 100000000) (hn : n ≤ 100000) (hd : Pl B w a d ca) (hdl : d.length ≤ 1000) :
    Calls Try.prog 13 #[.pointer (some ⟨g, 0, none⟩), .slice a d.length ca] w (SendP B g A m S k l d w) := by
  have HI := Lib.hid h
  have hgl : g < w.heap.size := (Array.getElem?_eq_some_iff.1 h.hd).1
  have c0 : w.cell? ⟨g, 0, none⟩ = some (.int .i64 (S : Int)) := (cell_of_row _ _ 0 _ _ _ h.hd).trans rfl
  have f0 : w.frozen? ⟨g, 0, none⟩ = false := frozen_of_row _ _ 0 _ _ h.hd
  have hw1 : IntKind.i64.wrap ((S : Int) + 1) = ((S + 1 : Nat) : Int) := by rw [IntWalk.i64_in _ (by omega)]; omega
  have hw2 : wrap64 ((S : Int) + 1) = ((S + 1 : Nat) : Int) := by unfold wrap64; omega
  obtain ⟨S1, HS1⟩ : ∃ y, Hid (S + 1 = y) := ⟨_, Lib.hid rfl⟩
  rw [HS1.out] at hw1 hw2
  unfold SendP
  rw [HS1.out]
  have hc1 : Chg [g] w (w.setCell ⟨g, 0, none⟩ (.int .i64 (S1 : Int))) := (Chg.refl [g] w).setCell (p := ⟨g, 0, none⟩) (.inl (by simp)) _
  have hk1 : (w.setCell ⟨g, 0, none⟩ (.int .i64 (S1 : Int))).heap[g]? = some (Obj.cells #[.int .i64 (S1 : Int), .int .i64 (k : Int), .int .i64 0, .slice A n c, m] 45 (0, 0)) := heap_setCell_same _ _ _ _ _ _ h.hd
  have HC1 := Lib.hid hc1
  have HK1 := Lib.hid hk1
  have hf1 : Fz B w (w.setCell ⟨g, 0, none⟩ (.int .i64 (S1 : Int))) := (NB.cell h.hd h.gB (by decide)).fz hB hc1
  have HP1 := Lib.hid (hd.st hf1)
  have HO1 := Lib.hid (h.br.st hc1 (fun x hx hm => own_tyne h.br.ow h.hd (by decide) (by rw [List.mem_singleton.1 hx] at hm; exact (mem_rowS n c).1 hm)) hf1)
  have HDL := Lib.hid hdl
  have HP0 := Lib.hid hd
  obtain ⟨N, HNN⟩ : ∃ y, Hid (d.length = y) := ⟨_, Lib.hid rfl⟩
  have HNl : N ≤ 1000 := by rw [← HNN.out]; exact hdl
  rw [HNN.out]
  clear h hc1 hk1 hf1 hd hdl
  go_enter Try.func13, Try.ntmps13
  go_upto_region 2 with (fail)
  clear c0 f0 hw1 hw2
  generalize w.setCell _ _ = w1 at *
  have hB1 : B ≤ w1.heap.size := Nat.le_trans hB HC1.out.size
  have hg1 : g < w1.heap.size := (Array.getElem?_eq_some_iff.1 HK1.out).1
  have c0 : w1.cell? ⟨g, 0, none⟩ = some (.int .i64 (S1 : Int)) := (cell_of_row _ _ 0 _ _ _ HK1.out).trans rfl
  have c1 : w1.cell? ⟨g, 3, none⟩ = some (.slice A n c) := (cell_of_row _ _ 3 _ _ _ HK1.out).trans rfl
  have HPN : Hid ((Value.slice A n c).ownBlock ≠ some g) := Lib.hid (own_tyne HO1.out.ow HK1.out (by decide))
  have HCP : Hid (Calls Try.prog 21 #[.slice a N ca] w1.drew fun e w2 => ∃ X cX, e = .returned (.slice X N cX) ∧ Pl B w2 X d cX ∧ Below w1.heap.size w1 w2) := Lib.hid (by
    refine (bclone_calls B a N ca d w1.drew HNN.out (HP1.out.rd) (by omega)).mono ?_
    rintro e w2 ⟨X, cX, rfl, hp, hb⟩
    exact ⟨X, cX, by rw [HNN.out], hp, (Below.refl _ _).drew.trans hb⟩)
  go_region_law (first | (refine step_appS _ (by rfl) _ _ 28 (by rfl) B 32 (.slice none 0 0) 1 24 Try.underlying28 info_yy rfl (by omega) (.slice A n c) n (l.map bv) (by rfl) (own_belowS HO1.out.ow (HB2.out.trans ((below1 w2 _).mono HB2.out.size))) (some ⟨w2.heap.size, 0, none⟩) 1 1 [.slice X N cX] (by rfl) rfl (Rd.new w2 [.slice X N cX] _ _) (by simp [Value.oneCell']) (by simp only [maxLen]; omega) (by omega) (Nat.le_trans hB1 (Nat.le_trans HB2.out.size (by simp))) ?_; intro X3 cx3 w3 hown3 happ3; have hg3 := happ3.old (((HB2.out.trans ((below1 w2 _).mono HB2.out.size)).block g hg1).trans HK1.out) HPN.out; have e3 : w3.cell? ⟨g, 3, none⟩ = some (.slice A n c) := (cell_of_row _ _ 3 _ _ _ hg3).trans rfl; have f3 : w3.frozen? ⟨g, 3, none⟩ = false := frozen_of_row _ _ _ _ _ hg3; have HO3 := Lib.hid hown3; have HA3 := Lib.hid happ3; have HG3 := Lib.hid hg3; clear hown3 happ3 hg3) | (go_simp; go_at_call 21; refine HCP.out.mono ?_; rintro e w2 ⟨X, cX, rfl, hpl2, hb2⟩; have HPL2 := Lib.hid hpl2; have HB2 := Lib.hid hb2; have e2 : w2.cell? ⟨g, 3, none⟩ = some (.slice A n c) := (hb2.cell (p := ⟨g, 3, none⟩) hg1).trans c1; have e2b : ∀ o : Obj, (w2.alloc o).cell? ⟨g, 3, none⟩ = some (.slice A n c) := fun o => (World.cell?_alloc_lt w2 o ⟨g, 3, none⟩ (block_lt_of_cell e2)).trans e2; clear hpl2 hb2))
  all_goals
    have HF := Lib.hid (send_done HI.out hB HC1.out HO1.out HB2.out HPL2.out (by rw [HNN.out]; exact HO3.out) HA3.out HG3.out)
    have HG4 := Lib.hid (HF.out.1.hd)
    have HP4 := Lib.hid (HP0.out.st (HI.out.nb.fz hB HF.out.2.1))
    have hsz : B ≤ (w3.setCell ⟨g, 3, none⟩ (.slice X3 (n + 1) cx3)).heap.size := Nat.le_trans hB HF.out.2.1.size
    clear c0 c1 e2 e2b e3 f3 HO3 HA3 HG3 HB2 HPL2
    generalize w3.setCell _ _ = w4 at *
    have c0 : w4.cell? ⟨g, 0, none⟩ = some (.int .i64 (S1 : Int)) := (cell_of_row _ _ 0 _ _ _ HG4.out).trans rfl
    have hg4 : g < w4.heap.size := (Array.getElem?_eq_some_iff.1 HG4.out).1
    have cb : ∀ w', Below w4.heap.size w4 w' → w'.cell? ⟨g, 0, none⟩ = some (.int .i64 (S1 : Int)) := fun w' hb => (hb.cell (p := ⟨g, 0, none⟩) hg4).trans c0
    have HDC : ∀ w', Below w4.heap.size w4 w' → Hid (Calls Try.prog 22 #[.int .i64 (S1 : Int), .slice a N ca] w' fun e w2 => ∃ X cX, e = .returned (.slice X (datD S1 d).length cX) ∧ Pl B w2 X (datD S1 d) cX ∧ Below w4.heap.size w4 w2) := fun w' hb => Lib.hid (by
      refine (data_calls B S1 a N ca d w' (by have := HS1.out; omega) HNN.out (HP4.out.rd.below hb) (by omega)).mono ?_
      rintro e w2 ⟨X, cX, rfl, hp, hb2⟩
      exact ⟨X, cX, rfl, hp, hb.trans (hb2.mono hb.size)⟩)
    go_wp2_with fail
    go_region_held3 (fun w' => Below w4.heap.size w4 w') (first | exact (Below.refl _ _).drew | assumption) (first | (go_at_call 22; refine (HDC _ (by assumption)).out.mono ?_; rintro e w5 ⟨XX, cXX, rfl, hp5, hb5⟩; have HP5 := Lib.hid hp5; clear hp5))
    all_goals
      have HFN := Lib.hid (HF.out.1.st (Chg.of_below hb5 []) (by simp) (Fz.of_below hsz hb5))
      have HCN := Lib.hid (HF.out.2.1.trans' (Chg.of_below hb5 _))
      clear hb5 c0 cb HDC
      go_wp2_with fail
      go_ret2
      exact ⟨XX, cXX, rfl, HP5.out, HCN.out, X3, n + 1, cx3, _, rfl, HFN.out, HF.out.2.2⟩
end Tc
end Go.Proofs.Ytjmcmilbkhacdaa
