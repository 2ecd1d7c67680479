/- The walk of pair.step: a sending. -/
import Derived.Test.YtjmcmilbkhacdaaTnS
import Derived.Deep.DeepCutAuto
namespace Go.Proofs.Ytjmcmilbkhacdaa
open Go.RowKit Go.Shelf
open Wi Wr
namespace Tc
theorem IsP.sentFz {B : Nat} {w w1 : World} {M : Ms} (h : IsP B w M) (hB : B ≤ w.heap.size) (hc : Chg (rowS M.As) w w1) (v : Value) : Fz B w (w1.setCell ⟨M.x, 3, none⟩ v) := by
  have hc : Chg (M.P 4) w w1 := hc
  have hx : M.x ∉ M.P 4 := fun hm => h.dj 4 0 (by omega) (by omega) (by omega) _ hm (by simp [Ms.P])
  have h1 := hc.blk h.hd hx
  have hc2 : Chg [M.x] w1 (w1.setCell ⟨M.x, 3, none⟩ v) := (Chg.refl [M.x] w1).setCell (p := ⟨M.x, 3, none⟩) (.inl (by simp)) _
  exact ((h.nb 4 (by omega)).fz hB hc).trans ((NB.cell h1 h.xB (by decide)).fz (Nat.le_trans hB hc.size) hc2)
set_option maxRecDepth 100000 in
set_option maxHeartbeats 4000000 in
theorem step_send (B : Nat) (M : Ms) (K : Nat) (i : Int) (d : List UInt8) (a : Option Addr) (ca : Nat) (w : World) (h : IsP B w M) (hv : Inv M) (hB : B ≤ w.heap.size) (hS : M.S ≤ 900) (hn : M.n + mu M.ps ≤ 50000) (hd : Pl B w a d ca) (hdl : d.length ≤ 40) (hK : K = 0 ∨ K = 1) : Calls Try.prog 6 #[.pointer (some ⟨M.x, 0, none⟩), .agg #[.int .u8 (K : Int), .int .i64 i, .slice a d.length ca]] w (StpP B M K w) := by
  have hlk := hv.lk
  have hna : M.l.length = M.na := h.snd.br.hn
  have hns : M.ns = M.S := by rw [← h.st.hn, hv.hS]
  have hnn : M.ps.length = M.nn := h.net.hn
  have hml := mu_len M.ps
  have HV := Lib.hid hv
  have hxl : M.x < w.heap.size := h.lt (i := 0) (by omega) (by simp [Ms.P])
  obtain ⟨dl, HDL⟩ : ∃ y, Hid (d.length = y) := ⟨_, Lib.hid rfl⟩
  have hdl0 := hdl
  rw [HDL.out] at hdl ⊢
  have hb := below1 w (.cells #[.int .u8 (K : Int), .int .i64 i, .slice a dl ca] 34)
  have HK1 := Lib.hid (heap_alloc_new w (.cells #[.int .u8 (K : Int), .int .i64 i, .slice a dl ca] 34))
  have H1 := Lib.hid (h.below hB hb)
  have HP1 := Lib.hid (hd.st (Fz.of_below hB hb))
  have HB1 := Lib.hid (hb.mono hB)
  have hB1 := Nat.le_trans hB hb.size
  have hnB : ∀ i, i < 6 → w.heap.size ∉ M.P i := fun i hi hm => by have := h.lt hi hm; omega
  have HNB := Lib.hid hnB
  have HFI : Hid (∀ w4 w5 A1 n1 c1 A2 n2 c2 (x y : Bs) num X cX, x.d = d → y.d = d → B ≤ w4.heap.size → Below B w w4 → IsP B w4 { M with Aa := A2, na := n2, ca := c2, S := M.S + 1, k := M.k, l := M.l ++ [x], As := A1, ns := n1, cs := c1, sl := M.sl ++ [y] } → NetW B M.gn M.An (M.ps ++ [⟨num, 1, 2, datD (M.S + 1) d, X, cX⟩]) w4.heap.size w4 w5 → Stp B M K w w5) := Lib.hid (fun w4 w5 A1 n1 c1 A2 n2 c2 x y num X cX hx hy hB4 hb4 h4 hw => by
    obtain ⟨A3, n3, c3, l3, h6, hb6⟩ := h4.net' hB4 hw
    have hmu : mu (M.ps ++ [⟨num, 1, 2, datD (M.S + 1) d, X, cX⟩]) = mu M.ps + 2 := by rw [mu_app, mu_one]; rfl
    refine ⟨_, h6, HV.out.send hdl0 A3 n3 c3 l3 A2 n2 c2 x hx A1 n1 c1 y hy num 1 X cX, rfl, Nat.le_refl _, ?_, fun _ hf => ⟨hf.send HV.out A3 n3 c3 l3 A2 n2 c2 x A1 n1 c1 y hy num 1 X cX, hmu, rfl⟩, fun h => by omega, fun h => by omega, hb4.trans hb6⟩
    show M.n + mu (M.ps ++ _) ≤ _
    rw [hmu]; omega)
  have HLKN : Hid (M.na ≤ 1000 ∧ M.nn ≤ 100000 ∧ M.ns = M.S) := Lib.hid ⟨by omega, by omega, hns⟩
  clear h hv hb hd hnB hlk hna hns hnn hml
  unfold StpP
  have hKq : ((K : Int) == 0) = true ∨ (((K : Int) == 0) = false ∧ ((K : Int) == 1) = true) := by
    rcases hK with h | h
    · exact .inl (by rw [h]; rfl)
    · exact .inr (by rw [h]; exact ⟨rfl, rfl⟩)
  clear hK
  rcases hKq with q0 | ⟨q0, q1⟩
  all_goals
    go_enter Try.func6, Try.ntmps6
    go_upto_region 1 with (fail)
    generalize w.alloc _ = w1 at *
    have x1 : w1.cell? ⟨M.x, 1, none⟩ = some (.pointer (some ⟨M.ga, 0, none⟩)) := (cell_of_row _ _ 1 _ _ _ H1.out.hd).trans rfl
    have p0 : w1.cell? ⟨w.heap.size, 0, none⟩ = some (.int .u8 (K : Int)) := (cell_of_row _ _ 0 _ _ _ HK1.out).trans rfl
    have p2 : w1.cell? ⟨w.heap.size, 2, none⟩ = some (.slice a dl ca) := (cell_of_row _ _ 2 _ _ _ HK1.out).trans rfl
    have hbd : Below w1.heap.size w1 w1.drew := (Below.refl _ _).drew
    have HSD : Hid (Calls Try.prog 13 #[.pointer (some ⟨M.ga, 0, none⟩), .slice a dl ca] w1.drew fun e w2 => ∃ X c, e = .returned (.tuple #[.int .i64 ((M.S + 1 : Nat) : Int), .slice X (datD (M.S + 1) d).length c]) ∧ Pl B w2 X (datD (M.S + 1) d) c ∧ Chg (aS M.ga M.Aa) w1 w2 ∧ ∃ A' n' c' x, x.d = d ∧ IsA B w2 M.ga A' n' c' M.m (M.S + 1) M.k (M.l ++ [x]) ∧ ∀ b ∈ rowS A', b ∈ rowS M.Aa ∨ w1.heap.size ≤ b) := Lib.hid (by
      have h3 := chSend_calls B M.ga M.na M.ca M.Aa M.m M.S M.k M.l d a ca w1.drew (H1.out.below hB1 hbd).snd hB1 (by omega) (by have := HLKN.out.1; omega) (HP1.out.st (Fz.of_below hB1 hbd)) (by omega)
      rw [HDL.out] at h3
      refine h3.mono ?_
      rintro e w2 ⟨X, c, h4, h5, h6, h7⟩
      exact ⟨X, c, h4, h5, ((Chg.refl _ _).drew).trans' h6, h7⟩)
    obtain ⟨S1, HS1⟩ : ∃ y, Hid (M.S + 1 = y) := ⟨_, Lib.hid rfl⟩
    rw [HS1.out] at HSD HFI
    clear hbd
    go_upto_region 4 with (fail)
    go_region_law (go_simp; go_at_call 13; (with_reducible refine HSD.out.mono ?_); rintro e w2 ⟨X, cX, rfl, hp2, hc2, A2, n2, c2, y, hy, hi2, hr2⟩; have HP2 := Lib.hid hp2; have HC2 := Lib.hid hc2; have HY := Lib.hid hy; have HI2 := Lib.hid hi2; have HR2 := Lib.hid hr2; clear hp2 hc2 hy hi2 hr2)
    all_goals
      obtain ⟨g1, g2⟩ := H1.out.snd' hB1 HI2.out HC2.out HR2.out
      have H2 : Hid (IsP B w2 { M with Aa := A2, na := n2, ca := c2, S := S1, k := M.k, l := M.l ++ [y] }) := Lib.hid g1
      have HB2 := Lib.hid (HB1.out.trans g2)
      have hB2 : B ≤ w2.heap.size := Nat.le_trans hB1 HC2.out.size
      have hk2 := HC2.out.blk HK1.out (HNB.out 2 (by omega))
      have HPD := Lib.hid (HP1.out.st ((H1.out.nb 2 (by omega)).fz hB1 HC2.out))
      clear g1 g2 x1 p0 p2 H1 HP1 HC2 HI2 HR2 HSD HK1
      have x3 : w2.cell? ⟨M.x, 3, none⟩ = some (.slice M.As M.S M.cs) := (cell_of_row _ _ 3 _ _ _ H2.out.hd).trans (by rw [← HLKN.out.2.2]; rfl)
      have p2 : w2.cell? ⟨w.heap.size, 2, none⟩ = some (.slice a dl ca) := (cell_of_row _ _ 2 _ _ _ hk2).trans rfl
      have x3n : ∀ o : Obj, (w2.alloc o).cell? ⟨M.x, 3, none⟩ = some (.slice M.As M.S M.cs) := fun o => (World.cell?_alloc_lt w2 o ⟨M.x, 3, none⟩ (block_lt_of_cell x3)).trans x3
      have hba : Below w2.heap.size w2 (w2.alloc (.cells #[.slice a dl ca] 32)).drew := (below1 w2 (.cells #[.slice a dl ca] 32)).drew
      have HBA := Lib.hid hba
      have HD2 := Lib.hid (H2.out.below hB2 hba)
      have HBD := Lib.hid (HB2.out.trans (hba.mono hB2))
      have HPX := Lib.hid (HP2.out.st (Fz.of_below hB2 hba))
      have HPDX := Lib.hid (HPD.out.st (Fz.of_below hB2 hba))
      have hBA := Nat.le_trans hB2 hba.size
      have HOW : Hid ((w2.alloc (.cells #[.slice a dl ca] 32)).drew.ownsRow B 32 1 (.slice M.As M.S M.cs) M.S (M.sl.map bv)) := Lib.hid (by have := HD2.out.st.ow; rw [← HLKN.out.2.2]; exact this)
      have HBRS : Hid (IsBr B (w2.alloc (.cells #[.slice a dl ca] 32)).drew M.As M.S M.cs M.sl) := Lib.hid (by rw [← HLKN.out.2.2]; exact HD2.out.st)
      have HXR : Hid ((Value.slice M.As M.S M.cs).ownBlock ≠ some M.x) := Lib.hid (own_tyne HOW.out HD2.out.hd (by decide))
      clear hba hk2 H2 HB2 HP2 HPD
      have hS9 : M.S ≤ 900 := hS
      go_upto_region 5 with (fail)
      go_region_law (refine step_appS _ (by rfl) _ _ 28 (by rfl) B 32 (.slice none 0 0) 1 24 Try.underlying28 info_yy rfl (by omega) (.slice M.As M.S M.cs) M.S (M.sl.map bv) (by rfl) HOW.out (some ⟨w2.heap.size, 0, none⟩) 1 1 [.slice a dl ca] (by rfl) rfl (Rd.new w2 [.slice a dl ca] _ _) (by simp [Value.oneCell']) (by simp only [maxLen]; omega) (by omega) hBA ?_; intro X3 cx3 w3 hown3 happ3; have hg3 := happ3.old HD2.out.hd HXR.out; have e3 : w3.cell? ⟨M.x, 3, none⟩ = some (.slice M.As M.ns M.cs) := (cell_of_row _ _ 3 _ _ _ hg3).trans rfl; have f3 : w3.frozen? ⟨M.x, 3, none⟩ = false := frozen_of_row _ _ _ _ _ hg3; have HO3 := Lib.hid hown3; have HA3 := Lib.hid happ3; clear hown3 happ3 hg3)
      all_goals
        have HFX : Hid (IsP B (w3.setCell ⟨M.x, 3, none⟩ (.slice X3 (M.S + 1) cx3)) { M with Aa := A2, na := n2, ca := c2, S := S1, k := M.k, l := M.l ++ [y], As := X3, ns := M.S + 1, cs := cx3, sl := M.sl ++ [⟨d, a, ca⟩] } ∧ Pl B (w3.setCell ⟨M.x, 3, none⟩ (.slice X3 (M.S + 1) cx3)) X (datD S1 d) cX ∧ Below B w (w3.setCell ⟨M.x, 3, none⟩ (.slice X3 (M.S + 1) cx3)) ∧ B ≤ (w3.setCell ⟨M.x, 3, none⟩ (.slice X3 (M.S + 1) cx3)).heap.size) := Lib.hid (by
          obtain ⟨g1, g2, g3⟩ := HBRS.out.push (x := ⟨d, a, ca⟩) hBA HPDX.out (by rw [show bv ⟨d, a, ca⟩ = .slice a dl ca by rw [← HDL.out]; rfl]; exact HO3.out) HA3.out
          obtain ⟨g4, g5⟩ := HD2.out.sent' hBA g1 g2 g3
          exact ⟨g4, HPX.out.st (HD2.out.sentFz hBA g2 _), HBD.out.trans g5, by rw [World.size_setCell]; exact Nat.le_trans hBA g2.size⟩)
        clear HO3 HA3 e3 f3 x3 p2 x3n HOW HXR HBRS HPDX HPX HD2 HBD HBA
        generalize w3.setCell _ _ = w4 at *
        rw [HS1.out] at HFX ⊢
        have hB4 := HFX.out.2.2.2
        have x0 : w4.cell? ⟨M.x, 0, none⟩ = some (.pointer (some ⟨M.gn, 0, none⟩)) := (cell_of_row _ _ 0 _ _ _ HFX.out.1.hd).trans rfl
        have hdd : (datD S1 d).length ≤ 1000 := by have := enc_le9 S1; simp [datD]; omega
        obtain ⟨q, HQ⟩ : ∃ y, Hid ((datD S1 d).length = y) := ⟨_, Lib.hid rfl⟩
        rw [HQ.out]
        have HSN : Hid (Calls Try.prog 14 #[.pointer (some ⟨M.gn, 0, none⟩), .int .i64 1, .int .i64 2, .slice X q cX] w4 fun e w5 => (∃ v, e = .returned v) ∧ Stp B M K w w5 ∧ w5.cell? ⟨M.x, 3, none⟩ = some (.slice X3 S1 cx3)) := Lib.hid (by
          rw [← HQ.out]
          refine (send_calls B M.gn M.nn M.cn M.An M.last M.ps 1 2 (datD S1 d) X cX w4 HFX.out.1.net hB4 HFX.out.2.1 hdd HLKN.out.2.1).mono ?_
          rintro e w5 ⟨hv, num, X', cX', hw⟩
          have hc : Chg (netS M.gn M.An) w4 w5 := hw.chg
          have hk := hc.blk HFX.out.1.hd (fun hm => HFX.out.1.dj 1 0 (by omega) (by omega) (by omega) M.x hm (by simp [Ms.P]))
          exact ⟨hv, HFI.out w4 w5 X3 S1 cx3 A2 n2 c2 y ⟨d, a, ca⟩ num X' cX' HY.out rfl hB4 HFX.out.2.2.1 HFX.out.1 hw, (cell_of_row _ _ 3 _ _ _ hk).trans rfl⟩)
        clear hdd hS9
        go_wp2_with fail
        refine HSN.out.mono ?_
        rintro e w5 ⟨⟨v, rfl⟩, hst, hx3⟩
        have HST := Lib.hid hst
        clear hst HSN x0
        go_wp2_with fail
        go_ret
        exact ⟨rfl, HST.out⟩
end Tc
end Go.Proofs.Ytjmcmilbkhacdaa
