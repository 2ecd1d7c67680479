/- The walk of pair.deliver. -/
import Derived.Test.YtjmcmilbkhacdaaTnP
import Derived.Deep.DeepCutAuto
namespace Go.Proofs.Ytjmcmilbkhacdaa
open Go.RowKit Go.Shelf
open Wi Wr
namespace Tc
/-- what a delivery leaves -/
def Dlv (B : Nat) (M : Ms) (w w' : World) : Prop :=
  ∃ M', IsP B w' M' ∧ Inv M' ∧ M'.x = M.x ∧ M'.S = M.S ∧ M'.n + mu M'.ps ≤ M.n + mu M.ps ∧ (M.ps ≠ [] → mu M'.ps < mu M.ps) ∧ (FF M → FF M') ∧ Below B w w'
def DlvP (B : Nat) (M : Ms) (w : World) (e : Ending) (w' : World) : Prop := e = .returned (.bool true) ∧ Dlv B M w w'
theorem OkP.t2 {S : List (List UInt8)} {s : Nat} {p : Pk} (h : isD S s p) : (p.t == 1) = false := by rw [h.1]; rfl
set_option maxRecDepth 100000 in
set_option maxHeartbeats 4000000 in
theorem dlv_none (B : Nat) (M : Ms) (i : Int) (w : World) (h : IsP B w M) (hv : Inv M) (hB : B ≤ w.heap.size) (hz : M.ps = []) : Calls Try.prog 9 #[.pointer (some ⟨M.x, 0, none⟩), .int .i64 i] w (DlvP B M w) := by
  have HI := Lib.hid h
  have HV := Lib.hid hv
  have hnn : M.nn = 0 := by rw [← h.net.hn, hz]; rfl
  have HD := Lib.hid (deliver_calls B M.gn M.nn M.cn M.An M.last M.ps i w h.net hB (by omega))
  have HZ := Lib.hid hz
  have HNN := Lib.hid hnn
  have x0 : w.cell? ⟨M.x, 0, none⟩ = some (.pointer (some ⟨M.gn, 0, none⟩)) := (cell_of_row _ _ 0 _ _ _ h.hd).trans rfl
  clear h hv hz hnn
  go_enter Try.func9, Try.ntmps9
  go_wp2_with fail
  refine HD.out.mono ?_
  rintro e w1 (⟨_, rfl, hb⟩ | ⟨hi, _⟩)
  · have HF : Hid (∀ o, Dlv B M w (w1.alloc o)) := Lib.hid (fun o => ⟨M, HI.out.below hB (hb.trans ((below1 w1 o).mono hb.size)), HV.out, rfl, rfl, Nat.le_refl _, fun hn => absurd HZ.out hn, id, (hb.trans ((below1 w1 o).mono hb.size)).mono hB⟩)
    clear hb HD
    go_wp2_with fail
    go_ret
    exact ⟨rfl, HF.out _⟩
  · rw [HZ.out] at hi; exact absurd hi (by simp)
set_option maxRecDepth 100000 in
set_option maxHeartbeats 4000000 in
theorem dlv_some (B : Nat) (M : Ms) (i : Int) (w : World) (h : IsP B w M) (hv : Inv M) (hB : B ≤ w.heap.size) (hS : M.S ≤ 1000) (hn : M.n + mu M.ps ≤ 50000) (hz : M.ps ≠ []) : Calls Try.prog 9 #[.pointer (some ⟨M.x, 0, none⟩), .int .i64 i] w (DlvP B M w) := by
  have HI := Lib.hid h
  have HV := Lib.hid hv
  have HZ := Lib.hid hz
  have hml := mu_len M.ps
  have HD := Lib.hid (deliver_calls B M.gn M.nn M.cn M.An M.last M.ps i w h.net hB (by have := h.net.hn; omega))
  have HNN := Lib.hid h.net.hn
  have x0 : w.cell? ⟨M.x, 0, none⟩ = some (.pointer (some ⟨M.gn, 0, none⟩)) := (cell_of_row _ _ 0 _ _ _ h.hd).trans rfl
  clear h hv hz
  go_enter Try.func9, Try.ntmps9
  go_wp2_with fail
  refine HD.out.mono ?_
  rintro e w1 (⟨hn0, _⟩ | ⟨hi, rfl, hw⟩)
  · exact absurd (List.eq_nil_of_length_eq_zero (by rw [HNN.out, hn0])) HZ.out
  · obtain ⟨A1, n1, c1, l1, h1, hb1⟩ := HI.out.net' hB hw
    have h1 : IsP B w1 { M with An := A1, nn := n1, cn := c1, last := l1, ps := rm M.ps (chI i M.nn) } := h1
    obtain ⟨j, HJ⟩ : ∃ y, Hid (chI i M.nn = y) := ⟨_, Lib.hid rfl⟩
    rw [HJ.out] at h1
    have hj : j < M.ps.length := by rw [← HJ.out]; exact hi
    have hpj : M.ps[chI i M.nn] = M.ps[j] := by simp only [HJ.out]
    rw [hpj]
    have HPLj := Lib.hid (((HI.out.net.ok M.ps[j] (List.getElem_mem hj)).st ((HI.out.nb 1 (by omega)).fz hB hw.chg)))
    have HOK := Lib.hid (HV.out.pk M.ps[j] (List.getElem_mem hj))
    have HMU := Lib.hid (mu_rm hj)
    obtain ⟨z, HZZ⟩ : ∃ y, Hid (M.ps[j] = y) := ⟨M.ps[j], Lib.hid rfl⟩
    rw [HZZ.out] at HPLj HOK HMU ⊢
    rw [show pval z = .agg #[.int .i64 z.num, .int .i64 z.f, .int .i64 z.t, .slice z.a z.d.length z.c] from rfl]
    have HC1 : Hid (w.heap.size ≤ w1.heap.size) := Lib.hid hw.chg.size
    have H1 := Lib.hid h1
    have HB1 := Lib.hid hb1
    clear h1 hb1 hw hpj HD hi
    have hB1 : B ≤ w1.heap.size := Nat.le_trans hB HC1.out
    have HA2 := Lib.hid (below1 w1 (.cells #[.int .i64 z.num, .int .i64 z.f, .int .i64 z.t, .slice z.a z.d.length z.c] 50))
    have HK2 := Lib.hid (heap_alloc_new w1 (.cells #[.int .i64 z.num, .int .i64 z.f, .int .i64 z.t, .slice z.a z.d.length z.c] 50))
    obtain ⟨zl, HZL⟩ : ∃ y, Hid (z.d.length = y) := ⟨_, Lib.hid rfl⟩
    rw [HZL.out] at HA2 HK2 ⊢
    go_upto_region 2 with (fail)
    have H2 := Lib.hid (H1.out.below hB1 HA2.out)
    have HPL2 := Lib.hid (HPLj.out.st (Fz.of_below hB1 HA2.out))
    have HB2 := Lib.hid (HB1.out.trans (HA2.out.mono hB1))
    have hB2 : B ≤ (w1.alloc (.cells #[.int .i64 z.num, .int .i64 z.f, .int .i64 z.t, .slice z.a zl z.c] 50)).heap.size := Nat.le_trans hB1 HA2.out.size
    clear H1 HB1 HA2 x0
    generalize w1.alloc _ = w2 at *
    generalize w1.heap.size = b5 at *
    have x1 : w2.cell? ⟨M.x, 1, none⟩ = some (.pointer (some ⟨M.ga, 0, none⟩)) := (cell_of_row _ _ 1 _ _ _ H2.out.hd).trans rfl
    have x2 : w2.cell? ⟨M.x, 2, none⟩ = some (.pointer (some ⟨M.gb, 0, none⟩)) := (cell_of_row _ _ 2 _ _ _ H2.out.hd).trans rfl
    have p2 : w2.cell? ⟨b5, 2, none⟩ = some (.int .i64 z.t) := (cell_of_row _ _ 2 _ _ _ HK2.out).trans rfl
    have p3 : w2.cell? ⟨b5, 3, none⟩ = some (.slice z.a zl z.c) := (cell_of_row _ _ 3 _ _ _ HK2.out).trans rfl
    have HSK := Lib.hid HV.out.lk
    have hdr : Below w2.heap.size w2 w2.drew := (Below.refl _ _).drew
    rcases HOK.out with ⟨s, hs0, hsl, ht2, v, hsv, hzd⟩ | ⟨ht1, N, hN, hzd⟩
    · have hsS : s ≤ M.S := by rw [HV.out.hS, ← sd_len]; exact hsl
      have hvl : v.length ≤ 40 := HV.out.ln v (List.mem_of_getElem? hsv)
      have HR2 : Hid (Calls Try.prog 19 #[.pointer (some ⟨M.gb, 0, none⟩), .slice z.a zl z.c] w2.drew (AccP B M.gb M.q M.r M.n M.E s v w2)) := Lib.hid (by
        have hp := HPL2.out.st (Fz.of_below hB2 hdr)
        rw [← HZL.out]
        rw [hzd] at hp ⊢
        refine (recv_data B M.gb M.q M.r M.n M.E s v z.a z.c M.S w2.drew (H2.out.below hB2 hdr).rcv hB2 (by omega) HV.out.rS hsS hs0 (by omega) (fun t y hy => (HV.out.ea t y hy).2.1) (by omega) hp (by omega)).mono (fun e w' h => AccP.from h hdr))
      have q1 : (z.t == 1) = false := by rw [ht2]; rfl
      have HGL := Lib.hid HV.out.gln
      have HRS := Lib.hid HV.out.rS
      have HAF : Hid (∀ r' E' out, Acc M.E M.r s v r' E' out → r' = M.r + (out : List Bs).length ∧ r' ≤ M.S) := Lib.hid (fun r' E' out ha => by
        obtain ⟨g1, g2, _⟩ := acc_facts HV.out hsS hsv ha
        exact ⟨g1, g2⟩)
      have HFI : Hid (∀ w5 w6 r' E' out n' A2 n2 c2 num f X cX, Acc M.E M.r s v r' E' out → n' ≤ M.n + 1 → B ≤ w5.heap.size → Below B w w5 → IsP B w5 { M with An := A1, nn := n1, cn := c1, last := l1, ps := rm M.ps j, r := r', n := n', E := E', Ag := A2, ng := n2, cg := c2, gl := M.gl ++ out } → NetW B M.gn A1 (rm M.ps j ++ [⟨num, f, 1, ackD r', X, cX⟩]) w5.heap.size w5 w6 → Dlv B M w w6) := Lib.hid (fun w5 w6 r' E' out n' A2 n2 c2 num f X cX ha hn' hB5 hb5 h5 hw => by
        obtain ⟨A3, n3, c3, l3, h6, hb6⟩ := h5.net' hB5 hw
        have hmu := HMU.out
        have hwp : wt z = 2 := by unfold wt; rw [if_neg (by rw [ht2]; decide)]
        refine ⟨_, h6, HV.out.dat hsS hsv ha A3 n3 c3 l3 n' A2 n2 c2 num f X cX, rfl, rfl, ?_, fun _ => ?_, fun hf => hf.dat HV.out hj hsS hS hsv (by rw [HZZ.out]; exact hzd) (fun s' hs' v' hh => datD_inj (by omega) (by omega) hh) ha A3 n3 c3 l3 n' A2 n2 c2 num f X cX, hb5.trans hb6⟩
        · show n' + mu (rm M.ps j ++ _) ≤ _
          rw [mu_app, mu_one]
          show n' + (mu (rm M.ps j) + 1) ≤ _
          omega
        · show mu (rm M.ps j ++ _) < _
          rw [mu_app, mu_one]
          show mu (rm M.ps j) + 1 < _
          omega)
      have HLR : Hid ((rm M.ps j).length ≤ 50000) := Lib.hid (by have := rm_len hj; omega)
      clear hdr HOK HSK hzd ht2 hsv hvl hs0 hsl HPL2 HPLj h1
      go_upto_region 7 with (fail)
      clear x1 p2 q1
      go_region_law (go_simp; go_at_call 19; (with_reducible refine HR2.out.mono ?_); rintro e w3 ⟨r', E', out, O, cO, n', rfl, h3, hn3, ho3, hr3, hc3, ha3⟩; have H3 := Lib.hid h3; have HN3 := Lib.hid hn3; have HO3 := Lib.hid ho3; have HC3 := Lib.hid hc3; have HA3 := Lib.hid ha3; clear h3 hn3 ho3 hr3 hc3 ha3)
      all_goals
        clear x2 p3
        obtain ⟨g1, g2⟩ := H2.out.rcv' hB2 H3.out HC3.out
        have HP3 : Hid (IsP B w3 { M with An := A1, nn := n1, cn := c1, last := l1, ps := rm M.ps j, r := r', n := n', E := E' }) := Lib.hid g1
        have HB3 := Lib.hid (HB2.out.trans g2)
        have hB3 : B ≤ w3.heap.size := Nat.le_trans hB2 HC3.out.size
        obtain ⟨hre, hrS⟩ := HAF.out r' E' out HA3.out
        clear g1 g2 H2 H3 HC3 HB2 HR2 HAF
        have hng : M.gl.length = M.ng := HP3.out.gt.hn
        have hngb : M.ng ≤ 1000 := by have := HGL.out; omega
        obtain ⟨ol, HOL⟩ : ∃ y, Hid (out.length = y) := ⟨_, Lib.hid rfl⟩
        rw [HOL.out] at HO3 hre ⊢
        have x4 : w3.cell? ⟨M.x, 4, none⟩ = some (.slice M.Ag M.ng M.cg) := (cell_of_row _ _ 4 _ _ _ HP3.out.hd).trans rfl
        have HXR : Hid ((Value.slice M.Ag M.ng M.cg).ownBlock ≠ some M.x) := Lib.hid (own_tyne HP3.out.gt.ow HP3.out.hd (by decide))
        go_upto_region 9 with (at_builtin; refine wpList_appS _ (by rfl) (.tmp 51) (.tmp 52) 28 (by rfl) B 32 (.slice none 0 0) 1 24 Try.underlying28 info_yy rfl (by omega) (.slice M.Ag M.ng M.cg) M.ng (M.gl.map bv) (by rfl) HP3.out.gt.ow O ol cO (out.map bv) (by rfl) (by rw [List.length_map, HOL.out, Nat.mul_one]) HO3.out.rd.2.2 (bv_one _) (by simp only [maxLen]; omega) (by omega) hB3 ?_; intro X5 c5 w4 hown5 happ5; have hx4 := happ5.old HP3.out.hd HXR.out; have e4 : w4.cell? ⟨M.x, 4, none⟩ = some (.slice M.Ag M.ng M.cg) := (cell_of_row _ _ 4 _ _ _ hx4).trans rfl; have f4 : w4.frozen? ⟨M.x, 4, none⟩ = false := frozen_of_row _ _ 4 _ _ hx4; have HO5 := Lib.hid hown5; have HP5 := Lib.hid happ5; clear hown5 happ5 hx4)
        obtain ⟨g1, g2, g3⟩ := HP3.out.gt.pushs (w' := w4) (m := ol) hB3 HO3.out.ok HO5.out HP5.out
        obtain ⟨g4, g5⟩ := HP3.out.got' hB3 g1 g2 g3
        have H5 : Hid (IsP B (w4.setCell ⟨M.x, 4, none⟩ (.slice X5 (M.ng + ol) c5)) { M with An := A1, nn := n1, cn := c1, last := l1, ps := rm M.ps j, r := r', n := n', E := E', Ag := X5, ng := M.ng + ol, cg := c5, gl := M.gl ++ out }) := Lib.hid g4
        have HB5 := Lib.hid (HB3.out.trans g5)
        have hB5 : B ≤ (w4.setCell ⟨M.x, 4, none⟩ (.slice X5 (M.ng + ol) c5)).heap.size := Nat.le_trans hB3 (Nat.le_trans g2.size (by rw [World.size_setCell]; exact Nat.le_refl _))
        clear g1 g2 g3 g4 g5 HP3 HO5 HP5 HO3 HB3 x4 e4 f4 HXR
        generalize w4.setCell _ _ = w5 at *
        have hxl : M.x < w5.heap.size := H5.out.lt (i := 0) (by omega) (by simp [Ms.P])
        have x0 : w5.cell? ⟨M.x, 0, none⟩ = some (.pointer (some ⟨M.gn, 0, none⟩)) := (cell_of_row _ _ 0 _ _ _ H5.out.hd).trans rfl
        have x2 : w5.cell? ⟨M.x, 2, none⟩ = some (.pointer (some ⟨M.gb, 0, none⟩)) := (cell_of_row _ _ 2 _ _ _ H5.out.hd).trans rfl
        have cb0 : ∀ w', Below w5.heap.size w5 w' → w'.cell? ⟨M.x, 0, none⟩ = some (.pointer (some ⟨M.gn, 0, none⟩)) := fun w' hb => (hb.cell (p := ⟨M.x, 0, none⟩) hxl).trans x0
        have cb2 : ∀ w', Below w5.heap.size w5 w' → w'.cell? ⟨M.x, 2, none⟩ = some (.pointer (some ⟨M.gb, 0, none⟩)) := fun w' hb => (hb.cell (p := ⟨M.x, 2, none⟩) hxl).trans x2
        have hr9 : r' ≤ 1000000000 := by omega
        obtain ⟨al, HAL⟩ : ∃ y, Hid ((ackD r').length = y) := ⟨_, Lib.hid rfl⟩
        have hal : (ackD r').length ≤ 1000 := by have := enc_le9 r'; simp [ackD]; omega
        have hn5 : n1 ≤ 50000 := by have h9 : (rm M.ps j).length = n1 := H5.out.net.hn; have := HLR.out; omega
        have HAK : ∀ w', Below w5.heap.size w5 w' → Hid (Calls Try.prog 20 #[.pointer (some ⟨M.gb, 0, none⟩)] w' fun e w2 => ∃ X c, e = .returned (.slice X al c) ∧ Pl B w2 X (ackD r') c ∧ Below w5.heap.size w5 w2) := fun w' hb => Lib.hid (by
          refine (ack_calls B B M.gb M.q r' n' E' w' (H5.out.below hB5 hb).rcv hr9).mono ?_
          rintro e w2 ⟨X, c, rfl, hp, hb2⟩
          exact ⟨X, c, by rw [HAL.out], hp, hb.trans (hb2.mono hb.size)⟩)
        have HSN : ∀ w' X c, Below w5.heap.size w5 w' → Pl B w' X (ackD r') c → Hid (Calls Try.prog 14 #[.pointer (some ⟨M.gn, 0, none⟩), .int .i64 2, .int .i64 1, .slice X al c] w' fun e w6 => (∃ v, e = .returned v) ∧ Dlv B M w w6) := fun w' X c hb hp => Lib.hid (by
          rw [← HAL.out]
          refine (send_calls B M.gn n1 c1 A1 l1 (rm M.ps j) 2 1 (ackD r') X c w' (H5.out.below hB5 hb).net (Nat.le_trans hB5 hb.size) hp hal (by omega)).mono ?_
          rintro e w6 ⟨hv, num, X', cX', hw⟩
          exact ⟨hv, HFI.out w' w6 r' E' out n' X5 (M.ng + ol) c5 num 2 X' cX' HA3.out HN3.out (Nat.le_trans hB5 hb.size) (HB5.out.trans (hb.mono hB5)) (H5.out.below hB5 hb) hw⟩)
        clear hal hre hrS hng hngb
        have HAKd := HAK w5.drew (Below.refl _ _).drew
        clear HAK cb2
        go_region_law (first | (go_simp; go_at_call 20; (with_reducible refine HAKd.out.mono ?_); rintro e w6 ⟨XX, cXX, rfl, hp6, hb6⟩; have HS6 := HSN w6 XX cXX hb6 hp6; have e0 := cb0 w6 hb6; clear hp6 hb6) | (go_simp; go_at_call 14; (with_reducible refine HS6.out.mono ?_); rintro e w7 ⟨⟨vv, rfl⟩, hdl⟩; have HDL := Lib.hid hdl; clear hdl))
        all_goals
          clear x0 x2 e0 cb0 HSN HS6 HAKd
          go_wp2_with fail
          go_ret
          exact ⟨rfl, HDL.out⟩
    · have HR1 : Hid (Calls Try.prog 19 #[.pointer (some ⟨M.ga, 0, none⟩), .slice z.a zl z.c] w2.drew (RacP B M.ga M.Aa M.m M.S M.k N M.l w2.drew)) := Lib.hid (by
        have hp := HPL2.out.st (Fz.of_below hB2 hdr)
        rw [← HZL.out]
        rw [hzd] at hp ⊢
        have h3 := (H2.out.below hB2 hdr).snd
        have hna := h3.br.hn
        have hsk := HSK.out
        have hna : M.l.length = M.na := hna
        exact recv_ack B M.ga M.na M.ca M.Aa M.m M.S M.k N M.l z.a z.c w2.drew h3 hB2 (by omega) (by omega) (Nat.le_trans hN HV.out.rS) (by omega) hp)
      have q1 : (z.t == 1) = true := by rw [ht1]; rfl
      have HFI : Hid (∀ w3 A2 n2 c2, IsA B w3 M.ga A2 n2 c2 M.m M.S (max M.k N) (M.l.drop (N - M.k)) → Chg (aS M.ga M.Aa) w2.drew w3 → (∀ b ∈ rowS A2, b ∈ rowS M.Aa ∨ w2.drew.heap.size ≤ b) → Dlv B M w w3) := Lib.hid (fun w3 A2 n2 c2 h3 hc3 hr3 => by
        obtain ⟨g1, g2⟩ := H2.out.snd' hB2 h3 (((Chg.refl (aS M.ga M.Aa) w2).drew).trans' hc3) hr3
        have hmu := HMU.out
        have hwp := wt_pos z
        refine ⟨_, g1, HV.out.ack hN A1 n1 c1 l1 A2 n2 c2, rfl, rfl, ?_, fun _ => ?_, fun hf => hf.ack HV.out hj (by rw [HZZ.out]; exact ht1) (by rw [HZZ.out]; exact hzd) hN hS A1 n1 c1 l1 A2 n2 c2, HB2.out.trans g2⟩
        · show M.n + mu (rm M.ps j) ≤ _; omega
        · show mu (rm M.ps j) < _; omega)
      clear H2 HPL2 HB2 hdr HOK HSK hzd ht1 hN
      go_upto_region 5 with (fail)
      clear x2 p2 q1
      go_region_law (go_simp; go_at_call 19; (with_reducible refine HR1.out.mono ?_); rintro e w3 ⟨rfl, A2, n2, c2, h3, hc3, hr3⟩; have HF := Lib.hid (HFI.out w3 A2 n2 c2 h3 hc3 hr3); clear h3 hc3 hr3)
      all_goals
        clear x1 p3
        go_wp2_with fail
        go_ret
        exact ⟨rfl, HF.out⟩
theorem dlv_calls (B : Nat) (M : Ms) (i : Int) (w : World) (h : IsP B w M) (hv : Inv M) (hB : B ≤ w.heap.size) (hS : M.S ≤ 1000) (hn : M.n + mu M.ps ≤ 50000) : Calls Try.prog 9 #[.pointer (some ⟨M.x, 0, none⟩), .int .i64 i] w (DlvP B M w) := by
  by_cases hz : M.ps = []
  · exact dlv_none B M i w h hv hB hz
  · exact dlv_some B M i w h hv hB hS hn hz
end Tc
end Go.Proofs.Ytjmcmilbkhacdaa
