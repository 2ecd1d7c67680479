/- The walk of pair.step: all again. -/
import Derived.Test.YtjmcmilbkhacdaaTnS
import Derived.Deep.DeepCutAuto
namespace Go.Proofs.Ytjmcmilbkhacdaa
open Go.RowKit Go.Shelf
open Wi Wr
namespace Tc
theorem IsBr.notnet {B n c g n' c' : Nat} {w : World} {O A : Option Addr} {l : List Bs} {last : Int} {ps : List Pk} (h : IsBr B w O n c l) (k : IsNet B w g A n' c' last ps) : ∀ x ∈ netS g A, x ∉ rowS O := by
  intro x hx hm
  have hm := (mem_rowS n c).1 hm
  simp only [netS, List.mem_cons, Option.mem_toList] at hx
  rcases hx with rfl | hx
  · exact own_tyne h.ow k.hd (by decide) hm
  · rcases h.ow.2 with ⟨h2, _⟩ | ⟨b, cap, cur, e1, _, e3, _⟩
    · rw [h2] at hm; cases hm
    · rw [e1] at hm
      simp only [Value.ownBlock, Option.some.injEq] at hm
      subst hm
      rw [ownBlock_any A 0 0 n' c'] at hx
      exact own_tyne k.ow e3 (by decide) hx
theorem dgs_get : ∀ (l : List (List UInt8)) (k j : Nat) (h : j < l.length), (dgs k l)[j]? = some (datD (k + 1 + j) l[j])
  | x :: t, k, 0, _ => rfl
  | x :: t, k, j + 1, h => by
    have := dgs_get t (k + 1) j (by simpa using h)
    simp only [dgs, List.getElem?_cons_succ, List.getElem_cons_succ]
    rw [this, show k + 1 + 1 + j = k + 1 + (j + 1) by omega]
def SixL (B : Nat) (M : Ms) (w : World) (O : Option Addr) (cO : Nat) (outs : List Bs) (j : Nat) (wr : World) : Prop :=
  ∃ A n c last ps, IsP B wr { M with An := A, nn := n, cn := c, last := last, ps := ps } ∧ (∀ p ∈ ps, OkP (sd M) M.r p) ∧ (∀ s, M.k < s → s ≤ M.k + j → ∃ p ∈ ps, isD (sd M) s p) ∧ mu ps ≤ mu M.ps + 2 * j ∧ IsBr B wr O outs.length cO outs ∧ Below B w wr ∧ B ≤ wr.heap.size
theorem SixL.step {B : Nat} {M : Ms} {w : World} {O : Option Addr} {cO : Nat} {outs : List Bs} {j : Nat} {wr w' : World} {A : Option Addr} {n c : Nat} {last : Int} {ps : List Pk} (h1 : IsP B wr { M with An := A, nn := n, cn := c, last := last, ps := ps }) (h2 : ∀ p ∈ ps, OkP (sd M) M.r p) (h3 : ∀ s, M.k < s → s ≤ M.k + j → ∃ p ∈ ps, isD (sd M) s p) (h4 : mu ps ≤ mu M.ps + 2 * j) (h5 : IsBr B wr O outs.length cO outs) (h6 : Below B w wr) (h7 : B ≤ wr.heap.size)
    {num : Int} {X : Option Addr} {cX : Nat} {v : List UInt8} (hv : (sd M)[M.k + j]? = some v) (hw : NetW B M.gn A (ps ++ [⟨num, 1, 2, datD (M.k + 1 + j) v, X, cX⟩]) wr.heap.size wr w') : SixL B M w O cO outs (j + 1) w' := by
  obtain ⟨A3, n3, c3, l3, g1, g2⟩ := h1.net' h7 hw
  have hc : Chg (netS M.gn A) wr w' := hw.chg
  have hl : M.k + j < (sd M).length := (List.getElem?_eq_some_iff.1 hv).1
  have hd : isD (sd M) (M.k + 1 + j) ⟨num, 1, 2, datD (M.k + 1 + j) v, X, cX⟩ := ⟨rfl, v, by rw [show M.k + 1 + j - 1 = M.k + j by omega]; exact hv, rfl⟩
  refine ⟨A3, n3, c3, l3, _, g1, fun p hp => ?_, fun s hs1 hs2 => ?_, ?_, h5.st hc (h5.notnet h1.net) ((h1.nb 1 (by omega)).fz h7 hc), h6.trans g2, Nat.le_trans h7 hc.size⟩
  · rcases List.mem_append.1 hp with hp | hp
    · exact h2 p hp
    · rw [List.mem_singleton.1 hp]; exact .inl ⟨_, by omega, by omega, hd⟩
  · by_cases e : s = M.k + 1 + j
    · subst e; exact ⟨_, List.mem_append_right _ (List.mem_singleton.2 rfl), hd⟩
    · obtain ⟨p, hp, hp2⟩ := h3 s hs1 (by omega)
      exact ⟨p, List.mem_append_left _ hp, hp2⟩
  · rw [mu_app, mu_one]
    have : wt ⟨num, 1, 2, datD (M.k + 1 + j) v, X, cX⟩ = 2 := rfl
    omega
theorem SixL.done {B : Nat} {M : Ms} {w : World} {O : Option Addr} {cO : Nat} {outs : List Bs} {wr : World} (h : SixL B M w O cO outs M.l.length wr) (hv : Inv M) (hS : M.S ≤ 100) : Stp B M 6 w wr := by
  obtain ⟨A, n, c, last, ps, h1, h2, h3, h4, h5, h6, h7⟩ := h
  have hlk := hv.lk
  have hkr := hv.kr
  have hrS := hv.rS
  refine ⟨_, h1, hv.net A n c last h2, rfl, by show M.S ≤ _; omega, by show M.n + mu ps ≤ _; omega, fun h => by omega, fun h => by omega, fun _ => ⟨fun s hs1 hs2 => ?_, fun hk => ?_⟩, h6⟩
  · have hs1 : M.r < s := hs1
    have hs2 : s ≤ M.S := hs2
    exact .inr (h3 s (by omega) (by omega))
  · have hk : M.k < M.S := hk
    obtain ⟨p, hp, hp2⟩ := h3 M.S hk (by omega)
    exact .inl ⟨p, hp, hp2.1⟩
set_option maxRecDepth 100000 in
set_option maxHeartbeats 4000000 in
theorem step_six (B : Nat) (M : Ms) (i : Int) (a : Option Addr) (dl ca : Nat) (w : World) (h : IsP B w M) (hv : Inv M) (hB : B ≤ w.heap.size) (hS : M.S ≤ 100) (hn : M.n + mu M.ps ≤ 50000) : Calls Try.prog 6 #[.pointer (some ⟨M.x, 0, none⟩), .agg #[.int .u8 6, .int .i64 i, .slice a dl ca]] w (StpP B M 6 w) := by
  have hb := below1 w (.cells #[.int .u8 6, .int .i64 i, .slice a dl ca] 34)
  have hxl : M.x < w.heap.size := h.lt (i := 0) (by omega) (by simp [Ms.P])
  have HV := Lib.hid hv
  have hlk := hv.lk
  have hna : M.l.length = M.na := h.snd.br.hn
  have x1 : ∀ o, (w.alloc o).cell? ⟨M.x, 1, none⟩ = some (.pointer (some ⟨M.ga, 0, none⟩)) := fun o => (World.cell?_alloc_lt w o ⟨M.x, 1, none⟩ hxl).trans ((cell_of_row _ _ 1 _ _ _ h.hd).trans rfl)
  have hB1 := Nat.le_trans hB hb.size
  have HLN : Hid (∀ y ∈ M.l, y.d.length ≤ 40) := Lib.hid (fun y hy => hv.ln y.d (List.mem_of_mem_drop (by rw [← hv.kl]; exact List.mem_map.2 ⟨y, hy, rfl⟩)))
  have HD := Lib.hid (datagrams_calls B M.ga M.na M.ca M.Aa M.m M.S M.k M.l _ (h.below hB hb).snd hB1 (by omega) (by omega) (fun y hy => by have := HLN.out y hy; omega))
  have H1 := Lib.hid (h.below hB hb)
  have HB1 := Lib.hid (hb.mono hB)
  have HSZ : Hid (w.heap.size ≤ (w.alloc (.cells #[.int .u8 6, .int .i64 i, .slice a dl ca] 34)).heap.size) := Lib.hid hb.size
  clear h hv hb
  unfold StpP
  go_enter Try.func6, Try.ntmps6
  go_upto_region 1 with (fail)
  go_wp2_with fail
  refine HD.out.mono ?_
  rintro e w2 ⟨outs, O, cO, rfl, hd2, hbr, hnw, hb2⟩
  generalize w.alloc _ = w1 at *
  have HOL : Hid (outs.length = M.l.length) := Lib.hid (by have := hbr.hn; rw [List.length_map] at this; exact this)
  have HDG := Lib.hid hd2
  rw [List.length_map] at hbr ⊢
  have H2 : Hid (SixL B M w O cO outs 0 w2) := Lib.hid ⟨M.An, M.nn, M.cn, M.last, M.ps, H1.out.below hB1 hb2, HV.out.pk, fun s h1 h2 => by omega, by omega, by rw [HOL.out]; exact hbr, HB1.out.trans (hb2.mono hB1), Nat.le_trans hB1 hb2.size⟩
  have HX0 := Lib.hid (H1.out.below hB1 hb2).hd
  have hxl2 : M.x < w2.heap.size := (Array.getElem?_eq_some_iff.1 HX0.out).1
  clear hd2 hbr hnw hb2 HD x1 H1
  obtain ⟨ln, HLNN⟩ : ∃ y, Hid (M.l.length = y) := ⟨_, Lib.hid rfl⟩
  rw [HLNN.out] at HOL hlk hna ⊢
  have hl100 : ln ≤ 100 := by omega
  clear hna hlk
  go_wp2_with fail
  go_loopw [81] (fun i wr => ∃ j : Nat, j ≤ ln ∧ i = .int .i64 (j : Int) ∧ SixL B M w O cO outs j wr) (fun i _ => ln - (intOf i).toNat)
  case atStart => exact ⟨0, Nat.zero_le _, rfl, H2.out⟩
  case round =>
    obtain ⟨j, hj, rfl, hsx⟩ := hrel
    by_cases hlt : j < ln
    · obtain ⟨A, n, c, last, ps, h1, h2, h3, h4, h5, h6, h7⟩ := hsx
      have hol := HOL.out
      have hll := HLNN.out
      have hjo : j < outs.length := by omega
      have hjl : j < M.l.length := by omega
      obtain ⟨b, off, hA, hbl, hcell⟩ := Rd.cells h5.rd.2.2 (by simpa using (by omega : 0 < outs.length))
      have hc := hcell j _ (by rw [List.getElem?_map, List.getElem?_eq_getElem hjo]; rfl)
      have hpl := h5.ok outs[j] (List.getElem_mem hjo)
      have hod : outs[j].d = datD (M.k + 1 + j) M.l[j].d := by
        have h8 := congrArg (fun l => l[j]?) HDG.out
        simp only [List.getElem?_map, List.getElem?_eq_getElem hjo] at h8
        rw [dgs_get _ _ j (by rw [List.length_map]; exact hjl)] at h8
        simpa using h8
      have hsv : (sd M)[M.k + j]? = some M.l[j].d := by
        have h8 := congrArg (fun l => l[j]?) HV.out.kl
        simp only [List.getElem?_map, List.getElem?_eq_getElem hjl, List.getElem?_drop] at h8
        rw [← h8]; rfl
      have hlj := HLN.out M.l[j] (List.getElem_mem hjl)
      have h9 := enc_le9 (M.k + 1 + j)
      have hnn : ps.length = n := h1.net.hn
      have hml := mu_len ps
      have x0 : wr.cell? ⟨M.x, 0, none⟩ = some (.pointer (some ⟨M.gn, 0, none⟩)) := (cell_of_row _ _ 0 _ _ _ h1.hd).trans rfl
      have HSN : Hid (Calls Try.prog 14 #[.pointer (some ⟨M.gn, 0, none⟩), .int .i64 1, .int .i64 2, bv outs[j]] wr fun e w5 => (∃ v, e = .returned v) ∧ SixL B M w O cO outs (j + 1) w5) := Lib.hid (by
        refine (send_calls B M.gn n c A last ps 1 2 outs[j].d outs[j].a outs[j].c wr h1.net h7 hpl (by rw [hod]; simp [datD]; omega) (by omega)).mono ?_
        rintro e w5 ⟨hv, num, X', cX', hw⟩
        rw [hod] at hw
        exact ⟨hv, SixL.step h1 h2 h3 h4 h5 h6 h7 hsv hw⟩)
      obtain ⟨oa, ol, oc, HOV⟩ : ∃ a l c, Hid (bv outs[j] = .slice a l c) := ⟨_, _, _, Lib.hid rfl⟩
      rw [HOV.out] at HSN hc
      have d1 : decide (j < ln) = true := by simpa using hlt
      have i0 : (0 : Int) ≤ (j : Int) := by omega
      have i1 : (j : Int) < (ln : Int) := by omega
      have hj1 : IntKind.i64.wrap ((j : Int) + 1) = ((j + 1 : Nat) : Int) := by rw [IntWalk.i64_in _ (by omega)]; omega
      have HJ1 : Hid (j + 1 ≤ ln) := Lib.hid (by omega)
      clear h1 h2 h3 h4 h5 h6 h7 hpl hod hsv hcell hlj h9 hnn hml hol hll
      rw [hA] at HSN ⊢
      clear hA
      go_wp2_with fail
      refine HSN.out.mono ?_
      rintro e w5 ⟨⟨v, rfl⟩, hs⟩
      have HS := Lib.hid hs
      obtain ⟨j1, HJJ⟩ : ∃ y, Hid (j + 1 = y) := ⟨_, Lib.hid rfl⟩
      rw [HJJ.out] at hj1 HS HJ1
      clear hs HSN hc x0 d1
      go_wp2_with fail
      have HJX := HJJ.out
      clear hj1
      exact ⟨⟨j1, HJ1.out, rfl, HS.out⟩, by simp only [intOf, Int.toNat_natCast]; omega⟩
    · obtain rfl : j = ln := by omega
      have d1 : decide (j < j) = false := by simp
      have HF : Hid (Stp B M 6 w wr) := Lib.hid ((show SixL B M w O cO outs M.l.length wr by rw [HLNN.out]; exact hsx).done HV.out hS)
      clear hsx
      go_wp2_with fail
      go_ret
      exact ⟨rfl, HF.out⟩
end Tc
end Go.Proofs.Ytjmcmilbkhacdaa
