/- The walk of the law WireRoundTrip. -/
import Derived.Test.YtkbhbpklgdmgpaaWe
import Derived.Test.YtkbhbpklgdmgpaaWd
namespace Go.Proofs.Ytkbhbpklgdmgpaa
open Go.RowKit
namespace Wi
open Wr

theorem encIt_len (x : It) : (encIt x).length ≤ x.s.size + 18 := by
  have h1 := enc_len x.n.toNat
  have h2 := digits_len_le x.n.toNat
  have h3 := enc_len (zig x.i)
  have h4 := digits_len_le (zig x.i)
  have h5 := enc_len x.s.size
  have h6 := digits_len_le x.s.size
  have h7 := strB_length x.s
  have h8 := enc_len (u64n x.m)
  have h9 := digits_len_le (u64n x.m)
  have ha := enc_len (u64n x.q)
  have hb := digits_len_le (u64n x.q)
  unfold encIt encID
  split
  · omega
  · split
    · omega
    · split
      · rw [List.length_append]; omega
      · split
        · rw [List.length_append]; omega
        · simp

/-- the encodings of the first items -/
def encs (cs : List It) : List UInt8 := cs.flatMap encIt
theorem encs_snoc (cs : List It) (k : Nat) (h : k < cs.length) : encs (cs.take (k + 1)) = encs (cs.take k) ++ encIt cs[k] := by
  unfold encs; rw [List.take_succ_eq_append_getElem h, List.flatMap_append]; simp
theorem encs_drop (cs : List It) (k : Nat) (h : k < cs.length) : encs (cs.drop k) = encIt cs[k] ++ encs (cs.drop (k + 1)) := by
  unfold encs; rw [List.drop_eq_getElem_cons h, List.flatMap_cons]
theorem encs_len (cs : List It) (h : ∀ x ∈ cs, x.s.size ≤ 5000) : (encs cs).length ≤ 5018 * cs.length := by
  induction cs with
  | nil => simp [encs]
  | cons c cs ih =>
    have h1 := ih fun x hx => h x (List.mem_cons_of_mem _ hx)
    have h2 := encIt_len c
    have h3 := h c List.mem_cons_self
    show ((c :: cs).flatMap encIt).length ≤ _
    rw [List.flatMap_cons, List.length_append, List.length_cons]
    have : (encs cs).length = (cs.flatMap encIt).length := rfl
    omega

def RT1 (w : World) (B k : Nat) (cs : List It) (X : Option Addr) (q c : Nat) (wr : World) : Prop :=
  q = (encs (cs.take k)).length ∧ OB wr B (.slice X q c) (encs (cs.take k)) ∧ (∀ x ∈ cs.take k, readB x = true) ∧ Below w.heap.size w wr ∧ B ≤ wr.heap.size

set_option maxRecDepth 100000 in
set_option maxHeartbeats 4000000 in
theorem roundtrip_law (w : World) (C : Option Addr) (m cc : Nat) (cs : List It) (hn : cs.length = m) (hmc : m ≤ cc) (hcc : cc ≤ maxLen) (hri : RdI w C cs) (hf : ∀ c ∈ cs, c.fits ∧ c.s.size ≤ maxLen) :
    Calls Try.prog 8 #[.slice C m cc] w (Tru w) := by
  have HN := Lib.hid hn
  have HRI := Lib.hid hri
  have HF := Lib.hid hf
  have hcc' := hcc
  unfold maxLen at hcc'
  clear hn hri hf
  cases hlg : longB cs with
  | true =>
    have HLG := Lib.hid hlg
    clear hlg
    go_enter Try.func8, Try.ntmps8
    go_wp2_with fail; refine (awake_calls w).mono ?_; rintro e w1 ⟨rfl, hb⟩; have B1 := Lib.hid hb; clear hb; go_wp2_with fail
    refine (long_calls C m cc cs w1 HN.out hmc hcc (HRI.out.below B1.out) (fun x hx => (HF.out x hx).2)).mono ?_
    rintro e w2 ⟨rfl, rfl⟩
    rw [HLG.out]
    go_wp2_with fail
    go_ret
    exact ⟨rfl, B1.out⟩
  | false =>
    have HLG := Lib.hid hlg
    have HSH := Lib.hid (longB_short hlg)
    have hm30 : m ≤ 30 := by have h1 := (longB_short hlg).1; have h2 := HN.out; omega
    clear hlg
    go_enter Try.func8, Try.ntmps8
    go_wp2_with fail; refine (awake_calls w).mono ?_; rintro e w1 ⟨rfl, hb⟩; have B1 := Lib.hid hb; clear hb; go_wp2_with fail
    refine (long_calls C m cc cs w1 HN.out hmc hcc (HRI.out.below B1.out) (fun x hx => (HF.out x hx).2)).mono ?_
    rintro e w2 ⟨rfl, rfl⟩
    rw [HLG.out]
    go_wp2_with fail
    have hb3 := below1 w1 (.cells #[] 5)
    have ho3 : OB (w1.alloc (.cells #[] 5)) w1.heap.size (.slice (some ⟨w1.heap.size, 0, none⟩) 0 0) [] := own_empty _ _ _ _ rfl (Nat.le_refl _)
    generalize w1.alloc (.cells #[] 5) = w3 at *
    have H3 : Hid (RT1 w w1.heap.size 0 cs (some ⟨w1.heap.size, 0, none⟩) 0 0 w3) := ⟨rfl, ho3, by simp, B1.out.trans (hb3.mono B1.out.size), hb3.size⟩
    have hwB : w.heap.size ≤ w1.heap.size := B1.out.size
    clear hb3 ho3
    generalize w1.heap.size = B at *
    go_loopw [3, 4] (fun v i wr => ∃ k : Nat, ∃ X q c, k ≤ m ∧ i = .int .i64 k ∧ v = .slice X q c ∧ RT1 w B k cs X q c wr) (fun _ i _ => m - (intOf i).toNat)
    case atStart => exact ⟨0, _, _, _, by omega, rfl, rfl, H3.out⟩
    case round =>
      obtain ⟨k, X, q, c, hk, rfl, rfl, hq, ho, hrd, hb, hBw⟩ := hrel
      have HQ := Lib.hid hq
      have HO := Lib.hid ho
      have HRD := Lib.hid hrd
      have HB := Lib.hid hb
      have hqn : q ≤ 150540 := by
        have h1 := encs_len (cs.take k) (fun x hx => HSH.out.2 x (List.mem_of_mem_take hx))
        have h2 : (cs.take k).length ≤ 30 := by simp; omega
        rw [hq]; omega
      by_cases hlt : k < m
      · have hkl : k < cs.length := by rw [HN.out]; exact hlt
        obtain ⟨b, off, rfl, hbw, hc⟩ := (HRI.out.below hb).cells (by omega)
        have hck := hc k hkl
        have hfx := HF.out cs[k] (List.getElem_mem hkl)
        have hsx := HSH.out.2 cs[k] (List.getElem_mem hkl)
        have HES := Lib.hid (encs_snoc cs k hkl)
        have HRS : Hid (readB cs[k] = true → ∀ x ∈ cs.take (k + 1), readB x = true) := by
          intro h x hx
          rw [List.take_succ_eq_append_getElem hkl] at hx
          rcases List.mem_append.1 hx with h' | h'
          · exact HRD.out x h'
          · rw [List.mem_singleton] at h'; rw [h']; exact h
        have HRC := Lib.hid (readable_calls cs[k] wr hfx.2)
        generalize cs[k] = x at *
        have HWC := Lib.hid (fun w' (h : OB w' B (.slice X q c) (encs (cs.take k))) (hB : B ≤ w'.heap.size) => write_calls B (.slice X q c) (encs (cs.take k)) x w' (Ext.of_OB h HQ.out) (by rw [← HQ.out]; omega) hB hfx.1 (by omega))
        have HC := Lib.hid hck
        have HCB : Hid (∀ w', Below wr.heap.size wr w' → ∀ j v, j < 7 → (x.cells)[j]? = some v → w'.cell? ⟨b, off + k * 7 + j, none⟩ = some v) := by
          intro w' h j v hj hv
          exact (h.cell (p := ⟨b, off + k * 7 + j, none⟩) hbw).trans (hck j v hj hv)
        obtain ⟨kd, xn, xi, xs, xm, xq, xb⟩ := x
        unfold It.val It.cells at HRC HWC
        simp only at HRC HWC
        have i0 : (0 : Int) ≤ (k : Int) := by omega
        have i1 : (k : Int) < (m : Int) := by omega
        clear hc hck hfx hsx hrd hb ho hq
        have hxc0 := HCB.out wr (Below.refl _ _)
        have x0 : wr.cell? ⟨b, off + k * 7, none⟩ = some (vb kd) := hxc0 0 _ (by omega) rfl; have x1 : wr.cell? ⟨b, off + k * 7 + 1, none⟩ = some (vw xn) := hxc0 1 _ (by omega) rfl; have x2 : wr.cell? ⟨b, off + k * 7 + 2, none⟩ = some (.int .i64 xi) := hxc0 2 _ (by omega) rfl; have x3 : wr.cell? ⟨b, off + k * 7 + 3, none⟩ = some (.string xs) := hxc0 3 _ (by omega) rfl; have x4 : wr.cell? ⟨b, off + k * 7 + 4, none⟩ = some (.int .i64 xm) := hxc0 4 _ (by omega) rfl; have x5 : wr.cell? ⟨b, off + k * 7 + 5, none⟩ = some (.int .i64 xq) := hxc0 5 _ (by omega) rfl; have x6 : wr.cell? ⟨b, off + k * 7 + 6, none⟩ = some (.bool xb) := hxc0 6 _ (by omega) rfl
        clear hxc0
        cases hrb : readB ⟨kd, xn, xi, xs, xm, xq, xb⟩ with
        | false =>
          rw [hrb] at HRC
          clear hrb
          go_wp2_with fail
          refine HRC.out.mono ?_
          rintro e w4 ⟨rfl, hb4⟩
          have HB4 := Lib.hid (HB.out.trans (hb4.mono HB.out.size))
          clear hb4
          go_wp2_with fail
          go_ret
          exact ⟨rfl, HB4.out⟩
        | true =>
          rw [hrb] at HRC
          have HRS2 := Lib.hid (HRS.out hrb)
          clear hrb
          go_wp2_with fail
          refine HRC.out.mono ?_
          rintro e w4 ⟨rfl, hb4⟩
          have HB4 := Lib.hid (HB.out.trans (hb4.mono HB.out.size))
          have HO4 := Lib.hid (HO.out.below hb4)
          have hBw4 : B ≤ w4.heap.size := Nat.le_trans hBw hb4.size
          have hxc4 := HCB.out w4 hb4
          clear x0 x1 x2 x3 x4 x5 x6
          have x0 : w4.cell? ⟨b, off + k * 7, none⟩ = some (vb kd) := hxc4 0 _ (by omega) rfl; have x1 : w4.cell? ⟨b, off + k * 7 + 1, none⟩ = some (vw xn) := hxc4 1 _ (by omega) rfl; have x2 : w4.cell? ⟨b, off + k * 7 + 2, none⟩ = some (.int .i64 xi) := hxc4 2 _ (by omega) rfl; have x3 : w4.cell? ⟨b, off + k * 7 + 3, none⟩ = some (.string xs) := hxc4 3 _ (by omega) rfl; have x4 : w4.cell? ⟨b, off + k * 7 + 4, none⟩ = some (.int .i64 xm) := hxc4 4 _ (by omega) rfl; have x5 : w4.cell? ⟨b, off + k * 7 + 5, none⟩ = some (.int .i64 xq) := hxc4 5 _ (by omega) rfl; have x6 : w4.cell? ⟨b, off + k * 7 + 6, none⟩ = some (.bool xb) := hxc4 6 _ (by omega) rfl
          clear hxc4 hb4
          go_wp2_with fail
          refine (HWC.out w4 HO4.out hBw4).mono ?_
          rintro e w5 ⟨v5, rfl, hx5⟩
          have HB5 := Lib.hid (HB4.out.trans ((Ext.below (Ext.of_OB HO4.out HQ.out) hBw4 hx5).mono hwB))
          have hBw5 : B ≤ w5.heap.size := Nat.le_trans hBw4 hx5.size
          obtain ⟨X5, c5, rfl, ho5, _⟩ := hx5
          have HREL : Hid (RT1 w B (k + 1) cs X5 (encs (cs.take (k + 1))).length c5 w5) := by
            refine ⟨rfl, ?_, HRS2.out, HB5.out, hBw5⟩
            rw [HES.out]; exact ho5
          rw [HES.out] at HREL
          rw [List.length_append] at HREL ⊢
          clear ho5 x0 x1 x2 x3 x4 x5 x6
          go_wp2_with fail
          go_roundw
          case rel => exact ⟨k + 1, _, _, _, by omega, by go_num, rfl, HREL.out⟩
          case measure => simp [intOf]; omega
      · have hkm : Hid (cs.take k = cs) := by show _ = _; rw [List.take_of_length_le (by rw [HN.out]; omega)]
        rw [hkm.out] at HQ HO HRD
        clear hrd hb ho hq
        go_wp2_with fail
        refine (newReader_calls X q c (encs cs) wr HQ.out.symm HO.out.rb.1 (by omega)).mono ?_
        rintro e w4 ⟨g, rfl, hr4, hg4, hb4⟩
        have HB4 := Lib.hid (HB.out.trans (hb4.mono HB.out.size))
        have HR4 := Lib.hid hr4
        have hgw : w.heap.size ≤ g := Nat.le_trans HB.out.size hg4
        clear hr4 hg4 hb4 HO HQ
        obtain ⟨wo, rfl⟩ : ∃ wo : World, wo = wr := ⟨_, rfl⟩
        go_wp2_with fail
        go_loopw [6] (fun i wr => ∃ k : Nat, k ≤ m ∧ i = .int .i64 k ∧ IsRd wr g ⟨encs (cs.drop k), 0⟩ ∧ Below w.heap.size w wr) (fun i _ => m - (intOf i).toNat)
        case atStart => exact ⟨0, by omega, rfl, by simpa using HR4.out, HB4.out⟩
        case round =>
          obtain ⟨k, hk, rfl, hrd, hb⟩ := hrel
          have HB := Lib.hid hb
          by_cases hlt : k < m
          · have hkl : k < cs.length := by rw [HN.out]; exact hlt
            obtain ⟨b, off, rfl, hbw, hc⟩ := (HRI.out.below hb).cells (by omega)
            have hck := hc k hkl
            have hfx := HF.out cs[k] (List.getElem_mem hkl)
            have hsx := HSH.out.2 cs[k] (List.getElem_mem hkl)
            have hrb := HRD.out cs[k] (List.getElem_mem hkl)
            rw [encs_drop cs k hkl] at hrd
            generalize cs[k] = x at *
            have hback := readR_back x hfx.1 hrb (encs (cs.drop (k + 1))) (by omega)
            obtain ⟨tl, HTL⟩ : ∃ x, Hid (x = encs (cs.drop (k + 1))) := ⟨_, rfl⟩
            rw [← HTL.out] at hback hrd
            have HCA : Hid (∀ kd' : UInt8, kd'.toNat % 6 = x.kd.toNat % 5 → Calls Try.prog 22 #[.pointer (some ⟨g, 0, none⟩), vb kd', .int .i64 0] wr (DP wr g (readR (x.kd.toNat % 5) 0 ⟨encIt x ++ tl, 0⟩).1.val (readR (x.kd.toNat % 5) 0 ⟨encIt x ++ tl, 0⟩).2)) := by
              intro kd' h
              have := read_calls g ⟨encIt x ++ tl, 0⟩ kd' 0 wr hrd (by omega) (by omega)
              rw [h] at this; exact this
            obtain ⟨hag, hr2⟩ := hback
            rw [hr2] at HCA
            generalize (readR (x.kd.toNat % 5) 0 ⟨encIt x ++ tl, 0⟩).1 = y at *
            obtain ⟨kd, xn, xi, xs, xm, xq, xb⟩ := x
            obtain ⟨ykd, yn, yi, ys, ym, yq, yb⟩ := y
            obtain ⟨a0, a1, a2, a3, a4, a5⟩ := hag
            simp only at a0 a1 a2 a3 a4 a5 HCA hsx
            unfold It.val It.cells at HCA
            simp only at HCA
            have HCB : Hid (∀ w', Below w.heap.size w w' → ∀ j v, j < 7 → (It.cells ⟨kd, xn, xi, xs, xm, xq, xb⟩)[j]? = some v → w'.cell? ⟨b, off + k * 7 + j, none⟩ = some v) := by
              intro w' h j v hj hv
              obtain ⟨b', off', e, hbw', hc'⟩ := (HRI.out).cells (by omega)
              cases e
              exact (h.cell (p := ⟨b, off + k * 7 + j, none⟩) hbw').trans (((hb.cell (p := ⟨b, off + k * 7 + j, none⟩) hbw').symm).trans (hck j v hj hv))
            have i0 : (0 : Int) ≤ (k : Int) := by omega
            have i1 : (k : Int) < (m : Int) := by omega
            have x0 : wr.cell? ⟨b, off + k * 7, none⟩ = some (vb kd) := hck 0 _ (by omega) rfl
            clear hc hck hfx hrb hr2 hrd hb
            have hcase : kd.toNat % 5 = 0 ∨ kd.toNat % 5 = 1 ∨ kd.toNat % 5 = 2 ∨ kd.toNat % 5 = 3 ∨ kd.toNat % 5 = 4 := by omega
            rcases hcase with hj | hj | hj | hj | hj
            · rw [hj] at a0
              have e1 := a1 hj; subst e1
              subst a0
              have d0 : (kd.toNat : Int) % 5 = 0 := by omega
              have HC1 := Lib.hid (HCA.out (UInt8.ofNat 0) (by rw [hj]; rfl))
              rw [show vb (UInt8.ofNat 0) = .int .u8 0 from rfl] at HC1
              clear hj a1 a2 a3 a4 a5 HCA
              go_wp2_with fail
              refine HC1.out.mono ?_
              rintro e w5 ⟨rfl, hr5, hc5⟩
              have hb5 := HB.out.trans (hc5.below HB.out.size (by simp; omega))
              have HR5 := Lib.hid hr5
              have HB5 := Lib.hid hb5
              clear hr5 hc5 x0 hb5
              go_wp2_with fail
              have hb6 := below1 w5 (.cells #[.int .u8 0, .int .u64 (yn.toNat : Int), .int .i64 yi, .string ys, .int .i64 ym, .int .i64 yq, .bool yb] 34)
              have hX6 := heap_alloc_new w5 (.cells #[.int .u8 0, .int .u64 (yn.toNat : Int), .int .i64 yi, .string ys, .int .i64 ym, .int .i64 yq, .bool yb] 34)
              change Code.wp _ _ _ _ _
              generalize w5.alloc (.cells #[.int .u8 0, .int .u64 (yn.toNat : Int), .int .i64 yi, .string ys, .int .i64 ym, .int .i64 yq, .bool yb] 34) = w6 at *
              have HR6 := Lib.hid (HR5.out.below hb6)
              have HB6 := Lib.hid (HB5.out.trans (hb6.mono HB5.out.size))
              have hxc6 := HCB.out w6 HB6.out
              have y0 : w6.cell? ⟨w5.heap.size, 0, none⟩ = some (.int .u8 0) := (cell_of_row _ _ 0 _ _ _ hX6).trans rfl
              have y1 : w6.cell? ⟨w5.heap.size, 1, none⟩ = some (vw yn) := (cell_of_row _ _ 1 _ _ _ hX6).trans rfl
              have x1 : w6.cell? ⟨b, off + k * 7 + 1, none⟩ = some (vw yn) := hxc6 1 _ (by omega) rfl
              clear hb6 hX6 hxc6
              go_wp2_with fail
              go_quiet (fail)
              go_wp2_with fail
              have HR7 : Hid (IsRd (w6.drewN nq) g ⟨tl, 0⟩) := HR6.out.below (blw_drewN (Below.refl _ _) _)
              have HB7 : Hid (Below w.heap.size w (w6.drewN nq)) := blw_drewN HB6.out _
              go_roundw
              case rel => exact ⟨k + 1, by omega, by go_num, by rw [← HTL.out]; exact HR7.out, HB7.out⟩
              case measure => simp [intOf]; omega
            · rw [hj] at a0
              have e1 := a2 hj; subst e1
              subst a0
              have d0 : (kd.toNat : Int) % 5 = 1 := by omega
              have HC1 := Lib.hid (HCA.out (UInt8.ofNat 1) (by rw [hj]; rfl))
              rw [show vb (UInt8.ofNat 1) = .int .u8 1 from rfl] at HC1
              clear hj a1 a2 a3 a4 a5 HCA
              go_wp2_with fail
              refine HC1.out.mono ?_
              rintro e w5 ⟨rfl, hr5, hc5⟩
              have hb5 := HB.out.trans (hc5.below HB.out.size (by simp; omega))
              have HR5 := Lib.hid hr5
              have HB5 := Lib.hid hb5
              clear hr5 hc5 x0 hb5
              go_wp2_with fail
              have hb6 := below1 w5 (.cells #[.int .u8 1, .int .u64 (yn.toNat : Int), .int .i64 yi, .string ys, .int .i64 ym, .int .i64 yq, .bool yb] 34)
              have hX6 := heap_alloc_new w5 (.cells #[.int .u8 1, .int .u64 (yn.toNat : Int), .int .i64 yi, .string ys, .int .i64 ym, .int .i64 yq, .bool yb] 34)
              change Code.wp _ _ _ _ _
              generalize w5.alloc (.cells #[.int .u8 1, .int .u64 (yn.toNat : Int), .int .i64 yi, .string ys, .int .i64 ym, .int .i64 yq, .bool yb] 34) = w6 at *
              have HR6 := Lib.hid (HR5.out.below hb6)
              have HB6 := Lib.hid (HB5.out.trans (hb6.mono HB5.out.size))
              have hxc6 := HCB.out w6 HB6.out
              have y0 : w6.cell? ⟨w5.heap.size, 0, none⟩ = some (.int .u8 1) := (cell_of_row _ _ 0 _ _ _ hX6).trans rfl
              have y2 : w6.cell? ⟨w5.heap.size, 2, none⟩ = some (.int .i64 yi) := (cell_of_row _ _ 2 _ _ _ hX6).trans rfl
              have x2 : w6.cell? ⟨b, off + k * 7 + 2, none⟩ = some (.int .i64 yi) := hxc6 2 _ (by omega) rfl
              clear hb6 hX6 hxc6
              go_wp2_with fail
              go_quiet (fail)
              go_wp2_with fail
              have HR7 : Hid (IsRd (w6.drewN nq) g ⟨tl, 0⟩) := HR6.out.below (blw_drewN (Below.refl _ _) _)
              have HB7 : Hid (Below w.heap.size w (w6.drewN nq)) := blw_drewN HB6.out _
              go_roundw
              case rel => exact ⟨k + 1, by omega, by go_num, by rw [← HTL.out]; exact HR7.out, HB7.out⟩
              case measure => simp [intOf]; omega
            · rw [hj] at a0
              have e1 := a3 hj; subst e1
              subst a0
              have d0 : (kd.toNat : Int) % 5 = 2 := by omega
              have HC1 := Lib.hid (HCA.out (UInt8.ofNat 2) (by rw [hj]; rfl))
              rw [show vb (UInt8.ofNat 2) = .int .u8 2 from rfl] at HC1
              clear hj a1 a2 a3 a4 a5 HCA
              unfold maxLen at *
              go_wp2_with fail
              refine HC1.out.mono ?_
              rintro e w5 ⟨rfl, hr5, hc5⟩
              have hb5 := HB.out.trans (hc5.below HB.out.size (by simp; omega))
              have HR5 := Lib.hid hr5
              have HB5 := Lib.hid hb5
              clear hr5 hc5 x0 hb5
              go_wp2_with fail
              have hb6 := below1 w5 (.cells #[.int .u8 2, .int .u64 (yn.toNat : Int), .int .i64 yi, .string ys, .int .i64 ym, .int .i64 yq, .bool yb] 34)
              have hX6 := heap_alloc_new w5 (.cells #[.int .u8 2, .int .u64 (yn.toNat : Int), .int .i64 yi, .string ys, .int .i64 ym, .int .i64 yq, .bool yb] 34)
              change Code.wp _ _ _ _ _
              generalize w5.alloc (.cells #[.int .u8 2, .int .u64 (yn.toNat : Int), .int .i64 yi, .string ys, .int .i64 ym, .int .i64 yq, .bool yb] 34) = w6 at *
              have HR6 := Lib.hid (HR5.out.below hb6)
              have HB6 := Lib.hid (HB5.out.trans (hb6.mono HB5.out.size))
              have hxc6 := HCB.out w6 HB6.out
              have y0 : w6.cell? ⟨w5.heap.size, 0, none⟩ = some (.int .u8 2) := (cell_of_row _ _ 0 _ _ _ hX6).trans rfl
              have y3 : w6.cell? ⟨w5.heap.size, 3, none⟩ = some (.string ys) := (cell_of_row _ _ 3 _ _ _ hX6).trans rfl
              have x3 : w6.cell? ⟨b, off + k * 7 + 3, none⟩ = some (.string ys) := hxc6 3 _ (by omega) rfl
              clear hb6 hX6 hxc6
              go_wp2_with fail
              go_quiet (fail)
              go_wp2_with fail
              have HR7 : Hid (IsRd (w6.drewN nq) g ⟨tl, 0⟩) := HR6.out.below (blw_drewN (Below.refl _ _) _)
              have HB7 : Hid (Below w.heap.size w (w6.drewN nq)) := blw_drewN HB6.out _
              go_roundw
              case rel => exact ⟨k + 1, by omega, by go_num, by rw [← HTL.out]; exact HR7.out, HB7.out⟩
              case measure => simp [intOf]; omega
            · rw [hj] at a0
              obtain ⟨e1, e2⟩ := a4 hj; subst e1; subst e2
              subst a0
              have d0 : (kd.toNat : Int) % 5 = 3 := by omega
              have HC1 := Lib.hid (HCA.out (UInt8.ofNat 3) (by rw [hj]; rfl))
              rw [show vb (UInt8.ofNat 3) = .int .u8 3 from rfl] at HC1
              clear hj a1 a2 a3 a4 a5 HCA
              have hgd : Try.prog.eqGuardType Try.prog.depth 32 = false := by kernel_rfl
              have heq : ∀ w', (Op.equalIn 10000 32 (.agg #[.int .i64 ym, .int .i64 yq]) (.agg #[.int .i64 ym, .int .i64 yq])).run Try.prog w' = .ok true w' := fun w' => by rw [eq_id10]; simp
              go_wp2_with fail
              refine HC1.out.mono ?_
              rintro e w5 ⟨rfl, hr5, hc5⟩
              have hb5 := HB.out.trans (hc5.below HB.out.size (by simp; omega))
              have HR5 := Lib.hid hr5
              have HB5 := Lib.hid hb5
              clear hr5 hc5 x0 hb5
              go_wp2_with fail
              have hb6 := below1 w5 (.cells #[.int .u8 3, .int .u64 (yn.toNat : Int), .int .i64 yi, .string ys, .int .i64 ym, .int .i64 yq, .bool yb] 34)
              have hX6 := heap_alloc_new w5 (.cells #[.int .u8 3, .int .u64 (yn.toNat : Int), .int .i64 yi, .string ys, .int .i64 ym, .int .i64 yq, .bool yb] 34)
              change Code.wp _ _ _ _ _
              generalize w5.alloc (.cells #[.int .u8 3, .int .u64 (yn.toNat : Int), .int .i64 yi, .string ys, .int .i64 ym, .int .i64 yq, .bool yb] 34) = w6 at *
              have HR6 := Lib.hid (HR5.out.below hb6)
              have HB6 := Lib.hid (HB5.out.trans (hb6.mono HB5.out.size))
              have hxc6 := HCB.out w6 HB6.out
              have y0 : w6.cell? ⟨w5.heap.size, 0, none⟩ = some (.int .u8 3) := (cell_of_row _ _ 0 _ _ _ hX6).trans rfl
              have y4 : w6.cell? ⟨w5.heap.size, 4, none⟩ = some (.int .i64 ym) := (cell_of_row _ _ 4 _ _ _ hX6).trans rfl
              have x4 : w6.cell? ⟨b, off + k * 7 + 4, none⟩ = some (.int .i64 ym) := hxc6 4 _ (by omega) rfl
              have y5 : w6.cell? ⟨w5.heap.size, 5, none⟩ = some (.int .i64 yq) := (cell_of_row _ _ 5 _ _ _ hX6).trans rfl
              have x5 : w6.cell? ⟨b, off + k * 7 + 5, none⟩ = some (.int .i64 yq) := hxc6 5 _ (by omega) rfl
              clear hb6 hX6 hxc6
              go_wp2_with fail
              go_quiet (fail)
              go_wp2_with fail
              have HR7 : Hid (IsRd (w6.drewN nq) g ⟨tl, 0⟩) := HR6.out.below (blw_drewN (Below.refl _ _) _)
              have HB7 : Hid (Below w.heap.size w (w6.drewN nq)) := blw_drewN HB6.out _
              go_roundw
              case rel => exact ⟨k + 1, by omega, by go_num, by rw [← HTL.out]; exact HR7.out, HB7.out⟩
              case measure => simp [intOf]; omega
            · rw [hj] at a0
              have e1 := a5 hj; subst e1
              subst a0
              have d0 : (kd.toNat : Int) % 5 = 4 := by omega
              have HC1 := Lib.hid (HCA.out (UInt8.ofNat 4) (by rw [hj]; rfl))
              rw [show vb (UInt8.ofNat 4) = .int .u8 4 from rfl] at HC1
              clear hj a1 a2 a3 a4 a5 HCA
              go_wp2_with fail
              refine HC1.out.mono ?_
              rintro e w5 ⟨rfl, hr5, hc5⟩
              have hb5 := HB.out.trans (hc5.below HB.out.size (by simp; omega))
              have HR5 := Lib.hid hr5
              have HB5 := Lib.hid hb5
              clear hr5 hc5 x0 hb5
              go_wp2_with fail
              have hb6 := below1 w5 (.cells #[.int .u8 4, .int .u64 (yn.toNat : Int), .int .i64 yi, .string ys, .int .i64 ym, .int .i64 yq, .bool yb] 34)
              have hX6 := heap_alloc_new w5 (.cells #[.int .u8 4, .int .u64 (yn.toNat : Int), .int .i64 yi, .string ys, .int .i64 ym, .int .i64 yq, .bool yb] 34)
              change Code.wp _ _ _ _ _
              generalize w5.alloc (.cells #[.int .u8 4, .int .u64 (yn.toNat : Int), .int .i64 yi, .string ys, .int .i64 ym, .int .i64 yq, .bool yb] 34) = w6 at *
              have HR6 := Lib.hid (HR5.out.below hb6)
              have HB6 := Lib.hid (HB5.out.trans (hb6.mono HB5.out.size))
              have hxc6 := HCB.out w6 HB6.out
              have y0 : w6.cell? ⟨w5.heap.size, 0, none⟩ = some (.int .u8 4) := (cell_of_row _ _ 0 _ _ _ hX6).trans rfl
              have y6 : w6.cell? ⟨w5.heap.size, 6, none⟩ = some (.bool yb) := (cell_of_row _ _ 6 _ _ _ hX6).trans rfl
              have x6 : w6.cell? ⟨b, off + k * 7 + 6, none⟩ = some (.bool yb) := hxc6 6 _ (by omega) rfl
              clear hb6 hX6 hxc6
              go_wp2_with fail
              go_quiet (fail)
              go_wp2_with fail
              have HR7 : Hid (IsRd (w6.drewN nq) g ⟨tl, 0⟩) := HR6.out.below (blw_drewN (Below.refl _ _) _)
              have HB7 : Hid (Below w.heap.size w (w6.drewN nq)) := blw_drewN HB6.out _
              go_roundw
              case rel => exact ⟨k + 1, by omega, by go_num, by rw [← HTL.out]; exact HR7.out, HB7.out⟩
              case measure => simp [intOf]; omega
          · have HDE : Hid (encs (cs.drop k) = []) := by
              show _ = _
              rw [List.drop_eq_nil_of_le (by rw [HN.out]; omega)]; rfl
            rw [HDE.out] at hrd
            have HLE := Lib.hid (left_calls g _ wr hrd)
            have HDO := Lib.hid (done_calls g _ wr hrd)
            rw [show doneR ⟨[], 0⟩ = 0 from rfl] at HDO
            clear hrd hb
            go_wp2_with (first | (go_at_call 21; refine HLE.out.mono ?_; rintro e w6 ⟨rfl, rfl⟩) | (go_at_call 19; refine HDO.out.mono ?_; rintro e w6 ⟨rfl, rfl⟩))
            go_ret
            exact ⟨rfl, HB.out⟩
end Wi
end Go.Proofs.Ytkbhbpklgdmgpaa
