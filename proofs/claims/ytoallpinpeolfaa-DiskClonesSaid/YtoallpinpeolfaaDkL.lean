/- The walk of the law DiskSurvives. -/
import Derived.Test.YtoallpinpeolfaaDkK
namespace Go.Proofs.Ytoallpinpeolfaa
open Go.RowKit
namespace Dk

def Yes (w : World) (e : Ending) (w' : World) : Prop := e = .returned (.bool true) ∧ Below w.heap.size w w'

/-- all writes survive -/
theorem crash_all (D : St) (h : D.ok) (h6 : D.n = 6) (m : Nat) (hm : D.p.length ≤ m) : crashD D (List.replicate m 6) = { D with b := D.all, p := [], f := -1, x := false } := by
  unfold crashD St.all
  congr 1
  refine setB_congr _ _ _ _ _ (fun i hi => ?_)
  have hz : zSv (List.replicate m (6 : Int)) i = 6 := by rw [zSv_lt _ _ (by simp; omega)]; simp
  unfold cSv cAll
  rw [hz]
  obtain ⟨h1, h2⟩ := h.p _ (List.getElem_mem hi)
  unfold clamp
  omega

theorem info_int : (Try.prog.info? 3).map (fun i => (i.zero, i.size, i.bytes)) = some (some (.int .i64 0), 1, 8) := by kernel_rfl
/-- a disk after a crash works -/
theorem works (D : St) (h6 : D.n = 6) : (writeE { D with b := D.all, p := [], f := -1, x := false } 0 [] = 0) ∧ syncE (writeD { D with b := D.all, p := [], f := -1, x := false } 0 []) = 0 := by
  have hi : inB D.n 0 ((([] : List UInt8).length / 64 : Nat) : Int) = true := by rw [h6]; rfl
  constructor
  · unfold writeE
    rw [if_neg (by simp), if_neg (by simp), if_neg (by simp only [hi]; simp), if_neg (by simp)]
  · unfold writeD
    rw [if_neg (by simp), if_neg (by simp), if_neg (by simp only [hi]; simp), if_neg (by simp)]
    rfl

set_option maxRecDepth 100000 in
set_option maxHeartbeats 4000000 in
theorem survives_law (w : World) (A : Option Addr) (n ca : Nat) (ms : List Cm) (hn : ms.length = n) (hr : RdM w A ms) (hnm : n ≤ 9223372036854775807) :
    Calls Try.prog 5 #[.slice A n ca] w (Yes w) := by
  have HN := Lib.hid hn
  have HR := Lib.hid hr
  clear hn hr
  go_enter Try.func5, Try.ntmps5
  go_wp2_with fail
  refine (awake_calls w).mono ?_
  rintro e w1 ⟨rfl, hb1⟩
  have HB1 := Lib.hid hb1
  clear hb1
  go_wp2_with fail
  refine (few_calls A n ca 16 ms w1 HN.out (HR.out.below HB1.out) hnm).mono ?_
  rintro e w2 ⟨rfl, rfl⟩
  cases hf : fewB ms 16 with
  | false =>
    go_wp2_with fail
    go_ret
    exact ⟨rfl, HB1.out⟩
  | true =>
    obtain ⟨_, hn16⟩ := fewB_of hf
    rw [HN.out] at hn16
    clear hf
    go_wp2_with fail
    refine (own_new 6 (by omega) (by omega) HB1.out).mono ?_
    rintro e w2 ⟨g, rfl, h2⟩
    have H2 : Hid (Own w g (runs (newD 6) (ms.take 0)) w2) := h2
    clear h2 HB1
    go_wp2_with fail
    go_loopw [5] (fun i wr => ∃ k : Nat, k ≤ n ∧ i = .int .i64 k ∧ Own w g (runs (newD 6) (ms.take k)) wr) (fun i _ => n - (intOf i).toNat)
    case atStart => exact ⟨0, by omega, rfl, H2.out⟩
    case round =>
      obtain ⟨k, hk, rfl, ho⟩ := hrel
      have HO := Lib.hid ho
      clear ho
      have j0 : (0 : Int) ≤ (k : Int) := by omega
      by_cases hlt : k < n
      · have j1 : (k : Int) < (n : Int) := by omega
        have hkl : k < ms.length := by have := HN.out; omega
        obtain ⟨b, off, rfl, _, x0, x1, x2, x3, x4⟩ := (HR.out.below HO.out.b).cells k hkl
        have HE := Lib.hid (runs_snoc (newD 6) ms k hkl)
        have hpl := runs_p (newD 6) (ms.take k)
        have hp1 : (runs (newD 6) (ms.take k)).p.length ≤ 1000 := by
          have : (ms.take k).length ≤ k := List.length_take_le _ _
          have h0 : (newD 6).p.length = 0 := rfl
          omega
        have HS := Lib.hid (own_step HO.out ms[k] (HR.out.ok _ (List.getElem_mem hkl)) hp1)
        unfold Cm.val at HS
        obtain ⟨m, HM⟩ : ∃ x, Hid (ms[k] = x) := ⟨ms[k], rfl⟩
        rw [HM.out] at HE HS x0 x1 x2 x3 x4
        clear hpl hp1
        generalize runs (newD 6) (ms.take k) = D at *
        generalize hD1 : stD D m.c = D1 at *
        clear hD1
        generalize m.c.sv.length = sl at *
        go_wp2_with fail
        refine HS.out.mono ?_
        rintro e w3 ⟨X, nn, cx, rfl, _, _, _, h3⟩
        have H3 : Hid (Own w g (runs (newD 6) (ms.take (k + 1))) w3) := by rw [HE.out]; exact h3
        clear h3 x0 x1 x2 x3 x4
        go_wp2_with fail
        go_roundw
        case rel => exact ⟨k + 1, by omega, by go_num, H3.out⟩
        case measure => simp [intOf]; omega
      · have hp1 : (runs (newD 6) (ms.take k)).p.length ≤ 16 := by
          have h1 := runs_p (newD 6) (ms.take k)
          have : (ms.take k).length ≤ k := List.length_take_le _ _
          have h0 : (newD 6).p.length = 0 := rfl
          omega
        have hn6 : (runs (newD 6) (ms.take k)).n = 6 := runs_n _ _
        generalize runs (newD 6) (ms.take k) = D at *
        go_wp2_with fail
        refine (own_fail HO.out (-1) (by omega)).mono ?_
        rintro e w3 ⟨rfl, h3⟩
        have HD3 : Hid ((failD D (-1)).p.length = D.p.length ∧ (failD D (-1)).n = 6 ∧ (failD D (-1)).f = -1) := ⟨rfl, hn6, rfl⟩
        have H3 := Lib.hid h3
        clear h3 HO
        rw [← HD3.out.1] at hp1
        generalize failD D (-1) = D3 at *
        clear hn6
        go_wp2_with fail
        obtain ⟨M, E, i3, hM, hbw3⟩ := H3.out
        have HI3 := Lib.hid i3
        have HM := Lib.hid hM
        have HBW3 := Lib.hid hbw3
        clear i3 hM hbw3
        refine (read_calls g M E D3 0 6 w3 HI3.out (by omega) (by omega)).mono ?_
        rintro e w4 ⟨X4, n4, c4, rfl, hn4, ho4, hb4⟩
        have HN4 := Lib.hid hn4
        have HO4 := Lib.hid ho4
        have HB4 := Lib.hid hb4
        have HR4 := Lib.hid (RB.of_own ho4)
        have HI := Lib.hid (HI3.out.below hb4)
        have HBW := Lib.hid (HBW3.out.trans (hb4.mono HBW3.out.size))
        have H4 : Hid (Own w g D3 w4) := ⟨M, E, HI.out, HM.out, HBW.out⟩
        clear hn4 ho4 hb4 H3
        obtain ⟨pn, HPN⟩ : ∃ x, Hid (D3.p.length = x) := ⟨_, rfl⟩
        rw [HPN.out] at hp1
        have HPE : Hid (∀ w', Below w4.heap.size w4 w' → Calls Try.prog 24 #[.pointer (some ⟨g, 0, none⟩)] w' fun e w'' => e = .returned (.int .i64 (pn : Int)) ∧ w' = w'') := by
          intro w' hb
          have := pending_calls g M E D3 w' (HI.out.below hb)
          rw [HPN.out] at this
          exact this
        have hre := readE_full D3 HD3.out.2.1
        have HFA := Lib.hid (own_failed H4.out)
        obtain ⟨b, HXB⟩ : ∃ b, Hid (D3.x = b) := ⟨_, rfl⟩
        rw [HXB.out] at hre HFA
        cases b
        all_goals
          rw [hre]
          clear hre
          simp only [Bool.false_eq_true, if_false, if_true]
          go_wp2_with (go_at_call 23; refine HFA.out.mono ?_; rintro e w' ⟨rfl, rfl⟩)
          have H6 : Hid ((w4.alloc (.cells #[] 3)).ownsRow w4.heap.size 3 1 (.slice (some ⟨w4.heap.size, 0, none⟩) 0 0) 0 ((List.replicate 0 (6 : Int)).map (Value.int .i64))) := own_empty _ _ _ _ rfl (Nat.le_refl _)
          have HB6 := Lib.hid (below1 w4 (.cells #[] 3))
          generalize w4.alloc (.cells #[] 3) = w6 at *
          go_loopw [9, 10] (fun v i wr => ∃ (k : Nat) (X : Option Addr) (c : Nat), k ≤ pn ∧ i = .int .i64 k ∧ v = .slice X k c ∧ wr.ownsRow w4.heap.size 3 1 (.slice X k c) k ((List.replicate k (6 : Int)).map (Value.int .i64)) ∧ Below w4.heap.size w4 wr) (fun _ i _ => pn - (intOf i).toNat)
          case atStart => exact ⟨0, _, _, by omega, rfl, rfl, H6.out, HB6.out⟩
          case round =>
            obtain ⟨k, X, c, hk2, rfl, rfl, ho, hb⟩ := hrel
            have HO := Lib.hid ho
            have HB := Lib.hid hb
            have HPR := Lib.hid (HPE.out _ hb)
            clear ho hb
            by_cases hlt2 : k < pn
            · have d1 : decide ((k : Int) < 20) = true := by simp; omega
              go_wp2_with (first | (go_at_call 24; refine HPR.out.mono ?_; rintro e w' ⟨rfl, rfl⟩) | (at_builtin; refine wpList_apps _ rfl (.tmp 64) (.tmp 65) 23 rfl w4.heap.size 3 (.int .i64 0) 8 Try.underlying23 info_int rfl (.slice X k c) k _ rfl (own_below HO.out (below1 _ _)) (some ⟨wr.heap.size, 0, none⟩) 1 1 [.int .i64 6] rfl rfl (Rd.one _ _ _) (by simp [Value.oneCell']) (by simp only [maxLen]; omega) (by omega) (Nat.le_trans HB.out.size (by simp)) ?_; intro X2 c2 w7 hown7 happ7; have HO7 := Lib.hid hown7; have HB7 := Lib.hid ((HB.out.trans ((below1 wr _).mono HB.out.size)).trans (happ7.below (own_below HO.out (below1 _ _)) (Nat.le_trans HB.out.size (by simp)))); clear hown7 happ7))
              have HG : Hid (w7.ownsRow w4.heap.size 3 1 (.slice X2 (k + 1) c2) (k + 1) ((List.replicate (k + 1) (6 : Int)).map (Value.int .i64))) := by
                have := HO7.out
                show World.ownsRow _ _ _ _ _ _ _
                rw [List.replicate_succ', List.map_append]; simpa using this
              go_roundw
              case rel => exact ⟨k + 1, X2, c2, by omega, by go_num, rfl, HG.out, HB7.out⟩
              case measure => simp [intOf]; omega
            · have HKP : Hid (k = pn) := by show _ = _; omega
              have HCR : Hid (Calls Try.prog 15 #[.pointer (some ⟨g, 0, none⟩), .slice X k c] wr fun e w' => e = .returned (.tuple #[]) ∧ Own w g { D3 with b := D3.all, p := [], f := -1, x := false } w' ∧ RB w' X4 (readL D3 0 6)) := by
                obtain ⟨_, _, e1, _, _, _, hrr⟩ := own_form HO.out
                cases e1
                have := crash_calls g M E D3 X k c (List.replicate k 6) wr (HI.out.below HB.out) (by simp) hrr (fun _ b off e hm => ?_)
                · rw [crash_all D3 HI.out.ok HD3.out.2.1 k (by rw [HPN.out, HKP.out]; exact Nat.le_refl _)] at this
                  refine this.mono fun _ _ ⟨a, b⟩ => ⟨a, Own.dk HM.out (HBW.out.trans (HB.out.mono HBW.out.size)) b, ?_⟩
                  obtain ⟨_, _, _, hcc, _, _⟩ := b
                  refine hcc.rd (Rd.below HR4.out HB.out) fun b off e hm => ?_
                  have h1 := (HO4.out.lt b (by rw [e]; rfl)).1
                  have h2 := HI3.out.ml b hm
                  omega
                · subst e
                  have h1 := (HO.out.lt b rfl).1
                  have h2 := HI.out.ml b hm
                  omega
              go_wp2_with (go_at_call 24; refine HPR.out.mono ?_; rintro e w' ⟨rfl, rfl⟩)
              refine HCR.out.mono ?_
              rintro e w9 ⟨rfl, h9, hr9⟩
              have HR9 := Lib.hid hr9
              have HW := Lib.hid (works D3 HD3.out.2.1)
              have HRL : Hid (readL { D3 with b := D3.all, p := [], f := -1, x := false } 0 6 = D3.all ∧ readE { D3 with b := D3.all, p := [], f := -1, x := false } 0 6 = 0 ∧ ({ D3 with b := D3.all, p := [], f := -1, x := false } : St).x = false ∧ ({ D3 with b := D3.all, p := [], f := -1, x := false } : St).p.length = 0) := by
                refine ⟨?_, ?_, rfl, rfl⟩
                · rw [readL_full _ h9.ok HD3.out.2.1 rfl]; rfl
                · exact (readE_full { D3 with b := D3.all, p := [], f := -1, x := false } HD3.out.2.1).trans rfl
              have H9 := Lib.hid h9
              clear h9 hr9
              generalize ({ D3 with b := D3.all, p := [], f := -1, x := false } : St) = D9 at *
              go_wp2_with fail
              refine (own_readB H9.out 0 6 (by omega) (by omega)).mono ?_
              rintro e w10 ⟨X10, n10, c10, rfl, hn10, o10, hb10, h10⟩
              have r10 := RB.of_own o10
              have HB10 := Lib.hid hb10
              clear o10 hb10
              rw [HRL.out.2.1]
              rw [HRL.out.1] at hn10 r10
              have HN10 := Lib.hid hn10
              have HR10 := Lib.hid r10
              have H10 := Lib.hid h10
              clear hn10 r10 h10
              go_wp2_with fail
              refine (own_failed H10.out).mono ?_
              rintro e w11 ⟨rfl, rfl⟩
              rw [HRL.out.2.2.1]
              go_wp2_with fail
              refine (own_pending H10.out).mono ?_
              rintro e w11 ⟨rfl, rfl⟩
              rw [HRL.out.2.2.2]
              have HSA : Hid (D3.x = false → Calls Try.prog 17 #[.slice X4 n4 c4, .slice X10 n10 c10] w10 fun e w' => e = .returned (.bool true) ∧ w10 = w') := by
                intro hx
                have := same_calls X4 X10 n4 n10 c4 c10 _ _ w10 HN4.out.symm HN10.out.symm (RB.below HR9.out HB10.out) HR10.out
                rw [readL_full D3 HI3.out.ok HD3.out.2.1 hx, show sameB D3.all D3.all = true by simp [sameB]] at this
                exact this
              have HWR := Lib.hid (own_write H10.out 0 none 0 0 [] rfl RB.nil (by omega) (by omega) (by omega) (by rw [HRL.out.2.2.2]; omega))
              rw [HW.out.1] at HWR
              have HSY := fun w' (h : Own w g (writeD D9 0 []) w') => Lib.hid (own_sync h)
              rw [HW.out.2] at HSY
              go_wp2_with (first | (go_at_call 17; refine (HSA.out HXB.out).mono ?_; rintro e w' ⟨rfl, rfl⟩) | (go_at_call 14; refine HWR.out.mono ?_; rintro e w12 ⟨rfl, h12⟩; have H12 := Lib.hid h12; clear h12) | (go_at_call 21; refine (HSY w12 H12.out).out.mono ?_; rintro e w13 ⟨rfl, h13⟩; have H13 := Lib.hid h13; clear h13))
              go_ret
              exact ⟨rfl, H13.out.b⟩
end Dk
end Go.Proofs.Ytoallpinpeolfaa
