/- The walk of the law JournalReopens. -/
import Derived.Test.YtmdpmpfjldgalaaMJoF
namespace Go.Proofs.Ytmdpmpfjldgalaa
open Go.RowKit
namespace Jn
open Dk Wi Wr

theorem readE_all {D : St} (hx : D.x = false) : readE D 0 (D.n : Int) = 0 := by
  unfold readE inB
  rw [hx]
  simp
section
variable {w0 w w' : World} {F : List Nat} {x g q q2 N : Nat} {D : St} {j j2 : Jr}
/-- what a read of the whole disk leaves -/
def AllP (D : St) (w : World) (e : Ending) (w' : World) : Prop := ∃ X n c, e = .returned (.tuple #[.slice X n c, .int .i64 0]) ∧ (readL D 0 (D.n : Int)).length = n ∧ RB w' X (readL D 0 (D.n : Int)) ∧ Below w.heap.size w w' ∧ ∀ y ∈ bl X, w.heap.size ≤ y ∧ y < w'.heap.size
theorem ownF_all (h : OwnF w0 F g D w) (hx : D.x = false) : Calls Try.prog 37 #[.pointer (some ⟨g, 0, none⟩), .int .i64 0, .int .i64 (D.n : Int)] w (AllP D w) := by
  refine (ownF_read h 0 (D.n : Int) (by omega) (by omega)).mono ?_
  rintro e w' ⟨X, n, c, rfl, h1, h2, h3, _⟩
  refine ⟨X, n, c, by rw [readE_all hx], h1.symm, RB.of_own h2, h3, fun y hy => ?_⟩
  obtain ⟨off, rfl⟩ := mem_bl hy
  exact own_cut (k := 0) (c' := c) h2 (by rw [cutA_zero])
theorem ownF_sectors (h : OwnF w0 F g D w) : Calls Try.prog 38 #[.pointer (some ⟨g, 0, none⟩)] w fun e w' => e = .returned (.int .i64 (D.n : Int)) ∧ w = w' := by
  obtain ⟨M, E, h1, _⟩ := h; exact sectors_calls g M E D w h1
theorem ownF_pending (h : OwnF w0 F g D w) : Calls Try.prog 39 #[.pointer (some ⟨g, 0, none⟩)] w fun e w' => e = .returned (.int .i64 (D.p.length : Int)) ∧ w = w' := by
  obtain ⟨M, E, h1, _⟩ := h; exact pending_calls g M E D w h1
theorem Two.own (h : Two w0 x g q q2 D j j2 w) : ∃ F, OwnF w0 F g D w := by obtain ⟨F, W, R, _, h1, _⟩ := h.o; exact ⟨F, h1.own⟩
end

set_option maxRecDepth 100000 in
set_option maxHeartbeats 8000000 in
theorem jreopens_law (w : World) (sb : UInt8) (A : Option Addr) (n ca : Nat) (ms : List Om) (hn : ms.length = n) (hr : RdO w A ms) (hnm : n ≤ 9223372036854775807) :
    Calls Try.prog 9 #[vb sb, .slice A n ca] w fun e w' => e = .returned (.bool true) ∧ Below w.heap.size w w' := by
  have HN := Lib.hid hn
  have HR := Lib.hid hr
  have HFEW := Lib.hid (ofew_calls A n ca 20 ms w hn hr hnm)
  rw [show ((20 : Nat) : Int) = 20 from rfl] at HFEW
  clear hn hr
  unfold vb
  go_enter Try.func9, Try.ntmps9
  go_wp2_with fail
  (with_reducible refine HFEW.out.mono ?_)
  rintro e w1 ⟨rfl, hb1⟩
  have HB1 := Lib.hid hb1
  have HAW := Lib.hid (oawake_calls w1)
  cases hf : fewO ms 20 with
  | false =>
    clear hb1 HFEW
    go_wp2_with fail
    (with_reducible refine HAW.out.mono ?_)
    rintro e w2 ⟨rfl, hb2⟩
    have HF := Lib.hid (HB1.out.trans (hb2.mono HB1.out.size))
    clear hb2
    go_wp2_with fail
    go_ret
    exact ⟨rfl, HF.out⟩
  | true =>
    obtain ⟨hall, hn20⟩ := fewO_of hf
    have HPC := Lib.hid (play_calls w1 sb A n ca ms HN.out (HR.out.below hb1) (fun m hm => (hall m hm).1) hnm)
    clear hf hall hb1 HFEW HAW
    go_wp2_with fail
    (with_reducible refine HPC.out.mono ?_)
    rintro e w2 ⟨x, N, hN2, hN41, rfl, hpb⟩
    obtain ⟨g, q, F, D, j, hpj, hp, hDn⟩ := hpb.pj
    have HPJ := Lib.hid hpj
    have HP := Lib.hid hp
    have hD : D.n ≤ 100 := hp.hn
    have hDx := hp.x
    clear hpb hpj hp HPC
    -- the first read
    obtain ⟨D0, HD0⟩ : ∃ y, Hid (failD D 0 = y) := ⟨_, rfl⟩
    have HL0 : Hid (readL D0 0 (D0.n : Int) = readL D 0 (D.n : Int)) := by rw [← HD0.out]; rfl
    obtain ⟨L, HL⟩ : ∃ y, Hid (readL D 0 (D.n : Int) = y) := ⟨_, rfl⟩
    obtain ⟨dn, HDN⟩ : ∃ y, Hid (D.n = y) := ⟨_, rfl⟩
    have c0 : ∀ u, Below w2.heap.size w2 u → u.cell? ⟨x, 0, none⟩ = some (.pointer (some ⟨g, 0, none⟩)) := fun u hu => (HPJ.out.below hu).c0
    have HSE : ∀ u, Below w2.heap.size w2 u → Hid (Calls Try.prog 38 #[.pointer (some ⟨g, 0, none⟩)] u fun e w' => e = .returned (.int .i64 (dn : Int)) ∧ Below w2.heap.size w2 w') := fun u hu => by
      have := ownF_sectors (HPJ.out.below hu).jo.own
      rw [HDN.out] at this
      exact this.mono fun _ _ ⟨a, b⟩ => ⟨a, b ▸ hu⟩
    have HRD : ∀ u, Below w2.heap.size w2 u → Hid (Calls Try.prog 37 #[.pointer (some ⟨g, 0, none⟩), .int .i64 0, .int .i64 (dn : Int)] u fun e w' => ∃ X n c, e = .returned (.tuple #[.slice X n c, .int .i64 0]) ∧ L.length = n ∧ RB w' X L ∧ Below w2.heap.size w2 w' ∧ ∀ y ∈ bl X, w2.heap.size ≤ y ∧ y < w'.heap.size) := fun u hu => by
      have := ownF_all (HPJ.out.below hu).jo.own hDx
      rw [← HDN.out]
      refine this.mono ?_
      rintro e w' ⟨X, n, c, rfl, h1, h2, h3, h4⟩
      rw [HL.out] at h1 h2
      exact ⟨X, n, c, rfl, h1, h2, hu.trans (h3.mono hu.size), fun y hy => ⟨Nat.le_trans hu.size (h4 y hy).1, (h4 y hy).2⟩⟩
    go_upto_region 6 with (fail)
    go_region_held3 (fun w' => Below w2.heap.size w2 w') (first | exact (Below.refl _ _).drew | assumption) (first | (go_at_call 38; (with_reducible refine (HSE _ (by assumption)).out.mono ?_); rintro e w3 ⟨rfl, hb3⟩) | (go_at_call 37; (with_reducible refine (HRD _ (by assumption)).out.mono ?_); rintro e w4 ⟨Y, n4, c4, rfl, hn4, hr4, hb4, hy4⟩; have HN4 := Lib.hid hn4; have HR4 := Lib.hid hr4; have HY4 := Lib.hid hy4; clear hn4 hr4 hy4))
    have HPJ4 := Lib.hid (HPJ.out.grow (F' := bl Y ++ F) hb4 (fun y hy => by
      rcases List.mem_append.1 hy with hy | hy
      · exact .inr (HY4.out y hy)
      · exact .inl hy) (by have := HPJ.out.xF; simp [this]))
    have HFA := Lib.hid (HPJ4.out.fail_calls 0 (by omega))
    have k0 := HPJ4.out.c0
    clear c0 HSE HRD hb3 hb4
    go_wp2_with fail
    (with_reducible refine HFA.out.mono ?_)
    rintro e w5 ⟨rfl, hp5, hk5⟩
    have HR5 := Lib.hid (hk5.rd HR4.out (fun _ b off e => by rw [e]; simp [bl]))
    have HLD := HP.out.load 0
    have hfe : failD D 0 = { D with f := 0 } := rfl
    rw [← hfe] at HLD
    have HC0 : Calm (failD D 0) := calm_fail HP.out.calm 0 (by omega)
    have HN0 : (failD D 0).n ≤ 100 := hD
    have HOP := hp5.open_calls HLD.1 HC0 HN0
    rw [HLD.2.1] at HOP
    rw [HD0.out] at HOP
    have HOPP := Lib.hid HOP
    have c5 := hp5.c0
    have hx0 : D0.x = false := by rw [← HD0.out]; exact hDx
    have HP0 : Hid (D0.p = []) := by rw [← HD0.out]; exact HP.out.p
    have hn0 : D0.n ≤ 100 := by rw [← HD0.out]; exact hD
    have HDN0 : Hid (D0.n = dn) := by rw [← HD0.out]; exact HDN.out
    clear HLD hfe HC0 HN0 HOP k0 HFA hp5 hk5
    go_wp2_with fail
    (with_reducible refine HOPP.out.mono ?_)
    rintro e w6 ⟨q2, rfl, htw, hk6⟩
    have HR6 := Lib.hid (hk6.rd HR5.out (fun _ b off e => by rw [e]; simp [bl]))
    have HT := Lib.hid htw
    have HBW : Hid (Below w.heap.size w w6) := HB1.out.trans (htw.b.mono HB1.out.size)
    clear htw hk6 c5 HOPP
    have c6 : ∀ u, Below w6.heap.size w6 u → u.cell? ⟨x, 0, none⟩ = some (.pointer (some ⟨g, 0, none⟩)) := fun u hu => (HT.out.below hu).c0
    have HSE : ∀ u, Below w6.heap.size w6 u → Hid (Calls Try.prog 38 #[.pointer (some ⟨g, 0, none⟩)] u fun e w' => e = .returned (.int .i64 (dn : Int)) ∧ Below w6.heap.size w6 w') := fun u hu => by
      obtain ⟨F6, ho⟩ := (HT.out.below hu).own
      have := ownF_sectors ho
      rw [HDN0.out] at this
      exact this.mono fun _ _ ⟨a, b⟩ => ⟨a, b ▸ hu⟩
    have HRD : ∀ u, Below w6.heap.size w6 u → Hid (Calls Try.prog 37 #[.pointer (some ⟨g, 0, none⟩), .int .i64 0, .int .i64 (dn : Int)] u fun e w' => ∃ X n c, e = .returned (.tuple #[.slice X n c, .int .i64 0]) ∧ L.length = n ∧ RB w' X L ∧ Below w6.heap.size w6 w') := fun u hu => by
      obtain ⟨F6, ho⟩ := (HT.out.below hu).own
      have := ownF_all ho hx0
      rw [← HDN0.out]
      refine this.mono ?_
      rintro e w' ⟨X, n, c, rfl, h1, h2, h3, _⟩
      rw [HL0.out, HL.out] at h1 h2
      exact ⟨X, n, c, rfl, h1, h2, hu.trans (h3.mono hu.size)⟩
    go_upto_region 9 with (fail)
    go_region_held3 (fun w' => Below w6.heap.size w6 w') (first | exact (Below.refl _ _).drew | assumption) (first | (go_at_call 38; (with_reducible refine (HSE _ (by assumption)).out.mono ?_); rintro e w7 ⟨rfl, hb7⟩) | (go_at_call 37; (with_reducible refine (HRD _ (by assumption)).out.mono ?_); rintro e w8 ⟨Y8, n8, c8, rfl, hn8, hr8, hb8⟩; have HN8 := Lib.hid hn8; have HR8 := Lib.hid hr8; clear hn8 hr8))
    have HT8 := Lib.hid (HT.out.below hb8)
    have HR68 := Lib.hid (HR6.out.below hb8)
    have HBW8 : Hid (Below w.heap.size w w8) := HBW.out.trans (hb8.mono HBW.out.size)
    clear c6 HSE HRD hb7 hb8
    have HS2 : ∀ u, Below w8.heap.size w8 u → Hid (Calls Try.prog 24 #[.pointer (some ⟨q2, 0, none⟩)] u fun e w' => ∃ v N, e = .returned v ∧ SmV w' N v j.t j.s j.rs ∧ Below u.heap.size u w') := fun u hu => (HT8.out.below hu).seen2 hn0
    have HS1 : ∀ u, Below w8.heap.size w8 u → Hid (Calls Try.prog 24 #[.pointer (some ⟨q, 0, none⟩)] u fun e w' => ∃ v N, e = .returned v ∧ SmV w' N v j.t j.s j.rs ∧ Below u.heap.size u w') := fun u hu => (HT8.out.below hu).seen1 hn0
    have HR2 : ∀ u, Below w8.heap.size w8 u → Hid (Calls Try.prog 25 #[.pointer (some ⟨q2, 0, none⟩)] u fun e w' => e = .returned (.int .i64 ((half D0 - j.e : Nat) : Int)) ∧ Below w8.heap.size w8 w') := fun u hu => ((HT8.out.below hu).room2 hn0).mono fun _ _ ⟨a, b⟩ => ⟨a, hu.trans (b.mono hu.size)⟩
    have HR1 : ∀ u, Below w8.heap.size w8 u → Hid (Calls Try.prog 25 #[.pointer (some ⟨q, 0, none⟩)] u fun e w' => e = .returned (.int .i64 ((half D0 - j.e : Nat) : Int)) ∧ Below w8.heap.size w8 w') := fun u hu => ((HT8.out.below hu).room1 hn0).mono fun _ _ ⟨a, b⟩ => ⟨a, hu.trans (b.mono hu.size)⟩
    have HSA : ∀ u v1 v2 N1 N2, Below w8.heap.size w8 u → SmV u N1 v1 j.t j.s j.rs → SmV u N2 v2 j.t j.s j.rs → Hid (Calls Try.prog 23 #[v1, v2] u fun e w' => e = .returned (.bool true) ∧ Below w8.heap.size w8 w') := fun u v1 v2 N1 N2 hu h1 h2 => by
      refine (rsame_calls v1 v2 N1 N2 j.t j.t j.s j.s j.rs j.rs u h1 h2 (HT8.out.rs hn0)).mono ?_
      rintro e w' ⟨rfl, b⟩
      exact ⟨by rw [sameJ_yes ⟨rfl, rfl, rfl⟩], hu.trans (b.mono hu.size)⟩
    have HPE : ∀ u, Below w8.heap.size w8 u → Hid (Calls Try.prog 39 #[.pointer (some ⟨g, 0, none⟩)] u fun e w' => e = .returned (.int .i64 0) ∧ Below w8.heap.size w8 w') := fun u hu => by
      obtain ⟨F6, ho⟩ := (HT8.out.below hu).own
      have := ownF_pending ho
      rw [HP0.out] at this
      exact this.mono fun _ _ ⟨a, b⟩ => ⟨a, b ▸ hu⟩
    have HAW8 : ∀ u, Below w8.heap.size w8 u → Hid (Calls Try.prog 11 #[] u fun e w' => e = .returned (.bool true) ∧ Below w8.heap.size w8 w') := fun u hu => (oawake_calls u).mono fun _ _ ⟨a, b⟩ => ⟨a, hu.trans (b.mono hu.size)⟩
    have b1 : ∀ u, Below w8.heap.size w8 u → u.cell? ⟨x, 1, none⟩ = some (.pointer (some ⟨q, 0, none⟩)) := fun u hu => (HT8.out.below hu).c1
    have b0 : ∀ u, Below w8.heap.size w8 u → u.cell? ⟨x, 0, none⟩ = some (.pointer (some ⟨g, 0, none⟩)) := fun u hu => (HT8.out.below hu).c0
    have z1 : ∀ u, Below w8.heap.size w8 u → (convert 29 9 (.slice Y n4 c4)).run Try.prog u = .ok (.string ⟨L.toArray⟩) u := fun u hu => run_str (P := Try.prog) (w := u) n4 c4 29 5 9 Try.underlying29 Try.underlying5 Try.underlying9 HN4.out (RB.below HR68.out hu)
    have z2 : ∀ u, Below w8.heap.size w8 u → (convert 29 9 (.slice Y8 n8 c8)).run Try.prog u = .ok (.string ⟨L.toArray⟩) u := fun u hu => run_str (P := Try.prog) (w := u) n8 c8 29 5 9 Try.underlying29 Try.underlying5 Try.underlying9 HN8.out (RB.below HR8.out hu)
    generalize half D0 - j.e = rm at *
    go_upto_region 10 with (fail)
    go_region_held3 (fun w' => Below w8.heap.size w8 w') (first | exact (Below.refl _ _).drew | assumption) (first | (go_at_call 24; (with_reducible refine (HS2 _ (by assumption)).out.mono ?_); rintro e w9 ⟨v5, N5, rfl, hv5, hb5'⟩; have hb9 : Below w8.heap.size w8 w9 := Below.trans (by assumption) (hb5'.mono (Below.size (by assumption))); have HV5 := Lib.hid hv5; clear hv5 hb5') | (go_at_call 24; (with_reducible refine (HS1 w9 hb9).out.mono ?_); rintro e w10 ⟨v6, N6, rfl, hv6, hb6'⟩; have hb10 : Below w8.heap.size w8 w10 := hb9.trans (hb6'.mono hb9.size); have HV6 := Lib.hid hv6; have HV56 := Lib.hid (HV5.out.below hb6'); clear hv6 hb6') | (go_at_call 23; (with_reducible refine (HSA w10 v5 v6 N5 N6 hb10 HV56.out HV6.out).out.mono ?_); rintro e w11 ⟨rfl, hb11⟩) | (go_at_call 25; (with_reducible refine (HR2 _ (by assumption)).out.mono ?_); rintro e w12 ⟨rfl, hb12⟩) | (go_at_call 25; (with_reducible refine (HR1 _ (by assumption)).out.mono ?_); rintro e w13 ⟨rfl, hb13⟩) | (go_at_call 39; (with_reducible refine (HPE _ (by assumption)).out.mono ?_); rintro e w14 ⟨rfl, hb14⟩) | (go_at_call 11; (with_reducible refine (HAW8 _ (by assumption)).out.mono ?_); rintro e w15 ⟨rfl, hb15⟩))
    have HF : Hid (Below w.heap.size w w15) := HBW8.out.trans (hb15.mono HBW8.out.size)
    go_wp2_with fail
    go_ret
    exact ⟨rfl, HF.out⟩
end Jn
end Go.Proofs.Ytmdpmpfjldgalaa
