/- The walks of refmeshref19: Contents, Read. -/
import Derived.Test.YtoallpinpeolfaaDkV
namespace Go.Proofs.Ytoallpinpeolfaa
open Go.RowKit
namespace Dk

/-- the contents: a slice that is old or new -/
def ConP (w : World) (N0 : List Nat) (l : List UInt8) (e : Ending) (w' : World) : Prop :=
  ∃ Y cy, e = .returned (.slice Y l.length cy) ∧ RB w' Y l ∧ l.length ≤ cy ∧ cy ≤ maxLen ∧ Below w.heap.size w w' ∧ ∀ b off, Y = some ⟨b, off, none⟩ → (b ∈ N0 ∨ w.heap.size ≤ b) ∧ b < w'.heap.size

set_option maxRecDepth 100000 in
set_option maxHeartbeats 2000000 in
theorem rcontents_calls (v : Value) (N0 : List Nat) (D : St) (w : World) (h : IsK w N0 v D) : Calls Try.prog 41 #[v] w (ConP w N0 D.all) := by
  obtain ⟨A, ca, X, cx, P, rfl, h⟩ := h
  have HI := Lib.hid h
  have hok := h.ok
  have hn := hok.n2
  have hc1 := h.c1
  have hc2 := h.c2
  have hc3 := h.c3
  have hc4 := h.c4
  have HC2 := Lib.hid hc2
  unfold maxLen at hc2 hc4
  have HPP : Hid (D.all = setB D.b (P.map (·.q)) cAll P.length) := by show _ = _; unfold St.all; rw [h.pd]; simp
  have HAL := Lib.hid hok.all
  have HPO := Lib.hid hok.p
  have HPD := Lib.hid h.pd
  have HSL : Hid (∀ k, (setB D.b (P.map (·.q)) cAll k).length = 64 * D.n) := by
    intro k
    rw [← HPD.out]
    exact setB_len _ _ _ _ _ hok.b hok.p
  have H0 : Hid (setB D.b (P.map (·.q)) cAll 0 = D.b) := rfl
  clear h hok
  unfold kval
  obtain ⟨pl, HPL⟩ : ∃ x, Hid (P.length = x) := ⟨_, rfl⟩
  rw [HPL.out] at hc3 ⊢
  go_enter Try.func41, Try.ntmps41
  go_upto_region 1 with (fail)
  have hk1 := heap_alloc_new w (.cells #[.slice A (64 * D.n) ca, .slice X pl cx, .bool D.x, .int .i64 D.f] 33)
  have hb1 := below1 w (.cells #[.slice A (64 * D.n) ca, .slice X pl cx, .bool D.x, .int .i64 D.f] 33)
  generalize w.alloc (.cells #[.slice A (64 * D.n) ca, .slice X pl cx, .bool D.x, .int .i64 D.f] 33) = w1 at *
  have HK1 := Lib.hid hk1
  have HB1 := Lib.hid hb1
  have hs1 : w.heap.size < w1.heap.size := (Array.getElem?_eq_some_iff.1 hk1).1
  have y0 : w1.cell? ⟨w.heap.size, 0, none⟩ = some (.slice A (64 * D.n) ca) := (cell_of_row _ _ 0 _ _ _ hk1).trans rfl
  clear hk1 hb1
  go_wp2_with fail
  clear y0
  go_loopw [3, 4] (fun v i wr => ∃ (k : Nat) (Y : Option Addr) (cy : Nat), k ≤ pl ∧ i = .int .i64 k ∧ v = .slice Y (64 * D.n) cy ∧ RB wr Y (setB D.b (P.map (·.q)) cAll k) ∧ 64 * D.n ≤ cy ∧ cy ≤ maxLen ∧ Below w1.heap.size w1 wr ∧ ∀ b off, Y = some ⟨b, off, none⟩ → (b ∈ N0 ∨ w.heap.size ≤ b) ∧ b < wr.heap.size) (fun _ i _ => pl - (intOf i).toNat)
  case atStart => exact ⟨0, A, ca, by omega, rfl, rfl, by rw [H0.out]; exact RB.below HI.out.du HB1.out, hc1, HC2.out, Below.refl _ _, fun b off e => ⟨.inl (HI.out.na b off e), by have := HI.out.nl b (HI.out.na b off e); omega⟩⟩
  case round =>
    obtain ⟨k, Y, cy, hk, rfl, rfl, hrb, hcy, hcm, hb, hY⟩ := hrel
    have HRB := Lib.hid hrb
    have HCM := Lib.hid hcm
    have HB := Lib.hid hb
    have HY := Lib.hid hY
    have hKr : wr.heap[w.heap.size]? = some (.cells #[.slice A (64 * D.n) ca, .slice X pl cx, .bool D.x, .int .i64 D.f] 33 (0, 0)) := (hb.block _ hs1).trans HK1.out
    have HKR := Lib.hid hKr
    have hsr : w.heap.size < wr.heap.size := (Array.getElem?_eq_some_iff.1 hKr).1
    have hwr := HB1.out.trans (hb.mono HB1.out.size)
    have HWR := Lib.hid hwr
    have p1 : wr.cell? ⟨w.heap.size, 1, none⟩ = some (.slice X pl cx) := (cell_of_row _ _ 1 _ _ _ hKr).trans rfl
    clear hrb hb hY hKr hwr
    have j0 : (0 : Int) ≤ (k : Int) := by omega
    by_cases hlt : k < pl
    · have j1 : (k : Int) < (pl : Int) := by omega
      have hkP : k < P.length := by have := HPL.out; omega
      have HST := Lib.hid (setB_stepP D.b P cAll k hkP)
      have hRd := HI.out.pe
      obtain ⟨b2, o2, rfl, x0⟩ := hRd (k * 2) _ (pcells_get P k 0 hkP (by omega))
      obtain ⟨b2', o2', e', x1⟩ := hRd (k * 2 + 1) _ (pcells_get P k 1 hkP (by omega))
      cases e'
      rw [← Nat.add_assoc] at x1
      obtain ⟨hm1, hm2, _⟩ := HI.out.pr P[k] (List.getElem_mem hkP)
      have hqo : P[k].q.ok D.n := HPO.out _ (by rw [HPD.out]; exact List.mem_map.2 ⟨_, List.getElem_mem hkP, rfl⟩)
      obtain ⟨m, HM⟩ : ∃ x, Hid (P[k] = x) := ⟨P[k], rfl⟩
      rw [HM.out] at HST x0 x1 hm1 hm2 hqo
      have hb2l : b2 < w.heap.size := block_lt_of_cell x0
      have z0 : ∀ w', Below wr.heap.size wr w' → w'.cell? ⟨b2, o2 + k * 2, none⟩ = some (.int .i64 (m.q.s : Int)) := fun w' h => ((HWR.out.trans (h.mono HWR.out.size)).cell (p := ⟨b2, o2 + k * 2, none⟩) hb2l).trans x0
      have z1 : ∀ w', Below wr.heap.size wr w' → w'.cell? ⟨b2, o2 + k * 2 + 1, none⟩ = some (.slice m.a m.q.d.length m.c) := fun w' h => ((HWR.out.trans (h.mono HWR.out.size)).cell (p := ⟨b2, o2 + k * 2 + 1, none⟩) hb2l).trans x1
      have z2 : ∀ w', Below wr.heap.size wr w' → w'.cell? ⟨w.heap.size, 1, none⟩ = some (.slice (some ⟨b2, o2, none⟩) pl cx) := fun w' h => (h.cell (p := ⟨w.heap.size, 1, none⟩) hsr).trans p1
      have HAP : ∀ w', Below wr.heap.size wr w' → Hid (Calls Try.prog 46 #[.slice Y (64 * D.n) cy, .agg #[.int .i64 (m.q.s : Int), .slice m.a m.q.d.length m.c], .int .i64 (m.q.k : Int)] w' fun e w'' => NewL w' (setB D.b (P.map (·.q)) cAll (k + 1)) e w'' ∧ Below wr.heap.size wr w'') := fun w' hb' => by
        have h1 := rapply_calls D.n Y cy _ m m.q.k w' (RB.below HRB.out hb') (HSL.out k) hn hqo (RB.below hm1 (HWR.out.trans (hb'.mono HWR.out.size))) (by have := hqo.2; omega)
        rw [show ap (setB D.b (P.map (·.q)) cAll k) m.q m.q.k = setB D.b (P.map (·.q)) cAll (k + 1) from HST.out.symm] at h1
        refine h1.mono fun e w'' h => ⟨h, ?_⟩
        obtain ⟨_, _, _, _, hb⟩ := h
        exact hb'.trans (hb.mono hb'.size)
      have hq : (m.q.d.length : Int) / 64 = (m.q.k : Int) := by have := hqo.1; omega
      have hqt : Int.tdiv (m.q.d.length : Int) 64 = (m.q.k : Int) := by rw [Int.tdiv_eq_ediv_of_nonneg (by omega)]; exact hq
      have hqk : m.q.k ≤ 65536 := by have := hqo.2; omega
      have hqw : IntKind.i64.wrap (m.q.k : Int) = (m.q.k : Int) := by rw [IntKind.wrap_i64]; omega
      have hql : m.q.d.length ≤ 4194304 := by have := hqo.1; omega
      clear hm1 hm2 hqo x0 x1 hRd HST
      generalize m.q.d.length = dl at *
      generalize m.q.k = kk at *
      generalize m.q.s = ms at *
      generalize m.a = ma at *
      generalize m.c = mc at *
      go_wp2_with fail
      clear p1
      go_region_held3 (fun w' => Below wr.heap.size wr w') (first | exact below_drew _ | assumption) (first | (go_at_call 46; refine (HAP wr.drew (below_drew _)).out.mono ?_; rintro e w5 ⟨⟨Y5, c5, rfl, ho5, hb5⟩, hs5⟩))
      have hl5 := HSL.out (k + 1)
      rw [hl5] at ho5 ⊢
      obtain ⟨_, _, e5, hn5, hm5, _, hr5⟩ := own_form ho5
      cases e5
      have HR5 := Lib.hid hr5
      have HM5 := Lib.hid hm5
      have HB5 := Lib.hid (HB.out.trans (hs5.mono HB.out.size))
      have HO5 : Hid (∀ b off, Y5 = some ⟨b, off, none⟩ → (b ∈ N0 ∨ w.heap.size ≤ b) ∧ b < w5.heap.size) := by
        intro b off e
        subst e
        have := ho5.lt b rfl
        have h3 := HWR.out.size
        have h4 : wr.drew.heap.size = wr.heap.size := rfl
        exact ⟨.inr (by omega), this.2⟩
      clear ho5 hb5 hs5 hl5 hr5 hm5 z0 z1 z2 HAP hq hqt hqw
      go_wp2_with fail
      go_roundw
      case rel => exact ⟨k + 1, Y5, c5, by omega, by go_num, rfl, HR5.out, hn5, HM5.out, HB5.out, HO5.out⟩
      case measure => simp [intOf]; omega
    · have HK : Hid (k = P.length) := by show _ = _; have := HPL.out; omega
      have HF : Hid (ConP w N0 D.all (.returned (.slice Y (64 * D.n) cy)) wr) := by
        have hr := HRB.out
        rw [HK.out, ← HPP.out] at hr
        exact ⟨Y, cy, by rw [HAL.out], hr, by rw [HAL.out]; exact hcy, HCM.out, HWR.out, HY.out⟩
      go_wp2_with fail
      go_ret
      exact HF.out

/-- what the reference's Read leaves -/
def RReadP (N0 : List Nat) (D : St) (s k : Int) (w : World) (e : Ending) (w' : World) : Prop :=
  ∃ X n c, e = .returned (.tuple #[.slice X n c, .int .i64 (readE D s k)]) ∧ n = (readL D s k).length ∧ RB w' X (readL D s k) ∧ n ≤ c ∧ c ≤ maxLen ∧ Below w.heap.size w w' ∧ ∀ (S : List Nat) (w'' : World), (∀ x ∈ S, x ∉ N0 ∧ x < w.heap.size) → Chg S w' w'' → RB w'' X (readL D s k)
set_option maxRecDepth 100000 in
set_option maxHeartbeats 2000000 in
theorem rread_calls (v : Value) (N0 : List Nat) (D : St) (s k : Int) (w : World) (h : IsK w N0 v D) (hs : -9223372036854775808 ≤ s) (hs2 : s ≤ 9223372036854775807) :
    Calls Try.prog 45 #[v, .int .i64 s, .int .i64 k] w (RReadP N0 D s k w) := by
  have HK0 := Lib.hid h
  obtain ⟨A, ca, X, cx, P, rfl, h⟩ := h
  have hok := h.ok
  have hn := hok.n2
  have HAL := Lib.hid hok.all
  have hb1 := below1 w (.cells #[.slice A (64 * D.n) ca, .slice X P.length cx, .bool D.x, .int .i64 D.f] 33)
  have hk1 := heap_alloc_new w (.cells #[.slice A (64 * D.n) ca, .slice X P.length cx, .bool D.x, .int .i64 D.f] 33)
  have HIN := Lib.hid (rinside_calls _ N0 D s k _ (HK0.out.below hb1) hs hs2)
  have HCO := Lib.hid (fun w' (hb : Below w.heap.size w w') => rcontents_calls _ N0 D w' (HK0.out.below hb))
  have HB1 := Lib.hid hb1
  have HK1 := Lib.hid hk1
  clear h hok hb1 hk1
  unfold kval at HIN HCO ⊢
  obtain ⟨pl, HPL⟩ : ∃ x, Hid (P.length = x) := ⟨_, rfl⟩
  obtain ⟨N, HNN⟩ : ∃ x, Hid (64 * D.n = x) := ⟨_, rfl⟩
  rw [HPL.out, HNN.out] at HIN HB1 HK1
  rw [HPL.out, HNN.out] at HCO ⊢
  rw [HNN.out] at HAL
  have hN9 : N ≤ 4194304 := by have := HNN.out; omega
  cases hx : D.x with
  | true =>
    have HF : Hid (RReadP N0 D s k w (.returned (.tuple #[.slice none 0 0, .int .i64 10])) (w.alloc (.cells #[.slice A N ca, .slice X pl cx, .bool D.x, .int .i64 D.f] 33))) := by
      have e1 : readE D s k = 10 := by unfold readE; rw [hx]; rfl
      have e2 : readL D s k = [] := by unfold readL; rw [hx]; rfl
      unfold Hid RReadP
      rw [e1, e2]
      exact ⟨none, 0, 0, rfl, rfl, RB.nil, Nat.le_refl _, by simp [maxLen], HB1.out, fun _ _ _ _ => RB.nil⟩
    rw [hx] at HF
    clear hx HIN HCO HK1 HB1
    go_enter Try.func45, Try.ntmps45
    go_wp2_with fail
    go_ret2
    exact HF.out
  | false =>
    rw [hx] at HIN HB1 HK1 HCO
    cases hi : inB D.n s k with
    | false =>
      have HF : Hid (∀ w', Below w.heap.size w w' → RReadP N0 D s k w (.returned (.tuple #[.slice none 0 0, .int .i64 2])) w') := by
        intro w' hb
        have e1 : readE D s k = 2 := by unfold readE; rw [hx, hi]; rfl
        have e2 : readL D s k = [] := by unfold readL; rw [hx, hi]; rfl
        unfold RReadP
        rw [e1, e2]
        exact ⟨none, 0, 0, rfl, rfl, RB.nil, Nat.le_refl _, by simp [maxLen], hb, fun _ _ _ _ => RB.nil⟩
      rw [hi] at HIN
      clear hx hi HCO
      go_enter Try.func45, Try.ntmps45
      go_wp2_with fail
      refine HIN.out.mono ?_
      rintro e w2 ⟨rfl, hb2⟩
      have HB2 := Lib.hid (HB1.out.trans (hb2.mono HB1.out.size))
      clear hb2
      go_wp2_with fail
      go_ret2
      exact HF.out _ HB2.out
    | true =>
      obtain ⟨b1, b2, b3, b4⟩ := inB_of hi
      obtain ⟨si, rfl⟩ : ∃ si : Nat, s = si := ⟨s.toNat, by omega⟩
      obtain ⟨ki, rfl⟩ : ∃ ki : Nat, k = ki := ⟨k.toNat, by omega⟩
      obtain ⟨lo, hlo⟩ : ∃ lo : Nat, lo = 64 * si := ⟨_, rfl⟩
      obtain ⟨hi', hhi⟩ : ∃ hi : Nat, hi = 64 * (si + ki) := ⟨_, rfl⟩
      have el : 64 * (si : Int) = (lo : Int) := by omega
      have eh : 64 * ((si : Int) + (ki : Int)) = (hi' : Int) := by omega
      have hlh : lo ≤ hi' := by omega
      have hhN : hi' ≤ N := by have := HNN.out; omega
      have HRE : Hid (readE D si ki = 0) := by show _ = _; unfold readE; rw [hx, hi]; rfl
      have HRL : Hid (readL D si ki = (D.all.drop lo).take (hi' - lo)) := by
        show _ = _
        unfold readL
        rw [hx, hi]
        simp only [Bool.false_eq_true, if_false]
        rw [if_neg (by simp), hlo, hhi]
        congr 1
        omega
      have hl2 : ((D.all.drop lo).take (hi' - lo)).length = hi' - lo := by have := HAL.out; rw [List.length_take, List.length_drop]; omega
      have HL2 := Lib.hid hl2
      rw [hi] at HIN
      clear hx hi hlo hhi hl2 b3 b4
      go_enter Try.func45, Try.ntmps45
      go_wp2_with fail
      refine HIN.out.mono ?_
      rintro e w2 ⟨rfl, hb2⟩
      have HB2 := Lib.hid (HB1.out.trans (hb2.mono HB1.out.size))
      have hk2 : w2.heap[w.heap.size]? = _ := (hb2.block _ (Array.getElem?_eq_some_iff.1 HK1.out).1).trans HK1.out
      have HKB2 := Lib.hid hk2
      have c0 : w2.cell? ⟨w.heap.size, 0, none⟩ = some _ := (cell_of_row _ _ 0 _ _ _ hk2).trans rfl
      have c1 : w2.cell? ⟨w.heap.size, 1, none⟩ = some _ := (cell_of_row _ _ 1 _ _ _ hk2).trans rfl
      have c2 : w2.cell? ⟨w.heap.size, 2, none⟩ = some _ := (cell_of_row _ _ 2 _ _ _ hk2).trans rfl
      have c3 : w2.cell? ⟨w.heap.size, 3, none⟩ = some _ := (cell_of_row _ _ 3 _ _ _ hk2).trans rfl
      clear hb2 hk2
      go_wp2_with fail
      refine (HCO.out w2 HB2.out).mono ?_
      rintro e w3 ⟨Y, cy, rfl, hr3, hl3, hm3, hb3, hy3⟩
      have HY3 := Lib.hid hy3
      rw [HAL.out] at hl3 ⊢
      have HR3 := Lib.hid hr3
      have HM3 := Lib.hid hm3
      have HB3 := Lib.hid (HB2.out.trans (hb3.mono HB2.out.size))
      unfold maxLen at hm3
      have hcut : ∀ w', (Instr.slice 30 (.slice Y N cy) (some (.int .i64 (lo : Int))) (some (.int .i64 (hi' : Int))) none).run Try.prog w' = .ok (.slice (cutA Y lo cy) (hi' - lo) (cy - lo)) w' := fun w' => run_cut_lh Try.underlying30 (by kernel_rfl) size_u8 Y N cy lo hi' hlh (by omega) w'
      have HF : Hid (RReadP N0 D si ki w (.returned (.tuple #[.slice (cutA Y lo cy) (hi' - lo) (cy - lo), .int .i64 0])) w3) := by
        unfold Hid RReadP
        rw [HRE.out, HRL.out]
        refine ⟨_, _, _, rfl, HL2.out.symm, RB.take (RB.cut HR3.out lo cy (by rw [HAL.out]; exact hl3)) _, by omega, by unfold maxLen; omega, HB3.out, fun S w'' hS hc => RB.take (RB.cut (hc.rd HR3.out fun b off e hb => ?_) lo cy (by rw [HAL.out]; exact hl3)) _⟩
        have h1 := hS b hb
        have h2 := HB2.out.size
        rcases (HY3.out b off e).1 with h | h
        · exact h1.1 h
        · omega
      generalize cutA Y lo cy = Xc at *
      generalize hi' - lo = len at *
      generalize cy - lo = cc at *
      clear hr3 hb3 hy3 c0 c1 c2 c3
      go_wp2_with fail
      go_ret2
      exact HF.out
end Dk
end Go.Proofs.Ytoallpinpeolfaa
