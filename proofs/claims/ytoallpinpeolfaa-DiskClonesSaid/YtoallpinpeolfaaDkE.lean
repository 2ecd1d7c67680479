/- The walk of Disk.Read. -/
import Derived.Test.YtoallpinpeolfaaDkD
namespace Go.Proofs.Ytoallpinpeolfaa
open Go.RowKit
namespace Dk

theorem setB_stepP (b : List UInt8) (P : List Pm) (c : Nat → Pc → Nat) (k : Nat) (h : k < P.length) : setB b (P.map (·.q)) c (k + 1) = ap (setB b (P.map (·.q)) c k) P[k].q (c k P[k].q) := by
  rw [setB_step _ _ _ _ (by simpa using h)]; simp
/-- a write of the list, in memory -/
theorem pe_cells {w : World} {X : Option Addr} {cx : Nat} {P : List Pm} (h : w.ownsRow 0 74 2 (.slice X P.length cx) P.length (pcells P)) (k : Nat) (hk : k < P.length) :
    ∃ b, X = some ⟨b, 0, none⟩ ∧ w.cell? ⟨b, k * 2, none⟩ = some (.int .i64 (P[k].q.s : Int)) ∧ w.cell? ⟨b, k * 2 + 1, none⟩ = some (.slice P[k].a P[k].q.d.length P[k].c) := by
  obtain ⟨_, _, e, _, _, _, hr⟩ := own_formS h
  cases e
  rcases h.2 with ⟨_, h0⟩ | ⟨g, cap, cur, e, _, hh, _⟩
  · omega
  · cases e
    refine ⟨g, rfl, ?_, ?_⟩
    · obtain ⟨_, _, e, hc⟩ := hr (k * 2) _ (pcells_get P k 0 hk (by omega))
      cases e; simpa using hc
    · obtain ⟨_, _, e, hc⟩ := hr (k * 2 + 1) _ (pcells_get P k 1 hk (by omega))
      cases e; simpa using hc

/-- what Read leaves -/
def ReadP (D : St) (s k : Int) (w : World) (e : Ending) (w' : World) : Prop :=
  ∃ X n c, e = .returned (.tuple #[.slice X n c, .int .i64 (readE D s k)]) ∧ n = (readL D s k).length ∧ w'.ownsRow w.heap.size 5 1 (.slice X n c) n ((readL D s k).map vb) ∧ Below w.heap.size w w'

set_option maxRecDepth 100000 in
set_option maxHeartbeats 2000000 in
theorem read_calls (g : Nat) (M E : List Nat) (D : St) (s k : Int) (w : World) (h : IsD w g M E D) (hs : -9223372036854775808 ≤ s) (hs2 : s ≤ 9223372036854775807) :
    Calls Try.prog 16 #[.pointer (some ⟨g, 0, none⟩), .int .i64 s, .int .i64 k] w (ReadP D s k w) := by
  have HIN := Lib.hid (inside_calls g M E D s k w h hs hs2)
  obtain ⟨A, ca, X, cx, P, h⟩ := h
  have c0 := h.cell0
  have c1 := h.cell1
  have c3 := h.cell3
  have HI := Lib.hid h
  cases hx : D.x with
  | true =>
    have HF : Hid (ReadP D s k w (.returned (.tuple #[.slice none 0 0, .int .i64 10])) w) := by
      have e1 : readE D s k = 10 := by unfold readE; rw [hx]; rfl
      have e2 : readL D s k = [] := by unfold readL; rw [hx]; rfl
      unfold Hid ReadP
      rw [e1, e2]
      exact ⟨none, 0, 0, rfl, rfl, ⟨rfl, .inl ⟨rfl, rfl⟩⟩, Below.refl _ _⟩
    rw [hx] at c3
    clear h hx
    go_enter Try.func16, Try.ntmps16
    go_wp2_with fail
    go_ret2
    exact HF.out
  | false =>
    rw [hx] at c3
    have HX := Lib.hid hx
    clear hx
    cases hi : inB D.n s k with
    | false =>
      have HF : Hid (ReadP D s k w (.returned (.tuple #[.slice none 0 0, .int .i64 2])) w) := by
        have e1 : readE D s k = 2 := by unfold readE; rw [HX.out, hi]; rfl
        have e2 : readL D s k = [] := by unfold readL; rw [HX.out, hi]; rfl
        unfold Hid ReadP
        rw [e1, e2]
        exact ⟨none, 0, 0, rfl, rfl, ⟨rfl, .inl ⟨rfl, rfl⟩⟩, Below.refl _ _⟩
      rw [hi] at HIN
      clear h hi
      go_enter Try.func16, Try.ntmps16
      go_wp2_with (go_at_call 32; refine HIN.out.mono ?_; rintro e w' ⟨rfl, rfl⟩)
      go_ret2
      exact HF.out
    | true =>
      obtain ⟨b1, b2, b3, b4⟩ := inB_of hi
      rw [hi] at HIN
      have hE : Hid (readE D s k = 0 ∧ readL D s k = (D.all.drop (64 * s.toNat)).take (64 * k.toNat)) := by
        constructor
        · unfold readE; rw [HX.out, hi]; rfl
        · unfold readL; rw [HX.out, hi]; rfl
      have hal := h.ok.all
      have hdb := h.ok.b
      have hn := h.ok.n2
      have hp := h.ok.p
      have HAL := Lib.hid hal
      have HP := Lib.hid hp
      obtain ⟨_, _, e1, hnc, hcm, _, hrd⟩ := own_form h.du
      cases e1
      have HPP : Hid (D.all = setB D.b (P.map (·.q)) cAll P.length) := by show _ = _; unfold St.all; rw [h.pd]; simp
      have HCL := Lib.hid (cloneB_calls A (64 * D.n) ca D.b w hdb hrd (by omega))
      obtain ⟨si, rfl⟩ : ∃ si : Nat, s = si := ⟨s.toNat, by omega⟩
      obtain ⟨ki, rfl⟩ : ∃ ki : Nat, k = ki := ⟨k.toNat, by omega⟩
      have HBL := Lib.hid hdb
      have HPD := Lib.hid h.pd
      obtain ⟨_, _, e1, _, hcxm, _, _⟩ := own_formS h.pe
      cases e1
      have hPl : P.length ≤ cx := by have := h.pe; obtain ⟨_, _, e1, h1, _, _, _⟩ := own_formS this; cases e1; exact h1
      unfold maxLen at hcxm hcm
      clear h hi hdb hp hal hrd
      go_enter Try.func16, Try.ntmps16
      go_wp2_with (go_at_call 32; refine HIN.out.mono ?_; rintro e w' ⟨rfl, rfl⟩)
      refine HCL.out.mono ?_
      rintro e w1 ⟨Y, cy, rfl, ho1, hb1⟩
      rw [HBL.out] at ho1 ⊢
      obtain ⟨N, hN⟩ : ∃ N, N = 64 * D.n := ⟨_, rfl⟩
      have HI1 := Lib.hid (HI.out.below hb1)
      have HO1 : Hid (w1.ownsRow w.heap.size 5 1 (.slice Y (64 * D.n) cy) (64 * D.n) ((setB D.b (P.map (·.q)) cAll 0).map vb)) := ho1
      have HB1 := Lib.hid hb1
      have c11 := HI1.out.cell1
      clear ho1 hb1 hN c0 c1 c3 HIN HCL
      go_wp2_with fail
      obtain ⟨pl, HPL⟩ : ∃ x, Hid (P.length = x) := ⟨_, rfl⟩
      rw [HPL.out] at hPl ⊢
      clear c11
      go_loopw [32] (fun i wr => ∃ j : Nat, j ≤ pl ∧ i = .int .i64 j ∧ wr.ownsRow w.heap.size 5 1 (.slice Y (64 * D.n) cy) (64 * D.n) ((setB D.b (P.map (·.q)) cAll j).map vb) ∧ Below w.heap.size w wr) (fun i _ => pl - (intOf i).toNat)
      case atStart => exact ⟨0, Nat.zero_le _, rfl, HO1.out, HB1.out⟩
      case round =>
        obtain ⟨j, hj, rfl, hor, hbr⟩ := hrel
        have HO := Lib.hid hor
        have HB := Lib.hid hbr
        have HIr := Lib.hid (HI.out.below hbr)
        clear hor hbr
        have j0 : (0 : Int) ≤ (j : Int) := by omega
        by_cases hlt : j < pl
        · have j1 : (j : Int) < (pl : Int) := by omega
          have hjP : j < P.length := by have := HPL.out; omega
          have HST := Lib.hid (setB_stepP D.b P cAll j hjP)
          obtain ⟨bb, rfl, x0, x1⟩ := pe_cells HIr.out.pe j hjP
          obtain ⟨r1, r2, _, _⟩ := HIr.out.pr P[j] (List.getElem_mem hjP)
          have hqo : P[j].q.ok D.n := HP.out _ (by rw [HPD.out]; exact List.mem_map.2 ⟨_, List.getElem_mem hjP, rfl⟩)
          obtain ⟨m, HM⟩ : ∃ x, Hid (P[j] = x) := ⟨P[j], rfl⟩
          rw [HM.out] at HST x0 x1 r1 r2 hqo
          have HAP : ∀ w', Below wr.heap.size wr w' → Hid (Calls Try.prog 37 #[.agg #[.int .i64 (m.q.s : Int), .slice m.a m.q.d.length m.c], .slice Y (64 * D.n) cy, .int .i64 (m.q.k : Int)] w' (ApP w' w.heap.size Y cy (64 * D.n) (ap (setB D.b (P.map (·.q)) cAll j) m.q (clamp (m.q.k : Int) m.q.k)))) := fun w' hb =>
            Lib.hid (apply_calls w.heap.size D.n Y cy _ m (m.q.k : Int) w' (own_below HO.out hb) hn hqo (RB.below r1 hb) r2)
          rw [clamp_self] at HAP
          have hq : (m.q.d.length : Int) / 64 = (m.q.k : Int) := by have := hqo.1; omega
          have hql : m.q.d.length ≤ 4194304 := by have := hqo.1; have := hqo.2; omega
          have HOK := Lib.hid hqo
          obtain ⟨b, HBB⟩ : ∃ x, Hid (setB D.b (P.map (·.q)) cAll j = x) := ⟨_, rfl⟩
          rw [HBB.out] at HAP HST HO
          have HST2 : Hid (setB D.b (P.map (·.q)) cAll (j + 1) = ap b m.q m.q.k) := HST.out
          clear hqo r1 r2 HST
          generalize m.q.k = kk at *
          generalize m.q.d.length = dl at *
          generalize m.q.s = ms at *
          generalize m.a = ma at *
          generalize m.c = mc at *
          go_wp2_with fail
          refine (HAP _ (below1 _ _)).out.mono ?_
          rintro e w9 ⟨rfl, ho9, hc9⟩
          have HO9 : Hid (w9.ownsRow w.heap.size 5 1 (.slice Y (64 * D.n) cy) (64 * D.n) ((setB D.b (P.map (·.q)) cAll (j + 1)).map vb)) := by rw [HST2.out]; exact ho9
          have hb9 : Below w.heap.size w w9 := by
            have h1 := (Chg.of_below (below1 wr (.cells #[.int .i64 (ms : Int), .slice ma dl mc] 74)) (Value.slice Y (64 * D.n) cy).ownBlock.toList).trans' (hc9 _ (fun b hb => by simpa using hb))
            exact HB.out.trans (h1.below HB.out.size (fun x hx => (World.ownsRow.lt HO.out x (by simpa using hx)).1))
          have HB9 := Lib.hid hb9
          clear ho9 hc9 hb9 HAP hq x0 x1 HST2 HO
          go_wp2_with fail
          go_roundw
          case rel => exact ⟨j + 1, by omega, by go_num, HO9.out, HB9.out⟩
          case measure => simp [intOf]; omega
        · have HJ : Hid (j = P.length) := by show _ = _; have := HPL.out; omega
          rw [HJ.out, ← HPP.out] at HO
          obtain ⟨_, _, e1, hny, hcy, _, hrY⟩ := own_form HO.out
          cases e1
          unfold maxLen at hcy
          obtain ⟨lo, hlo⟩ : ∃ lo : Nat, lo = 64 * si := ⟨_, rfl⟩
          obtain ⟨hi, hhi⟩ : ∃ hi : Nat, hi = 64 * (si + ki) := ⟨_, rfl⟩
          have el : (si : Int) * 64 = (lo : Int) := by omega
          have eh : ((si : Int) + (ki : Int)) * 64 = (hi : Int) := by omega
          have hlh : lo ≤ hi := by omega
          have hhN : hi ≤ 64 * D.n := by omega
          have hcut : ∀ w', (Instr.slice 30 (.slice Y (64 * D.n) cy) (some (.int .i64 (lo : Int))) (some (.int .i64 (hi : Int))) none).run Try.prog w' = .ok (.slice (cutA Y lo cy) (hi - lo) (cy - lo)) w' := fun w' => run_cut_lh Try.underlying30 (by kernel_rfl) size_u8 Y (64 * D.n) cy lo hi hlh (by omega) w'
          have HLL : Hid (readL D si ki = (D.all.drop lo).take (hi - lo)) := by
            rw [hE.out.2]; show _ = _; rw [hlo, hhi]; congr 1
            · omega
          have hl2 : ((D.all.drop lo).take (hi - lo)).length = hi - lo := by have := HAL.out; rw [List.length_take, List.length_drop]; omega
          have HCL := Lib.hid (cloneB_calls (cutA Y lo cy) (hi - lo) (cy - lo) ((D.all.drop lo).take (hi - lo)) wr hl2 (RB.take (RB.cut hrY lo cy (by have := HAL.out; omega)) _) (by omega))
          have HL2 := Lib.hid hl2
          have HRE := Lib.hid hE.out.1
          clear hl2 hlo hhi hrY
          generalize hi - lo = len at *
          go_wp2_with fail
          refine HCL.out.mono ?_
          rintro e w9 ⟨Z, cz, rfl, ho9, hb9⟩
          have HF : Hid (ReadP D si ki w (.returned (.tuple #[.slice Z len cz, .int .i64 0])) w9) := by
            unfold Hid ReadP
            rw [HRE.out, HLL.out]
            rw [HL2.out] at ho9
            exact ⟨Z, len, cz, rfl, HL2.out.symm, own_base ho9 HB.out.size, HB.out.trans (hb9.mono HB.out.size)⟩
          rw [HL2.out]
          clear ho9 hb9 el eh
          go_wp2_with fail
          go_ret2
          exact HF.out
end Dk
end Go.Proofs.Ytoallpinpeolfaa
