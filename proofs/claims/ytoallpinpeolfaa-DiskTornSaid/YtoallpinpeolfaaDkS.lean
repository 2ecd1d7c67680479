/- Torn writes: plain, and the walk of refmeshlaw19.last. -/
import Derived.Test.YtoallpinpeolfaaDkR
namespace Go.Proofs.Ytoallpinpeolfaa
open Go.RowKit
namespace Dk

/-- does a write cover a sector? -/
def covB (q : Pc) (k : Nat) : Bool := decide (q.s ≤ k) && decide (k < q.s + q.k)
theorem covB_iff (q : Pc) (k : Nat) : covB q k = true ↔ q.s ≤ k ∧ k < q.s + q.k := by unfold covB; simp
theorem sec_setB_step (n : Nat) (b : List UInt8) (p : List Pc) (c : Nat → Pc → Nat) (i k : Nat) (hb : b.length = 64 * n) (hp : ∀ q ∈ p, q.ok n) (hc : ∀ j q, c j q ≤ q.k) (hi : i < p.length) :
    sec (setB b p c (i + 1)) k = if p[i].s ≤ k ∧ k < p[i].s + c i p[i] then sec p[i].d (k - p[i].s) else sec (setB b p c i) k := by
  have hm := List.getElem_mem hi
  rw [setB_step _ _ _ _ hi]
  by_cases h : p[i].s ≤ k ∧ k < p[i].s + c i p[i]
  · rw [if_pos h, sec_ap_in n _ _ _ _ (setB_len n b p c i hb hp) (hp _ hm) (hc _ _) h.1 h.2]
  · rw [if_neg h, sec_ap_out n _ _ _ _ (setB_len n b p c i hb hp) (hp _ hm) (hc _ _) (by omega)]
/-- no later write covers the sector -/
def lastB (p : List Pc) (i k : Nat) : Bool := (List.range p.length).all fun j => !(decide (i < j) && (match p[j]? with | some q => covB q k | none => false))
theorem lastB_iff (p : List Pc) (i k : Nat) : lastB p i k = true ↔ ∀ j (hj : j < p.length), i < j → covB p[j] k = false := by
  unfold lastB
  rw [List.all_eq_true]
  constructor
  · intro h j hj hij
    have := h j (by simpa using hj)
    rw [List.getElem?_eq_getElem hj] at this
    simpa [hij] using this
  · intro h j hj
    have hj' : j < p.length := by simpa using hj
    rw [List.getElem?_eq_getElem hj']
    by_cases hij : i < j
    · simp [hij, h j hj' hij]
    · simp [hij]
/-- what was given all its sectors, and is the last, determines the sector -/
theorem torn_last (D : St) (sv : List Int) (h : D.ok) (i k : Nat) (hi : i < D.p.length) (hc : covB D.p[i] k = true) (hsv : i < sv.length) (hz : (D.p[i].k : Int) ≤ sv[i]) (hl : lastB D.p i k = true) :
    sec (crashD D sv).all k = sec D.p[i].d (k - D.p[i].s) := by
  rw [all_nil _ rfl]
  show sec (setB D.b D.p (cSv sv) D.p.length) k = _
  obtain ⟨c1, c2⟩ := (covB_iff _ _).1 hc
  have hall : cSv sv i D.p[i] = D.p[i].k := by unfold cSv clamp; rw [zSv_lt _ _ hsv]; omega
  have key : ∀ j, i < j → j ≤ D.p.length → sec (setB D.b D.p (cSv sv) j) k = sec D.p[i].d (k - D.p[i].s) := by
    intro j hij hjl
    induction j with
    | zero => omega
    | succ j ih =>
      rw [sec_setB_step D.n _ _ _ j k h.b h.p (cSv_le sv) (by omega)]
      by_cases hji : j = i
      · subst hji; rw [if_pos ⟨c1, by rw [hall]; exact c2⟩]
      · have hno := (lastB_iff _ _ _).1 hl j (by omega) (by omega)
        have hle := cSv_le sv j D.p[j]
        have : ¬ (D.p[j].s ≤ k ∧ k < D.p[j].s + cSv sv j D.p[j]) := by
          rintro ⟨h1, h2⟩
          have := (covB_iff D.p[j] k).2 ⟨h1, by omega⟩
          rw [hno] at this; cases this
        rw [if_neg this, ih (by omega) (by omega)]
  exact key _ hi (Nat.le_refl _)
/-- is the sector zero, or that of one of the first i writes? -/
def fdB (g : List UInt8) (p : List Pc) (k : Nat) : Nat → Bool
  | 0 => sameB g (List.replicate 64 0)
  | i + 1 => fdB g p k i || (match p[i]? with | some q => covB q k && sameB g (sec q.d (k - q.s)) | none => false)
theorem fdB_step (g : List UInt8) (p : List Pc) (k i : Nat) (h : i < p.length) : fdB g p k (i + 1) = (fdB g p k i || (covB p[i] k && sameB g (sec p[i].d (k - p[i].s)))) := by
  show (_ || (match p[i]? with | some q => covB q k && sameB g (sec q.d (k - q.s)) | none => false)) = _
  rw [List.getElem?_eq_getElem h]
theorem fdB_mono (g : List UInt8) (p : List Pc) (k i : Nat) (h : fdB g p k i = true) : fdB g p k (i + 1) = true := by
  show (fdB g p k i || _) = true
  rw [h]; rfl
theorem torn_found (D : St) (sv : List Int) (h : D.ok) (k : Nat) (hb : sec D.b k = List.replicate 64 0) : fdB (sec (crashD D sv).all k) D.p k D.p.length = true := by
  have key : ∀ j, j ≤ D.p.length → fdB (sec (setB D.b D.p (cSv sv) j) k) D.p k j = true := by
    intro j hj
    induction j with
    | zero => show sameB (sec D.b k) _ = true; rw [hb]; simp [sameB]
    | succ j ih =>
      rw [fdB_step _ _ _ _ (by omega), sec_setB_step D.n _ _ _ j k h.b h.p (cSv_le sv) (by omega)]
      by_cases hc : D.p[j].s ≤ k ∧ k < D.p[j].s + cSv sv j D.p[j]
      · rw [if_pos hc]
        have hle := cSv_le sv j D.p[j]
        rw [(covB_iff _ _).2 ⟨hc.1, by omega⟩, show sameB (sec D.p[j].d (k - D.p[j].s)) (sec D.p[j].d (k - D.p[j].s)) = true by simp [sameB]]
        simp
      · rw [if_neg hc, ih (by omega)]; rfl
  rw [all_nil _ rfl]
  exact key _ (Nat.le_refl _)

set_option maxRecDepth 100000 in
set_option maxHeartbeats 1000000 in
theorem last_calls (X : Option Addr) (cx : Nat) (P : List Pm) (i k : Nat) (w : World) (hr : Rd w X (pcells P)) (hcx : P.length ≤ 10000) (hi : i < 10000) (_ : k < 1000) (hd : ∀ m ∈ P, m.q.ok 65536) :
    Calls Try.prog 19 #[.slice X P.length cx, .int .i64 (i : Int), .int .i64 (k : Int)] w fun e w' => e = .returned (.bool (lastB (P.map (·.q)) i k)) ∧ Below w.heap.size w w' := by
  have HR := Lib.hid hr
  have HD := Lib.hid hd
  obtain ⟨pl, HPL⟩ : ∃ x, Hid (P.length = x) := ⟨_, rfl⟩
  rw [HPL.out] at hcx ⊢
  clear hr hd
  go_enter Try.func19, Try.ntmps19
  go_wp2_with fail
  go_loopw [7] (fun i' wr => ∃ j : Nat, i < j ∧ i' = .int .i64 j ∧ (∀ t (ht : t < P.length), i < t → t < j → covB P[t].q k = false) ∧ Below w.heap.size w wr) (fun i' _ => pl - (intOf i').toNat)
  case atStart => exact ⟨i + 1, by omega, by go_num, fun t _ h1 h2 => by omega, Below.refl _ _⟩
  case round =>
    obtain ⟨j, hij, rfl, hno, hb⟩ := hrel
    have HNO := Lib.hid hno
    have HB := Lib.hid hb
    have hRr := Rd.below HR.out hb
    clear hno hb
    have j0 : (0 : Int) ≤ (j : Int) := by omega
    by_cases hlt : j < pl
    · have hjP : j < P.length := by have := HPL.out; omega
      have j1 : (j : Int) < (pl : Int) := by omega
      obtain ⟨b, off, rfl, x0⟩ := hRr (j * 2) _ (pcells_get P j 0 hjP (by omega))
      obtain ⟨b', off', e', x1⟩ := hRr (j * 2 + 1) _ (pcells_get P j 1 hjP (by omega))
      cases e'
      rw [← Nat.add_assoc] at x1
      obtain ⟨ho1, ho2⟩ := HD.out P[j] (List.getElem_mem hjP)
      obtain ⟨m, HM⟩ : ∃ x, Hid (P[j] = x) := ⟨P[j], rfl⟩
      rw [HM.out] at x0 x1 ho1 ho2
      have HCV : Hid (covB m.q k = (decide (m.q.s ≤ k) && decide (k < m.q.s + m.q.k))) := rfl
      have u0 : Int.tdiv (m.q.d.length : Int) 64 = (m.q.k : Int) := by rw [Int.tdiv_eq_ediv_of_nonneg (by omega)]; omega
      have u0' : (m.q.d.length : Int) / 64 = (m.q.k : Int) := by omega
      have u00 : IntKind.i64.wrap (m.q.k : Int) = (m.q.k : Int) := by rw [IntKind.wrap_i64]; omega
      have u1 : IntKind.i64.wrap ((m.q.s : Int) + (m.q.k : Int)) = ((m.q.s + m.q.k : Nat) : Int) := by rw [IntKind.wrap_i64]; omega
      have HTRUE : Hid (covB m.q k = true → lastB (P.map (·.q)) i k = false) := by
        intro hc
        cases hl : lastB (P.map (·.q)) i k
        · rfl
        · have := (lastB_iff _ _ _).1 hl j (by simpa using hjP) hij
          rw [List.getElem_map, HM.out, hc] at this; cases this
      have HFALSE : Hid (covB m.q k = false → ∀ t (ht : t < P.length), i < t → t < j + 1 → covB P[t].q k = false) := by
        intro hc t ht h1 h2
        by_cases htj : t = j
        · subst htj; rw [HM.out]; exact hc
        · exact HNO.out t ht h1 (by omega)
      clear hRr ho1 ho2
      generalize m.q.d.length = dl at *
      generalize covB m.q k = cb at *
      generalize m.q.k = kk at *
      generalize m.q.s = ms at *
      generalize m.a = ma at *
      generalize m.c = mc at *
      by_cases h1 : ms ≤ k
      · have d1 : decide (ms ≤ k) = true := by simpa using h1
        have d1' : decide ((ms : Int) ≤ (k : Int)) = true := by simpa using h1
        by_cases h2 : k < ms + kk
        · have d2 : decide (k < ms + kk) = true := by simpa using h2
          have d2' : decide ((k : Int) < ((ms + kk : Nat) : Int)) = true := by simp; omega
          have hc : cb = true := by rw [HCV.out, d1, d2]; rfl
          have HL := Lib.hid (HTRUE.out hc)
          clear hc
          go_wp2_with fail
          go_quiet (fail)
          go_wp2_with fail
          go_ret
          exact ⟨by rw [HL.out]; rfl, blw_drewN HB.out nq⟩
        · have d2 : decide (k < ms + kk) = false := by simpa using h2
          have d2' : decide ((k : Int) < ((ms + kk : Nat) : Int)) = false := by simp; omega
          have hc : cb = false := by rw [HCV.out, d2]; simp
          have HL := Lib.hid (HFALSE.out hc)
          clear hc
          go_wp2_with fail
          go_quiet (fail)
          go_wp2_with fail
          have HBX := Lib.hid (blw_drewN HB.out nq)
          go_roundw
          case rel => exact ⟨j + 1, by omega, by go_num, HL.out, HBX.out⟩
          case measure => simp [intOf]; omega
      · have d1 : decide (ms ≤ k) = false := by simpa using h1
        have d1' : decide ((ms : Int) ≤ (k : Int)) = false := by simp; omega
        have hc : cb = false := by rw [HCV.out, d1]; simp
        have HL := Lib.hid (HFALSE.out hc)
        clear hc
        go_wp2_with fail
        go_quiet (fail)
        go_wp2_with fail
        have HBX := Lib.hid (blw_drewN HB.out nq)
        go_roundw
        case rel => exact ⟨j + 1, by omega, by go_num, HL.out, HBX.out⟩
        case measure => simp [intOf]; omega
    · have HL : Hid (lastB (P.map (·.q)) i k = true) := by
        refine (lastB_iff _ _ _).2 fun t ht h1 => ?_
        have ht' : t < P.length := by simpa using ht
        rw [List.getElem_map]
        exact HNO.out t ht' h1 (by have := HPL.out; omega)
      go_wp2_with fail
      go_ret
      exact ⟨by rw [HL.out]; rfl, HB.out⟩
end Dk
end Go.Proofs.Ytoallpinpeolfaa
