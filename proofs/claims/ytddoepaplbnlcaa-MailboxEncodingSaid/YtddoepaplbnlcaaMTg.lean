/- Merged: RrA RrB RrC RrD RrE WrT WrV MdR MdS MdT MdU MdJ MdV MdW MdX MdY. -/
import Derived.Test.YtddoepaplbnlcaaWrH
import Derived.Test.YtddoepaplbnlcaaWrK
import Derived.Test.YtddoepaplbnlcaaWrP
import Derived.Test.YtddoepaplbnlcaaMTa
/- The walks of refmeshref02's number and fail. -/
namespace Go.Proofs.Ytddoepaplbnlcaa
open Go.RowKit
namespace Wi
open Wr

def numR (l : List UInt8) : Nat × Int := match parse l with
  | none => (0, -1)
  | some (n, k) => (n, k)
def NumPost (l : List UInt8) (w : World) (e : Ending) (w' : World) : Prop := e = .returned (.tuple #[.int .u64 ((numR l).1 : Int), .int .i64 (numR l).2]) ∧ Chg [] w w'

set_option maxRecDepth 100000 in
set_option maxHeartbeats 2000000 in
theorem number_bad (A : Option Addr) (n c : Nat) (l : List UInt8) (w : World) (hn : l.length = n) (hr : RB w A l) (hlc : n ≤ c) (_hcm : c ≤ maxLen) (hp : parse l = none) :
    Calls Try.prog 83 #[.slice A n c] w (NumPost l w) := by
  have HF : Hid (NumPost l w (.returned (.tuple #[.int .u64 0, .int .i64 (-1)])) w) := by
    refine ⟨?_, Chg.refl _ _⟩
    unfold numR; rw [hp]; rfl
  unfold maxLen at _hcm
  cases l with
  | nil =>
    obtain rfl : n = 0 := hn.symm
    clear hr hp hn
    have e0 : ((0 : Int) == 0) = true := rfl
    go_enter Try.func83, Try.ntmps83
    go_wp2_with fail
    go_ret2
    exact HF.out
  | cons k t =>
    rw [parse_cons] at hp
    obtain ⟨b, off, rfl, _, hcl⟩ := RB.cells hr (by simp)
    have b0 : w.cell? ⟨b, off, none⟩ = some (vb k) := by have := hcl 0 (by simp); simpa using this
    have hk255 : k.toNat ≤ 255 := by have := k.toNat_lt; omega
    have b1 : t.head? = some 0 → w.cell? ⟨b, off + 1, none⟩ = some (.int .u8 0) := by
      intro h
      cases t with
      | nil => simp at h
      | cons y t =>
        have hy : y = 0 := by simpa using h
        subst hy
        exact hcl 1 (by simp)
    have hpos : t.head? = some 0 → 1 ≤ t.length := by intro h; cases t <;> simp at h ⊢
    obtain ⟨m, HM⟩ : ∃ m, Hid (m = t.length) := ⟨_, rfl⟩
    obtain rfl : n = m + 1 := by rw [HM.out]; exact hn.symm
    rw [← HM.out] at hp hpos
    clear hr hcl hn
    have e0 : (((m + 1 : Nat) : Int) == 0) = false := by simp; omega
    have e0' : ((m : Int) + 1 == 0) = false := by simp; omega
    have i1 : (0 : Int) < (m : Int) + 1 := by omega
    by_cases h8 : 8 < k.toNat
    · have d8 : decide ((8 : Int) < (k.toNat : Int)) = true := by simp; omega
      clear hp b1
      go_enter Try.func83, Try.ntmps83
      go_wp2_with fail
      go_ret2
      exact HF.out
    · have d8 : decide ((8 : Int) < (k.toNat : Int)) = false := by simp; omega
      rw [if_neg h8] at hp
      by_cases hl : m < k.toNat
      · have dl : decide (((m : Int) + 1) < 1 + (k.toNat : Int)) = true := by simp; omega
        clear hp b1
        go_enter Try.func83, Try.ntmps83
        go_wp2_with fail
        go_ret2
        exact HF.out
      · have dl : decide (((m : Int) + 1) < 1 + (k.toNat : Int)) = false := by simp; omega
        rw [if_neg hl] at hp
        by_cases hz : 0 < k.toNat ∧ t.head? = some 0
        · obtain ⟨hz1, hz2⟩ := hz
          have d0 : decide ((0 : Int) < (k.toNat : Int)) = true := by simp; omega
          have b1' := b1 hz2
          have hpos' := hpos hz2
          have i2 : (1 : Int) < (m : Int) + 1 := by omega
          have z0 : ((0 : Int) == 0) = true := rfl
          clear hp b1 hpos hz2
          go_enter Try.func83, Try.ntmps83
          go_wp2_with fail
          go_ret2
          exact HF.out
        · rw [if_neg hz] at hp; cases hp
end Wi
end Go.Proofs.Ytddoepaplbnlcaa

/- The walks of refmeshref02's number, fail and Uint. -/
namespace Go.Proofs.Ytddoepaplbnlcaa
open Go.RowKit
namespace Wi
open Wr

set_option maxRecDepth 100000 in
set_option maxHeartbeats 4000000 in
theorem number_good (A : Option Addr) (N c : Nat) (l : List UInt8) (w : World) (hn : l.length = N) (hr : RB w A l) (hlc : N ≤ c) (hcm : c ≤ maxLen) (v kk : Nat) (hp : parse l = some (v, kk)) :
    Calls Try.prog 83 #[.slice A N c] w (NumPost l w) := by
  have HF : Hid (∀ k, NumPost l w (.returned (.tuple #[.int .u64 (v : Int), .int .i64 (kk : Int)])) (w.drewN k)) := by
    refine fun k => ⟨?_, (Chg.refl _ _).drewN k⟩
    unfold numR; rw [hp]
  have hcm' := hcm
  unfold maxLen at hcm'
  cases l with
  | nil => cases hp
  | cons k t =>
    rw [parse_cons] at hp
    by_cases h8 : 8 < k.toNat
    · rw [if_pos h8] at hp; cases hp
    rw [if_neg h8] at hp
    by_cases hl : t.length < k.toNat
    · rw [if_pos hl] at hp; cases hp
    rw [if_neg hl] at hp
    by_cases hz : 0 < k.toNat ∧ t.head? = some 0
    · rw [if_pos hz] at hp; cases hp
    rw [if_neg hz] at hp
    simp only [Option.some.injEq, Prod.mk.injEq] at hp
    obtain ⟨hv, hkk⟩ := hp
    have HV := Lib.hid hv
    have HKK := Lib.hid hkk
    clear hv hkk
    obtain ⟨b, off, rfl, hbw, hcl⟩ := RB.cells hr (by simp)
    have b0 : w.cell? ⟨b, off, none⟩ = some (vb k) := by have := hcl 0 (by simp); simpa using this
    have HT : Hid (∀ j (hj : j < t.length), w.cell? ⟨b, off + (1 + j), none⟩ = some (vb t[j])) := fun j hj => by
      have := hcl (j + 1) (by simp; omega)
      rw [Nat.add_comm 1 j]; exact this
    have hy : 0 < k.toNat → ∃ y : UInt8, y ≠ 0 ∧ w.cell? ⟨b, off + 1, none⟩ = some (vb y) := by
      intro h0
      cases t with
      | nil => simp at hl; omega
      | cons y t =>
        refine ⟨y, ?_, hcl 1 (by simp)⟩
        rintro rfl
        exact hz ⟨h0, rfl⟩
    have hk255 : k.toNat ≤ 8 := by omega
    obtain ⟨q, HQ⟩ : ∃ q, Hid (q = k.toNat) := ⟨_, rfl⟩
    have hvb : vb k = .int .u8 (q : Int) := by rw [HQ.out]
    rw [hvb] at b0
    rw [← HQ.out] at h8 hl hy hk255 HV HKK
    obtain ⟨n, HLn⟩ : ∃ n, Hid (n = t.length) := ⟨_, rfl⟩
    rw [← HLn.out] at hl
    obtain rfl : N = n + 1 := by rw [HLn.out]; exact hn.symm
    clear hr hcl hvb hz hn
    have e0 : (((n + 1 : Nat) : Int) == 0) = false := by simp; omega
    have e0' : ((n : Int) + 1 == 0) = false := by simp; omega
    have i1 : (0 : Int) < (n : Int) + 1 := by omega
    have d8 : decide ((8 : Int) < (q : Int)) = false := by simp; omega
    have dl : decide (((n : Int) + 1) < 1 + (q : Int)) = false := by simp; omega
    have hqn : q ≤ n := by omega
    have HKI : Hid ((1 : Int) + (q : Int) = (kk : Int)) := by show _ = _; rw [← HKK.out]; omega
    by_cases hq0 : 0 < q
    · obtain ⟨y, hy1, hy2⟩ := hy hq0
      have dy : ((y.toNat : Int) == 0) = false := by rw [beq_eq_false_iff_ne]; intro hc; exact hy1 (UInt8.toNat_inj.1 (by simp; omega))
      have i2 : (1 : Int) < (n : Int) + 1 := by omega
      have d0 : decide ((0 : Int) < (q : Int)) = true := by simp; omega
      clear hy hy1
      go_enter Try.func83, Try.ntmps83
      go_wp2_with fail
      clear dy d0 i2
      go_loop [4, 5] (fun r i => ∃ j : Nat, j ≤ q ∧ i = .int .i64 j ∧ r = .int .u64 ((val (t.take j) : Nat) : Int)) (fun _ i => q - (intOf i).toNat)
      case atStart => exact ⟨0, Nat.zero_le _, rfl, rfl⟩
      case round =>
        obtain ⟨j, hj, rfl, rfl⟩ := hrel
        by_cases hlt : j < q
        · have hjt : j < t.length := by have := HLn.out; omega
          have tj := HT.out j hjt
          have HVT := Lib.hid (val_take t j hjt)
          have hva : val (t.take j) < 72057594037927936 := by
            have h1 := val_lt (t.take j)
            have h2 : (t.take j).length ≤ 7 := by simp; omega
            have h3 : 256 ^ (t.take j).length ≤ 256 ^ 7 := Nat.pow_le_pow_right (by omega) h2
            omega
          have j0 : (0 : Int) ≤ (j : Int) := by omega
          have j1 : (j : Int) < (q : Int) := by omega
          have s1 : IntKind.i64.wrap (1 + (j : Int)) = 1 + (j : Int) := IntWalk.i64_in _ (by omega)
          have s2 : (0 : Int) ≤ 1 + (j : Int) := by omega
          have s3 : 1 + (j : Int) < (n : Int) + 1 := by omega
          have s4 : (1 + (j : Int)).toNat = 1 + j := by omega
          generalize val (t.take j) = a at *
          generalize t[j] = x at *
          have hx255 : x.toNat ≤ 255 := by have := x.toNat_lt; omega
          go_wp2_with fail
          go_round
          case rel => exact ⟨j + 1, by omega, by go_num, by rw [HVT.out]; go_num⟩
          case measure => simp [intOf]; omega
        · have HJ : Hid (j = q) := by show _ = _; omega
          have HVV : Hid (val (t.take j) = v) := by show _ = _; rw [HJ.out]; exact HV.out
          rw [HVV.out]
          have d1 : decide ((j : Int) < (q : Int)) = false := by simp; omega
          go_wp2_with fail
          go_quiet (fail)
          go_wp2_with fail
          go_ret2
          rw [HKI.out]
          exact HF.out _
    · obtain rfl : q = 0 := by omega
      have HV0 : Hid (v = 0) := HV.out.symm
      have d0 : decide ((0 : Int) < 0) = false := rfl
      clear hy
      go_enter Try.func83, Try.ntmps83
      go_wp2_with fail
      go_loop [4, 5] (fun r i => r = .int .u64 0 ∧ i = .int .i64 0) (fun _ i => 0)
      case atStart => exact ⟨rfl, rfl⟩
      case round =>
        obtain ⟨rfl, rfl⟩ := hrel
        go_wp2_with fail
        go_quiet (fail)
        go_wp2_with fail
        go_ret2
        have h := HF.out
        rw [HV0.out, ← HKI.out] at h
        exact h _

theorem number_calls (A : Option Addr) (N c : Nat) (l : List UInt8) (w : World) (hn : l.length = N) (hr : RB w A l) (hlc : N ≤ c) (hcm : c ≤ maxLen) :
    Calls Try.prog 83 #[.slice A N c] w (NumPost l w) := by
  cases hp : parse l with
  | none => exact number_bad A N c l w hn hr hlc hcm hp
  | some p => obtain ⟨v, k⟩ := p; exact number_good A N c l w hn hr hlc hcm v k hp
end Wi
end Go.Proofs.Ytddoepaplbnlcaa

/- The walks of refmeshref02's fail, Uint, Int and Done of the reader. -/
namespace Go.Proofs.Ytddoepaplbnlcaa
open Go.RowKit
namespace Wi
open Wr
variable {D : Nat}

/-- block g holds a reader of the reference; what is left lies below it -/
def IsRr (D : Nat) (w : World) (g : Nat) (r : Rs) : Prop :=
  ∃ A c, w.heap[g]? = some (.cells #[.slice A r.l.length c, .int .i64 r.e] 99 (0, 0)) ∧ r.l.length ≤ c ∧ c ≤ maxLen ∧ RB w A r.l ∧ (0 < r.l.length → ∀ b off, A = some ⟨b, off, none⟩ → b < D) ∧ D ≤ g
theorem IsRr.chg {w w' : World} {g : Nat} {r : Rs} {S : List Nat} (h : IsRr D w g r) (hc : Chg S w w') (hS : ∀ x ∈ S, D ≤ x ∧ x ≠ g) : IsRr D w' g r := by
  obtain ⟨A, c, h1, h2, h3, h4, h5, h6⟩ := h
  exact ⟨A, c, hc.blk h1 (fun hm => (hS g hm).2 rfl), h2, h3, RB.chg h4 hc fun hp b off e hm => by have h8 := (hS b hm).1; have h7 := h5 hp b off e; omega, h5, h6⟩
theorem IsRr.below {w w' : World} {g : Nat} {r : Rs} (h : IsRr D w g r) (hb : Below w.heap.size w w') : IsRr D w' g r :=
  h.chg (Chg.of_below hb []) (by simp)
theorem IsRr.dle {w : World} {g : Nat} {r : Rs} (h : IsRr D w g r) : D ≤ g := by
  obtain ⟨A, c, _, _, _, _, _, h6⟩ := h; exact h6
theorem IsRr.lt {w : World} {g : Nat} {r : Rs} (h : IsRr D w g r) : g < w.heap.size := by
  obtain ⟨A, c, h1, _⟩ := h; exact (Array.getElem?_eq_some_iff.1 h1).1
/-- cut down -/
theorem IsRr.cut {w w' : World} {g : Nat} {A : Option Addr} {c k : Nat} {l : List UInt8} (hr : RB w A l) (hlc : l.length ≤ c) (hcm : c ≤ maxLen) (hne : 0 < l.length → ∀ b off, A = some ⟨b, off, none⟩ → b < D) (hD : D ≤ g)
    (hc : Chg [g] w w') (hk : k ≤ l.length) (hg : w'.heap[g]? = some (.cells #[.slice (cutA A k c) (l.length - k) (c - k), .int .i64 0] 99 (0, 0))) : IsRr D w' g ⟨l.drop k, 0⟩ := by
  have hdl : (l.drop k).length = l.length - k := by simp
  have hbl : 0 < (l.drop k).length → ∀ b off, cutA A k c = some ⟨b, off, none⟩ → b < D := by
    intro hpos b off e
    have hl0 : 0 < l.length := by rw [hdl] at hpos; omega
    obtain ⟨b0, o0, rfl, _⟩ := RB.cells hr hl0
    have := cutA_some e
    subst this
    exact hne hl0 b o0 rfl
  exact ⟨cutA A k c, c - k, by simp only [hdl]; exact hg, by simp only [hdl]; omega, by omega, RB.chg (RB.cut hr k c hlc) hc (fun hp b off e => by have := hbl hp b off e; simp; omega), hbl, hD⟩

def FailP (D g : Nat) (k : Int) (w : World) (e : Ending) (w' : World) : Prop := e = .returned (.tuple #[]) ∧ IsRr D w' g (failR k) ∧ Chg [g] w w'
theorem rfail_calls (g : Nat) (s : Value) (er : Int) (k : Int) (w : World) (hD : D ≤ g) (h : w.heap[g]? = some (.cells #[s, .int .i64 er] 99 (0, 0))) :
    Calls Try.prog 82 #[.pointer (some ⟨g, 0, none⟩), .int .i64 k] w (FailP D g k w) := by
  have f0 : w.frozen? ⟨g, 0, none⟩ = false := frozen_of_row _ _ _ _ _ h
  have f1 : w.frozen? ⟨g, 1, none⟩ = false := frozen_of_row _ _ _ _ _ h
  have c0 : w.cell? ⟨g, 0, none⟩ = some s := (cell_of_row _ _ 0 _ _ _ h).trans rfl
  have c1 : w.cell? ⟨g, 1, none⟩ = some (.int .i64 er) := (cell_of_row _ _ 1 _ _ _ h).trans rfl
  have HF : Hid (FailP D g k w (.returned (.tuple #[])) ((w.setCell ⟨g, 0, none⟩ (.slice none 0 0)).setCell ⟨g, 1, none⟩ (.int .i64 k))) := by
    refine ⟨rfl, ⟨none, 0, heap_setCell_same _ _ _ _ _ _ (heap_setCell_same _ _ _ _ _ _ h), Nat.le_refl _, by simp [maxLen], RB.nil, (fun h => by cases h), hD⟩, ?_⟩
    exact ((Chg.refl [g] w).setCell (p := ⟨g, 0, none⟩) (.inl (by simp)) _).setCell (p := ⟨g, 1, none⟩) (.inl (by simp)) _
  clear h
  go_enter Try.func82, Try.ntmps82
  go_wp2_with fail
  go_end0
  exact HF.out

def RuP (D : Nat) (w : World) (g : Nat) (r : Rs) (e : Ending) (w' : World) : Prop :=
  e = .returned (.int .u64 ((uintR r).1 : Int)) ∧ IsRr D w' g (uintR r).2 ∧ Chg [g] w w'

theorem elem_u8s : Try.prog.elem 58 = 5 := by kernel_rfl

set_option maxRecDepth 100000 in
set_option maxHeartbeats 1000000 in
theorem rdUint_calls (g : Nat) (r : Rs) (w : World) (h : IsRr D w g r) : Calls Try.prog 54 #[.pointer (some ⟨g, 0, none⟩)] w (RuP D w g r) := by
  have HI := Lib.hid h
  obtain ⟨l, er⟩ := r
  obtain ⟨A, c, hg, hlc, hcm, hr, hne, hD⟩ := h
  simp only at hg hlc hr hne
  have c0 : w.cell? ⟨g, 0, none⟩ = some (.slice A l.length c) := (cell_of_row _ _ 0 _ _ _ hg).trans rfl
  have c1 : w.cell? ⟨g, 1, none⟩ = some (.int .i64 er) := (cell_of_row _ _ 1 _ _ _ hg).trans rfl
  have HG := Lib.hid hg
  have HR := Lib.hid hr
  have HNE := Lib.hid hne
  have hcm' := hcm
  unfold maxLen at hcm'
  clear hg hr hne
  by_cases he : er = 0
  · subst he
    have HN := Lib.hid (number_calls A l.length c l w rfl HR.out hlc hcm)
    obtain ⟨n, HLn⟩ : ∃ n, Hid (n = l.length) := ⟨_, rfl⟩
    rw [← HLn.out] at c0 HN hlc
    cases hp : parse l with
    | none =>
      have HP := Lib.hid hp
      have HNR : Hid (numR l = (0, -1)) := by show _ = _; unfold numR; rw [hp]
      have HF : Hid (∀ w', IsRr D w' g (failR 11) → Chg [g] w w' → RuP D w g ⟨l, 0⟩ (.returned (.int .u64 0)) w') := by
        intro w' h1 h2
        unfold RuP; rw [uintR_none ⟨l, 0⟩ rfl HP.out]; exact ⟨rfl, h1, h2⟩
      clear hp
      go_enter Try.func54, Try.ntmps54
      go_wp2_with fail
      refine HN.out.mono ?_
      rintro e w1 ⟨rfl, hc1⟩
      rw [HNR.out]
      have HFA := Lib.hid (rfail_calls g _ _ 11 w1 hD (hc1.blk HG.out (by simp)))
      have HC1 : Hid (Chg [g] w w1) := hc1.mono (by simp)
      clear hc1 c0 c1
      go_wp2_with fail
      refine HFA.out.mono ?_
      rintro e w2 ⟨rfl, hr2, hc2⟩
      have HZ := Lib.hid (HF.out w2 hr2 (HC1.out.trans' hc2))
      clear hr2 hc2
      go_wp2_with fail
      go_ret
      exact HZ.out
    | some p =>
      obtain ⟨v, k⟩ := p
      have hps := parse_some l v k hp
      have hkn : k ≤ n := by rw [HLn.out]; exact hps.2.2.1
      have HP := Lib.hid hp
      have HNR : Hid (numR l = (v, (k : Int))) := by show _ = _; unfold numR; rw [hp]
      have HF : Hid (∀ w', Chg [g] w w' → w'.heap[g]? = some (.cells #[.slice (cutA A k c) (n - k) (c - k), .int .i64 0] 99 (0, 0)) → RuP D w g ⟨l, 0⟩ (.returned (.int .u64 (v : Int))) w') := by
        intro w' h1 h2
        rw [HLn.out] at h2
        unfold RuP; rw [uintR_some ⟨l, 0⟩ rfl HP.out]
        exact ⟨rfl, IsRr.cut HR.out (by rw [← HLn.out]; exact hlc) hcm HNE.out hD h1 (by rw [← HLn.out]; exact hkn) h2, h1⟩
      have hcut := fun w' => run_cut_l (P := Try.prog) Try.underlying58 elem_u8s size_u8 A n c k hkn w'
      clear hp hps
      have d0 : decide ((k : Int) < 0) = false := by simp
      go_enter Try.func54, Try.ntmps54
      go_wp2_with fail
      refine HN.out.mono ?_
      rintro e w1 ⟨rfl, hc1⟩
      rw [HNR.out]
      have hg1 := hc1.blk HG.out (by simp)
      rw [← HLn.out] at hg1
      have HG1 := Lib.hid hg1
      have d0' : w1.cell? ⟨g, 0, none⟩ = some (.slice A n c) := (cell_of_row _ _ 0 _ _ _ hg1).trans rfl
      have f0 : w1.frozen? ⟨g, 0, none⟩ = false := frozen_of_row _ _ _ _ _ hg1
      have HC1 : Hid (Chg [g] w w1) := hc1.mono (by simp)
      clear hc1 c0 c1 hg1
      go_wp2_with fail
      go_ret
      exact HF.out _ (HC1.out.trans' ((Chg.refl [g] w1).setCell (p := ⟨g, 0, none⟩) (.inl (by simp)) _)) (heap_setCell_same _ _ _ _ _ _ HG1.out)
  · have q1 : (er != 0) = true := by simpa using he
    have HF : Hid (RuP D w g ⟨l, er⟩ (.returned (.int .u64 0)) w) := by
      unfold RuP; rw [uintR_err ⟨l, er⟩ he]; exact ⟨rfl, HI.out, Chg.refl _ _⟩
    clear he
    go_enter Try.func54, Try.ntmps54
    go_wp2_with fail
    go_ret
    exact HF.out
end Wi
end Go.Proofs.Ytddoepaplbnlcaa

/- The walks of refmeshref02's Int, Count, String, Bool, Done of the reader. -/
namespace Go.Proofs.Ytddoepaplbnlcaa
open Go.RowKit
namespace Wi
open Wr
variable {D : Nat}

theorem run_cut_u {P : Program} {t e : TypeId} (ht : P.underlying t = some (.slice e)) (he : P.elem t = e) (hs : (P.info? e).map (·.size) = some 1) (A : Option Addr) (n cap lo : Nat) (h1 : lo ≤ n) (w : World) :
    (Instr.slice t (.slice A n cap) (some (.int .u64 lo)) none none).run P w = .ok (.slice (cutA A lo cap) (n - lo) (cap - lo)) w := by
  subst he
  rw [run_slice_l w t A n cap ht .u64 lo (by omega) (by omega)]
  obtain ⟨i, hi', hsz⟩ := Option.map_eq_some_iff.1 hs
  simp [sizeOf, typeInfo, hi', hsz, sliced, cutA]

/-- Count -/
def countR (most : Int) (r : Rs) : Nat × Rs :=
  if (uintR r).2.e ≠ 0 then (0, (uintR r).2) else if most < 0 ∨ most < ((uintR r).1 : Int) then (0, failR 8) else if (uintR r).2.l.length < (uintR r).1 then (0, failR 11) else uintR r
/-- Bool -/
def boolR (r : Rs) : Bool × Rs :=
  if r.e ≠ 0 then (false, r) else match r.l with
    | [] => (false, failR 11)
    | x :: t => if 1 < x.toNat then (false, failR 11) else (decide (x.toNat = 1), ⟨t, 0⟩)

def RP (D : Nat) (w : World) (g : Nat) (v : Value) (r2 : Rs) (e : Ending) (w' : World) : Prop := e = .returned v ∧ IsRr D w' g r2 ∧ Chg [g] w w'


set_option maxRecDepth 100000 in
set_option maxHeartbeats 1000000 in
theorem rdCount_calls (g : Nat) (r : Rs) (most : Int) (w : World) (h : IsRr D w g r) (hm1 : -9223372036854775808 ≤ most) (hm2 : most ≤ 9223372036854775807) :
    Calls Try.prog 51 #[.pointer (some ⟨g, 0, none⟩), .int .i64 most] w (RP D w g (.int .i64 ((countR most r).1 : Int)) (countR most r).2) := by
  have HU := Lib.hid (rdUint_calls g r w h); unfold RuP at HU; have hlt := uintR_lt r
  obtain ⟨cr, HCR⟩ : ∃ x, Hid (x = countR most r) := ⟨_, rfl⟩
  have HCR' := HCR.out
  unfold countR at HCR'
  rw [show uintR r = ((uintR r).1, (uintR r).2) from rfl] at HCR'
  rw [← HCR.out]
  clear HCR h
  generalize (uintR r).1 = n at *; generalize (uintR r).2 = r2 at *; obtain ⟨l2, e2⟩ := r2
  simp only at HCR'
  by_cases he : e2 = 0
  · subst he
    rw [if_neg (by simp)] at HCR'
    by_cases h1 : most < 0 ∨ most < (n : Int)
    · rw [if_pos h1] at HCR'
      subst HCR'
      by_cases hz : most < 0
      · have d1 : decide (most < 0) = true := by simpa using hz
        go_enter Try.func51, Try.ntmps51
        go_wp2_with fail
        refine HU.out.mono ?_; rintro e w1 ⟨rfl, hr, hc⟩; have HR := Lib.hid hr; have HC := Lib.hid hc; obtain ⟨A, c, hg, hlc, hcm, hrb, hne, hD⟩ := hr; simp only at hg hlc hrb hne; have c0 : w1.cell? ⟨g, 0, none⟩ = some (.slice A l2.length c) := (cell_of_row _ _ 0 _ _ _ hg).trans rfl; have c1 : w1.cell? ⟨g, 1, none⟩ = some (.int .i64 0) := (cell_of_row _ _ 1 _ _ _ hg).trans rfl; have HG := Lib.hid hg; have HRB := Lib.hid hrb; have HNE := Lib.hid hne; have hcm' := hcm; unfold maxLen at hcm'; clear hg hrb hne hc HU
        have HFA := Lib.hid (rfail_calls g _ _ 8 w1 hD HG.out)
        go_wp2_with fail
        refine HFA.out.mono ?_
        rintro e w2 ⟨rfl, hr2, hc2⟩
        have HZ : Hid (RP D w g (.int .i64 0) (failR 8) (.returned (.int .i64 0)) w2) := ⟨rfl, hr2, HC.out.trans' hc2⟩
        clear hr2 hc2
        go_wp2_with fail
        go_ret
        exact HZ.out
      · have d1 : decide (most < 0) = false := by simpa using hz
        have hz' : 0 ≤ most := by omega
        have d2 : decide (most < (n : Int)) = true := by simp; omega
        clear hz
        go_enter Try.func51, Try.ntmps51
        go_wp2_with fail
        refine HU.out.mono ?_; rintro e w1 ⟨rfl, hr, hc⟩; have HR := Lib.hid hr; have HC := Lib.hid hc; obtain ⟨A, c, hg, hlc, hcm, hrb, hne, hD⟩ := hr; simp only at hg hlc hrb hne; have c0 : w1.cell? ⟨g, 0, none⟩ = some (.slice A l2.length c) := (cell_of_row _ _ 0 _ _ _ hg).trans rfl; have c1 : w1.cell? ⟨g, 1, none⟩ = some (.int .i64 0) := (cell_of_row _ _ 1 _ _ _ hg).trans rfl; have HG := Lib.hid hg; have HRB := Lib.hid hrb; have HNE := Lib.hid hne; have hcm' := hcm; unfold maxLen at hcm'; clear hg hrb hne hc HU
        have HFA := Lib.hid (rfail_calls g _ _ 8 w1 hD HG.out)
        go_wp2_with fail
        refine HFA.out.mono ?_
        rintro e w2 ⟨rfl, hr2, hc2⟩
        have HZ : Hid (RP D w g (.int .i64 0) (failR 8) (.returned (.int .i64 0)) w2) := ⟨rfl, hr2, HC.out.trans' hc2⟩
        clear hr2 hc2
        go_wp2_with fail
        go_ret
        exact HZ.out
    · rw [if_neg h1] at HCR'
      have hz' : 0 ≤ most := by omega
      have hz2 : (n : Int) ≤ most := by omega
      have d1 : decide (most < 0) = false := by simp; omega
      have d2 : decide (most < (n : Int)) = false := by simp; omega
      by_cases h2 : l2.length < n
      · rw [if_pos h2] at HCR'
        subst HCR'
        have d3 : decide ((l2.length : Int) < (n : Int)) = true := by simp; omega
        have d3' : decide (l2.length < n) = true := by simp; omega
        clear h1
        go_enter Try.func51, Try.ntmps51
        go_wp2_with fail
        refine HU.out.mono ?_; rintro e w1 ⟨rfl, hr, hc⟩; have HR := Lib.hid hr; have HC := Lib.hid hc; obtain ⟨A, c, hg, hlc, hcm, hrb, hne, hD⟩ := hr; simp only at hg hlc hrb hne; have c0 : w1.cell? ⟨g, 0, none⟩ = some (.slice A l2.length c) := (cell_of_row _ _ 0 _ _ _ hg).trans rfl; have c1 : w1.cell? ⟨g, 1, none⟩ = some (.int .i64 0) := (cell_of_row _ _ 1 _ _ _ hg).trans rfl; have HG := Lib.hid hg; have HRB := Lib.hid hrb; have HNE := Lib.hid hne; have hcm' := hcm; unfold maxLen at hcm'; clear hg hrb hne hc HU
        have HFA := Lib.hid (rfail_calls g _ _ 11 w1 hD HG.out)
        go_wp2_with fail
        refine HFA.out.mono ?_
        rintro e w2 ⟨rfl, hr2, hc2⟩
        have HZ : Hid (RP D w g (.int .i64 0) (failR 11) (.returned (.int .i64 0)) w2) := ⟨rfl, hr2, HC.out.trans' hc2⟩
        clear hr2 hc2
        go_wp2_with fail
        go_ret
        exact HZ.out
      · rw [if_neg h2] at HCR'
        subst HCR'
        have d3 : decide ((l2.length : Int) < (n : Int)) = false := by simp; omega
        have d3' : decide (l2.length < n) = false := by simp; omega
        clear h1
        go_enter Try.func51, Try.ntmps51
        go_wp2_with fail
        refine HU.out.mono ?_; rintro e w1 ⟨rfl, hr, hc⟩; have HR := Lib.hid hr; have HC := Lib.hid hc; obtain ⟨A, c, hg, hlc, hcm, hrb, hne, hD⟩ := hr; simp only at hg hlc hrb hne; have c0 : w1.cell? ⟨g, 0, none⟩ = some (.slice A l2.length c) := (cell_of_row _ _ 0 _ _ _ hg).trans rfl; have c1 : w1.cell? ⟨g, 1, none⟩ = some (.int .i64 0) := (cell_of_row _ _ 1 _ _ _ hg).trans rfl; have HG := Lib.hid hg; have HRB := Lib.hid hrb; have HNE := Lib.hid hne; have hcm' := hcm; unfold maxLen at hcm'; clear hg hrb hne hc HU
        have HZ : Hid (RP D w g (.int .i64 (n : Int)) ⟨l2, 0⟩ (.returned (.int .i64 (n : Int))) w1) := ⟨rfl, HR.out, HC.out⟩
        go_wp2_with fail
        go_ret
        exact HZ.out
  · rw [if_pos he] at HCR'
    subst HCR'
    have q1 : (e2 != 0) = true := by simpa using he
    clear he
    go_enter Try.func51, Try.ntmps51
    go_wp2_with fail
    refine HU.out.mono ?_; rintro e w1 ⟨rfl, hr, hc⟩; have HR := Lib.hid hr; have HC := Lib.hid hc; obtain ⟨A, c, hg, hlc, hcm, hrb, hne, hD⟩ := hr; simp only at hg hlc hrb hne; have c0 : w1.cell? ⟨g, 0, none⟩ = some (.slice A l2.length c) := (cell_of_row _ _ 0 _ _ _ hg).trans rfl; have c1 : w1.cell? ⟨g, 1, none⟩ = some (.int .i64 e2) := (cell_of_row _ _ 1 _ _ _ hg).trans rfl; have HG := Lib.hid hg; have HRB := Lib.hid hrb; have HNE := Lib.hid hne; have hcm' := hcm; unfold maxLen at hcm'; clear hg hrb hne hc HU
    have HZ : Hid (RP D w g (.int .i64 0) ⟨l2, e2⟩ (.returned (.int .i64 0)) w1) := ⟨rfl, HR.out, HC.out⟩
    go_wp2_with fail
    go_ret
    exact HZ.out

set_option maxRecDepth 100000 in
set_option maxHeartbeats 1000000 in
theorem rdString_calls (g : Nat) (r : Rs) (w : World) (h : IsRr D w g r) :
    Calls Try.prog 53 #[.pointer (some ⟨g, 0, none⟩)] w (RP D w g (.string ⟨(stringR r).1.toArray⟩) (stringR r).2) := by
  have HU := Lib.hid (rdUint_calls g r w h); unfold RuP at HU; have hlt := uintR_lt r
  obtain ⟨cr, HCR⟩ : ∃ x, Hid (x = stringR r) := ⟨_, rfl⟩
  have HCR' := HCR.out
  unfold stringR at HCR'
  rw [← HCR.out]
  clear HCR h
  generalize (uintR r).1 = n at *; generalize (uintR r).2 = r2 at *; obtain ⟨l2, e2⟩ := r2
  simp only at HCR'
  by_cases he : e2 = 0
  · subst he
    rw [if_neg (by simp)] at HCR'
    by_cases h1 : 4096 < n
    · rw [if_pos h1] at HCR'
      subst HCR'
      have d2 : decide ((4096 : Int) < (n : Int)) = true := by simp; omega
      go_enter Try.func53, Try.ntmps53
      go_wp2_with fail
      refine HU.out.mono ?_; rintro e w1 ⟨rfl, hr, hc⟩; have HR := Lib.hid hr; have HC := Lib.hid hc; obtain ⟨A, c, hg, hlc, hcm, hrb, hne, hD⟩ := hr; simp only at hg hlc hrb hne; have c0 : w1.cell? ⟨g, 0, none⟩ = some (.slice A l2.length c) := (cell_of_row _ _ 0 _ _ _ hg).trans rfl; have c1 : w1.cell? ⟨g, 1, none⟩ = some (.int .i64 0) := (cell_of_row _ _ 1 _ _ _ hg).trans rfl; have HG := Lib.hid hg; have HRB := Lib.hid hrb; have HNE := Lib.hid hne; have hcm' := hcm; unfold maxLen at hcm'; clear hg hrb hne hc HU
      have HFA := Lib.hid (rfail_calls g _ _ 8 w1 hD HG.out)
      go_wp2_with fail
      refine HFA.out.mono ?_
      rintro e w2 ⟨rfl, hr2, hc2⟩
      have HZ : Hid (RP D w g (.string ⟨#[]⟩) (failR 8) (.returned (.string ⟨#[]⟩)) w2) := ⟨rfl, hr2, HC.out.trans' hc2⟩
      clear hr2 hc2
      go_wp2_with fail
      go_ret
      exact HZ.out
    · rw [if_neg h1] at HCR'
      have d2 : decide ((4096 : Int) < (n : Int)) = false := by simp; omega
      by_cases h2 : l2.length < n
      · rw [if_pos h2] at HCR'
        subst HCR'
        have d3 : decide ((l2.length : Int) < (n : Int)) = true := by simp; omega
        have d3' : decide (l2.length < n) = true := by simp; omega
        go_enter Try.func53, Try.ntmps53
        go_wp2_with fail
        refine HU.out.mono ?_; rintro e w1 ⟨rfl, hr, hc⟩; have HR := Lib.hid hr; have HC := Lib.hid hc; obtain ⟨A, c, hg, hlc, hcm, hrb, hne, hD⟩ := hr; simp only at hg hlc hrb hne; have c0 : w1.cell? ⟨g, 0, none⟩ = some (.slice A l2.length c) := (cell_of_row _ _ 0 _ _ _ hg).trans rfl; have c1 : w1.cell? ⟨g, 1, none⟩ = some (.int .i64 0) := (cell_of_row _ _ 1 _ _ _ hg).trans rfl; have HG := Lib.hid hg; have HRB := Lib.hid hrb; have HNE := Lib.hid hne; have hcm' := hcm; unfold maxLen at hcm'; clear hg hrb hne hc HU
        have HFA := Lib.hid (rfail_calls g _ _ 11 w1 hD HG.out)
        go_wp2_with fail
        refine HFA.out.mono ?_
        rintro e w2 ⟨rfl, hr2, hc2⟩
        have HZ : Hid (RP D w g (.string ⟨#[]⟩) (failR 11) (.returned (.string ⟨#[]⟩)) w2) := ⟨rfl, hr2, HC.out.trans' hc2⟩
        clear hr2 hc2
        go_wp2_with fail
        go_ret
        exact HZ.out
      · rw [if_neg h2] at HCR'
        subst HCR'
        have d3 : decide ((l2.length : Int) < (n : Int)) = false := by simp; omega
        have d3' : decide (l2.length < n) = false := by simp; omega
        go_enter Try.func53, Try.ntmps53
        go_wp2_with fail
        refine HU.out.mono ?_; rintro e w1 ⟨rfl, hr, hc⟩; have HR := Lib.hid hr; have HC := Lib.hid hc; obtain ⟨A, c, hg, hlc, hcm, hrb, hne, hD⟩ := hr; simp only at hg hlc hrb hne; have c0 : w1.cell? ⟨g, 0, none⟩ = some (.slice A l2.length c) := (cell_of_row _ _ 0 _ _ _ hg).trans rfl; have c1 : w1.cell? ⟨g, 1, none⟩ = some (.int .i64 0) := (cell_of_row _ _ 1 _ _ _ hg).trans rfl; have HG := Lib.hid hg; have HRB := Lib.hid hrb; have HNE := Lib.hid hne; have hcm' := hcm; unfold maxLen at hcm'; clear hg hrb hne hc HU
        have f0 : w1.frozen? ⟨g, 0, none⟩ = false := frozen_of_row _ _ _ _ _ HG.out
        have hcv := run_str (P := Try.prog) (w := w1) n c 58 5 9 Try.underlying58 Try.underlying5 Try.underlying9 (by simp; omega) (RB.take HRB.out n)
        have hcut := fun w' => run_cut_u (P := Try.prog) Try.underlying58 elem_u8s size_u8 A l2.length c n (by omega) w'
        have k1 : (n : Int) ≤ (l2.length : Int) := by omega
        have k2 : (n : Int) ≤ (c : Int) := by omega
        have HZ : Hid (∀ sl, sl = Value.slice (cutA A n c) (l2.length - n) (c - n) → RP D w g (.string ⟨(l2.take n).toArray⟩) ⟨l2.drop n, 0⟩ (.returned (.string ⟨(l2.take n).toArray⟩)) (w1.setCell ⟨g, 0, none⟩ sl)) := by
          rintro sl rfl
          have hcs : Chg [g] w1 (w1.setCell ⟨g, 0, none⟩ (.slice (cutA A n c) (l2.length - n) (c - n))) := (Chg.refl [g] w1).setCell (p := ⟨g, 0, none⟩) (.inl (by simp)) _
          exact ⟨rfl, IsRr.cut HRB.out hlc hcm HNE.out hD hcs (by omega) (heap_setCell_same _ _ _ _ _ _ HG.out), HC.out.trans' hcs⟩
        generalize l2.take n = ln at *
        generalize l2.length = m at *
        go_wp2_with fail
        go_ret
        exact HZ.out _ rfl
  · rw [if_pos he] at HCR'
    subst HCR'
    have q1 : (e2 != 0) = true := by simpa using he
    clear he
    go_enter Try.func53, Try.ntmps53
    go_wp2_with fail
    refine HU.out.mono ?_; rintro e w1 ⟨rfl, hr, hc⟩; have HR := Lib.hid hr; have HC := Lib.hid hc; obtain ⟨A, c, hg, hlc, hcm, hrb, hne, hD⟩ := hr; simp only at hg hlc hrb hne; have c0 : w1.cell? ⟨g, 0, none⟩ = some (.slice A l2.length c) := (cell_of_row _ _ 0 _ _ _ hg).trans rfl; have c1 : w1.cell? ⟨g, 1, none⟩ = some (.int .i64 e2) := (cell_of_row _ _ 1 _ _ _ hg).trans rfl; have HG := Lib.hid hg; have HRB := Lib.hid hrb; have HNE := Lib.hid hne; have hcm' := hcm; unfold maxLen at hcm'; clear hg hrb hne hc HU
    have HZ : Hid (RP D w g (.string ⟨#[]⟩) ⟨l2, e2⟩ (.returned (.string ⟨#[]⟩)) w1) := ⟨rfl, HR.out, HC.out⟩
    go_wp2_with fail
    go_ret
    exact HZ.out
end Wi
end Go.Proofs.Ytddoepaplbnlcaa

/- The walks of refmeshref02's Bool, ID, Done of the reader. -/
namespace Go.Proofs.Ytddoepaplbnlcaa
open Go.RowKit
namespace Wi
open Wr
variable {D : Nat}

/-- ID -/
def idR (r : Rs) : (Nat × Nat) × Rs :=
  if (uintR (uintR r).2).2.e ≠ 0 ∨ ((uintR r).1 = 0 ∧ (uintR (uintR r).2).1 = 0) then ((0, 0), (uintR (uintR r).2).2)
  else if 1 ≤ (uintR r).1 ∧ (uintR r).1 ≤ 8 ∧ 1 ≤ (uintR (uintR r).2).1 ∧ (uintR (uintR r).2).1 ≤ 1099511627775 then (((uintR r).1, (uintR (uintR r).2).1), (uintR (uintR r).2).2)
  else ((0, 0), failR 11)

set_option maxRecDepth 100000 in
theorem rdDone_calls (g : Nat) (r : Rs) (w : World) (h : IsRr D w g r) : Calls Try.prog 56 #[.pointer (some ⟨g, 0, none⟩)] w fun e w' => e = .returned (.int .i64 (doneR r)) ∧ w = w' := by
  obtain ⟨A, c, hg, _⟩ := h
  obtain ⟨l, er⟩ := r
  simp only at hg
  have c0 : w.cell? ⟨g, 0, none⟩ = some (.slice A l.length c) := (cell_of_row _ _ 0 _ _ _ hg).trans rfl
  have c1 : w.cell? ⟨g, 1, none⟩ = some (.int .i64 er) := (cell_of_row _ _ 1 _ _ _ hg).trans rfl
  clear hg
  by_cases he : er = 0
  · subst he
    by_cases hl : 0 < l.length
    · have HD : Hid (doneR ⟨l, 0⟩ = 11) := by show _ = _; unfold doneR; rw [if_pos ⟨rfl, hl⟩]
      rw [HD.out]
      have d0 : decide ((0 : Int) < (l.length : Int)) = true := by rw [decide_eq_true_eq]; omega
      generalize l.length = n at *
      go_enter Try.func56, Try.ntmps56
      go_wp2_with fail
      go_ret
      exact ⟨rfl, rfl⟩
    · have HD : Hid (doneR ⟨l, 0⟩ = 0) := by show _ = _; unfold doneR; rw [if_neg (by rintro ⟨_, h⟩; exact hl h)]
      rw [HD.out]
      have d0 : decide ((0 : Int) < (l.length : Int)) = false := by rw [decide_eq_false_iff_not]; omega
      generalize l.length = n at *
      go_enter Try.func56, Try.ntmps56
      go_wp2_with fail
      go_ret
      exact ⟨rfl, rfl⟩
  · have HD : Hid (doneR ⟨l, er⟩ = er) := by show _ = _; unfold doneR; rw [if_neg (by rintro ⟨h, _⟩; exact he h)]
    rw [HD.out]
    have q1 : (er == 0) = false := by simpa using he
    clear he
    go_enter Try.func56, Try.ntmps56
    go_wp2_with fail
    go_ret
    exact ⟨rfl, rfl⟩

theorem size_id : (Try.prog.info? 30).map (·.size) = some 2 := by kernel_rfl

set_option maxRecDepth 100000 in
set_option maxHeartbeats 2000000 in
theorem rdID_calls (g : Nat) (r : Rs) (w : World) (h : IsRr D w g r) :
    Calls Try.prog 52 #[.pointer (some ⟨g, 0, none⟩)] w (RP D w g (.agg #[.int .i64 (((idR r).1.1 : Nat) : Int), .int .i64 (((idR r).1.2 : Nat) : Int)]) (idR r).2) := by
  have hgl := h.lt
  have HU1 := Lib.hid (fun w' (h' : IsRr D w' g r) => rdUint_calls g r w' h')
  have HU2 := Lib.hid (fun w' (h' : IsRr D w' g (uintR r).2) => rdUint_calls g (uintR r).2 w' h')
  unfold RuP at HU1 HU2
  have hlt1 := uintR_lt r
  have hlt2 := uintR_lt (uintR r).2
  have HI := Lib.hid h
  obtain ⟨cr, HCR⟩ : ∃ x, Hid (x = idR r) := ⟨_, rfl⟩
  have HCR' := HCR.out
  unfold idR at HCR'
  rw [← HCR.out]
  clear HCR h
  generalize (uintR (uintR r).2).1 = s at *
  generalize (uintR (uintR r).2).2 = r2 at *
  generalize (uintR r).1 = m at *
  generalize (uintR r).2 = r1 at *
  obtain ⟨l2, e2⟩ := r2
  simp only at HCR'
  have HCR := Lib.hid HCR'
  clear HCR'
  go_enter Try.func52, Try.ntmps52
  go_wp2_with fail
  have hk := heap_alloc_new w (.cells #[.int .i64 0, .int .i64 0] 30)
  have hb := below1 w (.cells #[.int .i64 0, .int .i64 0] 30)
  generalize w.alloc (.cells #[.int .i64 0, .int .i64 0] 30) = w0 at *
  refine (HU1.out w0 (HI.out.below hb)).mono ?_
  rintro e w1 ⟨rfl, hr1, hc1⟩
  have HK1 := Lib.hid (hc1.blk hk (by simp; omega))
  have HC1 := Lib.hid ((Chg.of_below hb [g]).trans' hc1)
  have HR1 := Lib.hid hr1
  clear hk hb hr1 hc1 HI HU1
  go_wp2_with fail
  refine (HU2.out w1 HR1.out).mono ?_
  rintro e w2 ⟨rfl, hr2, hc2⟩
  have HK2 := Lib.hid (hc2.blk HK1.out (by simp; omega))
  have HC2 := Lib.hid (HC1.out.trans' hc2)
  have HR2 := Lib.hid hr2
  clear hr2 hc2 HU2 HR1 HC1 HK1
  obtain ⟨A, c, hg, _, _, _, _, hD⟩ := HR2.out
  have HG := Lib.hid hg
  have c1 : w2.cell? ⟨g, 1, none⟩ = some (.int .i64 e2) := (cell_of_row _ _ 1 _ _ _ hg).trans rfl
  have f0 : w2.frozen? ⟨w.heap.size, 0, none⟩ = false := frozen_of_row _ _ _ _ _ HK2.out
  have f1 : w2.frozen? ⟨w.heap.size, 1, none⟩ = false := frozen_of_row _ _ _ _ _ HK2.out
  have g0 : w2.cell? ⟨w.heap.size, 0, none⟩ = some (.int .i64 0) := (cell_of_row _ _ 0 _ _ _ HK2.out).trans rfl
  have g1 : w2.cell? ⟨w.heap.size, 1, none⟩ = some (.int .i64 0) := (cell_of_row _ _ 1 _ _ _ HK2.out).trans rfl
  clear hg
  have HEND : Hid (∀ (w3 : World) (x y : Int), w3.heap[w.heap.size]? = some (.cells #[.int .i64 0, .int .i64 0] 30 (0, 0)) → ∀ r3, IsRr D w3 g r3 → Chg [g] w w3 →
      ((w3.setCell ⟨w.heap.size, 0, none⟩ (.int .i64 x)).setCell ⟨w.heap.size, 1, none⟩ (.int .i64 y)).heap[w.heap.size]? = some (.cells #[.int .i64 x, .int .i64 y] 30 (0, 0)) ∧ RP D w g (.agg #[.int .i64 x, .int .i64 y]) r3 (.returned (.agg #[.int .i64 x, .int .i64 y])) ((w3.setCell ⟨w.heap.size, 0, none⟩ (.int .i64 x)).setCell ⟨w.heap.size, 1, none⟩ (.int .i64 y))) := by
    intro w3 x y h1 r3 h2 h3
    have hcs : Chg [w.heap.size] w3 ((w3.setCell ⟨w.heap.size, 0, none⟩ (.int .i64 x)).setCell ⟨w.heap.size, 1, none⟩ (.int .i64 y)) := ((Chg.refl _ w3).setCell (p := ⟨w.heap.size, 0, none⟩) (.inl (by simp)) _).setCell (p := ⟨w.heap.size, 1, none⟩) (.inl (by simp)) _
    exact ⟨heap_setCell_same _ _ _ _ _ _ (heap_setCell_same _ _ _ _ _ _ h1), rfl, h2.chg hcs (by simp; omega), h3.trans hcs (by simp)⟩
  by_cases he : e2 = 0
  · subst he
    by_cases hz : m = 0 ∧ s = 0
    · obtain ⟨hz1, hz2⟩ := hz
      subst hz1; subst hz2
      have HE2 : Hid (cr = ((0, 0), ⟨l2, 0⟩)) := by show _ = _; rw [HCR.out]; simp
      obtain ⟨he1, he2⟩ := HEND.out w2 0 0 (HK2.out) _ (HR2.out) (HC2.out); have HE1 := Lib.hid he1; have HE3 := Lib.hid he2; clear he1 he2
      go_wp2_with fail
      exact bodyPost_ret (results_cell_row rfl _ _ w.heap.size 30 _ (0, 0) _ rfl HE1.out Try.underlying30 rfl size_id) rfl (by rw [HE2.out]; exact HE3.out)
    · by_cases hv : 1 ≤ m ∧ m ≤ 8 ∧ 1 ≤ s ∧ s ≤ 1099511627775
      · have HE2 : Hid (cr = ((m, s), ⟨l2, 0⟩)) := by show _ = _; rw [HCR.out]; simp only [ne_eq, not_true_eq_false, false_or]; rw [if_neg hz, if_pos hv]
        obtain ⟨h1, h2, h3, h4⟩ := hv
        have m0 : ((m : Int) == 0) = false := by rw [beq_eq_false_iff_ne]; omega
        have s0 : ((s : Int) == 0) = false := by rw [beq_eq_false_iff_ne]; omega
        have d1 : decide ((m : Int) < 1) = false := by rw [decide_eq_false_iff_not]; omega
        have d2 : decide ((8 : Int) < (m : Int)) = false := by rw [decide_eq_false_iff_not]; omega
        have d3 : decide ((s : Int) < 1) = false := by rw [decide_eq_false_iff_not]; omega
        have d4 : decide ((1099511627775 : Int) < (s : Int)) = false := by rw [decide_eq_false_iff_not]; omega
        obtain ⟨he1, he2⟩ := HEND.out w2 m s HK2.out _ HR2.out HC2.out
        have HE1 := Lib.hid he1
        have HE3 := Lib.hid he2
        clear he1 he2 hz
        go_wp2_with fail
        exact bodyPost_ret (results_cell_row rfl _ _ w.heap.size 30 _ (0, 0) _ rfl HE1.out Try.underlying30 rfl size_id) rfl (by rw [HE2.out]; exact HE3.out)
      · have HE2 : Hid (cr = ((0, 0), failR 11)) := by show _ = _; rw [HCR.out]; simp only [ne_eq, not_true_eq_false, false_or]; rw [if_neg hz, if_neg hv]
        have HFA := Lib.hid (rfail_calls g _ _ 11 w2 hD HG.out)
        have hcase : (m = 0 ∧ s ≠ 0) ∨ 8 < m ∨ (1 ≤ m ∧ m ≤ 8 ∧ s = 0) ∨ (1 ≤ m ∧ m ≤ 8 ∧ 1099511627775 < s) := by omega
        clear hz hv
        rcases hcase with ⟨rfl, h1⟩ | h1 | ⟨h1, h2, rfl⟩ | ⟨h1, h2, h3⟩
        · have s0 : ((s : Int) == 0) = false := by rw [beq_eq_false_iff_ne]; omega
          clear h1
          go_wp2_with fail; refine HFA.out.mono ?_; rintro e w3 ⟨rfl, hr3, hc3⟩; have HK3 := Lib.hid (hc3.blk HK2.out (by simp; omega)); obtain ⟨he1, he2⟩ := HEND.out w3 0 0 HK3.out _ hr3 (HC2.out.trans' hc3); have HE1 := Lib.hid he1; have HE3 := Lib.hid he2; have f0 : w3.frozen? ⟨w.heap.size, 0, none⟩ = false := frozen_of_row _ _ _ _ _ HK3.out; have f1 : w3.frozen? ⟨w.heap.size, 1, none⟩ = false := frozen_of_row _ _ _ _ _ HK3.out; have g0 : w3.cell? ⟨w.heap.size, 0, none⟩ = some (.int .i64 0) := (cell_of_row _ _ 0 _ _ _ HK3.out).trans rfl; have g1 : w3.cell? ⟨w.heap.size, 1, none⟩ = some (.int .i64 0) := (cell_of_row _ _ 1 _ _ _ HK3.out).trans rfl; clear he1 he2 hr3 hc3; go_wp2_with fail; exact bodyPost_ret (results_cell_row rfl _ _ w.heap.size 30 _ (0, 0) _ rfl HE1.out Try.underlying30 rfl size_id) rfl (by rw [HE2.out]; exact HE3.out)
        · have m0 : ((m : Int) == 0) = false := by rw [beq_eq_false_iff_ne]; omega
          have d1 : decide ((m : Int) < 1) = false := by rw [decide_eq_false_iff_not]; omega
          have d2 : decide ((8 : Int) < (m : Int)) = true := by rw [decide_eq_true_eq]; omega
          go_wp2_with fail; refine HFA.out.mono ?_; rintro e w3 ⟨rfl, hr3, hc3⟩; have HK3 := Lib.hid (hc3.blk HK2.out (by simp; omega)); obtain ⟨he1, he2⟩ := HEND.out w3 0 0 HK3.out _ hr3 (HC2.out.trans' hc3); have HE1 := Lib.hid he1; have HE3 := Lib.hid he2; have f0 : w3.frozen? ⟨w.heap.size, 0, none⟩ = false := frozen_of_row _ _ _ _ _ HK3.out; have f1 : w3.frozen? ⟨w.heap.size, 1, none⟩ = false := frozen_of_row _ _ _ _ _ HK3.out; have g0 : w3.cell? ⟨w.heap.size, 0, none⟩ = some (.int .i64 0) := (cell_of_row _ _ 0 _ _ _ HK3.out).trans rfl; have g1 : w3.cell? ⟨w.heap.size, 1, none⟩ = some (.int .i64 0) := (cell_of_row _ _ 1 _ _ _ HK3.out).trans rfl; clear he1 he2 hr3 hc3; go_wp2_with fail; exact bodyPost_ret (results_cell_row rfl _ _ w.heap.size 30 _ (0, 0) _ rfl HE1.out Try.underlying30 rfl size_id) rfl (by rw [HE2.out]; exact HE3.out)
        · have m0 : ((m : Int) == 0) = false := by rw [beq_eq_false_iff_ne]; omega
          have d1 : decide ((m : Int) < 1) = false := by rw [decide_eq_false_iff_not]; omega
          have d2 : decide ((8 : Int) < (m : Int)) = false := by rw [decide_eq_false_iff_not]; omega
          go_wp2_with fail; refine HFA.out.mono ?_; rintro e w3 ⟨rfl, hr3, hc3⟩; have HK3 := Lib.hid (hc3.blk HK2.out (by simp; omega)); obtain ⟨he1, he2⟩ := HEND.out w3 0 0 HK3.out _ hr3 (HC2.out.trans' hc3); have HE1 := Lib.hid he1; have HE3 := Lib.hid he2; have f0 : w3.frozen? ⟨w.heap.size, 0, none⟩ = false := frozen_of_row _ _ _ _ _ HK3.out; have f1 : w3.frozen? ⟨w.heap.size, 1, none⟩ = false := frozen_of_row _ _ _ _ _ HK3.out; have g0 : w3.cell? ⟨w.heap.size, 0, none⟩ = some (.int .i64 0) := (cell_of_row _ _ 0 _ _ _ HK3.out).trans rfl; have g1 : w3.cell? ⟨w.heap.size, 1, none⟩ = some (.int .i64 0) := (cell_of_row _ _ 1 _ _ _ HK3.out).trans rfl; clear he1 he2 hr3 hc3; go_wp2_with fail; exact bodyPost_ret (results_cell_row rfl _ _ w.heap.size 30 _ (0, 0) _ rfl HE1.out Try.underlying30 rfl size_id) rfl (by rw [HE2.out]; exact HE3.out)
        · have m0 : ((m : Int) == 0) = false := by rw [beq_eq_false_iff_ne]; omega
          have s0 : ((s : Int) == 0) = false := by rw [beq_eq_false_iff_ne]; omega
          have d1 : decide ((m : Int) < 1) = false := by rw [decide_eq_false_iff_not]; omega
          have d2 : decide ((8 : Int) < (m : Int)) = false := by rw [decide_eq_false_iff_not]; omega
          have d3 : decide ((s : Int) < 1) = false := by rw [decide_eq_false_iff_not]; omega
          have d4 : decide ((1099511627775 : Int) < (s : Int)) = true := by rw [decide_eq_true_eq]; omega
          go_wp2_with fail; refine HFA.out.mono ?_; rintro e w3 ⟨rfl, hr3, hc3⟩; have HK3 := Lib.hid (hc3.blk HK2.out (by simp; omega)); obtain ⟨he1, he2⟩ := HEND.out w3 0 0 HK3.out _ hr3 (HC2.out.trans' hc3); have HE1 := Lib.hid he1; have HE3 := Lib.hid he2; have f0 : w3.frozen? ⟨w.heap.size, 0, none⟩ = false := frozen_of_row _ _ _ _ _ HK3.out; have f1 : w3.frozen? ⟨w.heap.size, 1, none⟩ = false := frozen_of_row _ _ _ _ _ HK3.out; have g0 : w3.cell? ⟨w.heap.size, 0, none⟩ = some (.int .i64 0) := (cell_of_row _ _ 0 _ _ _ HK3.out).trans rfl; have g1 : w3.cell? ⟨w.heap.size, 1, none⟩ = some (.int .i64 0) := (cell_of_row _ _ 1 _ _ _ HK3.out).trans rfl; clear he1 he2 hr3 hc3; go_wp2_with fail; exact bodyPost_ret (results_cell_row rfl _ _ w.heap.size 30 _ (0, 0) _ rfl HE1.out Try.underlying30 rfl size_id) rfl (by rw [HE2.out]; exact HE3.out)
  · have HE2 : Hid (cr = ((0, 0), ⟨l2, e2⟩)) := by show _ = _; rw [HCR.out]; rw [if_pos (.inl he)]
    have q1 : (e2 != 0) = true := by simpa using he
    clear he
    obtain ⟨he1, he2⟩ := HEND.out w2 0 0 (HK2.out) _ (HR2.out) (HC2.out); have HE1 := Lib.hid he1; have HE3 := Lib.hid he2; clear he1 he2
    go_wp2_with fail
    exact bodyPost_ret (results_cell_row rfl _ _ w.heap.size 30 _ (0, 0) _ rfl HE1.out Try.underlying30 rfl size_id) rfl (by rw [HE2.out]; exact HE3.out)
end Wi
end Go.Proofs.Ytddoepaplbnlcaa

/- The walks of the reader's Bool, Count, ID. -/
namespace Go.Proofs.Ytddoepaplbnlcaa
open Go.RowKit
namespace Wi
open Wr

/-- try, over a closure that only reads -/
def TroP (g : Nat) (l : List UInt8) (E : Int) (w : World) (e : Ending) (w'' : World) : Prop :=
  (E = 0 ∧ e = .returned (.bool true) ∧ IsRd w'' g ⟨l, 0⟩ ∧ Chg [g] w w'') ∨ (E ≠ 0 ∧ e = .returned (.bool false) ∧ IsRd w'' g (failR E) ∧ Chg [g] w w'')
theorem try_ro (F : Nat) (caps : Array Value) (hcf : ∀ w' : World, (callFunc F caps).run Try.prog w' = .ok (.enter F caps) w') (g : Nat) (w : World) (l : List UInt8) (h : IsRd w g ⟨l, 0⟩) (E : Int)
    (H : Calls Try.prog F caps w (fun e w' => e = .returned (.int .i64 E) ∧ Chg [] w w')) :
    Calls Try.prog 75 #[.pointer (some ⟨g, 0, none⟩), .func (Fn.func F) #[] caps] w (TroP g l E w) := by
  obtain ⟨A, c, hg, hlc, hcm, hrb, hne⟩ := id h
  refine (try_calls F caps hcf g w _ hg (fun ec sl w' => ec = E ∧ sl = .slice A l.length c ∧ Chg [] w w') (H.mono ?_)).mono ?_
  · rintro e w' ⟨rfl, hc⟩
    exact ⟨E, _, rfl, hc.blk hg (by simp), rfl, rfl, hc⟩
  · rintro e w'' ⟨ec, sl, w', ⟨rfl, rfl, hc⟩, hg', hcase⟩
    rcases hcase with ⟨h0, rfl, rfl⟩ | ⟨h0, rfl, rfl⟩
    · have hcs : Chg [g] w' (w'.setCell ⟨g, 1, none⟩ (.int .i64 0)) := (Chg.refl [g] w').setCell (p := ⟨g, 1, none⟩) (.inl (by simp)) _
      refine .inl ⟨h0, rfl, ⟨A, c, heap_setCell_same _ _ _ _ _ _ hg', hlc, hcm, ?_, hne⟩, (hc.mono (by simp)).trans' hcs⟩
      refine RB.chg (RB.chg hrb hc (by simp)) hcs (fun hp b off e => ?_)
      have := hne hp b off e
      simp; omega
    · refine .inr ⟨h0, rfl, ⟨none, 0, heap_setCell_same _ _ _ _ _ _ (heap_setCell_same _ _ _ _ _ _ hg'), Nat.le_refl _, by simp [maxLen], RB.nil, fun h => by cases h⟩, ?_⟩
      exact ((hc.mono (by simp)).setCell (p := ⟨g, 1, none⟩) (.inl (by simp)) _).setCell (p := ⟨g, 0, none⟩) (.inl (by simp)) _

def DP (w : World) (g : Nat) (v : Value) (r2 : Rs) (e : Ending) (w' : World) : Prop := e = .returned v ∧ IsRd w' g r2 ∧ Chg [g] w w'

/-! ### Count -/
theorem enters_count : ∀ (args : Array Value) (w' : World), (callFunc 76 args).run Try.prog w' = .ok (.enter 76 args) w' := enters_of Try.func76 (by kernel_rfl) rfl

def cntE (most : Int) (n len : Nat) : Int := if most < 0 ∨ most < (n : Int) then 8 else if len < n then 11 else 0
set_option maxRecDepth 100000 in
set_option maxHeartbeats 1000000 in
theorem count1_calls (M0 N0 R0 g : Nat) (most : Int) (n : Nat) (A : Option Addr) (m c : Nat) (er : Value) (w : World) (hM : w.heap[M0]? = some (.cells #[.int .i64 most] 3 (0, 0))) (hN : w.heap[N0]? = some (.cells #[.int .u64 (n : Int)] 102 (0, 0)))
    (hR : w.heap[R0]? = some (.cells #[.pointer (some ⟨g, 0, none⟩)] 90 (0, 0))) (hg : w.heap[g]? = some (.cells #[.slice A m c, er] 119 (0, 0))) (hmc : m ≤ c) (hcm : c ≤ maxLen) (_hn : n < 18446744073709551616) (_h2 : most ≤ 9223372036854775807) :
    Calls Try.prog 76 #[.pointer (some ⟨M0, 0, none⟩), .pointer (some ⟨N0, 0, none⟩), .pointer (some ⟨R0, 0, none⟩)] w (fun e w' => e = .returned (.int .i64 (cntE most n m)) ∧ Chg [] w w') := by
  unfold maxLen at hcm
  have m0 : w.cell? ⟨M0, 0, none⟩ = some (.int .i64 most) := (cell_of_row _ _ 0 _ _ _ hM).trans rfl
  have n0 : w.cell? ⟨N0, 0, none⟩ = some (.int .u64 (n : Int)) := (cell_of_row _ _ 0 _ _ _ hN).trans rfl
  have r0 : w.cell? ⟨R0, 0, none⟩ = some (.pointer (some ⟨g, 0, none⟩)) := (cell_of_row _ _ 0 _ _ _ hR).trans rfl
  have g0 : w.cell? ⟨g, 0, none⟩ = some (.slice A m c) := (cell_of_row _ _ 0 _ _ _ hg).trans rfl
  clear hM hN hR hg
  have hw : IntKind.u64.wrap (m : Int) = (m : Int) := by rw [IntKind.wrap_u64]; omega
  by_cases h1 : most < 0
  · have HE : Hid (cntE most n m = 8) := by show _ = _; unfold cntE; rw [if_pos (.inl h1)]
    have d1 : decide (most < 0) = true := by simpa using h1
    rw [HE.out]
    go_enter Try.func76, Try.ntmps76
    go_wp2_with fail
    go_ret
    exact ⟨rfl, Chg.refl _ _⟩
  · have d1 : decide (most < 0) = false := by simpa using h1
    have hz : 0 ≤ most := by omega
    by_cases h2 : most < (n : Int)
    · have HE : Hid (cntE most n m = 8) := by show _ = _; unfold cntE; rw [if_pos (.inr h2)]
      have d2 : decide (most < (n : Int)) = true := by simpa using h2
      rw [HE.out]
      clear h1
      go_enter Try.func76, Try.ntmps76
      go_wp2_with fail
      go_ret
      exact ⟨rfl, Chg.refl _ _⟩
    · have d2 : decide (most < (n : Int)) = false := by simpa using h2
      by_cases h3 : m < n
      · have HE : Hid (cntE most n m = 11) := by show _ = _; unfold cntE; rw [if_neg (by omega), if_pos h3]
        have d3 : decide ((m : Int) < (n : Int)) = true := by simp; omega
        have d3' : decide (m < n) = true := by simpa using h3
        rw [HE.out]
        clear h1 h2
        go_enter Try.func76, Try.ntmps76
        go_wp2_with fail
        go_quiet (fail)
        go_wp2_with fail
        go_ret
        exact ⟨rfl, (Chg.refl _ _).drewN _⟩
      · have HE : Hid (cntE most n m = 0) := by show _ = _; unfold cntE; rw [if_neg (by omega), if_neg h3]
        have d3 : decide ((m : Int) < (n : Int)) = false := by simp; omega
        have d3' : decide (m < n) = false := by simpa using h3
        rw [HE.out]
        clear h1 h2
        go_enter Try.func76, Try.ntmps76
        go_wp2_with fail
        go_quiet (fail)
        go_wp2_with fail
        go_ret
        exact ⟨rfl, (Chg.refl _ _).drewN _⟩

set_option maxRecDepth 100000 in
set_option maxHeartbeats 1000000 in
theorem count_calls (g : Nat) (r : Rs) (most : Int) (w : World) (h : IsRd w g r) (hm1 : -9223372036854775808 ≤ most) (hm2 : most ≤ 9223372036854775807) :
    Calls Try.prog 47 #[.pointer (some ⟨g, 0, none⟩), .int .i64 most] w (DP w g (.int .i64 ((countR most r).1 : Int)) (countR most r).2) := by
  have hgl := h.lt
  have HU := Lib.hid (fun w' (h' : IsRd w' g r) => uint_calls g r w' h')
  unfold UintPost at HU
  have hlt := uintR_lt r
  have HI := Lib.hid h
  obtain ⟨cr, HCR⟩ : ∃ x, Hid (x = countR most r) := ⟨_, rfl⟩
  have HCR' := HCR.out
  unfold countR at HCR'
  rw [show uintR r = ((uintR r).1, (uintR r).2) from rfl] at HCR'
  rw [← HCR.out]
  clear HCR h
  generalize (uintR r).1 = n at *
  generalize (uintR r).2 = r2 at *
  obtain ⟨l2, e2⟩ := r2
  simp only at HCR'
  have HCR := Lib.hid HCR'
  clear HCR'
  go_enter Try.func47, Try.ntmps47
  go_wp2_with fail
  have hb1 := below2 w (.cells #[.pointer (some ⟨g, 0, none⟩)] 90) (.cells #[.int .i64 most] 3)
  have hR1 : ((w.alloc (.cells #[.pointer (some ⟨g, 0, none⟩)] 90)).alloc (.cells #[.int .i64 most] 3)).heap[w.heap.size]? = _ := (Below.heap_alloc _ _ _ (by simp)).trans (heap_alloc_new _ _)
  have hM1 : ((w.alloc (.cells #[.pointer (some ⟨g, 0, none⟩)] 90)).alloc (.cells #[.int .i64 most] 3)).heap[w.heap.size + 1]? = _ := heap_alloc2_new _ _ _
  generalize (w.alloc (.cells #[.pointer (some ⟨g, 0, none⟩)] 90)).alloc (.cells #[.int .i64 most] 3) = w1 at *
  refine (HU.out w1 (HI.out.below hb1)).mono ?_
  rintro e w2 ⟨rfl, hr2, hc2⟩
  have HRB := Lib.hid (hc2.blk hR1 (by simp; omega))
  have HMB := Lib.hid (hc2.blk hM1 (by simp; omega))
  have hs2 : w.heap.size + 1 < w2.heap.size := (Array.getElem?_eq_some_iff.1 HMB.out).1
  have HC2 := Lib.hid ((Chg.of_below hb1 [g]).trans' hc2)
  have HR2 := Lib.hid hr2
  have r0 : ∀ o : Obj, (w2.alloc o).cell? ⟨w.heap.size, 0, none⟩ = some (.pointer (some ⟨g, 0, none⟩)) := fun o => (World.cell?_alloc_lt w2 o ⟨w.heap.size, 0, none⟩ (by show w.heap.size < _; omega)).trans ((cell_of_row _ _ 0 _ _ _ HRB.out).trans rfl)
  have r0' : w2.cell? ⟨w.heap.size, 0, none⟩ = some (.pointer (some ⟨g, 0, none⟩)) := (cell_of_row _ _ 0 _ _ _ HRB.out).trans rfl
  clear hb1 hR1 hM1 hr2 hc2 HI HU
  go_wp2_with fail
  have hb3 := below1 w2 (.cells #[.int .u64 (n : Int)] 102)
  have hN := heap_alloc_new w2 (.cells #[.int .u64 (n : Int)] 102)
  change Calls _ _ _ (w2.alloc (.cells #[.int .u64 (n : Int)] 102)) _
  clear r0
  generalize w2.alloc (.cells #[.int .u64 (n : Int)] 102) = w3 at *
  have HN3 := Lib.hid hN
  have HR3 := Lib.hid (HR2.out.below hb3)
  have HC3 := Lib.hid (HC2.out.trans' (Chg.of_below hb3 [g]))
  have HRB3 := Lib.hid ((hb3.block _ (by omega)).trans HRB.out)
  have HMB3 := Lib.hid ((hb3.block _ hs2).trans HMB.out)
  have hgs : g < w2.heap.size := by omega
  clear hN hb3 r0' HRB HMB HC2 HR2
  by_cases he : e2 = 0
  · subst he
    obtain ⟨A, c, hg, hlc, hcm, _, _⟩ := HR3.out
    have HX := Lib.hid (count1_calls (w.heap.size + 1) w2.heap.size w.heap.size g most n A l2.length c _ w3 HMB3.out HN3.out HRB3.out hg hlc hcm hlt hm2)
    clear hg hlc hcm
    refine (try_ro _ _ (enters_count _) g w3 l2 HR3.out (cntE most n l2.length) HX.out).mono ?_
    rintro e w4 (⟨h0, rfl, hr4, hc4⟩ | ⟨h0, rfl, hr4, hc4⟩)
    · have HE : Hid (cr = (n, ⟨l2, 0⟩)) := by
        show _ = _; rw [HCR.out]; unfold cntE at h0
        rw [if_neg (by simp)]
        split at h0
        · cases h0
        · rename_i hx; rw [if_neg hx]; split at h0
          · cases h0
          · rename_i hy; rw [if_neg hy]
      have hnm : (n : Int) ≤ most := by unfold cntE at h0; split at h0; cases h0; omega
      have n0 : w4.cell? ⟨w2.heap.size, 0, none⟩ = some (.int .u64 (n : Int)) := (hc4.cellAt HN3.out (by simp; omega)).trans rfl
      have HZ : Hid (DP w g (.int .i64 (cr.1 : Int)) cr.2 (.returned (.int .i64 (n : Int))) w4) := by rw [HE.out]; exact ⟨rfl, hr4, HC3.out.trans' hc4⟩
      clear hr4 hc4 h0
      go_wp2_with fail
      go_ret
      exact HZ.out
    · have HE : Hid (cr = (0, failR (cntE most n l2.length))) := by
        show _ = _; rw [HCR.out]; unfold cntE at h0 ⊢
        rw [if_neg (by simp)]
        split
        · rfl
        · rename_i hx; rw [if_neg hx] at h0; split
          · rfl
          · rename_i hy; rw [if_neg hy] at h0; exact absurd rfl h0
      have HZ : Hid (DP w g (.int .i64 (cr.1 : Int)) cr.2 (.returned (.int .i64 0)) w4) := by rw [HE.out]; exact ⟨rfl, hr4, HC3.out.trans' hc4⟩
      clear hr4 hc4 h0
      go_wp2_with fail
      go_ret
      exact HZ.out
  · obtain ⟨A, c, hg, _⟩ := HR3.out
    refine (try_no _ g w3 _ e2 hg he).mono ?_
    rintro e w4 ⟨rfl, rfl⟩
    have HZ : Hid (DP w g (.int .i64 (cr.1 : Int)) cr.2 (.returned (.int .i64 0)) w3) := by
      have := HCR.out
      rw [if_pos he] at this
      rw [this]; exact ⟨rfl, HR3.out, HC3.out⟩
    clear hg
    go_wp2_with fail
    go_ret
    exact HZ.out
end Wi
end Go.Proofs.Ytddoepaplbnlcaa

/- The walk of the reader's ID. -/
namespace Go.Proofs.Ytddoepaplbnlcaa
open Go.RowKit
namespace Wi
open Wr

def idE (m s : Nat) : Int := if (m = 0 ∧ s = 0) ∨ (1 ≤ m ∧ m ≤ 8 ∧ 1 ≤ s ∧ s ≤ 1099511627775) then 0 else 11

set_option maxRecDepth 100000 in
set_option maxHeartbeats 1000000 in
theorem id1_calls (M0 S0 : Nat) (m s : Nat) (w : World) (hM : w.heap[M0]? = some (.cells #[.int .u64 (m : Int)] 102 (0, 0))) (hS : w.heap[S0]? = some (.cells #[.int .u64 (s : Int)] 102 (0, 0))) :
    Calls Try.prog 91 #[.pointer (some ⟨M0, 0, none⟩), .pointer (some ⟨S0, 0, none⟩)] w (fun e w' => e = .returned (.int .i64 (idE m s)) ∧ Chg [] w w') := by
  have m0 : w.cell? ⟨M0, 0, none⟩ = some (.int .u64 (m : Int)) := (cell_of_row _ _ 0 _ _ _ hM).trans rfl
  have s0 : w.cell? ⟨S0, 0, none⟩ = some (.int .u64 (s : Int)) := (cell_of_row _ _ 0 _ _ _ hS).trans rfl
  clear hM hS
  have hcase : (m = 0 ∧ s = 0) ∨ (m = 0 ∧ s ≠ 0) ∨ 8 < m ∨ (1 ≤ m ∧ m ≤ 8 ∧ s = 0) ∨ (1 ≤ m ∧ m ≤ 8 ∧ 1099511627775 < s) ∨ (1 ≤ m ∧ m ≤ 8 ∧ 1 ≤ s ∧ s ≤ 1099511627775) := by omega
  rcases hcase with ⟨rfl, rfl⟩ | ⟨rfl, h1⟩ | h1 | ⟨h1, h2, rfl⟩ | ⟨h1, h2, h3⟩ | ⟨h1, h2, h3, h4⟩
  · have HE : Hid (idE 0 0 = 0) := rfl
    rw [HE.out]
    go_enter Try.func91, Try.ntmps91; go_wp2_with fail; go_ret; exact ⟨rfl, Chg.refl _ _⟩
  · have HE : Hid (idE 0 s = 11) := by show _ = _; unfold idE; rw [if_neg (by omega)]
    rw [HE.out]
    have b2 : ((s : Int) == 0) = false := by rw [beq_eq_false_iff_ne]; omega
    clear h1
    go_enter Try.func91, Try.ntmps91; go_wp2_with fail; go_ret; exact ⟨rfl, Chg.refl _ _⟩
  · have HE : Hid (idE m s = 11) := by show _ = _; unfold idE; rw [if_neg (by omega)]
    rw [HE.out]
    have b1 : ((m : Int) == 0) = false := by rw [beq_eq_false_iff_ne]; omega
    have d1 : decide ((1 : Int) ≤ (m : Int)) = true := by rw [decide_eq_true_eq]; omega
    have d2 : decide ((m : Int) ≤ 8) = false := by rw [decide_eq_false_iff_not]; omega
    go_enter Try.func91, Try.ntmps91; go_wp2_with fail; go_ret; exact ⟨rfl, Chg.refl _ _⟩
  · have HE : Hid (idE m 0 = 11) := by show _ = _; unfold idE; rw [if_neg (by omega)]
    rw [HE.out]
    have b1 : ((m : Int) == 0) = false := by rw [beq_eq_false_iff_ne]; omega
    have d1 : decide ((1 : Int) ≤ (m : Int)) = true := by rw [decide_eq_true_eq]; omega
    have d2 : decide ((m : Int) ≤ 8) = true := by rw [decide_eq_true_eq]; omega
    go_enter Try.func91, Try.ntmps91; go_wp2_with fail; go_ret; exact ⟨rfl, Chg.refl _ _⟩
  · have HE : Hid (idE m s = 11) := by show _ = _; unfold idE; rw [if_neg (by omega)]
    rw [HE.out]
    have b1 : ((m : Int) == 0) = false := by rw [beq_eq_false_iff_ne]; omega
    have d1 : decide ((1 : Int) ≤ (m : Int)) = true := by rw [decide_eq_true_eq]; omega
    have d2 : decide ((m : Int) ≤ 8) = true := by rw [decide_eq_true_eq]; omega
    have d3 : decide ((1 : Int) ≤ (s : Int)) = true := by rw [decide_eq_true_eq]; omega
    have d4 : decide ((s : Int) ≤ 1099511627775) = false := by rw [decide_eq_false_iff_not]; omega
    go_enter Try.func91, Try.ntmps91; go_wp2_with fail; go_ret; exact ⟨rfl, Chg.refl _ _⟩
  · have HE : Hid (idE m s = 0) := by show _ = _; unfold idE; rw [if_pos (by omega)]
    rw [HE.out]
    have b1 : ((m : Int) == 0) = false := by rw [beq_eq_false_iff_ne]; omega
    have d1 : decide ((1 : Int) ≤ (m : Int)) = true := by rw [decide_eq_true_eq]; omega
    have d2 : decide ((m : Int) ≤ 8) = true := by rw [decide_eq_true_eq]; omega
    have d3 : decide ((1 : Int) ≤ (s : Int)) = true := by rw [decide_eq_true_eq]; omega
    have d4 : decide ((s : Int) ≤ 1099511627775) = true := by rw [decide_eq_true_eq]; omega
    go_enter Try.func91, Try.ntmps91; go_wp2_with fail; go_ret; exact ⟨rfl, Chg.refl _ _⟩

theorem idR_zero (r : Rs) (m s : Nat) (r2 : Rs) (hm : (uintR r).1 = m) (hs : (uintR (uintR r).2).1 = s) (hr : (uintR (uintR r).2).2 = r2) :
    idR r = if r2.e ≠ 0 then ((0, 0), r2) else if idE m s = 0 then ((m, s), r2) else ((0, 0), failR 11) := by
  subst hm; subst hs; subst hr
  unfold idR idE
  by_cases he : (uintR (uintR r).2).2.e ≠ 0
  · rw [if_pos (.inl he), if_pos he]
  · rw [if_neg he]
    by_cases hz : (uintR r).1 = 0 ∧ (uintR (uintR r).2).1 = 0
    · rw [if_pos (.inr hz), if_pos (by rw [if_pos (.inl hz)]), hz.1, hz.2]
    · rw [if_neg (by rintro (h | h); exact he h; exact hz h)]
      by_cases hv : 1 ≤ (uintR r).1 ∧ (uintR r).1 ≤ 8 ∧ 1 ≤ (uintR (uintR r).2).1 ∧ (uintR (uintR r).2).1 ≤ 1099511627775
      · rw [if_pos hv, if_pos (by rw [if_pos (.inr hv)])]
      · rw [if_neg hv, if_neg (by rw [if_neg (by rintro (h | h); exact hz h; exact hv h)]; decide)]

theorem enters_idV : ∀ (args : Array Value) (w' : World), (callFunc 91 args).run Try.prog w' = .ok (.enter 91 args) w' := enters_of Try.func91 (by kernel_rfl) rfl

set_option maxRecDepth 100000 in
set_option maxHeartbeats 2000000 in
theorem id_calls (g : Nat) (r : Rs) (w : World) (h : IsRd w g r) :
    Calls Try.prog 77 #[.pointer (some ⟨g, 0, none⟩)] w (DP w g (.agg #[.int .i64 (((idR r).1.1 : Nat) : Int), .int .i64 (((idR r).1.2 : Nat) : Int)]) (idR r).2) := by
  have hgl := h.lt
  have HU1 := Lib.hid (fun w' (h' : IsRd w' g r) => uint_calls g r w' h')
  have HU2 := Lib.hid (fun w' (h' : IsRd w' g (uintR r).2) => uint_calls g (uintR r).2 w' h')
  unfold UintPost at HU1 HU2
  have hlt1 := uintR_lt r
  have hlt2 := uintR_lt (uintR r).2
  have HI := Lib.hid h
  have HCR0 := Lib.hid (idR_zero r _ _ _ rfl rfl rfl)
  obtain ⟨cr, HCR⟩ : ∃ x, Hid (x = idR r) := ⟨_, rfl⟩
  rw [← HCR.out]
  rw [← HCR.out] at HCR0
  clear HCR h
  generalize (uintR (uintR r).2).1 = s at *
  generalize (uintR (uintR r).2).2 = r2 at *
  generalize (uintR r).1 = m at *
  generalize (uintR r).2 = r1 at *
  obtain ⟨l2, e2⟩ := r2
  simp only at HCR0
  go_enter Try.func77, Try.ntmps77
  go_wp2_with fail
  have hk := heap_alloc_new w (.cells #[.int .i64 0, .int .i64 0] 30)
  have hb := below1 w (.cells #[.int .i64 0, .int .i64 0] 30)
  generalize w.alloc (.cells #[.int .i64 0, .int .i64 0] 30) = w0 at *
  refine (HU1.out w0 (HI.out.below hb)).mono ?_
  rintro e w1 ⟨rfl, hr1, hc1⟩
  have HK1 := Lib.hid (hc1.blk hk (by simp; omega))
  have HC1 := Lib.hid ((Chg.of_below hb [g]).trans' hc1)
  have HR1 := Lib.hid hr1
  clear hk hb hr1 hc1 HI HU1
  go_wp2_with fail
  refine (HU2.out w1 HR1.out).mono ?_
  rintro e w2 ⟨rfl, hr2, hc2⟩
  have HK2 := Lib.hid (hc2.blk HK1.out (by simp; omega))
  have HC2 := Lib.hid (HC1.out.trans' hc2)
  have HR2 := Lib.hid hr2
  have hs2 : w.heap.size < w2.heap.size := (Array.getElem?_eq_some_iff.1 HK2.out).1
  clear hr2 hc2 HU2 HR1 HC1 HK1
  go_wp2_with fail
  have hb3 := below2 w2 (.cells #[.int .u64 (m : Int)] 102) (.cells #[.int .u64 (s : Int)] 102)
  have hM3 : ((w2.alloc (.cells #[.int .u64 (m : Int)] 102)).alloc (.cells #[.int .u64 (s : Int)] 102)).heap[w2.heap.size]? = _ := (Below.heap_alloc _ _ _ (by simp)).trans (heap_alloc_new _ _)
  have hS3 : ((w2.alloc (.cells #[.int .u64 (m : Int)] 102)).alloc (.cells #[.int .u64 (s : Int)] 102)).heap[w2.heap.size + 1]? = _ := heap_alloc2_new _ _ _
  change Calls _ _ _ ((w2.alloc (.cells #[.int .u64 (m : Int)] 102)).alloc (.cells #[.int .u64 (s : Int)] 102)) _
  generalize (w2.alloc (.cells #[.int .u64 (m : Int)] 102)).alloc (.cells #[.int .u64 (s : Int)] 102) = w3 at *
  have HM3 := Lib.hid hM3
  have HS3 := Lib.hid hS3
  have HK3 := Lib.hid ((hb3.block _ hs2).trans HK2.out)
  have HR3 := Lib.hid (HR2.out.below hb3)
  have HC3 := Lib.hid (HC2.out.trans' (Chg.of_below hb3 [g]))
  clear hb3 hM3 hS3 HK2 HC2 HR2
  have HEND : Hid (∀ (w3 : World) (x y : Int), w3.heap[w.heap.size]? = some (.cells #[.int .i64 0, .int .i64 0] 30 (0, 0)) → ∀ r3, IsRd w3 g r3 → Chg [g] w w3 →
      ((w3.setCell ⟨w.heap.size, 0, none⟩ (.int .i64 x)).setCell ⟨w.heap.size, 1, none⟩ (.int .i64 y)).heap[w.heap.size]? = some (.cells #[.int .i64 x, .int .i64 y] 30 (0, 0)) ∧ DP w g (.agg #[.int .i64 x, .int .i64 y]) r3 (.returned (.agg #[.int .i64 x, .int .i64 y])) ((w3.setCell ⟨w.heap.size, 0, none⟩ (.int .i64 x)).setCell ⟨w.heap.size, 1, none⟩ (.int .i64 y))) := by
    intro w3 x y h1 r3 h2 h3
    have hcs : Chg [w.heap.size] w3 ((w3.setCell ⟨w.heap.size, 0, none⟩ (.int .i64 x)).setCell ⟨w.heap.size, 1, none⟩ (.int .i64 y)) := ((Chg.refl _ w3).setCell (p := ⟨w.heap.size, 0, none⟩) (.inl (by simp)) _).setCell (p := ⟨w.heap.size, 1, none⟩) (.inl (by simp)) _
    exact ⟨heap_setCell_same _ _ _ _ _ _ (heap_setCell_same _ _ _ _ _ _ h1), rfl, h2.chg hcs (by simp; omega), h3.trans hcs (by simp)⟩
  by_cases he : e2 = 0
  · subst he
    have HX := Lib.hid (id1_calls w2.heap.size (w2.heap.size + 1) m s w3 HM3.out HS3.out)
    refine (try_ro _ _ (enters_idV _) g w3 l2 HR3.out (idE m s) HX.out).mono ?_
    rintro e w4 (⟨h0, rfl, hr4, hc4⟩ | ⟨h0, rfl, hr4, hc4⟩)
    · have HE2 : Hid (cr = ((m, s), ⟨l2, 0⟩)) := by show _ = _; rw [HCR0.out, if_neg (by simp), if_pos h0]
      have hmb : m ≤ 8 := by unfold idE at h0; split at h0; omega; cases h0
      have hsb : s ≤ 1099511627775 := by unfold idE at h0; split at h0; omega; cases h0
      have HK4 := Lib.hid (hc4.blk HK3.out (by simp; omega))
      have m4 : w4.cell? ⟨w2.heap.size, 0, none⟩ = some (.int .u64 (m : Int)) := (hc4.cellAt HM3.out (by simp; omega)).trans rfl
      have s4 : w4.cell? ⟨w2.heap.size + 1, 0, none⟩ = some (.int .u64 (s : Int)) := (hc4.cellAt HS3.out (by simp; omega)).trans rfl
      have f0 : w4.frozen? ⟨w.heap.size, 0, none⟩ = false := frozen_of_row _ _ _ _ _ HK4.out; have f1 : w4.frozen? ⟨w.heap.size, 1, none⟩ = false := frozen_of_row _ _ _ _ _ HK4.out; have g0 : w4.cell? ⟨w.heap.size, 0, none⟩ = some (.int .i64 0) := (cell_of_row _ _ 0 _ _ _ HK4.out).trans rfl; have g1 : w4.cell? ⟨w.heap.size, 1, none⟩ = some (.int .i64 0) := (cell_of_row _ _ 1 _ _ _ HK4.out).trans rfl
      obtain ⟨he1, he2⟩ := HEND.out w4 m s (HK4.out) _ (hr4) (HC3.out.trans' hc4); have HE1 := Lib.hid he1; have HE3 := Lib.hid he2; clear he1 he2
      clear hr4 hc4 h0
      go_wp2_with fail
      exact bodyPost_ret (results_cell_row rfl _ _ w.heap.size 30 _ (0, 0) _ rfl HE1.out Try.underlying30 rfl size_id) rfl (by rw [HE2.out]; exact HE3.out)
    · have HE2 : Hid (cr = ((0, 0), failR 11)) := by show _ = _; rw [HCR0.out, if_neg (by simp), if_neg h0]
      have hE : idE m s = 11 := by unfold idE at h0 ⊢; split at h0; exact absurd rfl h0; rename_i h; rw [if_neg h]
      rw [hE] at hr4
      have HK4 := Lib.hid (hc4.blk HK3.out (by simp; omega))
      have f0 : w4.frozen? ⟨w.heap.size, 0, none⟩ = false := frozen_of_row _ _ _ _ _ HK4.out; have f1 : w4.frozen? ⟨w.heap.size, 1, none⟩ = false := frozen_of_row _ _ _ _ _ HK4.out; have g0 : w4.cell? ⟨w.heap.size, 0, none⟩ = some (.int .i64 0) := (cell_of_row _ _ 0 _ _ _ HK4.out).trans rfl; have g1 : w4.cell? ⟨w.heap.size, 1, none⟩ = some (.int .i64 0) := (cell_of_row _ _ 1 _ _ _ HK4.out).trans rfl
      obtain ⟨he1, he2⟩ := HEND.out w4 0 0 (HK4.out) _ (hr4) (HC3.out.trans' hc4); have HE1 := Lib.hid he1; have HE3 := Lib.hid he2; clear he1 he2
      clear hr4 hc4 h0 hE
      go_wp2_with fail
      exact bodyPost_ret (results_cell_row rfl _ _ w.heap.size 30 _ (0, 0) _ rfl HE1.out Try.underlying30 rfl size_id) rfl (by rw [HE2.out]; exact HE3.out)
  · obtain ⟨A, c, hg, _⟩ := HR3.out
    refine (try_no _ g w3 _ e2 hg he).mono ?_
    rintro e w4 ⟨rfl, rfl⟩
    have HE2 : Hid (cr = ((0, 0), ⟨l2, e2⟩)) := by show _ = _; rw [HCR0.out, if_pos he]
    clear hg he
    have f0 : w3.frozen? ⟨w.heap.size, 0, none⟩ = false := frozen_of_row _ _ _ _ _ HK3.out; have f1 : w3.frozen? ⟨w.heap.size, 1, none⟩ = false := frozen_of_row _ _ _ _ _ HK3.out; have g0 : w3.cell? ⟨w.heap.size, 0, none⟩ = some (.int .i64 0) := (cell_of_row _ _ 0 _ _ _ HK3.out).trans rfl; have g1 : w3.cell? ⟨w.heap.size, 1, none⟩ = some (.int .i64 0) := (cell_of_row _ _ 1 _ _ _ HK3.out).trans rfl
    obtain ⟨he1, he2⟩ := HEND.out w3 0 0 (HK3.out) _ (HR3.out) (HC3.out); have HE1 := Lib.hid he1; have HE3 := Lib.hid he2; clear he1 he2
    go_wp2_with fail
    exact bodyPost_ret (results_cell_row rfl _ _ w.heap.size 30 _ (0, 0) _ rfl HE1.out Try.underlying30 rfl size_id) rfl (by rw [HE2.out]; exact HE3.out)
end Wi
end Go.Proofs.Ytddoepaplbnlcaa

/- Decoding of a box: plain mathematics. No program in sight. -/
namespace Go.Proofs.Ytddoepaplbnlcaa
namespace Mb
open Wr Wi

def withA (m : Msg) (ar : List Int) : Msg := ⟨m.a1, m.a2, m.i1, m.i2, m.me, ar⟩
/-- k arguments are read -/
def argsA : Nat → List Int → Rs → Option (List Int × Rs)
  | 0, a, r => some (a, r)
  | k + 1, a, r => if (uintR r).2.e ≠ 0 then none else if 4294967296 < (uintR r).1 then none else argsA k (a ++ [((uintR r).1 : Int)]) (uintR r).2
def preM (r : Rs) : Msg := ⟨((idR r).1.1 : Nat), ((idR r).1.2 : Nat), ((idR (idR r).2).1.1 : Nat), ((idR (idR r).2).1.2 : Nat), ⟨(stringR (idR (idR r).2).2).1.toArray⟩, []⟩
def preC (r : Rs) : Nat × Rs := countR 9 (stringR (idR (idR r).2).2).2
/-- a message is read -/
def msgR (r : Rs) : Except Int (Msg × Rs) :=
  if (preC r).2.e ≠ 0 then .error (preC r).2.e else match argsA (preC r).1 [] (preC r).2 with
    | none => .error 11
    | some (ar, r') => if valid (withA (preM r) ar) = true then .ok (withA (preM r) ar, r') else .error 11
def lastLt (l : List Msg) (m : Msg) : Bool := match l.getLast? with
  | none => true
  | some x => decide (Lt x m)
def nextR (l : List Msg) (p : Except Int (Msg × Rs)) (f : List Msg → Rs → Except Int (List Msg × Rs)) : Except Int (List Msg × Rs) := match p with
  | .error e => .error e
  | .ok (m, r') => if lastLt l m = true ∧ putE l m = 0 then f (putL l m) r' else .error 11
def boxR : Nat → List Msg → Rs → Except Int (List Msg × Rs)
  | 0 => fun l r => .ok (l, r)
  | n + 1 => fun l r => nextR l (msgR r) (boxR n)
theorem boxR_zero (l : List Msg) (r : Rs) : boxR 0 l r = .ok (l, r) := rfl
theorem boxR_succ (n : Nat) (l : List Msg) (r : Rs) : boxR (n + 1) l r = nextR l (msgR r) (boxR n) := rfl
/-- a box is read -/
def decodeR (b : List UInt8) : Except Int (List Msg) := match boxR (countR 1024 ⟨b, 0⟩).1 [] (countR 1024 ⟨b, 0⟩).2 with
  | .error e => .error e
  | .ok (l, r) => if doneR r ≠ 0 then .error (doneR r) else .ok l

/-! ### What was read is what was written -/
theorem uintR_ok (r : Rs) (h : (uintR r).2.e = 0) : r.e = 0 ∧ r.l = enc (uintR r).1 ++ (uintR r).2.l := by
  by_cases he : r.e = 0
  · cases hp : parse r.l with
    | none => rw [uintR_none r he hp] at h; exact absurd h (by decide)
    | some p =>
      obtain ⟨n, k⟩ := p
      rw [uintR_some r he hp]
      exact ⟨he, (parse_some _ _ _ hp).2.2.2⟩
  · rw [uintR_err r he] at h; exact absurd h he
theorem u64_nat (n : Nat) (h : n < 18446744073709551616) : u64n (n : Int) = n := by
  have := u64n_of (n : Int) (by omega) (by omega); omega
theorem idR_ok (r : Rs) (h : (idR r).2.e = 0) : r.e = 0 ∧ r.l = encID ((idR r).1.1 : Nat) ((idR r).1.2 : Nat) ++ (idR r).2.l := by
  rw [idR_zero r _ _ _ rfl rfl rfl] at h ⊢
  by_cases h1 : (uintR (uintR r).2).2.e ≠ 0
  · rw [if_pos h1] at h; exact absurd h h1
  · rw [if_neg h1] at h ⊢
    by_cases h2 : idE (uintR r).1 (uintR (uintR r).2).1 = 0
    · rw [if_pos h2]
      obtain ⟨g1, g2⟩ := uintR_ok (uintR r).2 (by simpa using h1)
      obtain ⟨g3, g4⟩ := uintR_ok r g1
      refine ⟨g3, ?_⟩
      show r.l = encID _ _ ++ _
      unfold encID
      rw [u64_nat _ (uintR_lt _), u64_nat _ (uintR_lt _), List.append_assoc, ← g2]
      exact g4
    · rw [if_neg h2] at h; exact absurd h (by decide)
theorem stringR_ok (r : Rs) (h : (stringR r).2.e = 0) : r.e = 0 ∧ r.l = enc (stringR r).1.length ++ ((stringR r).1 ++ (stringR r).2.l) := by
  unfold stringR at h ⊢
  by_cases h1 : (uintR r).2.e ≠ 0
  · rw [if_pos h1] at h; exact absurd h h1
  · rw [if_neg h1] at h ⊢
    obtain ⟨g1, g2⟩ := uintR_ok r (by simpa using h1)
    by_cases h2 : 4096 < (uintR r).1
    · rw [if_pos h2] at h; exact absurd h (by decide)
    · rw [if_neg h2] at h ⊢
      by_cases h3 : (uintR r).2.l.length < (uintR r).1
      · rw [if_pos h3] at h; exact absurd h (by decide)
      · rw [if_neg h3]
        have hl : ((uintR r).2.l.take (uintR r).1).length = (uintR r).1 := by simp; omega
        refine ⟨g1, ?_⟩
        simp only [hl, List.take_append_drop]
        exact g2
theorem countR_ok (k : Int) (r : Rs) (h : (countR k r).2.e = 0) : r.e = 0 ∧ r.l = enc (countR k r).1 ++ (countR k r).2.l := by
  unfold countR at h ⊢
  by_cases h1 : (uintR r).2.e ≠ 0
  · rw [if_pos h1] at h; exact absurd h h1
  · rw [if_neg h1] at h ⊢
    obtain ⟨g1, g2⟩ := uintR_ok r (by simpa using h1)
    by_cases h2 : k < 0 ∨ k < ((uintR r).1 : Int)
    · rw [if_pos h2] at h; exact absurd h (by decide)
    · rw [if_neg h2] at h ⊢
      by_cases h3 : (uintR r).2.l.length < (uintR r).1
      · rw [if_pos h3] at h; exact absurd h (by decide)
      · rw [if_neg h3]
        exact ⟨g1, g2⟩
theorem countR_zero (k : Int) (r : Rs) (h : (countR k r).2.e ≠ 0) : (countR k r).1 = 0 := by
  unfold countR at h ⊢
  by_cases h1 : (uintR r).2.e ≠ 0
  · rw [if_pos h1]
  · rw [if_neg h1] at h ⊢
    by_cases h2 : k < 0 ∨ k < ((uintR r).1 : Int)
    · rw [if_pos h2]
    · rw [if_neg h2] at h ⊢
      by_cases h3 : (uintR r).2.l.length < (uintR r).1
      · rw [if_pos h3]
      · rw [if_neg h3] at h; exact absurd h h1
theorem countR_le (k : Int) (r : Rs) (hk : 0 ≤ k) : ((countR k r).1 : Int) ≤ k := by
  unfold countR
  by_cases h1 : (uintR r).2.e ≠ 0
  · rw [if_pos h1]; exact hk
  · rw [if_neg h1]
    by_cases h2 : k < 0 ∨ k < ((uintR r).1 : Int)
    · rw [if_pos h2]; exact hk
    · rw [if_neg h2]
      by_cases h3 : (uintR r).2.l.length < (uintR r).1
      · rw [if_pos h3]; exact hk
      · rw [if_neg h3]; omega
theorem encA_cons (x : Int) (t : List Int) : encA (x :: t) = enc (u64n x) ++ encA t := by simp [encA]
theorem encMs_cons (x : Msg) (t : List Msg) : encMs (x :: t) = encM x ++ encMs t := by simp [encMs]
theorem argsA_ok (k : Nat) (a : List Int) (r : Rs) (ar : List Int) (r' : Rs) (h : argsA k a r = some (ar, r')) (he : r.e = 0) : r'.e = 0 ∧ ∃ t, ar = a ++ t ∧ t.length = k ∧ r.l = encA t ++ r'.l := by
  induction k generalizing a r with
  | zero =>
    unfold argsA at h
    injection h with h
    injection h with h1 h2
    subst h1 h2
    exact ⟨he, [], by simp, rfl, by simp [encA]⟩
  | succ k ih =>
    unfold argsA at h
    by_cases h1 : (uintR r).2.e ≠ 0
    · rw [if_pos h1] at h; cases h
    · rw [if_neg h1] at h
      by_cases h2 : 4294967296 < (uintR r).1
      · rw [if_pos h2] at h; cases h
      · rw [if_neg h2] at h
        have h1' : (uintR r).2.e = 0 := by simpa using h1
        obtain ⟨g1, t, g2, g3, g4⟩ := ih _ _ h h1'
        refine ⟨g1, ((uintR r).1 : Int) :: t, by rw [g2, List.append_assoc]; rfl, by rw [List.length_cons, g3], ?_⟩
        rw [encA_cons, u64_nat _ (uintR_lt r), List.append_assoc, ← g4]
        exact (uintR_ok r h1').2
theorem me_size (l : List UInt8) : (⟨l.toArray⟩ : ByteArray).size = l.length := by show l.toArray.size = _; simp
theorem me_strB (l : List UInt8) : strB ⟨l.toArray⟩ = l := by show l.toArray.toList = l; simp
theorem msgR_ok {r r' : Rs} {m : Msg} (h : msgR r = .ok (m, r')) : r.e = 0 ∧ r'.e = 0 ∧ valid m = true ∧ r.l = encM m ++ r'.l := by
  unfold msgR at h
  by_cases h1 : (preC r).2.e ≠ 0
  · rw [if_pos h1] at h; cases h
  · rw [if_neg h1] at h
    have h1' : (preC r).2.e = 0 := by simpa using h1
    cases ha : argsA (preC r).1 [] (preC r).2 with
    | none => rw [ha] at h; cases h
    | some p =>
      obtain ⟨ar, r5⟩ := p
      rw [ha] at h
      simp only at h
      by_cases hv : valid (withA (preM r) ar) = true
      · rw [if_pos hv] at h
        injection h with h
        injection h with h2 h3
        subst h2 h3
        obtain ⟨k1, t, k2, k3, k4⟩ := argsA_ok _ _ _ _ _ ha h1'
        have k2' : ar = t := by simpa using k2
        subst k2'
        obtain ⟨c1, c2⟩ := countR_ok 9 _ h1'
        obtain ⟨s1, s2⟩ := stringR_ok _ c1
        obtain ⟨i1, i2⟩ := idR_ok _ s1
        obtain ⟨j1, j2⟩ := idR_ok _ i1
        refine ⟨j1, k1, hv, ?_⟩
        have c2' : (stringR (idR (idR r).2).2).2.l = enc ar.length ++ (encA ar ++ r5.l) := by rw [k3, ← k4]; exact c2
        rw [j2, i2, s2, c2']
        show _ = encID ((idR r).1.1 : Nat) ((idR r).1.2 : Nat) ++ encID ((idR (idR r).2).1.1 : Nat) ((idR (idR r).2).1.2 : Nat) ++ (enc (ByteArray.mk (stringR (idR (idR r).2).2).1.toArray).size ++ strB ⟨(stringR (idR (idR r).2).2).1.toArray⟩) ++ enc ar.length ++ encA ar ++ r5.l
        rw [me_size, me_strB]
        simp only [List.append_assoc]
      · rw [if_neg hv] at h; cases h
theorem pos_all {l : List Msg} {m : Msg} (h : ∀ x ∈ l, Lt x m) : pos l m = l.length := by
  induction l with
  | nil => rfl
  | cons x l ih => unfold pos; rw [if_pos (h x (.head _)), ih (fun y hy => h y (.tail _ hy)), List.length_cons]
theorem lt_of_last {l : List Msg} {m : Msg} (hs : l.Pairwise Lt) (h : lastLt l m = true) : ∀ x ∈ l, Lt x m := by
  intro x hx
  obtain ⟨i, hi, rfl⟩ := List.mem_iff_getElem.1 hx
  unfold lastLt at h
  rw [List.getLast?_eq_getElem?, List.getElem?_eq_getElem (by omega)] at h
  have hl : Lt l[l.length - 1] m := by simpa using h
  rcases Nat.lt_or_ge i (l.length - 1) with h1 | h1
  · exact (List.pairwise_iff_getElem.1 hs i (l.length - 1) hi (by omega) h1).trans hl
  · have : i = l.length - 1 := by omega
    subst this; exact hl
theorem put_last {l : List Msg} {m : Msg} (hs : l.Pairwise Lt) (h : lastLt l m = true) (h0 : putE l m = 0) : putL l m = l ++ [m] := by
  unfold putL
  rw [if_pos h0]
  unfold ins
  rw [pos_all (lt_of_last hs h), List.take_length, List.drop_length]
theorem boxR_ok (n : Nat) (l : List Msg) (r : Rs) (l' : List Msg) (r' : Rs) (h : boxR n l r = .ok (l', r')) (he : r.e = 0) (hi : Inv l) : r'.e = 0 ∧ Inv l' ∧ ∃ t, l' = l ++ t ∧ t.length = n ∧ r.l = encMs t ++ r'.l := by
  induction n generalizing l r with
  | zero =>
    rw [boxR_zero] at h
    injection h with h
    injection h with h1 h2
    subst h1 h2
    exact ⟨he, hi, [], by simp, rfl, by simp [encMs]⟩
  | succ n ih =>
    rw [boxR_succ] at h
    unfold nextR at h
    cases hm : msgR r with
    | error e => rw [hm] at h; cases h
    | ok p =>
      obtain ⟨m, r2⟩ := p
      rw [hm] at h
      simp only at h
      by_cases hc : lastLt l m = true ∧ putE l m = 0
      · rw [if_pos hc] at h
        obtain ⟨_, g2, _, g4⟩ := msgR_ok hm
        obtain ⟨k1, k2, t, k3, k4, k5⟩ := ih _ _ h g2 (hi.put m)
        refine ⟨k1, k2, m :: t, by rw [k3, put_last hi.s hc.1 hc.2, List.append_assoc]; rfl, by rw [List.length_cons, k4], ?_⟩
        rw [encMs_cons, List.append_assoc, ← k5]
        exact g4
      · rw [if_neg hc] at h; cases h
/-- what is decoded is encoded as these bytes -/
theorem decodeR_canon {b : List UInt8} {l : List Msg} (h : decodeR b = .ok l) : Inv l ∧ encL l = b := by
  unfold decodeR at h
  cases hb : boxR (countR 1024 ⟨b, 0⟩).1 [] (countR 1024 ⟨b, 0⟩).2 with
  | error e => rw [hb] at h; cases h
  | ok p =>
    obtain ⟨l2, r2⟩ := p
    rw [hb] at h
    simp only at h
    by_cases hd : doneR r2 ≠ 0
    · rw [if_pos hd] at h; cases h
    · rw [if_neg hd] at h
      injection h with h
      subst h
      have hd' : doneR r2 = 0 := by simpa using hd
      by_cases he : (countR 1024 ⟨b, 0⟩).2.e = 0
      · obtain ⟨k1, k2, t, k3, k4, k5⟩ := boxR_ok _ _ _ _ _ hb he inv_nil
        have k3' : l2 = t := by simpa using k3
        subst k3'
        have hl : r2.l = [] := by
          unfold doneR at hd'
          by_cases hp : 0 < r2.l.length
          · rw [if_pos ⟨k1, hp⟩] at hd'; cases hd'
          · exact List.eq_nil_of_length_eq_zero (by omega)
        refine ⟨k2, ?_⟩
        have hc := (countR_ok 1024 ⟨b, 0⟩ he).2
        rw [k5, hl, List.append_nil] at hc
        unfold encL
        rw [k4]
        exact hc.symm
      · have hz : (countR 1024 ⟨b, 0⟩).1 = 0 := countR_zero 1024 ⟨b, 0⟩ he
        rw [hz, boxR_zero] at hb
        injection hb with hb
        injection hb with h1 h2
        subst h2
        unfold doneR at hd'
        rw [if_neg (fun h => he h.1)] at hd'
        exact absurd hd' he
end Mb
end Go.Proofs.Ytddoepaplbnlcaa

/- Decoding of a box: what was written is read back. No program in sight. -/
namespace Go.Proofs.Ytddoepaplbnlcaa
namespace Mb
open Wr Wi

theorem uintR_enc (n : Nat) (h : n < 18446744073709551616) (t : List UInt8) : uintR ⟨enc n ++ t, 0⟩ = (n, ⟨t, 0⟩) := by
  rw [uintR_some ⟨enc n ++ t, 0⟩ rfl (parse_enc n h t)]
  show (n, (⟨(enc n ++ t).drop (enc n).length, 0⟩ : Rs)) = _
  rw [List.drop_left]
theorem enc_pos (n : Nat) : 0 < (enc n).length := by rw [enc_len]; omega
theorem idR_enc (a b : Int) (h : validID a b = true) (t : List UInt8) : ((idR ⟨encID a b ++ t, 0⟩).1.1 : Int) = a ∧ ((idR ⟨encID a b ++ t, 0⟩).1.2 : Int) = b ∧ (idR ⟨encID a b ++ t, 0⟩).2 = ⟨t, 0⟩ := by
  unfold validID at h
  have hv : 1 ≤ a ∧ a ≤ 8 ∧ 1 ≤ b ∧ b ≤ 1099511627775 := by simpa using h
  obtain ⟨x, rfl⟩ : ∃ x : Nat, a = x := ⟨a.toNat, by omega⟩
  obtain ⟨y, rfl⟩ : ∃ y : Nat, b = y := ⟨b.toNat, by omega⟩
  have e1 : uintR ⟨encID x y ++ t, 0⟩ = (x, ⟨enc y ++ t, 0⟩) := by
    unfold encID
    rw [u64_nat x (by omega), u64_nat y (by omega), List.append_assoc]
    exact uintR_enc x (by omega) _
  have e2 := uintR_enc y (by omega) t
  have e3 : idR ⟨encID x y ++ t, 0⟩ = ((x, y), ⟨t, 0⟩) := by
    rw [idR_zero _ x y ⟨t, 0⟩ (by rw [e1]) (by rw [e1, e2]) (by rw [e1, e2]), if_neg (by simp)]
    unfold idE
    rw [if_pos (by rw [if_pos (.inr (by omega))])]
  rw [e3]
  exact ⟨rfl, rfl, rfl⟩
theorem stringR_enc (s : ByteArray) (h : s.size ≤ 4096) (t : List UInt8) : stringR ⟨enc s.size ++ strB s ++ t, 0⟩ = (strB s, ⟨t, 0⟩) := by
  have e1 : uintR ⟨enc s.size ++ strB s ++ t, 0⟩ = (s.size, ⟨strB s ++ t, 0⟩) := by rw [List.append_assoc]; exact uintR_enc _ (by omega) _
  have hl := strB_length s
  unfold stringR
  rw [e1, if_neg (by simp), if_neg (by simp only; omega), if_neg (by simp only [List.length_append]; omega)]
  simp only
  rw [← hl, List.take_left, List.drop_left]
theorem countR_enc (k : Int) (n : Nat) (h : (n : Int) ≤ k) (hk : k ≤ 1000000) (t : List UInt8) (ht : n ≤ t.length) : countR k ⟨enc n ++ t, 0⟩ = (n, ⟨t, 0⟩) := by
  have e1 := uintR_enc n (by omega) t
  unfold countR
  rw [e1, if_neg (by simp), if_neg (by simp only; omega), if_neg (by simp only; omega)]
theorem encA_ge (t : List Int) : t.length ≤ (encA t).length := by
  induction t with
  | nil => simp
  | cons x t ih => rw [encA_cons, List.length_append, List.length_cons]; have := enc_pos (u64n x); omega
theorem encMs_ge (t : List Msg) : t.length ≤ (encMs t).length := by
  induction t with
  | nil => simp
  | cons x t ih =>
    rw [encMs_cons, List.length_append, List.length_cons]
    have := enc_pos (u64n x.a1)
    have : 0 < (encM x).length := by unfold encM encID; simp only [List.length_append]; omega
    omega
theorem argsA_enc (t : List Int) (h : t.all good = true) (a : List Int) (s : List UInt8) : argsA t.length a ⟨encA t ++ s, 0⟩ = some (a ++ t, ⟨s, 0⟩) := by
  induction t generalizing a with
  | nil => simp [argsA, encA]
  | cons x t ih =>
    rw [List.all_cons, Bool.and_eq_true] at h
    have hx : 1 ≤ x ∧ x ≤ 4294967296 := by have := h.1; unfold good at this; simpa using this
    obtain ⟨n, rfl⟩ : ∃ n : Nat, x = n := ⟨x.toNat, by omega⟩
    have e1 : uintR ⟨encA ((n : Int) :: t) ++ s, 0⟩ = (n, ⟨encA t ++ s, 0⟩) := by
      rw [encA_cons, u64_nat n (by omega), List.append_assoc]
      exact uintR_enc n (by omega) _
    rw [List.length_cons]
    unfold argsA
    rw [e1, if_neg (by simp), if_neg (by simp only; omega)]
    simp only
    rw [ih h.2, List.append_assoc]
    rfl
theorem msgR_enc (m : Msg) (hv : valid m = true) (s : List UInt8) : msgR ⟨encM m ++ s, 0⟩ = .ok (m, ⟨s, 0⟩) := by
  have hv0 := hv
  unfold valid at hv
  simp only [Bool.and_eq_true, decide_eq_true_eq] at hv
  obtain ⟨⟨⟨⟨v1, v2⟩, v3⟩, v4⟩, v5⟩ := hv
  obtain ⟨i1, i2, i3⟩ := idR_enc m.a1 m.a2 v1 (encID m.i1 m.i2 ++ (enc m.me.size ++ strB m.me ++ (enc m.ar.length ++ (encA m.ar ++ s))))
  obtain ⟨j1, j2, j3⟩ := idR_enc m.i1 m.i2 v2 (enc m.me.size ++ strB m.me ++ (enc m.ar.length ++ (encA m.ar ++ s)))
  have hs := stringR_enc m.me (by omega) (enc m.ar.length ++ (encA m.ar ++ s))
  have hc := countR_enc 9 m.ar.length (by omega) (by omega) (encA m.ar ++ s) (by have := encA_ge m.ar; rw [List.length_append]; omega)
  have ha := argsA_enc m.ar v5 [] s
  have e0 : encM m ++ s = encID m.a1 m.a2 ++ (encID m.i1 m.i2 ++ (enc m.me.size ++ strB m.me ++ (enc m.ar.length ++ (encA m.ar ++ s)))) := by
    unfold encM; simp only [List.append_assoc]
  rw [e0]
  generalize encID m.a1 m.a2 ++ (encID m.i1 m.i2 ++ (enc m.me.size ++ strB m.me ++ (enc m.ar.length ++ (encA m.ar ++ s)))) = b at *
  have hpc : preC ⟨b, 0⟩ = (m.ar.length, ⟨encA m.ar ++ s, 0⟩) := by unfold preC; rw [i3, j3, hs]; exact hc
  have hme : (⟨(strB m.me).toArray⟩ : ByteArray) = m.me := by simp [strB]
  have hpm : withA (preM ⟨b, 0⟩) m.ar = m := by
    unfold preM withA
    simp only
    rw [i3, j3, hs, i1, i2, j1, j2]
    simp only [hme]
  unfold msgR
  rw [hpc, if_neg (by simp)]
  simp only
  rw [ha]
  simp only [List.nil_append]
  rw [hpm, if_pos hv0]
theorem lastLt_of {l : List Msg} {m : Msg} (h : ∀ x ∈ l, Lt x m) : lastLt l m = true := by
  unfold lastLt
  cases hl : l.getLast? with
  | none => rfl
  | some x => simpa using h x (List.mem_of_getLast? hl)
theorem boxR_enc (t l : List Msg) (hi : Inv (l ++ t)) (s : List UInt8) : boxR t.length l ⟨encMs t ++ s, 0⟩ = .ok (l ++ t, ⟨s, 0⟩) := by
  induction t generalizing l with
  | nil => rw [List.length_nil, boxR_zero]; simp [encMs]
  | cons m t ih =>
    have hs := List.pairwise_append.1 hi.s
    have hu := List.pairwise_append.1 hi.u
    have hlt : ∀ x ∈ l, Lt x m := fun x hx => hs.2.2 x hx m (.head _)
    have hn := hi.n
    rw [List.length_append, List.length_cons] at hn
    have h0 : putE l m = 0 := by
      unfold putE
      rw [if_neg (by rw [hi.v m (by simp)]; simp), if_neg, if_neg (by omega)]
      intro h
      obtain ⟨x, hx, h2⟩ := List.any_eq_true.1 h
      exact hu.2.2 x hx m (.head _) (by simpa [sameId] using h2)
    have hp : putL l m = l ++ [m] := put_last hs.1 (lastLt_of hlt) h0
    rw [List.length_cons, boxR_succ, encMs_cons, List.append_assoc, msgR_enc m (hi.v m (by simp))]
    show (if lastLt l m = true ∧ putE l m = 0 then boxR t.length (putL l m) ⟨encMs t ++ s, 0⟩ else .error 11) = _
    rw [if_pos ⟨lastLt_of hlt, h0⟩, hp, ih (l ++ [m]) (by rw [List.append_assoc]; exact hi), List.append_assoc]
    rfl
/-- what was encoded is decoded -/
theorem decodeR_back {l : List Msg} (hi : Inv l) : decodeR (encL l) = .ok l := by
  have hc := countR_enc 1024 l.length (by have := hi.n; omega) (by omega) (encMs l ++ []) (by have := encMs_ge l; rw [List.length_append]; omega)
  rw [List.append_nil] at hc
  have hb := boxR_enc l [] hi []
  rw [List.append_nil] at hb
  unfold decodeR encL
  rw [hc]
  simp only
  rw [hb]
  rfl
end Mb
end Go.Proofs.Ytddoepaplbnlcaa

/- The walks of mailbox.failed and mailbox.read. -/
namespace Go.Proofs.Ytddoepaplbnlcaa
open Go.RowKit Go.Shelf
namespace Mb
open Wr Wi

/-- a reader that failed has nothing left -/
def okR (r : Rs) : Prop := r.e = 0 ∨ r.l = []
theorem uintR_okR {r : Rs} (h : okR r) : okR (uintR r).2 := by
  by_cases he : r.e = 0
  · cases hp : parse r.l with
    | none => rw [uintR_none r he hp]; exact .inr rfl
    | some p => obtain ⟨n, k⟩ := p; rw [uintR_some r he hp]; exact .inl rfl
  · rw [uintR_err r he]; exact h
theorem idR_okR {r : Rs} (h : okR r) : okR (idR r).2 := by
  rw [idR_zero r _ _ _ rfl rfl rfl]
  have h2 := uintR_okR (uintR_okR h)
  split
  · exact h2
  · split
    · exact h2
    · exact .inr rfl
theorem stringR_okR {r : Rs} (h : okR r) : okR (stringR r).2 := by
  have h2 := uintR_okR h
  unfold stringR
  split
  · exact h2
  · split
    · exact .inr rfl
    · split
      · exact .inr rfl
      · exact .inl rfl
theorem countR_okR {k : Int} {r : Rs} (h : okR r) : okR (countR k r).2 := by
  have h2 := uintR_okR h
  unfold countR
  split
  · exact h2
  · split
    · exact .inr rfl
    · split
      · exact .inr rfl
      · exact h2
theorem preC_okR {r : Rs} (h : okR r) : okR (preC r).2 := countR_okR (stringR_okR (idR_okR (idR_okR h)))
theorem uintR_e11 {r : Rs} (he : r.e = 0) : (uintR r).2.e = 0 ∨ (uintR r).2.e = 11 := by
  cases hp : parse r.l with
  | none => rw [uintR_none r he hp]; exact .inr rfl
  | some p => obtain ⟨n, k⟩ := p; rw [uintR_some r he hp]; exact .inl rfl

set_option maxRecDepth 100000 in
theorem failed_calls (g : Nat) (r : Rs) (w : World) (h : IsRd w g r) (ho : okR r) : Calls Try.prog 79 #[.pointer (some ⟨g, 0, none⟩)] w fun e w' => e = .returned (.int .i64 r.e) ∧ w = w' := by
  have HL := Lib.hid (left_calls g r w h)
  have HD := Lib.hid (done_calls g r w h)
  clear h
  by_cases hl : 0 < r.l.length
  · have he : r.e = 0 := by
      rcases ho with h | h
      · exact h
      · rw [h] at hl; simp at hl
    have HE := Lib.hid he
    have d0 : decide ((0 : Int) < (r.l.length : Int)) = true := by rw [decide_eq_true_eq]; omega
    have d0n : decide (0 < r.l.length) = true := decide_eq_true hl
    generalize r.l.length = n at *
    clear he hl ho HD
    go_enter Try.func79, Try.ntmps79
    go_wp2_with fail
    refine HL.out.mono ?_
    rintro e w1 ⟨rfl, rfl⟩
    go_wp2_with fail
    go_ret
    exact ⟨by rw [HE.out]; rfl, rfl⟩
  · have hd : doneR r = r.e := by unfold doneR; rw [if_neg (fun h => hl h.2)]
    have d0 : decide ((0 : Int) < (r.l.length : Int)) = false := by rw [decide_eq_false_iff_not]; omega
    have d0n : decide (0 < r.l.length) = false := decide_eq_false hl
    rw [hd] at HD
    generalize r.l.length = n at *
    clear hd hl ho
    go_enter Try.func79, Try.ntmps79
    go_wp2_with fail
    refine HL.out.mono ?_
    rintro e w1 ⟨rfl, rfl⟩
    go_wp2_with fail
    refine HD.out.mono ?_
    rintro e w1 ⟨rfl, rfl⟩
    go_wp2_with fail
    go_ret
    exact ⟨rfl, rfl⟩
theorem IsRd.lowB {w w' : World} {g B : Nat} {r : Rs} (h : IsRd w g r) (hb : Below B w w') (hg : g < B) : IsRd w' g r := by
  obtain ⟨A, c, h1, h2, h3, h4, h5⟩ := h
  refine ⟨A, c, (hb.block g hg).trans h1, h2, h3, ?_, h5⟩
  by_cases hl : 0 < r.l.length
  · refine Rd.keep h4 (fun p v hp hm => ?_)
    cases A with
    | none => cases hm
    | some a =>
      obtain ⟨b, off, s⟩ := a
      have hs : s = none := by
        obtain ⟨b', off', e, _⟩ := Rd.cells h4 (by rw [List.length_map]; exact hl)
        cases e; rfl
      subst hs
      have hb5 := h5 hl b off rfl
      have hpb : b = p.block := by simpa using hm
      exact (hb.cell (p := p) (by omega)).trans hp
  · have : r.l = [] := List.eq_nil_of_length_eq_zero (by omega)
    rw [this]; exact RB.nil
theorem own_chg {w w' : World} {B n sz : Nat} {e : TypeId} {v : Value} {xs : List Value} {S : List Nat} (h : w.ownsRow B e sz v n xs) (hc : Chg S w w') (hS : ∀ x ∈ S, x < B) : w'.ownsRow B e sz v n xs :=
  ⟨h.1, h.2.imp id fun ⟨b, cap, cur, e1, e2, e3, e4⟩ => ⟨b, cap, cur, e1, e2, (hc.block b (Array.getElem?_eq_some_iff.1 e3).1 (fun hm => by have := hS b hm; omega)).trans e3, e4⟩⟩
end Mb
end Go.Proofs.Ytddoepaplbnlcaa

/- The walk of mailbox.read. -/
namespace Go.Proofs.Ytddoepaplbnlcaa
open Go.RowKit Go.Shelf
namespace Mb
open Wr Wi

theorem idR_le (r : Rs) : (idR r).1.1 ≤ 1099511627775 ∧ (idR r).1.2 ≤ 1099511627775 := by
  rw [idR_zero r _ _ _ rfl rfl rfl]
  split
  · exact ⟨by simp, by simp⟩
  · split
    · rename_i h
      unfold idE at h
      split at h
      · rename_i h2
        simp only
        omega
      · cases h
    · exact ⟨by simp, by simp⟩
theorem stringR_le (r : Rs) : (stringR r).1.length ≤ 4096 := by
  unfold stringR
  split
  · simp
  · split
    · simp
    · split
      · simp
      · simp only [List.length_take]; omega
theorem msgR_err {r : Rs} {c : Int} (h : msgR r = .error c) : c ≠ 0 := by
  unfold msgR at h
  by_cases h1 : (preC r).2.e ≠ 0
  · rw [if_pos h1] at h; injection h with h; rw [← h]; exact h1
  · rw [if_neg h1] at h
    cases ha : argsA (preC r).1 [] (preC r).2 with
    | none => rw [ha] at h; injection h with h; rw [← h]; decide
    | some p =>
      rw [ha] at h
      simp only at h
      split at h
      · cases h
      · injection h with h; rw [← h]; decide
/-- six cells are stored -/
theorem st6 {w : World} {t : Nat} {ty : TypeId} {z0 z1 z2 z3 z4 z5 : Value} (h : w.heap[t]? = some (.cells #[z0, z1, z2, z3, z4, z5] ty (0, 0))) (v0 v1 v2 v3 v4 v5 : Value) :
    ((((((w.setCell ⟨t, 0, none⟩ v0).setCell ⟨t, 1, none⟩ v1).setCell ⟨t, 2, none⟩ v2).setCell ⟨t, 3, none⟩ v3).setCell ⟨t, 4, none⟩ v4).setCell ⟨t, 5, none⟩ v5).heap[t]? = some (.cells #[v0, v1, v2, v3, v4, v5] ty (0, 0)) :=
  heap_setCell_same _ _ _ _ _ _ (heap_setCell_same _ _ _ _ _ _ (heap_setCell_same _ _ _ _ _ _ (heap_setCell_same _ _ _ _ _ _ (heap_setCell_same _ _ _ _ _ _ (heap_setCell_same _ _ _ _ _ _ h)))))
theorem chgset6 {w : World} (t : Nat) (v0 v1 v2 v3 v4 v5 : Value) :
    Chg [t] w ((((((w.setCell ⟨t, 0, none⟩ v0).setCell ⟨t, 1, none⟩ v1).setCell ⟨t, 2, none⟩ v2).setCell ⟨t, 3, none⟩ v3).setCell ⟨t, 4, none⟩ v4).setCell ⟨t, 5, none⟩ v5) :=
  ((((((Chg.refl [t] w).setCell (p := ⟨t, 0, none⟩) (.inl (by simp)) v0).setCell (p := ⟨t, 1, none⟩) (.inl (by simp)) v1).setCell (p := ⟨t, 2, none⟩) (.inl (by simp)) v2).setCell (p := ⟨t, 3, none⟩) (.inl (by simp)) v3).setCell (p := ⟨t, 4, none⟩) (.inl (by simp)) v4).setCell (p := ⟨t, 5, none⟩) (.inl (by simp)) v5
theorem own_ne {w : World} {B n sz p : Nat} {e t : TypeId} {v : Value} {xs : List Value} {cs : Array Value} {fr : Nat × Nat} (h : w.ownsRow B e sz v n xs) (hp : w.heap[p]? = some (.cells cs t fr)) (ht : t ≠ e) : v.ownBlock ≠ some p := by
  rcases h.2 with ⟨h2, _⟩ | ⟨b, cap, cur, e1, _, e3, _⟩
  · rw [h2]; intro h; cases h
  · rw [e1]
    intro h
    simp only [Value.ownBlock, Option.some.injEq] at h
    subst h
    rw [hp] at e3
    injection e3 with e3
    injection e3 with _ e4
    exact ht e4
theorem own_set {w : World} {B n sz p j : Nat} {e t : TypeId} {v u : Value} {xs : List Value} {cs : Array Value} {fr : Nat × Nat} (h : w.ownsRow B e sz v n xs) (hp : w.heap[p]? = some (.cells cs t fr)) (ht : t ≠ e) : (w.setCell ⟨p, j, none⟩ u).ownsRow B e sz v n xs := by
  refine ⟨h.1, h.2.imp id fun ⟨b, cap, cur, e1, e2, e3, e4⟩ => ⟨b, cap, cur, e1, e2, (Below.heap_setCell w _ _ b (fun h => ?_)).trans e3, e4⟩⟩
  have h' : b = p := h
  subst h'
  rw [hp] at e3
  injection e3 with e3
  injection e3 with _ e4
  exact ht e4
theorem own_chg1 {w w' : World} {B n sz p : Nat} {e t : TypeId} {v : Value} {xs : List Value} {cs : Array Value} {fr : Nat × Nat} (h : w.ownsRow B e sz v n xs) (hc : Chg [p] w w') (hp : w.heap[p]? = some (.cells cs t fr)) (ht : t ≠ e) : w'.ownsRow B e sz v n xs := by
  refine ⟨h.1, h.2.imp id fun ⟨b, cap, cur, e1, e2, e3, e4⟩ => ⟨b, cap, cur, e1, e2, (hc.block b (Array.getElem?_eq_some_iff.1 e3).1 (fun hm => ?_)).trans e3, e4⟩⟩
  have h' : b = p := List.mem_singleton.1 hm
  subst h'
  rw [hp] at e3
  injection e3 with e3
  injection e3 with _ e4
  exact ht e4
theorem chg_lowB {w w1 w2 : World} {S : List Nat} (h : Chg S w w1) (hb : Below w.heap.size w1 w2) : Chg S w w2 :=
  ⟨hb.os.trans h.os, hb.tape.trans h.tape, hb.output.trans h.output, Nat.le_trans h.size hb.size, fun i hi hn => (hb.block i hi).trans (h.block i hi hn)⟩
/-- the loop of read: j arguments were read -/
structure RdL (w : World) (g T q : Nat) (A1 A2 I1 I2 : Int) (s : ByteArray) (k : Nat) (r4 : Rs) (j : Nat) (a : List Int) (X : Option Addr) (c : Nat) (r' : Rs) (wr : World) : Prop where
  qc : wr.heap[q]? = some (.cells #[.int .i64 A1, .int .i64 A2, .int .i64 I1, .int .i64 I2, .string s, .slice X j c] 76 (0, 0))
  ow : wr.ownsRow T 3 1 (.slice X j c) j (a.map (Value.int .i64))
  al : a.length = j
  rd : IsRd wr g r'
  ch : Chg [g] w wr
  zc : wr.heap[T]? = some (.cells #[.int .i64 0, .int .i64 0, .int .i64 0, .int .i64 0, .string ⟨#[]⟩, .slice none 0 0] 76 (0, 0))
  ar : argsA k [] r4 = argsA (k - j) a r'
  ab : ∀ z ∈ a, 0 ≤ z ∧ z ≤ 4294967296
  ok : okR r'
  er : r'.e ≠ 0 → k = 0 ∧ r' = r4
/-- the reader read a number -/
theorem RdL.read {w wr w7 : World} {g T q : Nat} {A1 A2 I1 I2 : Int} {s : ByteArray} {k : Nat} {r4 : Rs} {j : Nat} {a : List Int} {X : Option Addr} {c : Nat} {r' : Rs} (h : RdL w g T q A1 A2 I1 I2 s k r4 j a X c r' wr) (hc : Chg [g] wr w7) (hg : g < T) (hq : T ≤ q) :
    w7.heap[q]? = some (.cells #[.int .i64 A1, .int .i64 A2, .int .i64 I1, .int .i64 I2, .string s, .slice X j c] 76 (0, 0)) ∧ w7.ownsRow T 3 1 (.slice X j c) j (a.map (Value.int .i64)) ∧ w7.heap[T]? = some (.cells #[.int .i64 0, .int .i64 0, .int .i64 0, .int .i64 0, .string ⟨#[]⟩, .slice none 0 0] 76 (0, 0)) ∧ Chg [g] w w7 :=
  ⟨hc.blk h.qc (by simp; omega), own_chg h.ow hc (by simp; omega), hc.blk h.zc (by simp; omega), h.ch.trans' hc⟩
theorem RdL.msg {w wr : World} {g T q : Nat} {A1 A2 I1 I2 : Int} {s : ByteArray} {k : Nat} {r4 : Rs} {j : Nat} {a : List Int} {X : Option Addr} {c : Nat} {r' : Rs} (h : RdL w g T q A1 A2 I1 I2 s k r4 j a X c r' wr) :
    mval ⟨⟨A1, A2, I1, I2, s, a⟩, X, c⟩ = .agg #[.int .i64 A1, .int .i64 A2, .int .i64 I1, .int .i64 I2, .string s, .slice X j c] := by
  rw [← h.al]; rfl
/-- the message stands in any later world -/
theorem RdL.okm {w wr wx : World} {g T q : Nat} {A1 A2 I1 I2 : Int} {s : ByteArray} {k : Nat} {r4 : Rs} {j : Nat} {a : List Int} {X : Option Addr} {c : Nat} {r' : Rs} (h : RdL w g T q A1 A2 I1 I2 s k r4 j a X c r' wr)
    (hb : (0 ≤ A1 ∧ A1 ≤ 1099511627775) ∧ (0 ≤ A2 ∧ A2 ≤ 1099511627775) ∧ (0 ≤ I1 ∧ I1 ≤ 1099511627775) ∧ (0 ≤ I2 ∧ I2 ≤ 1099511627775) ∧ s.size ≤ 4096) (hx : wx.ownsRow T 3 1 (.slice X j c) j (a.map (Value.int .i64))) :
    ∃ N, (Mm.mk ⟨A1, A2, I1, I2, s, a⟩ X c).ok wx N ∧ ∀ y ∈ N, T ≤ y ∧ y < wx.heap.size := by
  obtain ⟨b1, b2, b3, b4, b5⟩ := hb
  have hal := h.al
  subst hal
  obtain ⟨_, _, e, h1, h2, _, hr⟩ := own_form hx
  cases e
  have hX : ∀ b off, X = some ⟨b, off, none⟩ → T ≤ b ∧ b < wx.heap.size := fun b off e => by
    rcases hx.2 with ⟨h, _⟩ | ⟨g, cap, cur, h, hb, hh, _⟩
    · injection h with h _ _; rw [h] at e; cases e
    · injection h with h _ _; rw [h] at e; cases e
      exact ⟨hb, (Array.getElem?_eq_some_iff.1 hh).1⟩
  refine ⟨(Value.slice X a.length c).ownBlock.toList, ⟨hr, h1, h2, fun _ b off e => by have e' : X = some ⟨b, off, none⟩ := e; rw [e']; simp [Value.ownBlock], by simp only; omega, by simp only; omega, by simp only; omega, by simp only; omega, fun z hz => by have := h.ab z hz; omega, by simp only; omega⟩, fun y hy => ?_⟩
  have hy' : (Value.slice X a.length c).ownBlock = some y := by simpa using hy
  rcases hx.2 with ⟨h, _⟩ | ⟨g, cap, cur, h, hb, hh, _⟩
  · rw [h] at hy'; cases hy'
  · rw [h] at hy'
    simp only [Value.ownBlock, Option.some.injEq] at hy'
    subst hy'
    exact ⟨hb, (Array.getElem?_eq_some_iff.1 hh).1⟩
theorem size_mm : (Try.prog.info? 76).map (·.size) = some 6 := by kernel_rfl
theorem row6 {w : World} {q : Nat} {t : TypeId} {v0 v1 v2 v3 v4 v5 : Value} (h : w.heap[q]? = some (.cells #[v0, v1, v2, v3, v4, v5] t (0, 0))) :
    w.cell? ⟨q, 0, none⟩ = some v0 ∧ w.cell? ⟨q, 1, none⟩ = some v1 ∧ w.cell? ⟨q, 2, none⟩ = some v2 ∧ w.cell? ⟨q, 3, none⟩ = some v3 ∧ w.cell? ⟨q, 4, none⟩ = some v4 ∧ w.cell? ⟨q, 5, none⟩ = some v5 :=
  ⟨(cell_of_row _ _ 0 _ _ _ h).trans rfl, (cell_of_row _ _ 1 _ _ _ h).trans rfl, (cell_of_row _ _ 2 _ _ _ h).trans rfl, (cell_of_row _ _ 3 _ _ _ h).trans rfl, (cell_of_row _ _ 4 _ _ _ h).trans rfl, (cell_of_row _ _ 5 _ _ _ h).trans rfl⟩
def ReadP (g : Nat) (r : Rs) (w : World) (e : Ending) (w' : World) : Prop :=
  Chg [g] w w' ∧ ((∃ c x, msgR r = .error c ∧ e = .returned (.tuple #[mval x, .int .i64 c])) ∨
    ∃ m r' X c N, msgR r = .ok (m, r') ∧ e = .returned (.tuple #[mval ⟨m, X, c⟩, .int .i64 0]) ∧ (Mm.mk m X c).ok w' N ∧ (∀ y ∈ N, w.heap.size ≤ y ∧ y < w'.heap.size) ∧ IsRd w' g r')
set_option maxRecDepth 100000 in
set_option maxHeartbeats 4000000 in
theorem read_calls (g : Nat) (r : Rs) (w : World) (h : IsRd w g r) (he : r.e = 0) : Calls Try.prog 48 #[.pointer (some ⟨g, 0, none⟩)] w (ReadP g r w) := by
  have hgl := h.lt
  have ho : okR r := .inl he
  have HO := Lib.hid ho
  have hb1 := below1 w (.cells #[.int .i64 0, .int .i64 0, .int .i64 0, .int .i64 0, .string ⟨#[]⟩, .slice none 0 0] 76)
  have hz1 := heap_alloc_new w (.cells #[.int .i64 0, .int .i64 0, .int .i64 0, .int .i64 0, .string ⟨#[]⟩, .slice none 0 0] 76)
  have HI0 := Lib.hid (h.below hb1)
  have HC0 := Lib.hid (Chg.of_below hb1 [g])
  have HZ0 := Lib.hid hz1
  clear h he ho hb1 hz1
  go_enter Try.func48, Try.ntmps48
  go_upto_region 1 with (fail)
  generalize w.alloc _ = w1 at *
  obtain ⟨T, HT⟩ : ∃ y, Hid (w.heap.size = y) := ⟨_, rfl⟩
  rw [HT.out] at HZ0 hgl ⊢
  have H1 := Lib.hid (id_calls g r w1 HI0.out)
  unfold DP at H1
  obtain ⟨A1, HA1⟩ : ∃ y : Int, Hid ((((idR r).1.1 : Nat) : Int) = y) := ⟨_, Lib.hid rfl⟩
  obtain ⟨A2, HA2⟩ : ∃ y : Int, Hid ((((idR r).1.2 : Nat) : Int) = y) := ⟨_, Lib.hid rfl⟩
  rw [HA1.out, HA2.out] at H1
  go_wp2_with fail
  refine H1.out.mono ?_
  rintro e w2 ⟨rfl, hi2, hc2⟩
  have HC2 := Lib.hid (HC0.out.trans' hc2)
  have HZ2 := Lib.hid (hc2.blk HZ0.out (by simp; omega))
  have H2 := Lib.hid (id_calls g (idR r).2 w2 hi2)
  unfold DP at H2
  obtain ⟨I1, HI1⟩ : ∃ y : Int, Hid ((((idR (idR r).2).1.1 : Nat) : Int) = y) := ⟨_, Lib.hid rfl⟩
  obtain ⟨I2, HI2⟩ : ∃ y : Int, Hid ((((idR (idR r).2).1.2 : Nat) : Int) = y) := ⟨_, Lib.hid rfl⟩
  rw [HI1.out, HI2.out] at H2
  clear hi2 hc2 H1 HC0 HZ0 HI0
  go_wp2_with fail
  refine H2.out.mono ?_
  rintro e w3 ⟨rfl, hi3, hc3⟩
  have HC3 := Lib.hid (HC2.out.trans' hc3)
  have HZ3 := Lib.hid (hc3.blk HZ2.out (by simp; omega))
  have H3 := Lib.hid (string_calls g (idR (idR r).2).2 w3 hi3)
  unfold StrPost at H3
  obtain ⟨s, HS⟩ : ∃ y : ByteArray, Hid ((⟨(stringR (idR (idR r).2).2).1.toArray⟩ : ByteArray) = y) := ⟨_, Lib.hid rfl⟩
  rw [HS.out] at H3
  clear hi3 hc3 H2 HC2 HZ2
  go_wp2_with fail
  refine H3.out.mono ?_
  rintro e w4 ⟨rfl, hi4, hc4⟩
  have hb5 := below1 w4 (.cells #[.int .i64 A1, .int .i64 A2, .int .i64 I1, .int .i64 I2, .string s, .slice none 0 0] 76)
  have hk5 := heap_alloc_new w4 (.cells #[.int .i64 A1, .int .i64 A2, .int .i64 I1, .int .i64 I2, .string s, .slice none 0 0] 76)
  have HC5 := Lib.hid ((HC3.out.trans' hc4).trans' (Chg.of_below hb5 [g]))
  have hz4 := hc4.blk HZ3.out (by simp; omega)
  have hTl : T < w4.heap.size := (Array.getElem?_eq_some_iff.1 hz4).1
  have HZ5 := Lib.hid ((hb5.block T hTl).trans hz4)
  have HI5 := Lib.hid (hi4.below hb5)
  have HPM : Hid (preM r = ⟨A1, A2, I1, I2, s, []⟩) := Lib.hid (by unfold preM; rw [HA1.out, HA2.out, HI1.out, HI2.out, HS.out])
  have hA1 : 0 ≤ A1 ∧ A1 ≤ 1099511627775 := by rw [← HA1.out]; have := idR_le r; omega
  have hA2 : 0 ≤ A2 ∧ A2 ≤ 1099511627775 := by rw [← HA2.out]; have := idR_le r; omega
  have hI1 : 0 ≤ I1 ∧ I1 ≤ 1099511627775 := by rw [← HI1.out]; have := idR_le (idR r).2; omega
  have hI2 : 0 ≤ I2 ∧ I2 ≤ 1099511627775 := by rw [← HI2.out]; have := idR_le (idR r).2; omega
  have hs : s.size ≤ 4096 := by rw [← HS.out]; have := stringR_le (idR (idR r).2).2; rw [me_size]; exact this
  have HBD := Lib.hid (And.intro hA1 (And.intro hA2 (And.intro hI1 (And.intro hI2 hs))))
  clear hi4 hc4 hz4 hA1 hA2 hI1 hI2 hs H3 HC3 HZ3
  go_upto_region 2 with (fail)
  generalize w4.alloc _ = w5 at *
  obtain ⟨q, HQ⟩ : ∃ y, Hid (w4.heap.size = y) := ⟨_, rfl⟩
  rw [HQ.out] at hk5 hTl ⊢
  have H4 := Lib.hid (count_calls g _ 9 w5 HI5.out (by omega) (by omega))
  unfold DP at H4
  rw [show countR 9 (stringR (idR (idR r).2).2).2 = preC r from rfl] at H4
  have hok4 := preC_okR HO.out
  have hk9 : ((preC r).1 : Int) ≤ 9 := countR_le 9 _ (by omega)
  have hke : (preC r).2.e ≠ 0 → (preC r).1 = 0 := countR_zero 9 _
  have HMS : Hid (msgR r = if (preC r).2.e ≠ 0 then .error (preC r).2.e else match argsA (preC r).1 [] (preC r).2 with
    | none => .error 11
    | some (ar, r') => if valid ⟨A1, A2, I1, I2, s, ar⟩ = true then .ok (⟨A1, A2, I1, I2, s, ar⟩, r') else .error 11) := Lib.hid (by unfold msgR withA; rw [HPM.out] <;> rfl)
  generalize (preC r).1 = k at *
  generalize (preC r).2 = r4 at *
  have HQK := Lib.hid hk5
  have HOK4 := Lib.hid hok4
  have HKE := Lib.hid hke
  clear hb5 hk5 hok4 hke HPM HA1 HA2 HI1 HI2 HS
  go_wp2_with fail
  refine H4.out.mono ?_
  rintro e w6 ⟨rfl, hi6, hc6⟩
  have HL0 : Hid (RdL w g T q A1 A2 I1 I2 s k r4 0 [] none 0 r4 w6) := Lib.hid ⟨hc6.blk HQK.out (by simp; omega), ⟨rfl, .inl ⟨rfl, rfl⟩⟩, rfl, hi6, HC5.out.trans' hc6, hc6.blk HZ5.out (by simp; omega), rfl, by simp, HOK4.out, fun h => ⟨HKE.out h, rfl⟩⟩
  clear hi6 hc6 H4 HC5 HZ5 HI5 HQK
  have HTQ : Hid (T ≤ q) := Lib.hid (Nat.le_of_lt hTl)
  have HL4 : Hid (∀ {j : Nat}, j < k → r4.e = 0) := Lib.hid (fun hj => Classical.byContradiction fun h => by have := HKE.out h; omega)
  go_wp2_with fail
  go_loopw [17] (fun i wr => ∃ j a X c r', j ≤ k ∧ i = .int .i64 (j : Nat) ∧ RdL w g T q A1 A2 I1 I2 s k r4 j a X c r' wr) (fun i _ => k - (intOf i).toNat)
  case atStart => exact ⟨0, _, _, _, _, by omega, rfl, HL0.out⟩
  case round =>
    obtain ⟨j, a, X, c, r', hj, rfl, hl⟩ := hrel
    have HL := Lib.hid hl
    clear hl
    have j0 : (0 : Int) ≤ (j : Int) := by omega
    by_cases hlt : j < k
    · have j1 : (j : Int) < (k : Int) := by omega
      have HE : Hid (r'.e = 0) := Lib.hid (Classical.byContradiction fun h => by have := (HL.out.er h).1; omega)
      have HU := Lib.hid (uint_calls g r' wr HL.out.rd)
      unfold UintPost at HU
      have hul := uintR_lt r'
      have H11 := Lib.hid (uintR_e11 HE.out)
      have HOK := Lib.hid (uintR_okR HL.out.ok)
      obtain ⟨d, hd⟩ : ∃ d, k - j = d + 1 := ⟨k - j - 1, by omega⟩
      have HAR : Hid (argsA k [] r4 = if (uintR r').2.e ≠ 0 then none else if 4294967296 < (uintR r').1 then none else argsA (k - (j + 1)) (a ++ [((uintR r').1 : Int)]) (uintR r').2) := Lib.hid (by rw [HL.out.ar, hd, show k - (j + 1) = d by omega]; rfl)
      generalize (uintR r').1 = h at *
      generalize (uintR r').2 = r2 at *
      clear hd
      go_wp2_with fail
      refine HU.out.mono ?_
      rintro e w7 ⟨rfl, hi7, hc7⟩
      have HC7 := Lib.hid hc7
      have HI7 := Lib.hid hi7
      have HF := Lib.hid (failed_calls g r2 w7 hi7 HOK.out)
      clear hi7 hc7 HU
      obtain ⟨hq7, ho7, hz7, hg7⟩ := HL.out.read HC7.out hgl HTQ.out
      have HQ7 := Lib.hid hq7
      have HO7 := Lib.hid ho7
      have HZ7 := Lib.hid hz7
      have HG7 := Lib.hid hg7
      clear hq7 ho7 hz7 hg7
      rcases H11.out with he2 | he2
      · rw [he2] at HF
        by_cases hbig : 4294967296 < h
        · have HM11 : Hid (msgR r = .error 11) := Lib.hid (by rw [HMS.out, if_neg (fun h => h (HL4.out hlt)), HAR.out, if_neg (fun h => h he2), if_pos hbig])
          have b1 : decide ((4294967296 : Int) < (h : Int)) = true := decide_eq_true (by omega)
          have b2 : decide (4294967296 < h) = true := decide_eq_true hbig
          clear hbig HAR he2
          obtain ⟨c0, c1, c2, c3, c4, c5⟩ := row6 HQ7.out; obtain ⟨t0, t1, t2, t3, t4, t5⟩ := row6 HZ7.out; have f0 := frozen_of_row _ _ 0 _ _ HZ7.out; have f1 := frozen_of_row _ _ 1 _ _ HZ7.out; have f2 := frozen_of_row _ _ 2 _ _ HZ7.out; have f3 := frozen_of_row _ _ 3 _ _ HZ7.out; have f4 := frozen_of_row _ _ 4 _ _ HZ7.out; have f5 := frozen_of_row _ _ 5 _ _ HZ7.out
          go_wp2_with fail
          refine HF.out.mono ?_
          rintro e w8 ⟨rfl, rfl⟩
          go_wp2_with fail; have hx6 := st6 HZ7.out (.int .i64 A1) (.int .i64 A2) (.int .i64 I1) (.int .i64 I2) (.string s) (.slice X j c); have hcx := chgset6 (w := w7) T (.int .i64 A1) (.int .i64 A2) (.int .i64 I1) (.int .i64 I2) (.string s) (.slice X j c); generalize (((((w7.setCell _ _).setCell _ _).setCell _ _).setCell _ _).setCell _ _).setCell _ _ = wx at *; have HX6 := Lib.hid hx6; have HCX := Lib.hid (HG7.out.trans hcx (by simp only [List.mem_singleton]; intro y hy; right; rw [HT.out]; omega)); clear hx6 hcx c0 c1 c2 c3 c4 c5 t0 t1 t2 t3 t4 t5 f0 f1 f2 f3 f4 f5; refine bodyPost_ret (results_cell_tmp rfl _ _ T 76 #[.int .i64 A1, .int .i64 A2, .int .i64 I1, .int .i64 I2, .string s, .slice X j c] (0, 0) _ rfl HX6.out Try.underlying76 rfl size_mm) rfl ⟨HCX.out, ?_⟩
          exact .inl ⟨11, _, HM11.out, by rw [HL.out.msg]; rfl⟩
        · have HAR2 : Hid (argsA k [] r4 = argsA (k - (j + 1)) (a ++ [(h : Int)]) r2) := Lib.hid (by rw [HAR.out, if_neg (fun h => h he2), if_neg hbig])
          have b1 : decide ((4294967296 : Int) < (h : Int)) = false := decide_eq_false (by omega)
          have b2 : decide (4294967296 < h) = false := decide_eq_false hbig
          have hw : IntKind.i64.wrap (h : Int) = (h : Int) := IntWalk.i64_in _ (by omega)
          have HE2 := Lib.hid he2
          have HH : Hid (h ≤ 4294967296) := Lib.hid (by omega)
          have hT7 : T ≤ w7.heap.size := by have := (Array.getElem?_eq_some_iff.1 HZ7.out).1; omega
          have hq7l : q < w7.heap.size := (Array.getElem?_eq_some_iff.1 HQ7.out).1
          have n5 : ∀ o, (w7.alloc o).cell? ⟨q, 5, none⟩ = some (.slice X j c) := fun o => (World.cell?_alloc_lt w7 o ⟨q, 5, none⟩ hq7l).trans (row6 HQ7.out).2.2.2.2.2
          clear hbig HAR he2
          obtain ⟨c0, c1, c2, c3, c4, c5⟩ := row6 HQ7.out; obtain ⟨t0, t1, t2, t3, t4, t5⟩ := row6 HZ7.out; have f0 := frozen_of_row _ _ 0 _ _ HZ7.out; have f1 := frozen_of_row _ _ 1 _ _ HZ7.out; have f2 := frozen_of_row _ _ 2 _ _ HZ7.out; have f3 := frozen_of_row _ _ 3 _ _ HZ7.out; have f4 := frozen_of_row _ _ 4 _ _ HZ7.out; have f5 := frozen_of_row _ _ 5 _ _ HZ7.out
          go_wp2_with fail
          refine HF.out.mono ?_
          rintro e w8 ⟨rfl, rfl⟩
          clear HF
          go_wp2_with (at_builtin; refine wpList_apps _ rfl (.tmp 31) (.tmp 34) 34 rfl T 3 (.int .i64 0) 8 Try.underlying34 info_n rfl (.slice X j c) j (a.map (Value.int .i64)) rfl (HO7.out.alloc _) (some ⟨w7.heap.size, 0, none⟩) 1 1 [.int .i64 (h : Int)] rfl rfl (Rd.one w7 _ _) (by simp [Value.oneCell']) (by simp only [maxLen]; omega) (by omega) (Nat.le_trans hT7 (by simp)) ?_; intro X9 c9 w9 hown9 happ9; have HO9 := Lib.hid hown9; have hp9 := (below1 w7 _).mono hT7 |>.trans (happ9.below (HO7.out.alloc _) (Nat.le_trans hT7 (by simp))); have HP9 := Lib.hid hp9; have hba := below1 w7 (.cells #[.int .i64 (h : Int)] 3); have hqa := (hba.block _ hq7l).trans HQ7.out; have hza := (hba.block _ (Array.getElem?_eq_some_iff.1 HZ7.out).1).trans HZ7.out; have HQ9 := Lib.hid (happ9.old hqa (own_ne (HO7.out.alloc _) hqa (by decide))); have HZ9 := Lib.hid (happ9.old hza (own_ne (HO7.out.alloc _) hza (by decide))); have k5 := (row6 HQ9.out).2.2.2.2.2; have gk5 := frozen_of_row _ _ 5 _ _ HQ9.out; clear hown9 happ9 hp9 hba hqa hza)
          have hcq : Chg [q] w9 (w9.setCell ⟨q, 5, none⟩ (.slice X9 (j + 1) c9)) := (Chg.refl [q] w9).setCell (p := ⟨q, 5, none⟩) (.inl (by simp)) _
          have hbq : Below T w7 (w9.setCell ⟨q, 5, none⟩ (.slice X9 (j + 1) c9)) := HP9.out.trans (hcq.below (Nat.le_trans hT7 HP9.out.size) (by simp; omega))
          have HRD : Hid (RdL w g T q A1 A2 I1 I2 s k r4 (j + 1) (a ++ [(h : Int)]) X9 c9 r2 (w9.setCell ⟨q, 5, none⟩ (.slice X9 (j + 1) c9))) := Lib.hid ⟨heap_setCell_same _ _ _ _ _ _ HQ9.out, by rw [List.map_append]; exact own_set HO9.out HQ9.out (by decide), by rw [List.length_append, HL.out.al]; rfl, IsRd.lowB HI7.out hbq hgl, chg_lowB HG7.out (by rw [HT.out]; exact hbq), hcq.blk HZ9.out (by simp; omega), HAR2.out, fun z hz => by rcases List.mem_append.1 hz with hz | hz; exact HL.out.ab z hz; rw [List.mem_singleton.1 hz]; have := HH.out; omega, HOK.out, fun h => absurd HE2.out h⟩
          go_roundw
          case rel => exact ⟨j + 1, _, _, _, _, by omega, by go_num, HRD.out⟩
          case measure => simp [intOf]; omega
      · rw [he2] at HF
        have HM11 : Hid (msgR r = .error 11) := Lib.hid (by rw [HMS.out, if_neg (fun h => h (HL4.out hlt)), HAR.out, if_pos (by rw [he2]; decide)])
        clear HAR he2
        obtain ⟨c0, c1, c2, c3, c4, c5⟩ := row6 HQ7.out; obtain ⟨t0, t1, t2, t3, t4, t5⟩ := row6 HZ7.out; have f0 := frozen_of_row _ _ 0 _ _ HZ7.out; have f1 := frozen_of_row _ _ 1 _ _ HZ7.out; have f2 := frozen_of_row _ _ 2 _ _ HZ7.out; have f3 := frozen_of_row _ _ 3 _ _ HZ7.out; have f4 := frozen_of_row _ _ 4 _ _ HZ7.out; have f5 := frozen_of_row _ _ 5 _ _ HZ7.out
        go_wp2_with fail
        refine HF.out.mono ?_
        rintro e w8 ⟨rfl, rfl⟩
        go_wp2_with fail; have hx6 := st6 HZ7.out (.int .i64 A1) (.int .i64 A2) (.int .i64 I1) (.int .i64 I2) (.string s) (.slice X j c); have hcx := chgset6 (w := w7) T (.int .i64 A1) (.int .i64 A2) (.int .i64 I1) (.int .i64 I2) (.string s) (.slice X j c); generalize (((((w7.setCell _ _).setCell _ _).setCell _ _).setCell _ _).setCell _ _).setCell _ _ = wx at *; have HX6 := Lib.hid hx6; have HCX := Lib.hid (HG7.out.trans hcx (by simp only [List.mem_singleton]; intro y hy; right; rw [HT.out]; omega)); clear hx6 hcx c0 c1 c2 c3 c4 c5 t0 t1 t2 t3 t4 t5 f0 f1 f2 f3 f4 f5; refine bodyPost_ret (results_cell_tmp rfl _ _ T 76 #[.int .i64 A1, .int .i64 A2, .int .i64 I1, .int .i64 I2, .string s, .slice X j c] (0, 0) _ rfl HX6.out Try.underlying76 rfl size_mm) rfl ⟨HCX.out, ?_⟩
        exact .inl ⟨11, _, HM11.out, by rw [HL.out.msg]; rfl⟩
    · obtain rfl : j = k := by omega
      have HF := Lib.hid (failed_calls g r' wr HL.out.rd HL.out.ok)
      have har := HL.out.ar
      rw [Nat.sub_self] at har
      have HAR : Hid (argsA j [] r4 = some (a, r')) := har
      have HQ7 := Lib.hid HL.out.qc
      have HZ7 := Lib.hid HL.out.zc
      have HG7 := Lib.hid HL.out.ch
      clear har
      by_cases he3 : r'.e = 0
      · have HE4 : Hid (¬ r4.e ≠ 0) := Lib.hid (fun h => by
          have hk := HKE.out h
          subst hk
          have h2 := HAR.out
          unfold argsA at h2
          injection h2 with h2
          injection h2 with _ h2
          rw [h2] at h
          exact h he3)
        have HM : Hid (msgR r = if valid ⟨A1, A2, I1, I2, s, a⟩ = true then .ok (⟨A1, A2, I1, I2, s, a⟩, r') else .error 11) := Lib.hid (by rw [HMS.out, if_neg HE4.out, HAR.out])
        obtain ⟨NV, hokm, _⟩ := HL.out.okm HBD.out HL.out.ow
        have HV := Lib.hid (valid_calls _ wr NV hokm)
        unfold ValB at HV
        rw [HL.out.msg] at HV
        simp only at HV
        rw [he3] at HF
        clear he3 hokm
        obtain ⟨c0, c1, c2, c3, c4, c5⟩ := row6 HQ7.out; obtain ⟨t0, t1, t2, t3, t4, t5⟩ := row6 HZ7.out; have f0 := frozen_of_row _ _ 0 _ _ HZ7.out; have f1 := frozen_of_row _ _ 1 _ _ HZ7.out; have f2 := frozen_of_row _ _ 2 _ _ HZ7.out; have f3 := frozen_of_row _ _ 3 _ _ HZ7.out; have f4 := frozen_of_row _ _ 4 _ _ HZ7.out; have f5 := frozen_of_row _ _ 5 _ _ HZ7.out
        go_wp2_with fail
        refine HF.out.mono ?_
        rintro e w8 ⟨rfl, rfl⟩
        clear HF
        cases hv : valid ⟨A1, A2, I1, I2, s, a⟩ with
        | false =>
          have HM11 : Hid (msgR r = .error 11) := Lib.hid (by rw [HM.out, hv, if_neg (by simp)])
          rw [hv] at HV
          clear hv
          go_wp2_with fail
          refine HV.out.mono ?_
          rintro e w8 ⟨rfl, hb8⟩
          have HQ8 := Lib.hid ((hb8.block _ (Array.getElem?_eq_some_iff.1 HQ7.out).1).trans HQ7.out)
          have HZ8 := Lib.hid ((hb8.block _ (Array.getElem?_eq_some_iff.1 HZ7.out).1).trans HZ7.out)
          have HG8 := Lib.hid (HG7.out.trans' (Chg.of_below hb8 [g]))
          clear c0 c1 c2 c3 c4 c5 t0 t1 t2 t3 t4 t5 f0 f1 f2 f3 f4 f5 HV hb8 HQ7 HZ7 HG7
          have HQ7 := HQ8
          have HZ7 := HZ8
          have HG7 := HG8
          obtain ⟨c0, c1, c2, c3, c4, c5⟩ := row6 HQ7.out; obtain ⟨t0, t1, t2, t3, t4, t5⟩ := row6 HZ7.out; have f0 := frozen_of_row _ _ 0 _ _ HZ7.out; have f1 := frozen_of_row _ _ 1 _ _ HZ7.out; have f2 := frozen_of_row _ _ 2 _ _ HZ7.out; have f3 := frozen_of_row _ _ 3 _ _ HZ7.out; have f4 := frozen_of_row _ _ 4 _ _ HZ7.out; have f5 := frozen_of_row _ _ 5 _ _ HZ7.out
          go_wp2_with fail; have hx6 := st6 HZ7.out (.int .i64 A1) (.int .i64 A2) (.int .i64 I1) (.int .i64 I2) (.string s) (.slice X j c); have hcx := chgset6 (w := w8) T (.int .i64 A1) (.int .i64 A2) (.int .i64 I1) (.int .i64 I2) (.string s) (.slice X j c); generalize (((((w8.setCell _ _).setCell _ _).setCell _ _).setCell _ _).setCell _ _).setCell _ _ = wx at *; have HX6 := Lib.hid hx6; have HCX := Lib.hid (HG7.out.trans hcx (by simp only [List.mem_singleton]; intro y hy; right; rw [HT.out]; omega)); clear hx6 hcx c0 c1 c2 c3 c4 c5 t0 t1 t2 t3 t4 t5 f0 f1 f2 f3 f4 f5; refine bodyPost_ret (results_cell_tmp rfl _ _ T 76 #[.int .i64 A1, .int .i64 A2, .int .i64 I1, .int .i64 I2, .string s, .slice X j c] (0, 0) _ rfl HX6.out Try.underlying76 rfl size_mm) rfl ⟨HCX.out, ?_⟩
          exact .inl ⟨11, _, HM11.out, by rw [HL.out.msg]; rfl⟩
        | true =>
          have HM11 : Hid (msgR r = .ok (⟨A1, A2, I1, I2, s, a⟩, r')) := Lib.hid (by rw [HM.out, hv, if_pos rfl])
          rw [hv] at HV
          clear hv
          go_wp2_with fail
          refine HV.out.mono ?_
          rintro e w8 ⟨rfl, hb8⟩
          have HQ8 := Lib.hid ((hb8.block _ (Array.getElem?_eq_some_iff.1 HQ7.out).1).trans HQ7.out)
          have HZ8 := Lib.hid ((hb8.block _ (Array.getElem?_eq_some_iff.1 HZ7.out).1).trans HZ7.out)
          have HG8 := Lib.hid (HG7.out.trans' (Chg.of_below hb8 [g]))
          have HO8 := Lib.hid (own_belowS HL.out.ow hb8)
          have HI8 := Lib.hid (HL.out.rd.below hb8)
          clear c0 c1 c2 c3 c4 c5 t0 t1 t2 t3 t4 t5 f0 f1 f2 f3 f4 f5 HV hb8 HQ7 HZ7 HG7
          have HQ7 := HQ8
          have HZ7 := HZ8
          have HG7 := HG8
          have HCT := Lib.hid (chgset6 (w := w8) T (.int .i64 A1) (.int .i64 A2) (.int .i64 I1) (.int .i64 I2) (.string s) (.slice X j c))
          have HOT : Hid (((((((w8.setCell ⟨T, 0, none⟩ (.int .i64 A1)).setCell ⟨T, 1, none⟩ (.int .i64 A2)).setCell ⟨T, 2, none⟩ (.int .i64 I1)).setCell ⟨T, 3, none⟩ (.int .i64 I2)).setCell ⟨T, 4, none⟩ (.string s)).setCell ⟨T, 5, none⟩ (.slice X j c)).ownsRow T 3 1 (.slice X j c) j (a.map (Value.int .i64))) := Lib.hid (own_chg1 HO8.out HCT.out HZ8.out (by decide))
          have HIT := Lib.hid (IsRd.lowB HI8.out (HCT.out.below (Nat.le_of_lt (Array.getElem?_eq_some_iff.1 HZ8.out).1) (by simp)) hgl)
          obtain ⟨c0, c1, c2, c3, c4, c5⟩ := row6 HQ7.out; obtain ⟨t0, t1, t2, t3, t4, t5⟩ := row6 HZ7.out; have f0 := frozen_of_row _ _ 0 _ _ HZ7.out; have f1 := frozen_of_row _ _ 1 _ _ HZ7.out; have f2 := frozen_of_row _ _ 2 _ _ HZ7.out; have f3 := frozen_of_row _ _ 3 _ _ HZ7.out; have f4 := frozen_of_row _ _ 4 _ _ HZ7.out; have f5 := frozen_of_row _ _ 5 _ _ HZ7.out
          go_wp2_with fail; have hx6 := st6 HZ7.out (.int .i64 A1) (.int .i64 A2) (.int .i64 I1) (.int .i64 I2) (.string s) (.slice X j c); have hcx := chgset6 (w := w8) T (.int .i64 A1) (.int .i64 A2) (.int .i64 I1) (.int .i64 I2) (.string s) (.slice X j c); generalize (((((w8.setCell _ _).setCell _ _).setCell _ _).setCell _ _).setCell _ _).setCell _ _ = wx at *; have HX6 := Lib.hid hx6; have HCX := Lib.hid (HG7.out.trans hcx (by simp only [List.mem_singleton]; intro y hy; right; rw [HT.out]; omega)); clear hx6 hcx c0 c1 c2 c3 c4 c5 t0 t1 t2 t3 t4 t5 f0 f1 f2 f3 f4 f5; refine bodyPost_ret (results_cell_tmp rfl _ _ T 76 #[.int .i64 A1, .int .i64 A2, .int .i64 I1, .int .i64 I2, .string s, .slice X j c] (0, 0) _ rfl HX6.out Try.underlying76 rfl size_mm) rfl ⟨HCX.out, ?_⟩
          obtain ⟨N, h1, h2⟩ := HL.out.okm HBD.out HOT.out
          exact .inr ⟨_, r', X, c, N, HM11.out, by rw [HL.out.msg]; rfl, h1, fun y hy => by rw [HT.out]; exact h2 y hy, HIT.out⟩
      · have HM11 : Hid (msgR r = .error r'.e) := Lib.hid (by
          obtain ⟨_, h2⟩ := HL.out.er he3
          rw [HMS.out, if_pos (by rw [← h2]; exact he3), h2])
        have b1 : (r'.e == 0) = false := by simpa using he3
        generalize r'.e = E at *
        clear he3
        obtain ⟨c0, c1, c2, c3, c4, c5⟩ := row6 HQ7.out; obtain ⟨t0, t1, t2, t3, t4, t5⟩ := row6 HZ7.out; have f0 := frozen_of_row _ _ 0 _ _ HZ7.out; have f1 := frozen_of_row _ _ 1 _ _ HZ7.out; have f2 := frozen_of_row _ _ 2 _ _ HZ7.out; have f3 := frozen_of_row _ _ 3 _ _ HZ7.out; have f4 := frozen_of_row _ _ 4 _ _ HZ7.out; have f5 := frozen_of_row _ _ 5 _ _ HZ7.out
        go_wp2_with fail
        refine HF.out.mono ?_
        rintro e w8 ⟨rfl, rfl⟩
        go_wp2_with fail; have hx6 := st6 HZ7.out (.int .i64 A1) (.int .i64 A2) (.int .i64 I1) (.int .i64 I2) (.string s) (.slice X j c); have hcx := chgset6 (w := wr) T (.int .i64 A1) (.int .i64 A2) (.int .i64 I1) (.int .i64 I2) (.string s) (.slice X j c); generalize (((((wr.setCell _ _).setCell _ _).setCell _ _).setCell _ _).setCell _ _).setCell _ _ = wx at *; have HX6 := Lib.hid hx6; have HCX := Lib.hid (HG7.out.trans hcx (by simp only [List.mem_singleton]; intro y hy; right; rw [HT.out]; omega)); clear hx6 hcx c0 c1 c2 c3 c4 c5 t0 t1 t2 t3 t4 t5 f0 f1 f2 f3 f4 f5; refine bodyPost_ret (results_cell_tmp rfl _ _ T 76 #[.int .i64 A1, .int .i64 A2, .int .i64 I1, .int .i64 I2, .string s, .slice X j c] (0, 0) _ rfl HX6.out Try.underlying76 rfl size_mm) rfl ⟨HCX.out, ?_⟩
        exact .inl ⟨E, _, HM11.out, by rw [HL.out.msg]; rfl⟩
end Mb
end Go.Proofs.Ytddoepaplbnlcaa

/- A message in a struct of its own; the walk of MailboxOnce's first half. -/
namespace Go.Proofs.Ytddoepaplbnlcaa
open Go.RowKit Go.Shelf
namespace Mb

theorem ins_at (l : List Msg) (m : Msg) (h : pos l m < (ins l m).length) : (ins l m)[pos l m] = m := by
  have hp := pos_le l m
  have h1 : (ins l m)[pos l m]? = some m := by
    unfold ins
    have hl : (l.take (pos l m)).length = pos l m := by rw [List.length_take]; omega
    rw [List.getElem?_append_right (by omega), hl, Nat.sub_self]; rfl
  rw [List.getElem?_eq_getElem h] at h1
  injection h1
theorem find_ins {l : List Msg} {m : Msg} (hi : Inv l) (h0 : putE l m = 0) : find (ins l m) (key m.a1 m.a2 m.i1 m.i2) = some (pos l m) := by
  have hp := hi.put m
  unfold putL at hp
  rw [if_pos h0] at hp
  have hlt : pos l m < (ins l m).length := by rw [ins_length]; have := pos_le l m; omega
  have h := find_at hp _ hlt
  rw [ins_at l m hlt] at h
  exact h
theorem take_ins {l : List Msg} {m : Msg} (hi : Inv l) (h0 : putE l m = 0) : takeL (ins l m) (key m.a1 m.a2 m.i1 m.i2) = l := by
  have hp := pos_le l m
  have hl : (l.take (pos l m)).length = pos l m := by rw [List.length_take]; omega
  unfold takeL
  rw [find_ins hi h0]
  show (ins l m).take (pos l m) ++ (ins l m).drop (pos l m + 1) = l
  unfold ins
  generalize hq : pos l m = p at *
  have e1 : (l.take p ++ m :: l.drop p).take p = l.take p := List.take_left' hl
  have e2 : (l.take p ++ m :: l.drop p).drop (p + 1) = l.drop p := by
    rw [show l.take p ++ m :: l.drop p = (l.take p ++ [m]) ++ l.drop p by simp]
    exact List.drop_left' (by simp; omega)
  rw [e1, e2, List.take_append_drop]
theorem find_out {l : List Msg} {m : Msg} (h0 : putE l m = 0) : find l (key m.a1 m.a2 m.i1 m.i2) = none := by
  cases hf : find l (key m.a1 m.a2 m.i1 m.i2) with
  | none => rfl
  | some i =>
    obtain ⟨hil, _, _, h3, h4⟩ := find_some hf
    exact absurd ⟨h3, h4⟩ ((putE_zero h0).2.1 _ (List.getElem_mem hil))
theorem once_find {l : List Msg} {m : Msg} {w w' : World} {e : Ending} (hi : Inv l) (h0 : putE l m = 0) (h : FindP (ins l m) (key m.a1 m.a2 m.i1 m.i2) w e w') :
    ∃ X c, e = .returned (.tuple #[.string m.me, .slice X m.ar.length c, .bool true]) ∧ Rd w' X (m.ar.map (Value.int .i64)) ∧ Below w.heap.size w w' := by
  obtain ⟨hb, h⟩ := h
  rw [find_ins hi h0] at h
  obtain ⟨_, X, c, h1, h2⟩ := h
  simp only [ins_at] at h1 h2
  exact ⟨X, c, h1, h2, hb⟩
theorem once_lost {l : List Msg} {m : Msg} {w w' : World} {e : Ending} (h0 : putE l m = 0) (h : FindP l (key m.a1 m.a2 m.i1 m.i2) w e w') :
    e = .returned (.tuple #[.string ⟨#[]⟩, .slice none 0 0, .bool false]) ∧ Below w.heap.size w w' := by
  obtain ⟨hb, h⟩ := h
  rw [find_out h0] at h
  exact ⟨h, hb⟩
theorem once_take {K : List Nat} {B g : Nat} {l : List Msg} {m : Msg} {w w' : World} {e : Ending} (hi : Inv l) (h0 : putE l m = 0) (h : TakeP K B g (ins l m) (key m.a1 m.a2 m.i1 m.i2) w e w') :
    ∃ X c, e = .returned (.tuple #[.slice X m.ar.length c, .int .i64 0]) ∧ Rd w' X (m.ar.map (Value.int .i64)) ∧ BxW K B g l w w' := by
  obtain ⟨hb, h⟩ := h
  rw [find_ins hi h0] at h
  rw [take_ins hi h0] at hb
  obtain ⟨_, X, c, h1, h2⟩ := h
  simp only [ins_at] at h1 h2
  exact ⟨X, c, h1, h2, hb⟩
theorem once_gone {K : List Nat} {B g : Nat} {l : List Msg} {m : Msg} {w w' : World} {e : Ending} (h0 : putE l m = 0) (h : TakeP K B g l (key m.a1 m.a2 m.i1 m.i2) w e w') :
    e = .returned (.tuple #[.slice none 0 0, .int .i64 6]) ∧ Below w.heap.size w w' := by
  obtain ⟨_, h⟩ := h
  rw [find_out h0] at h
  exact h
/-- a message lies in a block -/
def MsgAt (g : Nat) (x : Mm) (w : World) : Prop := w.heap[g]? = some (.cells x.cells.toArray 36 (0, 0))
theorem MsgAt.below {g B : Nat} {x : Mm} {w w' : World} (h : MsgAt g x w) (hb : Below B w w') (hg : g < B) : MsgAt g x w' := (hb.block g hg).trans h
theorem MsgAt.cells {g : Nat} {x : Mm} {w : World} (h : MsgAt g x w) : w.cell? ⟨g, 0, none⟩ = some (.int .i64 x.m.a1) ∧ w.cell? ⟨g, 1, none⟩ = some (.int .i64 x.m.a2) ∧ w.cell? ⟨g, 2, none⟩ = some (.int .i64 x.m.i1) ∧ w.cell? ⟨g, 3, none⟩ = some (.int .i64 x.m.i2) ∧ w.cell? ⟨g, 4, none⟩ = some (.string x.m.me) ∧ w.cell? ⟨g, 5, none⟩ = some (.slice x.a x.m.ar.length x.c) :=
  ⟨(cell_of_row _ _ 0 _ _ _ h).trans rfl, (cell_of_row _ _ 1 _ _ _ h).trans rfl, (cell_of_row _ _ 2 _ _ _ h).trans rfl, (cell_of_row _ _ 3 _ _ _ h).trans rfl, (cell_of_row _ _ 4 _ _ _ h).trans rfl, (cell_of_row _ _ 5 _ _ _ h).trans rfl⟩
theorem Mm.ok.chg {N S : List Nat} {x : Mm} {w w' : World} (h : x.ok w N) (hN : ∀ y ∈ N, y < w.heap.size) (hc : Chg S w w') (hS : ∀ y ∈ N, y ∉ S) : x.ok w' N := h.same fun y hy => hc.block y (hN y hy) (hS y hy)
/-- blocks below the box's base are written -/
theorem Bx.chg {K S : List Nat} {B g : Nat} {l : List Msg} {w w' : World} (h : Bx K B g l w) (hc : Chg S w w') (hS : ∀ x ∈ S, x < B) : Bx K B g l w' := by
  obtain ⟨N, A, n, c, xs, h1, h2, h3, h4⟩ := h
  have ne : ∀ y, B ≤ y → y ∉ S := fun y hy hm => by have := hS y hm; omega
  refine ⟨N, A, n, c, xs, ⟨(hc.block _ h1.lt (ne _ h1.gB)).trans h1.hd, h1.gB, ⟨h1.ow.1, h1.ow.2.imp id fun ⟨b, cap, cur, e1, e2, e3, e4⟩ => ⟨b, cap, cur, e1, e2, (hc.block b (Array.getElem?_eq_some_iff.1 e3).1 (ne b e2)).trans e3, e4⟩⟩, h1.hn, fun x hx => (h1.ok x hx).chg (fun y hy => (h1.nn y hy).1) hc (fun y hy => ne y (h1.nb y hy)), fun y hy => ⟨Nat.lt_of_lt_of_le (h1.nn y hy).1 hc.size, (h1.nn y hy).2⟩, h1.nb⟩, h2, h3, fun y hy => ⟨Nat.lt_of_lt_of_le (h4 y hy).1 hc.size, (h4 y hy).2⟩⟩
theorem Both.chg {S : List Nat} {R B g : Nat} {l : List Msg} {v : Value} {w w' : World} (h : Both R B g l v w) (hc : Chg S w w') (hS : ∀ x ∈ S, x < R) : Both R B g l v w' := by
  obtain ⟨K, M, h1, h2, h3, h4, h5⟩ := h
  exact ⟨K, M, h1.chg hc (fun x hx => Nat.lt_of_lt_of_le (hS x hx) h4), h2.same (fun y hy => hc.block y (h2.lt y hy) (fun hm => by have := hS y hm; have := h5 y hy; omega)) hc.size, h3, h4, h5⟩
theorem one_op {x : Mm} {N : List Nat} {w : World} (h : x.ok w N) (hN : ∀ y ∈ N, y < w.heap.size) :
    IsO (w.alloc (.cells #[.int .u8 0, .int .i64 x.m.a1, .int .i64 x.m.a2, .int .i64 x.m.i1, .int .i64 x.m.i2, .string x.m.me, .slice x.a x.m.ar.length x.c] 41)) N (some ⟨w.heap.size, 0, none⟩) 1 1 [⟨0, x⟩] :=
  ⟨Rd.new w (cells7 [⟨0, x⟩]) _ (0, 0), rfl, by omega, by simp [maxLen], fun o ho => by rw [List.mem_singleton.1 ho]; exact h.same (Same.of_below hN (below1 w _)), fun y hy => Nat.lt_of_lt_of_le (hN y hy) (below1 w _).size⟩
end Mb
end Go.Proofs.Ytddoepaplbnlcaa

/- The walk of mailbox.Decode. -/
namespace Go.Proofs.Ytddoepaplbnlcaa
open Go.RowKit Go.Shelf
namespace Mb
open Wr Wi

def DecP (b : List UInt8) (w : World) (e : Ending) (w' : World) : Prop :=
  Below w.heap.size w w' ∧ ((∃ c, decodeR b = .error c ∧ c ≠ 0 ∧ e = .returned (.tuple #[.pointer none, .int .i64 c])) ∨
    ∃ l B, decodeR b = .ok l ∧ e = .returned (.tuple #[.pointer (some ⟨B, 0, none⟩), .int .i64 0]) ∧ w.heap.size ≤ B ∧ Bx [] B B l w')
/-- the loop of Decode -/
structure DecL (w : World) (g B n0 : Nat) (r0 : Rs) (k : Nat) (l : List Msg) (r : Rs) (wr : World) : Prop where
  bx : Bx [] B B l wr
  rd : IsRd wr g r
  b : Below w.heap.size w wr
  sz : B ≤ wr.heap.size
  eq : boxR n0 [] r0 = boxR (n0 - k) l r
  er : r.e ≠ 0 → n0 = 0 ∧ r = r0
set_option maxRecDepth 100000 in
set_option maxHeartbeats 4000000 in
theorem decode_calls (A : Option Addr) (n c : Nat) (b : List UInt8) (w : World) (hn : b.length = n) (hr : RB w A b) (hm : n ≤ 1000000) : Calls Try.prog 26 #[.slice A n c] w (DecP b w) := by
  have H1 := Lib.hid (newReader_calls A n c b w hn hr hm)
  clear hn hr hm
  go_enter Try.func26, Try.ntmps26
  go_wp2_with fail
  refine H1.out.mono ?_
  rintro e w1 ⟨g, rfl, hi1, hg1, hb1⟩
  have HG1 := Lib.hid hg1
  have HB1 := Lib.hid hb1
  have HI1 := Lib.hid hi1
  have hgl := hi1.lt
  have H2 := Lib.hid (new_calls w1)
  clear hi1 hb1 H1
  go_wp2_with fail
  refine H2.out.mono ?_
  rintro e w2 ⟨rfl, hb2, hx2⟩
  obtain ⟨B, HB⟩ : ∃ y, Hid (w1.heap.size = y) := ⟨_, rfl⟩
  rw [HB.out] at hx2 hgl ⊢
  have HI2 := Lib.hid (HI1.out.below hb2)
  have HB2 := Lib.hid (HB1.out.trans (hb2.mono HB1.out.size))
  have HX2 := Lib.hid hx2
  have HWB : Hid (w.heap.size ≤ B) := Lib.hid (by rw [← HB.out]; exact HB1.out.size)
  have HS2 : Hid (B ≤ w2.heap.size) := Lib.hid (by rw [← HB.out]; exact hb2.size)
  have H3 := Lib.hid (count_calls g ⟨b, 0⟩ 1024 w2 HI2.out (by omega) (by omega))
  unfold DP at H3
  have hke : (countR 1024 ⟨b, 0⟩).2.e ≠ 0 → (countR 1024 ⟨b, 0⟩).1 = 0 := countR_zero 1024 _
  have hk1 : ((countR 1024 ⟨b, 0⟩).1 : Int) ≤ 1024 := countR_le 1024 _ (by omega)
  have HDE : Hid (decodeR b = match boxR (countR 1024 ⟨b, 0⟩).1 [] (countR 1024 ⟨b, 0⟩).2 with
    | .error e => .error e
    | .ok (l, r) => if doneR r ≠ 0 then .error (doneR r) else .ok l) := Lib.hid rfl
  generalize (countR 1024 ⟨b, 0⟩).1 = n0 at *
  generalize (countR 1024 ⟨b, 0⟩).2 = r0 at *
  have HKE := Lib.hid hke
  clear hb2 hx2 hke H2
  go_wp2_with fail
  refine H3.out.mono ?_
  rintro e w3 ⟨rfl, hi3, hc3⟩
  have hgw : w.heap.size ≤ g := HG1.out
  have HL0 : Hid (DecL w g B n0 r0 0 [] r0 w3) := Lib.hid ⟨HX2.out.chg hc3 (by simp; omega), hi3, HB2.out.trans (hc3.below HB2.out.size (by simp; omega)), Nat.le_trans HS2.out hc3.size, rfl, fun h => ⟨HKE.out h, rfl⟩⟩
  clear hi3 hc3 H3 HX2 HS2 HI2
  go_wp2_with fail
  go_loopw [15] (fun i wr => ∃ k l r, k ≤ n0 ∧ i = .int .i64 (k : Nat) ∧ DecL w g B n0 r0 k l r wr) (fun i _ => n0 - (intOf i).toNat)
  case atStart => exact ⟨0, _, _, by omega, rfl, HL0.out⟩
  case round =>
    obtain ⟨k, l, r, hk, rfl, hl⟩ := hrel
    have HL := Lib.hid hl
    clear hl
    have j0 : (0 : Int) ≤ (k : Int) := by omega
    by_cases hlt : k < n0
    · have j1 : (k : Int) < (n0 : Int) := by omega
      have HE : Hid (r.e = 0) := Lib.hid (Classical.byContradiction fun h => by have := (HL.out.er h).1; omega)
      have HR := Lib.hid (read_calls g r wr HL.out.rd HE.out)
      obtain ⟨d, hd⟩ : ∃ d, n0 - k = d + 1 := ⟨n0 - k - 1, by omega⟩
      have HEQ : Hid (boxR n0 [] r0 = nextR l (msgR r) (boxR (n0 - (k + 1)))) := Lib.hid (by rw [HL.out.eq, hd, show n0 - (k + 1) = d by omega]; rfl)
      clear hd
      go_wp2_with fail
      refine HR.out.mono ?_
      rintro e w4 ⟨hc4, ⟨c4, x, hme, rfl⟩ | ⟨m, r', X, cX, NX, hmo, rfl, hok, hnx, hi4⟩⟩
      · have HM := Lib.hid hme
        have HDC : Hid (decodeR b = .error c4) := Lib.hid (by rw [HDE.out, HEQ.out, hme]; rfl)
        have hc0 := msgR_err hme
        have e0 : (c4 == 0) = false := by simpa using hc0
        have HC0 := Lib.hid hc0
        have hb5 := below1 w4 (.cells #[.int .i64 x.m.a1, .int .i64 x.m.a2, .int .i64 x.m.i1, .int .i64 x.m.i2, .string x.m.me, .slice x.a x.m.ar.length x.c] 76)
        have HB5 := Lib.hid ((HL.out.b.trans (hc4.below HL.out.b.size (by simp; omega))).trans (hb5.mono (Nat.le_trans HL.out.b.size hc4.size)))
        clear hme hc0 hc4 hb5 HR
        rw [show mval x = .agg #[.int .i64 x.m.a1, .int .i64 x.m.a2, .int .i64 x.m.i1, .int .i64 x.m.i2, .string x.m.me, .slice x.a x.m.ar.length x.c] from rfl]
        go_wp2_with fail
        go_ret2
        exact ⟨HB5.out, .inl ⟨c4, HDC.out, HC0.out, rfl⟩⟩
      · have HMO := Lib.hid hmo
        rw [hmo] at HEQ
        rw [show mval ⟨m, X, cX⟩ = .agg #[.int .i64 m.a1, .int .i64 m.a2, .int .i64 m.i1, .int .i64 m.i2, .string m.me, .slice X m.ar.length cX] from rfl]
        have hb5 := below1 w4 (.cells #[.int .i64 m.a1, .int .i64 m.a2, .int .i64 m.i1, .int .i64 m.i2, .string m.me, .slice X m.ar.length cX] 76)
        have hk5 := heap_alloc_new w4 (.cells #[.int .i64 m.a1, .int .i64 m.a2, .int .i64 m.i1, .int .i64 m.i2, .string m.me, .slice X m.ar.length cX] 76)
        have hx4 := HL.out.bx.chg hc4 (by simp; omega)
        have hs4 := Nat.le_trans HL.out.sz hc4.size
        have HB4 := Lib.hid (HL.out.b.trans (hc4.below HL.out.b.size (by simp; omega)))
        have HI4 := Lib.hid hi4
        have HOK := Lib.hid hok
        have HNX := Lib.hid hnx
        have HX4 := Lib.hid hx4
        have HS4 := Lib.hid hs4
        clear hmo hc4 hx4 hs4 hi4 hok hnx HR
        have hval := (msgR_ok HMO.out).2.2.1
        have HAL : Hid (m.ar.length ≤ 1000000) := Lib.hid (Nat.le_trans (valid_sizes hval).2 (by omega))
        go_upto_region 6 with (fail)
        generalize w4.alloc _ = w5 at *
        obtain ⟨q, HQ⟩ : ∃ y, Hid (w4.heap.size = y) := ⟨_, rfl⟩
        rw [HQ.out] at hk5 ⊢
        have hql : q < w5.heap.size := (Array.getElem?_eq_some_iff.1 hk5).1
        have HK5 := Lib.hid hk5
        have HX5 := Lib.hid (HX4.out.grow (K' := [q]) hb5 (fun y hy => by rw [List.mem_singleton.1 hy]; exact .inr ⟨Nat.le_of_eq HQ.out, hql⟩))
        have HI5 := Lib.hid (HI4.out.below hb5)
        have HS5 := Lib.hid (Nat.le_trans HS4.out hb5.size)
        have HB5 := Lib.hid (HB4.out.trans (hb5.mono HB4.out.size))
        have HO5 := Lib.hid (HOK.out.same (fun y hy => hb5.block y (HNX.out y hy).2))
        have HN5 : Hid (∀ y ∈ NX, y < w5.heap.size) := Lib.hid (fun y hy => Nat.lt_of_lt_of_le (HNX.out y hy).2 hb5.size)
        have HP : Hid (∀ w', Below w5.heap.size w5 w' → Calls Try.prog 17 #[.pointer (some ⟨B, 0, none⟩), .agg #[.int .i64 m.a1, .int .i64 m.a2], .agg #[.int .i64 m.i1, .int .i64 m.i2], .string m.me, .slice X m.ar.length cX] w' (PutP [q] B B l m w')) := Lib.hid (fun w' hb => put_calls [q] B B l ⟨m, X, cX⟩ NX w' (HX5.out.below hb) (Nat.le_trans HS5.out hb.size) (HO5.out.same (fun y hy => hb.block y (HN5.out y hy))) HAL.out)
        unfold PutP at HP
        obtain ⟨E, HE2⟩ : ∃ y, Hid (putE l m = y) := ⟨_, rfl⟩
        rw [HE2.out] at HP
        obtain ⟨N1, A1, n1, c1, xs, hbx, hxl, hinv, _⟩ := HX5.out
        have HBX := Lib.hid hbx
        have HXL := Lib.hid hxl
        have HIV := Lib.hid hinv
        have hnl : n1 = l.length := by rw [← hxl, List.length_map]; exact hbx.hn.symm
        have hn1 : n1 ≤ 1024 := by rw [hnl]; exact hinv.n
        have HNL := Lib.hid hnl
        have g5 : w5.cell? ⟨B, 0, none⟩ = some (.slice A1 n1 c1) := (cell_of_row _ _ 0 _ _ _ hbx.hd).trans rfl
        clear hbx hxl hinv hnl hb5 hk5 hval HB4 HI4 HX4 HS4 HOK
        go_upto_region 9 with (fail)
        go_cut [57] (fun v wx => (v = .bool true ∧ ¬ (lastLt l m = true ∧ putE l m = 0) ∧ Below w.heap.size w wx) ∨ (v = .bool false ∧ (lastLt l m = true ∧ putE l m = 0) ∧ ∃ wp, Below w5.heap.size w5 wp ∧ BxW [q] B B (putL l m) wp wx))
        case first =>
          by_cases hz : n1 = 0
          · have d0 : decide ((0 : Int) < (n1 : Int)) = false := decide_eq_false (by omega)
            have d0n : decide (0 < n1) = false := decide_eq_false (by omega)
            have HLA : Hid (lastLt l m = true) := Lib.hid (by have : l = [] := List.eq_nil_of_length_eq_zero (by rw [← HNL.out]; exact hz); rw [this]; rfl)
            obtain ⟨c0, c1', c2, c3, c4, c5⟩ := row6 HK5.out
            subst hz
            clear c0 c1' c2 c3 c4 c5
            have hdr : Below w5.heap.size w5 w5.drew := (Below.refl _ _).drew
            have hsq : w5.drew.heap[q]? = some (.cells #[.int .i64 m.a1, .int .i64 m.a2, .int .i64 m.i1, .int .i64 m.i2, .string m.me, .slice X m.ar.length cX] 76 (0, 0)) := HK5.out
            have m0 : ∀ w' : World, w'.heap[q]? = some (.cells #[.int .i64 m.a1, .int .i64 m.a2, .int .i64 m.i1, .int .i64 m.i2, .string m.me, .slice X m.ar.length cX] 76 (0, 0)) → w'.cell? ⟨q, 0, none⟩ = some (.int .i64 m.a1) := fun w' h => (row6 h).1
            have m1 : ∀ w' : World, w'.heap[q]? = some (.cells #[.int .i64 m.a1, .int .i64 m.a2, .int .i64 m.i1, .int .i64 m.i2, .string m.me, .slice X m.ar.length cX] 76 (0, 0)) → w'.cell? ⟨q, 1, none⟩ = some (.int .i64 m.a2) := fun w' h => (row6 h).2.1
            have m2 : ∀ w' : World, w'.heap[q]? = some (.cells #[.int .i64 m.a1, .int .i64 m.a2, .int .i64 m.i1, .int .i64 m.i2, .string m.me, .slice X m.ar.length cX] 76 (0, 0)) → w'.cell? ⟨q, 2, none⟩ = some (.int .i64 m.i1) := fun w' h => (row6 h).2.2.1
            have m3 : ∀ w' : World, w'.heap[q]? = some (.cells #[.int .i64 m.a1, .int .i64 m.a2, .int .i64 m.i1, .int .i64 m.i2, .string m.me, .slice X m.ar.length cX] 76 (0, 0)) → w'.cell? ⟨q, 3, none⟩ = some (.int .i64 m.i2) := fun w' h => (row6 h).2.2.2.1
            have m4 : ∀ w' : World, w'.heap[q]? = some (.cells #[.int .i64 m.a1, .int .i64 m.a2, .int .i64 m.i1, .int .i64 m.i2, .string m.me, .slice X m.ar.length cX] 76 (0, 0)) → w'.cell? ⟨q, 4, none⟩ = some (.string m.me) := fun w' h => (row6 h).2.2.2.2.1
            have m5 : ∀ w' : World, w'.heap[q]? = some (.cells #[.int .i64 m.a1, .int .i64 m.a2, .int .i64 m.i1, .int .i64 m.i2, .string m.me, .slice X m.ar.length cX] 76 (0, 0)) → w'.cell? ⟨q, 5, none⟩ = some (.slice X m.ar.length cX) := fun w' h => (row6 h).2.2.2.2.2
            refine wp_region_held_drew (S := fun w' => w'.heap[q]? = some (.cells #[.int .i64 m.a1, .int .i64 m.a2, .int .i64 m.i1, .int .i64 m.i2, .string m.me, .slice X m.ar.length cX] 76 (0, 0))) (by kernel_rfl) hsq (fun _ => ?_)
            (refine wpAnyH_take (i := 0) (oi := ?oia0) (v := ?va0) ?hia0 (by kernel_rfl) (by kernel_rfl) (by kernel_rfl) ?hpa0 ?hya0 (by assumption) ?hra0; (case hia0 => (simp only [List.getElem?_toArray, List.getElem?_cons_zero]; exact rfl)); (case hya0 => refine Or.inl ⟨by rfl, ?_⟩; intro ww hSw; go_simp; try (with_reducible rfl)); (case hpa0 => exact fun _ _ _ h => h); (try simp only [Act.put, List.setIfInBounds_toArray, List.set_cons_zero, List.set_cons_succ])); (refine wpAnyH_take (i := 1) (oi := ?oia1) (v := ?va1) ?hia1 (by kernel_rfl) (by kernel_rfl) (by kernel_rfl) ?hpa1 ?hya1 (by assumption) ?hra1; (case hia1 => (simp only [List.getElem?_toArray, List.getElem?_cons_succ, List.getElem?_cons_zero]; exact rfl)); (case hya1 => refine Or.inl ⟨by rfl, ?_⟩; intro ww hSw; go_simp; try (with_reducible rfl)); (case hpa1 => exact fun _ _ _ h => h); (try simp only [Act.put, List.setIfInBounds_toArray, List.set_cons_zero, List.set_cons_succ])); (refine wpAnyH_take (i := 2) (oi := ?oia2) (v := ?va2) ?hia2 (by kernel_rfl) (by kernel_rfl) (by kernel_rfl) ?hpa2 ?hya2 (by assumption) ?hra2; (case hia2 => (simp only [List.getElem?_toArray, List.getElem?_cons_succ, List.getElem?_cons_zero]; exact rfl)); (case hya2 => refine Or.inl ⟨by rfl, ?_⟩; intro ww hSw; go_simp; try (with_reducible rfl)); (case hpa2 => exact fun _ _ _ h => h); (try simp only [Act.put, List.setIfInBounds_toArray, List.set_cons_zero, List.set_cons_succ]))
            (refine wpAnyH_take (i := 3) (oi := ?oia3) (v := undef) ?hia3 (by kernel_rfl) (by kernel_rfl) (by kernel_rfl) ?hpa3 ?hya3 (by assumption) ?hra3; (case hia3 => (simp only [List.getElem?_toArray, List.getElem?_cons_succ, List.getElem?_cons_zero]; exact rfl)); (case hya3 => exact Or.inr ⟨by rfl, rfl⟩); (case hpa3 => exact fun _ _ _ h => h); (try simp only [Act.put, List.setIfInBounds_toArray, List.set_cons_zero, List.set_cons_succ])); (refine wpAnyH_take (i := 4) (oi := ?oia4) (v := undef) ?hia4 (by kernel_rfl) (by kernel_rfl) (by kernel_rfl) ?hpa4 ?hya4 (by assumption) ?hra4; (case hia4 => (simp only [List.getElem?_toArray, List.getElem?_cons_succ, List.getElem?_cons_zero]; exact rfl)); (case hya4 => exact Or.inr ⟨by rfl, rfl⟩); (case hpa4 => exact fun _ _ _ h => h); (try simp only [Act.put, List.setIfInBounds_toArray, List.set_cons_zero, List.set_cons_succ])); (refine wpAnyH_take (i := 5) (oi := ?oia5) (v := undef) ?hia5 (by kernel_rfl) (by kernel_rfl) (by kernel_rfl) ?hpa5 ?hya5 (by assumption) ?hra5; (case hia5 => (simp only [List.getElem?_toArray, List.getElem?_cons_succ, List.getElem?_cons_zero]; exact rfl)); (case hya5 => exact Or.inr ⟨by rfl, rfl⟩); (case hpa5 => exact fun _ _ _ h => h); (try simp only [Act.put, List.setIfInBounds_toArray, List.set_cons_zero, List.set_cons_succ])); (refine wpAnyH_take (i := 6) (oi := ?oia6) (v := undef) ?hia6 (by kernel_rfl) (by kernel_rfl) (by kernel_rfl) ?hpa6 ?hya6 (by assumption) ?hra6; (case hia6 => (simp only [List.getElem?_toArray, List.getElem?_cons_succ, List.getElem?_cons_zero]; exact rfl)); (case hya6 => exact Or.inr ⟨by rfl, rfl⟩); (case hpa6 => exact fun _ _ _ h => h); (try simp only [Act.put, List.setIfInBounds_toArray, List.set_cons_zero, List.set_cons_succ])); (refine wpAnyH_take (i := 7) (oi := ?oia7) (v := undef) ?hia7 (by kernel_rfl) (by kernel_rfl) (by kernel_rfl) ?hpa7 ?hya7 (by assumption) ?hra7; (case hia7 => (simp only [List.getElem?_toArray, List.getElem?_cons_succ, List.getElem?_cons_zero]; exact rfl)); (case hya7 => exact Or.inr ⟨by rfl, rfl⟩); (case hpa7 => exact fun _ _ _ h => h); (try simp only [Act.put, List.setIfInBounds_toArray, List.set_cons_zero, List.set_cons_succ])); (refine wpAnyH_take (i := 8) (oi := ?oia8) (v := undef) ?hia8 (by kernel_rfl) (by kernel_rfl) (by kernel_rfl) ?hpa8 ?hya8 (by assumption) ?hra8; (case hia8 => (simp only [List.getElem?_toArray, List.getElem?_cons_succ, List.getElem?_cons_zero]; exact rfl)); (case hya8 => exact Or.inr ⟨by rfl, rfl⟩); (case hpa8 => exact fun _ _ _ h => h); (try simp only [Act.put, List.setIfInBounds_toArray, List.set_cons_zero, List.set_cons_succ])); (refine wpAnyH_take (i := 9) (oi := ?oia9) (v := undef) ?hia9 (by kernel_rfl) (by kernel_rfl) (by kernel_rfl) ?hpa9 ?hya9 (by assumption) ?hra9; (case hia9 => (simp only [List.getElem?_toArray, List.getElem?_cons_succ, List.getElem?_cons_zero]; exact rfl)); (case hya9 => exact Or.inr ⟨by rfl, rfl⟩); (case hpa9 => exact fun _ _ _ h => h); (try simp only [Act.put, List.setIfInBounds_toArray, List.set_cons_zero, List.set_cons_succ])); (refine wpAnyH_take (i := 10) (oi := ?oia10) (v := undef) ?hia10 (by kernel_rfl) (by kernel_rfl) (by kernel_rfl) ?hpa10 ?hya10 (by assumption) ?hra10; (case hia10 => (simp only [List.getElem?_toArray, List.getElem?_cons_succ, List.getElem?_cons_zero]; exact rfl)); (case hya10 => exact Or.inr ⟨by rfl, rfl⟩); (case hpa10 => exact fun _ _ _ h => h); (try simp only [Act.put, List.setIfInBounds_toArray, List.set_cons_zero, List.set_cons_succ])); (refine wpAnyH_take (i := 11) (oi := ?oia11) (v := undef) ?hia11 (by kernel_rfl) (by kernel_rfl) (by kernel_rfl) ?hpa11 ?hya11 (by assumption) ?hra11; (case hia11 => (simp only [List.getElem?_toArray, List.getElem?_cons_succ, List.getElem?_cons_zero]; exact rfl)); (case hya11 => exact Or.inr ⟨by rfl, rfl⟩); (case hpa11 => exact fun _ _ _ h => h); (try simp only [Act.put, List.setIfInBounds_toArray, List.set_cons_zero, List.set_cons_succ])); (refine wpAnyH_take (i := 12) (oi := ?oia12) (v := undef) ?hia12 (by kernel_rfl) (by kernel_rfl) (by kernel_rfl) ?hpa12 ?hya12 (by assumption) ?hra12; (case hia12 => (simp only [List.getElem?_toArray, List.getElem?_cons_succ, List.getElem?_cons_zero]; exact rfl)); (case hya12 => exact Or.inr ⟨by rfl, rfl⟩); (case hpa12 => exact fun _ _ _ h => h); (try simp only [Act.put, List.setIfInBounds_toArray, List.set_cons_zero, List.set_cons_succ])); (refine wpAnyH_take (i := 13) (oi := ?oia13) (v := undef) ?hia13 (by kernel_rfl) (by kernel_rfl) (by kernel_rfl) ?hpa13 ?hya13 (by assumption) ?hra13; (case hia13 => (simp only [List.getElem?_toArray, List.getElem?_cons_succ, List.getElem?_cons_zero]; exact rfl)); (case hya13 => exact Or.inr ⟨by rfl, rfl⟩); (case hpa13 => exact fun _ _ _ h => h); (try simp only [Act.put, List.setIfInBounds_toArray, List.set_cons_zero, List.set_cons_succ]))
            (refine wpAnyH_take (i := 14) (oi := ?oia14) (v := ?va14) ?hia14 (by kernel_rfl) (by kernel_rfl) (by kernel_rfl) ?hpa14 ?hya14 (by assumption) ?hra14; (case hia14 => (simp only [List.getElem?_toArray, List.getElem?_cons_succ, List.getElem?_cons_zero]; exact rfl)); (case hya14 => refine Or.inl ⟨by rfl, ?_⟩; intro ww hSw; go_simp; try (with_reducible rfl)); (case hpa14 => exact fun _ _ _ h => h); (try simp only [Act.put, List.setIfInBounds_toArray, List.set_cons_zero, List.set_cons_succ])); (refine wpAnyH_take (i := 15) (oi := ?oia15) (v := ?va15) ?hia15 (by kernel_rfl) (by kernel_rfl) (by kernel_rfl) ?hpa15 ?hya15 (by assumption) ?hra15; (case hia15 => (simp only [List.getElem?_toArray, List.getElem?_cons_succ, List.getElem?_cons_zero]; exact rfl)); (case hya15 => refine Or.inl ⟨by rfl, ?_⟩; intro ww hSw; go_simp; try (with_reducible rfl)); (case hpa15 => exact fun _ _ _ h => h); (try simp only [Act.put, List.setIfInBounds_toArray, List.set_cons_zero, List.set_cons_succ])); (refine wpAnyH_take (i := 16) (oi := ?oia16) (v := ?va16) ?hia16 (by kernel_rfl) (by kernel_rfl) (by kernel_rfl) ?hpa16 ?hya16 (by assumption) ?hra16; (case hia16 => (simp only [List.getElem?_toArray, List.getElem?_cons_succ, List.getElem?_cons_zero]; exact rfl)); (case hya16 => refine Or.inl ⟨by rfl, ?_⟩; intro ww hSw; go_simp; try (with_reducible rfl)); (case hpa16 => exact fun _ _ _ h => h); (try simp only [Act.put, List.setIfInBounds_toArray, List.set_cons_zero, List.set_cons_succ])); (refine wpAnyH_take (i := 17) (oi := ?oia17) (v := ?va17) ?hia17 (by kernel_rfl) (by kernel_rfl) (by kernel_rfl) ?hpa17 ?hya17 (by assumption) ?hra17; (case hia17 => (simp only [List.getElem?_toArray, List.getElem?_cons_succ, List.getElem?_cons_zero]; exact rfl)); (case hya17 => refine Or.inl ⟨by rfl, ?_⟩; intro ww hSw; go_simp; try (with_reducible rfl)); (case hpa17 => exact fun _ _ _ h => h); (try simp only [Act.put, List.setIfInBounds_toArray, List.set_cons_zero, List.set_cons_succ])); (refine wpAnyH_take (i := 18) (oi := ?oia18) (v := ?va18) ?hia18 (by kernel_rfl) (by kernel_rfl) (by kernel_rfl) ?hpa18 ?hya18 (by assumption) ?hra18; (case hia18 => (simp only [List.getElem?_toArray, List.getElem?_cons_succ, List.getElem?_cons_zero]; exact rfl)); (case hya18 => refine Or.inl ⟨by rfl, ?_⟩; intro ww hSw; go_simp; try (with_reducible rfl)); (case hpa18 => exact fun _ _ _ h => h); (try simp only [Act.put, List.setIfInBounds_toArray, List.set_cons_zero, List.set_cons_succ])); (refine wpAnyH_take (i := 19) (oi := ?oia19) (v := ?va19) ?hia19 (by kernel_rfl) (by kernel_rfl) (by kernel_rfl) ?hpa19 ?hya19 (by assumption) ?hra19; (case hia19 => (simp only [List.getElem?_toArray, List.getElem?_cons_succ, List.getElem?_cons_zero]; exact rfl)); (case hya19 => refine Or.inl ⟨by rfl, ?_⟩; intro ww hSw; go_simp; try (with_reducible rfl)); (case hpa19 => exact fun _ _ _ h => h); (try simp only [Act.put, List.setIfInBounds_toArray, List.set_cons_zero, List.set_cons_succ])); (refine wpAnyH_take (i := 20) (oi := ?oia20) (v := ?va20) ?hia20 (by kernel_rfl) (by kernel_rfl) (by kernel_rfl) ?hpa20 ?hya20 (by assumption) ?hra20; (case hia20 => (simp only [List.getElem?_toArray, List.getElem?_cons_succ, List.getElem?_cons_zero]; exact rfl)); (case hya20 => refine Or.inl ⟨by rfl, ?_⟩; intro ww hSw; go_simp; try (with_reducible rfl)); (case hpa20 => exact fun _ _ _ h => h); (try simp only [Act.put, List.setIfInBounds_toArray, List.set_cons_zero, List.set_cons_succ])); (refine wpAnyH_take (i := 21) (oi := ?oia21) (v := ?va21) ?hia21 (by kernel_rfl) (by kernel_rfl) (by kernel_rfl) ?hpa21 ?hya21 (by assumption) ?hra21; (case hia21 => (simp only [List.getElem?_toArray, List.getElem?_cons_succ, List.getElem?_cons_zero]; exact rfl)); (case hya21 => refine Or.inl ⟨by rfl, ?_⟩; intro ww hSw; go_simp; try (with_reducible rfl)); (case hpa21 => exact fun _ _ _ h => h); (try simp only [Act.put, List.setIfInBounds_toArray, List.set_cons_zero, List.set_cons_succ])); (refine wpAnyH_take (i := 22) (oi := ?oia22) (v := ?va22) ?hia22 (by kernel_rfl) (by kernel_rfl) (by kernel_rfl) ?hpa22 ?hya22 (by assumption) ?hra22; (case hia22 => (simp only [List.getElem?_toArray, List.getElem?_cons_succ, List.getElem?_cons_zero]; exact rfl)); (case hya22 => refine Or.inl ⟨by rfl, ?_⟩; intro ww hSw; go_simp; try (with_reducible rfl)); (case hpa22 => exact fun _ _ _ h => h); (try simp only [Act.put, List.setIfInBounds_toArray, List.set_cons_zero, List.set_cons_succ])); (refine wpAnyH_take (i := 23) (oi := ?oia23) (v := ?va23) ?hia23 (by kernel_rfl) (by kernel_rfl) (by kernel_rfl) ?hpa23 ?hya23 (by assumption) ?hra23; (case hia23 => (simp only [List.getElem?_toArray, List.getElem?_cons_succ, List.getElem?_cons_zero]; exact rfl)); (case hya23 => refine Or.inl ⟨by rfl, ?_⟩; intro ww hSw; go_simp; try (with_reducible rfl)); (case hpa23 => exact fun _ _ _ h => h); (try simp only [Act.put, List.setIfInBounds_toArray, List.set_cons_zero, List.set_cons_succ])); (refine wpAnyH_take (i := 24) (oi := ?oia24) (v := ?va24) ?hia24 (by kernel_rfl) (by kernel_rfl) (by kernel_rfl) ?hpa24 ?hya24 (by assumption) ?hra24; (case hia24 => (simp only [List.getElem?_toArray, List.getElem?_cons_succ, List.getElem?_cons_zero]; exact rfl)); (case hya24 => refine Or.inl ⟨by rfl, ?_⟩; intro ww hSw; go_simp; try (with_reducible rfl)); (case hpa24 => exact fun _ _ _ h => h); (try simp only [Act.put, List.setIfInBounds_toArray, List.set_cons_zero, List.set_cons_succ]))
            (refine wpAnyH_ready (rs := [25]) (by kernel_rfl) (by simp) (AllReadyH.cons (o := ?oia25) ?hia25 (fun K hK => ?hya25) AllReadyH.nil); (case hia25 => (simp only [List.getElem?_toArray, List.getElem?_cons_succ, List.getElem?_cons_zero]; exact rfl)); go_simp)
            refine (HP.out w5.drew hdr).mono ?_
            rintro e w7 ⟨rfl, hp7⟩
            have HP7 := Lib.hid hp7
            have hs7 : w7.heap[q]? = some (.cells #[.int .i64 m.a1, .int .i64 m.a2, .int .i64 m.i1, .int .i64 m.i2, .string m.me, .slice X m.ar.length cX] 76 (0, 0)) := (hp7.k q (by simp)).trans hsq
            clear hp7
            dsimp only
            (refine hK.out _ _ hs7 (fun _ => ?_); clear hK K; (try simp only [Act.put, List.setIfInBounds_toArray, List.set_cons_zero, List.set_cons_succ]))
            (refine wpAnyH_take (i := 26) (oi := ?oia26) (v := ?va26) ?hia26 (by kernel_rfl) (by kernel_rfl) (by kernel_rfl) ?hpa26 ?hya26 (by assumption) ?hra26; (case hia26 => (simp only [List.getElem?_toArray, List.getElem?_cons_succ, List.getElem?_cons_zero]; exact rfl)); (case hya26 => refine Or.inl ⟨by rfl, ?_⟩; intro ww hSw; go_simp; try (with_reducible rfl)); (case hpa26 => exact fun _ _ _ h => h); (try simp only [Act.put, List.setIfInBounds_toArray, List.set_cons_zero, List.set_cons_succ])); (refine wpAnyH_take (i := 27) (oi := ?oia27) (v := ?va27) ?hia27 (by kernel_rfl) (by kernel_rfl) (by kernel_rfl) ?hpa27 ?hya27 (by assumption) ?hra27; (case hia27 => (simp only [List.getElem?_toArray, List.getElem?_cons_succ, List.getElem?_cons_zero]; exact rfl)); (case hya27 => refine Or.inl ⟨by rfl, ?_⟩; intro ww hSw; go_simp; try (with_reducible rfl)); (case hpa27 => exact fun _ _ _ h => h); (try simp only [Act.put, List.setIfInBounds_toArray, List.set_cons_zero, List.set_cons_succ]))
            refine wpAnyH_done (by kernel_rfl) ?_ _
            by_cases hE : E = 0
            · subst hE
              have HR : Hid (lastLt l m = true ∧ putE l m = 0) := Lib.hid ⟨HLA.out, HE2.out⟩
              go_wp2_with fail
              go_meet
              exact .inr ⟨rfl, HR.out, _, hdr, HP7.out⟩
            · have HR : Hid (¬ (lastLt l m = true ∧ putE l m = 0)) := Lib.hid (fun h => hE (HE2.out.symm.trans h.2))
              have HBE : Hid (Below w.heap.size w w7) := Lib.hid ((HB5.out.trans (hdr.mono HB5.out.size)).trans (HP7.out.b.mono HWB.out))
              have e1 : (E != 0) = true := by simpa using hE
              have e2 : (E == 0) = false := by simpa using hE
              clear hE
              go_wp2_with fail
              go_meet
              exact .inl ⟨by first | rfl | exact congrArg Value.bool e1, HR.out, HBE.out⟩
          · obtain ⟨p, hpn⟩ : ∃ p, p + 1 = n1 := ⟨n1 - 1, by omega⟩
            have hpx : p < xs.length := by rw [HBX.out.hn]; omega
            have hpl : p < l.length := by rw [← HNL.out]; omega
            have hlp : l[p] = xs[p].m := by simp only [← HXL.out, List.getElem_map]
            have HLA : Hid (lastLt l m = decide (Lt xs[p].m m)) := Lib.hid (by
              unfold lastLt
              rw [List.getLast?_eq_getElem?, show l.length - 1 = p by rw [← HNL.out]; omega, List.getElem?_eq_getElem hpl, hlp])
            obtain ⟨bx, off, e, hbl, x0, x1, x2, x3, x4, x5⟩ := rd6 HBX.out.rd p hpx
            subst e
            have d0 : decide ((0 : Int) < (n1 : Int)) = true := decide_eq_true (by omega)
            have d0n : decide (0 < n1) = true := decide_eq_true (by omega)
            have hsub : (n1 : Int) - 1 = (p : Int) := by omega
            have hw1 : IntKind.i64.wrap ((n1 : Int) - 1) = (p : Int) := by rw [hsub]; exact IntWalk.i64_in _ (by omega)
            have hw2 : IntKind.i64.wrap (p : Int) = (p : Int) := IntWalk.i64_in _ (by omega)
            have p0 : (0 : Int) ≤ (p : Int) := by omega
            have p1 : (p : Int) < (n1 : Int) := by omega
            have HCM := Lib.hid (compare_calls xs[p] ⟨m, X, cX⟩ w5.drew)
            unfold mval Mm.cells at HCM
            simp only at HCM
            have HCC := Lib.hid (cmpM_cases xs[p].m m)
            obtain ⟨cv, HCV⟩ : ∃ y, Hid (cmpM xs[p].m m = y) := ⟨_, Lib.hid rfl⟩
            rw [HCV.out] at HCM HCC
            clear hlp hz
            generalize xs[p] = z at *
            have hdr : Below w5.heap.size w5 w5.drew := (Below.refl _ _).drew
            have hsq : w5.drew.heap[q]? = some (.cells #[.int .i64 m.a1, .int .i64 m.a2, .int .i64 m.i1, .int .i64 m.i2, .string m.me, .slice X m.ar.length cX] 76 (0, 0)) := HK5.out
            have m0 : ∀ w' : World, w'.heap[q]? = some (.cells #[.int .i64 m.a1, .int .i64 m.a2, .int .i64 m.i1, .int .i64 m.i2, .string m.me, .slice X m.ar.length cX] 76 (0, 0)) → w'.cell? ⟨q, 0, none⟩ = some (.int .i64 m.a1) := fun w' h => (row6 h).1
            have m1 : ∀ w' : World, w'.heap[q]? = some (.cells #[.int .i64 m.a1, .int .i64 m.a2, .int .i64 m.i1, .int .i64 m.i2, .string m.me, .slice X m.ar.length cX] 76 (0, 0)) → w'.cell? ⟨q, 1, none⟩ = some (.int .i64 m.a2) := fun w' h => (row6 h).2.1
            have m2 : ∀ w' : World, w'.heap[q]? = some (.cells #[.int .i64 m.a1, .int .i64 m.a2, .int .i64 m.i1, .int .i64 m.i2, .string m.me, .slice X m.ar.length cX] 76 (0, 0)) → w'.cell? ⟨q, 2, none⟩ = some (.int .i64 m.i1) := fun w' h => (row6 h).2.2.1
            have m3 : ∀ w' : World, w'.heap[q]? = some (.cells #[.int .i64 m.a1, .int .i64 m.a2, .int .i64 m.i1, .int .i64 m.i2, .string m.me, .slice X m.ar.length cX] 76 (0, 0)) → w'.cell? ⟨q, 3, none⟩ = some (.int .i64 m.i2) := fun w' h => (row6 h).2.2.2.1
            have m4 : ∀ w' : World, w'.heap[q]? = some (.cells #[.int .i64 m.a1, .int .i64 m.a2, .int .i64 m.i1, .int .i64 m.i2, .string m.me, .slice X m.ar.length cX] 76 (0, 0)) → w'.cell? ⟨q, 4, none⟩ = some (.string m.me) := fun w' h => (row6 h).2.2.2.2.1
            have m5 : ∀ w' : World, w'.heap[q]? = some (.cells #[.int .i64 m.a1, .int .i64 m.a2, .int .i64 m.i1, .int .i64 m.i2, .string m.me, .slice X m.ar.length cX] 76 (0, 0)) → w'.cell? ⟨q, 5, none⟩ = some (.slice X m.ar.length cX) := fun w' h => (row6 h).2.2.2.2.2
            by_cases hlt2 : Lt z.m m
            · have hcv : cv = -1 := by
                rcases HCC.out with ⟨_, h⟩ | ⟨h, _⟩ | ⟨h, _⟩
                · exact h
                · exact absurd h hlt2.ne
                · exact absurd h hlt2.asymm
              subst hcv
              have HLB : Hid (lastLt l m = true) := Lib.hid (by rw [HLA.out, decide_eq_true hlt2])
              clear hlt2 hpn HLA hpl
              refine wp_region_held_drew (S := fun w' => w'.heap[q]? = some (.cells #[.int .i64 m.a1, .int .i64 m.a2, .int .i64 m.i1, .int .i64 m.i2, .string m.me, .slice X m.ar.length cX] 76 (0, 0))) (by kernel_rfl) hsq (fun _ => ?_)
              (refine wpAnyH_take (i := 0) (oi := ?oic0) (v := ?vc0) ?hic0 (by kernel_rfl) (by kernel_rfl) (by kernel_rfl) ?hpc0 ?hyc0 (by assumption) ?hrc0; (case hic0 => (simp only [List.getElem?_toArray, List.getElem?_cons_zero]; exact rfl)); (case hyc0 => refine Or.inl ⟨by rfl, ?_⟩; intro ww hSw; go_simp; try (with_reducible rfl)); (case hpc0 => exact fun _ _ _ h => h); (try simp only [Act.put, List.setIfInBounds_toArray, List.set_cons_zero, List.set_cons_succ])); (refine wpAnyH_take (i := 1) (oi := ?oic1) (v := ?vc1) ?hic1 (by kernel_rfl) (by kernel_rfl) (by kernel_rfl) ?hpc1 ?hyc1 (by assumption) ?hrc1; (case hic1 => (simp only [List.getElem?_toArray, List.getElem?_cons_succ, List.getElem?_cons_zero]; exact rfl)); (case hyc1 => refine Or.inl ⟨by rfl, ?_⟩; intro ww hSw; go_simp; try (with_reducible rfl)); (case hpc1 => exact fun _ _ _ h => h); (try simp only [Act.put, List.setIfInBounds_toArray, List.set_cons_zero, List.set_cons_succ])); (refine wpAnyH_take (i := 2) (oi := ?oic2) (v := ?vc2) ?hic2 (by kernel_rfl) (by kernel_rfl) (by kernel_rfl) ?hpc2 ?hyc2 (by assumption) ?hrc2; (case hic2 => (simp only [List.getElem?_toArray, List.getElem?_cons_succ, List.getElem?_cons_zero]; exact rfl)); (case hyc2 => refine Or.inl ⟨by rfl, ?_⟩; intro ww hSw; go_simp; try (with_reducible rfl)); (case hpc2 => exact fun _ _ _ h => h); (try simp only [Act.put, List.setIfInBounds_toArray, List.set_cons_zero, List.set_cons_succ])); (refine wpAnyH_take (i := 3) (oi := ?oic3) (v := ?vc3) ?hic3 (by kernel_rfl) (by kernel_rfl) (by kernel_rfl) ?hpc3 ?hyc3 (by assumption) ?hrc3; (case hic3 => (simp only [List.getElem?_toArray, List.getElem?_cons_succ, List.getElem?_cons_zero]; exact rfl)); (case hyc3 => refine Or.inl ⟨by rfl, ?_⟩; intro ww hSw; go_simp; try (with_reducible rfl)); (case hpc3 => exact fun _ _ _ h => h); (try simp only [Act.put, List.setIfInBounds_toArray, List.set_cons_zero, List.set_cons_succ])); (refine wpAnyH_take (i := 4) (oi := ?oic4) (v := ?vc4) ?hic4 (by kernel_rfl) (by kernel_rfl) (by kernel_rfl) ?hpc4 ?hyc4 (by assumption) ?hrc4; (case hic4 => (simp only [List.getElem?_toArray, List.getElem?_cons_succ, List.getElem?_cons_zero]; exact rfl)); (case hyc4 => refine Or.inl ⟨by rfl, ?_⟩; intro ww hSw; go_simp; try (with_reducible rfl)); (case hpc4 => exact fun _ _ _ h => h); (try simp only [Act.put, List.setIfInBounds_toArray, List.set_cons_zero, List.set_cons_succ])); (refine wpAnyH_take (i := 5) (oi := ?oic5) (v := ?vc5) ?hic5 (by kernel_rfl) (by kernel_rfl) (by kernel_rfl) ?hpc5 ?hyc5 (by assumption) ?hrc5; (case hic5 => (simp only [List.getElem?_toArray, List.getElem?_cons_succ, List.getElem?_cons_zero]; exact rfl)); (case hyc5 => refine Or.inl ⟨by rfl, ?_⟩; intro ww hSw; go_simp; try (with_reducible rfl)); (case hpc5 => exact fun _ _ _ h => h); (try simp only [Act.put, List.setIfInBounds_toArray, List.set_cons_zero, List.set_cons_succ])); (refine wpAnyH_take (i := 7) (oi := ?oic7) (v := ?vc7) ?hic7 (by kernel_rfl) (by kernel_rfl) (by kernel_rfl) ?hpc7 ?hyc7 (by assumption) ?hrc7; (case hic7 => (simp only [List.getElem?_toArray, List.getElem?_cons_succ, List.getElem?_cons_zero]; exact rfl)); (case hyc7 => refine Or.inl ⟨by rfl, ?_⟩; intro ww hSw; go_simp; try (with_reducible rfl)); (case hpc7 => exact fun _ _ _ h => h); (try simp only [Act.put, List.setIfInBounds_toArray, List.set_cons_zero, List.set_cons_succ])); (refine wpAnyH_take (i := 8) (oi := ?oic8) (v := ?vc8) ?hic8 (by kernel_rfl) (by kernel_rfl) (by kernel_rfl) ?hpc8 ?hyc8 (by assumption) ?hrc8; (case hic8 => (simp only [List.getElem?_toArray, List.getElem?_cons_succ, List.getElem?_cons_zero]; exact rfl)); (case hyc8 => refine Or.inl ⟨by rfl, ?_⟩; intro ww hSw; go_simp; try (with_reducible rfl)); (case hpc8 => exact fun _ _ _ h => h); (try simp only [Act.put, List.setIfInBounds_toArray, List.set_cons_zero, List.set_cons_succ])); (refine wpAnyH_take (i := 11) (oi := ?oic11) (v := ?vc11) ?hic11 (by kernel_rfl) (by kernel_rfl) (by kernel_rfl) ?hpc11 ?hyc11 (by assumption) ?hrc11; (case hic11 => (simp only [List.getElem?_toArray, List.getElem?_cons_succ, List.getElem?_cons_zero]; exact rfl)); (case hyc11 => refine Or.inl ⟨by rfl, ?_⟩; intro ww hSw; go_simp; try (with_reducible rfl)); (case hpc11 => exact fun _ _ _ h => h); (try simp only [Act.put, List.setIfInBounds_toArray, List.set_cons_zero, List.set_cons_succ]))
              (refine wpAnyH_ready (rs := [6]) (by kernel_rfl) (by simp) (AllReadyH.cons (o := ?oic6) ?hic6 (fun K hK => ?hyc6) AllReadyH.nil); (case hic6 => (simp only [List.getElem?_toArray, List.getElem?_cons_succ, List.getElem?_cons_zero]; exact rfl)); go_simp)
              (refine hK.out _ _ hsq (fun _ => ?_); clear hK K; (try simp only [Act.put, List.setIfInBounds_toArray, List.set_cons_zero, List.set_cons_succ]))
              (refine wpAnyH_take (i := 9) (oi := ?oic9) (v := ?vc9) ?hic9 (by kernel_rfl) (by kernel_rfl) (by kernel_rfl) ?hpc9 ?hyc9 (by assumption) ?hrc9; (case hic9 => (simp only [List.getElem?_toArray, List.getElem?_cons_succ, List.getElem?_cons_zero]; exact rfl)); (case hyc9 => refine Or.inl ⟨by rfl, ?_⟩; intro ww hSw; go_simp; try (with_reducible rfl)); (case hpc9 => exact fun _ _ _ h => h); (try simp only [Act.put, List.setIfInBounds_toArray, List.set_cons_zero, List.set_cons_succ]))
              (refine wpAnyH_ready (rs := [10]) (by kernel_rfl) (by simp) (AllReadyH.cons (o := ?oic10) ?hic10 (fun K hK => ?hyc10) AllReadyH.nil); (case hic10 => (simp only [List.getElem?_toArray, List.getElem?_cons_succ, List.getElem?_cons_zero]; exact rfl)); go_simp)
              (refine hK.out _ _ hsq (fun _ => ?_); clear hK K; (try simp only [Act.put, List.setIfInBounds_toArray, List.set_cons_zero, List.set_cons_succ]))
              (refine wpAnyH_ready (rs := [12]) (by kernel_rfl) (by simp) (AllReadyH.cons (o := ?oic12) ?hic12 (fun K hK => ?hyc12) AllReadyH.nil); (case hic12 => (simp only [List.getElem?_toArray, List.getElem?_cons_succ, List.getElem?_cons_zero]; exact rfl)); go_simp)
              refine HCM.out.mono ?_
              rintro e w6 ⟨rfl, hb6⟩
              have hbb6 : Below w5.heap.size w5 w6 := hdr.trans hb6
              have hs6 : w6.heap[q]? = some (.cells #[.int .i64 m.a1, .int .i64 m.a2, .int .i64 m.i1, .int .i64 m.i2, .string m.me, .slice X m.ar.length cX] 76 (0, 0)) := (hb6.block _ hql).trans hsq
              dsimp only
              (refine hK.out _ _ hs6 (fun _ => ?_); clear hK K; (try simp only [Act.put, List.setIfInBounds_toArray, List.set_cons_zero, List.set_cons_succ]))
              (refine wpAnyH_take (i := 13) (oi := ?oic13) (v := ?vc13) ?hic13 (by kernel_rfl) (by kernel_rfl) (by kernel_rfl) ?hpc13 ?hyc13 (by assumption) ?hrc13; (case hic13 => (simp only [List.getElem?_toArray, List.getElem?_cons_succ, List.getElem?_cons_zero]; exact rfl)); (case hyc13 => refine Or.inl ⟨by rfl, ?_⟩; intro ww hSw; go_simp; try (with_reducible rfl)); (case hpc13 => exact fun _ _ _ h => h); (try simp only [Act.put, List.setIfInBounds_toArray, List.set_cons_zero, List.set_cons_succ])); (refine wpAnyH_take (i := 14) (oi := ?oic14) (v := ?vc14) ?hic14 (by kernel_rfl) (by kernel_rfl) (by kernel_rfl) ?hpc14 ?hyc14 (by assumption) ?hrc14; (case hic14 => (simp only [List.getElem?_toArray, List.getElem?_cons_succ, List.getElem?_cons_zero]; exact rfl)); (case hyc14 => refine Or.inl ⟨by rfl, ?_⟩; intro ww hSw; go_simp; try (with_reducible rfl)); (case hpc14 => exact fun _ _ _ h => h); (try simp only [Act.put, List.setIfInBounds_toArray, List.set_cons_zero, List.set_cons_succ])); (refine wpAnyH_take (i := 15) (oi := ?oic15) (v := ?vc15) ?hic15 (by kernel_rfl) (by kernel_rfl) (by kernel_rfl) ?hpc15 ?hyc15 (by assumption) ?hrc15; (case hic15 => (simp only [List.getElem?_toArray, List.getElem?_cons_succ, List.getElem?_cons_zero]; exact rfl)); (case hyc15 => refine Or.inl ⟨by rfl, ?_⟩; intro ww hSw; go_simp; try (with_reducible rfl)); (case hpc15 => exact fun _ _ _ h => h); (try simp only [Act.put, List.setIfInBounds_toArray, List.set_cons_zero, List.set_cons_succ])); (refine wpAnyH_take (i := 16) (oi := ?oic16) (v := ?vc16) ?hic16 (by kernel_rfl) (by kernel_rfl) (by kernel_rfl) ?hpc16 ?hyc16 (by assumption) ?hrc16; (case hic16 => (simp only [List.getElem?_toArray, List.getElem?_cons_succ, List.getElem?_cons_zero]; exact rfl)); (case hyc16 => refine Or.inl ⟨by rfl, ?_⟩; intro ww hSw; go_simp; try (with_reducible rfl)); (case hpc16 => exact fun _ _ _ h => h); (try simp only [Act.put, List.setIfInBounds_toArray, List.set_cons_zero, List.set_cons_succ])); (refine wpAnyH_take (i := 17) (oi := ?oic17) (v := ?vc17) ?hic17 (by kernel_rfl) (by kernel_rfl) (by kernel_rfl) ?hpc17 ?hyc17 (by assumption) ?hrc17; (case hic17 => (simp only [List.getElem?_toArray, List.getElem?_cons_succ, List.getElem?_cons_zero]; exact rfl)); (case hyc17 => refine Or.inl ⟨by rfl, ?_⟩; intro ww hSw; go_simp; try (with_reducible rfl)); (case hpc17 => exact fun _ _ _ h => h); (try simp only [Act.put, List.setIfInBounds_toArray, List.set_cons_zero, List.set_cons_succ])); (refine wpAnyH_take (i := 18) (oi := ?oic18) (v := ?vc18) ?hic18 (by kernel_rfl) (by kernel_rfl) (by kernel_rfl) ?hpc18 ?hyc18 (by assumption) ?hrc18; (case hic18 => (simp only [List.getElem?_toArray, List.getElem?_cons_succ, List.getElem?_cons_zero]; exact rfl)); (case hyc18 => refine Or.inl ⟨by rfl, ?_⟩; intro ww hSw; go_simp; try (with_reducible rfl)); (case hpc18 => exact fun _ _ _ h => h); (try simp only [Act.put, List.setIfInBounds_toArray, List.set_cons_zero, List.set_cons_succ])); (refine wpAnyH_take (i := 19) (oi := ?oic19) (v := ?vc19) ?hic19 (by kernel_rfl) (by kernel_rfl) (by kernel_rfl) ?hpc19 ?hyc19 (by assumption) ?hrc19; (case hic19 => (simp only [List.getElem?_toArray, List.getElem?_cons_succ, List.getElem?_cons_zero]; exact rfl)); (case hyc19 => refine Or.inl ⟨by rfl, ?_⟩; intro ww hSw; go_simp; try (with_reducible rfl)); (case hpc19 => exact fun _ _ _ h => h); (try simp only [Act.put, List.setIfInBounds_toArray, List.set_cons_zero, List.set_cons_succ])); (refine wpAnyH_take (i := 20) (oi := ?oic20) (v := ?vc20) ?hic20 (by kernel_rfl) (by kernel_rfl) (by kernel_rfl) ?hpc20 ?hyc20 (by assumption) ?hrc20; (case hic20 => (simp only [List.getElem?_toArray, List.getElem?_cons_succ, List.getElem?_cons_zero]; exact rfl)); (case hyc20 => refine Or.inl ⟨by rfl, ?_⟩; intro ww hSw; go_simp; try (with_reducible rfl)); (case hpc20 => exact fun _ _ _ h => h); (try simp only [Act.put, List.setIfInBounds_toArray, List.set_cons_zero, List.set_cons_succ])); (refine wpAnyH_take (i := 21) (oi := ?oic21) (v := ?vc21) ?hic21 (by kernel_rfl) (by kernel_rfl) (by kernel_rfl) ?hpc21 ?hyc21 (by assumption) ?hrc21; (case hic21 => (simp only [List.getElem?_toArray, List.getElem?_cons_succ, List.getElem?_cons_zero]; exact rfl)); (case hyc21 => refine Or.inl ⟨by rfl, ?_⟩; intro ww hSw; go_simp; try (with_reducible rfl)); (case hpc21 => exact fun _ _ _ h => h); (try simp only [Act.put, List.setIfInBounds_toArray, List.set_cons_zero, List.set_cons_succ])); (refine wpAnyH_take (i := 22) (oi := ?oic22) (v := ?vc22) ?hic22 (by kernel_rfl) (by kernel_rfl) (by kernel_rfl) ?hpc22 ?hyc22 (by assumption) ?hrc22; (case hic22 => (simp only [List.getElem?_toArray, List.getElem?_cons_succ, List.getElem?_cons_zero]; exact rfl)); (case hyc22 => refine Or.inl ⟨by rfl, ?_⟩; intro ww hSw; go_simp; try (with_reducible rfl)); (case hpc22 => exact fun _ _ _ h => h); (try simp only [Act.put, List.setIfInBounds_toArray, List.set_cons_zero, List.set_cons_succ])); (refine wpAnyH_take (i := 23) (oi := ?oic23) (v := ?vc23) ?hic23 (by kernel_rfl) (by kernel_rfl) (by kernel_rfl) ?hpc23 ?hyc23 (by assumption) ?hrc23; (case hic23 => (simp only [List.getElem?_toArray, List.getElem?_cons_succ, List.getElem?_cons_zero]; exact rfl)); (case hyc23 => refine Or.inl ⟨by rfl, ?_⟩; intro ww hSw; go_simp; try (with_reducible rfl)); (case hpc23 => exact fun _ _ _ h => h); (try simp only [Act.put, List.setIfInBounds_toArray, List.set_cons_zero, List.set_cons_succ])); (refine wpAnyH_take (i := 24) (oi := ?oic24) (v := ?vc24) ?hic24 (by kernel_rfl) (by kernel_rfl) (by kernel_rfl) ?hpc24 ?hyc24 (by assumption) ?hrc24; (case hic24 => (simp only [List.getElem?_toArray, List.getElem?_cons_succ, List.getElem?_cons_zero]; exact rfl)); (case hyc24 => refine Or.inl ⟨by rfl, ?_⟩; intro ww hSw; go_simp; try (with_reducible rfl)); (case hpc24 => exact fun _ _ _ h => h); (try simp only [Act.put, List.setIfInBounds_toArray, List.set_cons_zero, List.set_cons_succ]))
              (refine wpAnyH_ready (rs := [25]) (by kernel_rfl) (by simp) (AllReadyH.cons (o := ?oic25) ?hic25 (fun K hK => ?hyc25) AllReadyH.nil); (case hic25 => (simp only [List.getElem?_toArray, List.getElem?_cons_succ, List.getElem?_cons_zero]; exact rfl)); go_simp)
              refine (HP.out w6 hbb6).mono ?_
              rintro e w7 ⟨rfl, hp7⟩
              have HP7 := Lib.hid hp7
              have hs7 : w7.heap[q]? = some (.cells #[.int .i64 m.a1, .int .i64 m.a2, .int .i64 m.i1, .int .i64 m.i2, .string m.me, .slice X m.ar.length cX] 76 (0, 0)) := (hp7.k q (by simp)).trans hs6
              clear hp7
              dsimp only
              (refine hK.out _ _ hs7 (fun _ => ?_); clear hK K; (try simp only [Act.put, List.setIfInBounds_toArray, List.set_cons_zero, List.set_cons_succ]))
              (refine wpAnyH_take (i := 26) (oi := ?oic26) (v := ?vc26) ?hic26 (by kernel_rfl) (by kernel_rfl) (by kernel_rfl) ?hpc26 ?hyc26 (by assumption) ?hrc26; (case hic26 => (simp only [List.getElem?_toArray, List.getElem?_cons_succ, List.getElem?_cons_zero]; exact rfl)); (case hyc26 => refine Or.inl ⟨by rfl, ?_⟩; intro ww hSw; go_simp; try (with_reducible rfl)); (case hpc26 => exact fun _ _ _ h => h); (try simp only [Act.put, List.setIfInBounds_toArray, List.set_cons_zero, List.set_cons_succ])); (refine wpAnyH_take (i := 27) (oi := ?oic27) (v := ?vc27) ?hic27 (by kernel_rfl) (by kernel_rfl) (by kernel_rfl) ?hpc27 ?hyc27 (by assumption) ?hrc27; (case hic27 => (simp only [List.getElem?_toArray, List.getElem?_cons_succ, List.getElem?_cons_zero]; exact rfl)); (case hyc27 => refine Or.inl ⟨by rfl, ?_⟩; intro ww hSw; go_simp; try (with_reducible rfl)); (case hpc27 => exact fun _ _ _ h => h); (try simp only [Act.put, List.setIfInBounds_toArray, List.set_cons_zero, List.set_cons_succ]))
              refine wpAnyH_done (by kernel_rfl) ?_ _
              by_cases hE : E = 0
              · subst hE
                have HR : Hid (lastLt l m = true ∧ putE l m = 0) := Lib.hid ⟨HLB.out, HE2.out⟩
                go_wp2_with fail
                go_meet
                exact .inr ⟨rfl, HR.out, _, hbb6, HP7.out⟩
              · have HR : Hid (¬ (lastLt l m = true ∧ putE l m = 0)) := Lib.hid (fun h => hE (HE2.out.symm.trans h.2))
                have HBE : Hid (Below w.heap.size w w7) := Lib.hid ((HB5.out.trans (hbb6.mono HB5.out.size)).trans (HP7.out.b.mono HWB.out))
                have e1 : (E != 0) = true := by simpa using hE
                have e2 : (E == 0) = false := by simpa using hE
                clear hE
                go_wp2_with fail
                go_meet
                exact .inl ⟨by first | rfl | exact congrArg Value.bool e1, HR.out, HBE.out⟩
            · have HLB : Hid (¬ (lastLt l m = true ∧ putE l m = 0)) := Lib.hid (by rw [HLA.out, decide_eq_false hlt2]; simp)
              have hcv : 0 ≤ cv := by
                rcases HCC.out with ⟨h, _⟩ | ⟨_, h⟩ | ⟨_, h⟩
                · exact absurd h hlt2
                · omega
                · omega
              have v1 : decide ((0 : Int) ≤ cv) = true := decide_eq_true hcv
              clear hlt2 hpn HLA hpl hcv
              refine wp_region_held_drew (S := fun w' => w'.heap[q]? = some (.cells #[.int .i64 m.a1, .int .i64 m.a2, .int .i64 m.i1, .int .i64 m.i2, .string m.me, .slice X m.ar.length cX] 76 (0, 0))) (by kernel_rfl) hsq (fun _ => ?_)
              (refine wpAnyH_take (i := 0) (oi := ?oib0) (v := ?vb0) ?hib0 (by kernel_rfl) (by kernel_rfl) (by kernel_rfl) ?hpb0 ?hyb0 (by assumption) ?hrb0; (case hib0 => (simp only [List.getElem?_toArray, List.getElem?_cons_zero]; exact rfl)); (case hyb0 => refine Or.inl ⟨by rfl, ?_⟩; intro ww hSw; go_simp; try (with_reducible rfl)); (case hpb0 => exact fun _ _ _ h => h); (try simp only [Act.put, List.setIfInBounds_toArray, List.set_cons_zero, List.set_cons_succ])); (refine wpAnyH_take (i := 1) (oi := ?oib1) (v := ?vb1) ?hib1 (by kernel_rfl) (by kernel_rfl) (by kernel_rfl) ?hpb1 ?hyb1 (by assumption) ?hrb1; (case hib1 => (simp only [List.getElem?_toArray, List.getElem?_cons_succ, List.getElem?_cons_zero]; exact rfl)); (case hyb1 => refine Or.inl ⟨by rfl, ?_⟩; intro ww hSw; go_simp; try (with_reducible rfl)); (case hpb1 => exact fun _ _ _ h => h); (try simp only [Act.put, List.setIfInBounds_toArray, List.set_cons_zero, List.set_cons_succ])); (refine wpAnyH_take (i := 2) (oi := ?oib2) (v := ?vb2) ?hib2 (by kernel_rfl) (by kernel_rfl) (by kernel_rfl) ?hpb2 ?hyb2 (by assumption) ?hrb2; (case hib2 => (simp only [List.getElem?_toArray, List.getElem?_cons_succ, List.getElem?_cons_zero]; exact rfl)); (case hyb2 => refine Or.inl ⟨by rfl, ?_⟩; intro ww hSw; go_simp; try (with_reducible rfl)); (case hpb2 => exact fun _ _ _ h => h); (try simp only [Act.put, List.setIfInBounds_toArray, List.set_cons_zero, List.set_cons_succ])); (refine wpAnyH_take (i := 3) (oi := ?oib3) (v := ?vb3) ?hib3 (by kernel_rfl) (by kernel_rfl) (by kernel_rfl) ?hpb3 ?hyb3 (by assumption) ?hrb3; (case hib3 => (simp only [List.getElem?_toArray, List.getElem?_cons_succ, List.getElem?_cons_zero]; exact rfl)); (case hyb3 => refine Or.inl ⟨by rfl, ?_⟩; intro ww hSw; go_simp; try (with_reducible rfl)); (case hpb3 => exact fun _ _ _ h => h); (try simp only [Act.put, List.setIfInBounds_toArray, List.set_cons_zero, List.set_cons_succ])); (refine wpAnyH_take (i := 4) (oi := ?oib4) (v := ?vb4) ?hib4 (by kernel_rfl) (by kernel_rfl) (by kernel_rfl) ?hpb4 ?hyb4 (by assumption) ?hrb4; (case hib4 => (simp only [List.getElem?_toArray, List.getElem?_cons_succ, List.getElem?_cons_zero]; exact rfl)); (case hyb4 => refine Or.inl ⟨by rfl, ?_⟩; intro ww hSw; go_simp; try (with_reducible rfl)); (case hpb4 => exact fun _ _ _ h => h); (try simp only [Act.put, List.setIfInBounds_toArray, List.set_cons_zero, List.set_cons_succ])); (refine wpAnyH_take (i := 5) (oi := ?oib5) (v := ?vb5) ?hib5 (by kernel_rfl) (by kernel_rfl) (by kernel_rfl) ?hpb5 ?hyb5 (by assumption) ?hrb5; (case hib5 => (simp only [List.getElem?_toArray, List.getElem?_cons_succ, List.getElem?_cons_zero]; exact rfl)); (case hyb5 => refine Or.inl ⟨by rfl, ?_⟩; intro ww hSw; go_simp; try (with_reducible rfl)); (case hpb5 => exact fun _ _ _ h => h); (try simp only [Act.put, List.setIfInBounds_toArray, List.set_cons_zero, List.set_cons_succ])); (refine wpAnyH_take (i := 7) (oi := ?oib7) (v := ?vb7) ?hib7 (by kernel_rfl) (by kernel_rfl) (by kernel_rfl) ?hpb7 ?hyb7 (by assumption) ?hrb7; (case hib7 => (simp only [List.getElem?_toArray, List.getElem?_cons_succ, List.getElem?_cons_zero]; exact rfl)); (case hyb7 => refine Or.inl ⟨by rfl, ?_⟩; intro ww hSw; go_simp; try (with_reducible rfl)); (case hpb7 => exact fun _ _ _ h => h); (try simp only [Act.put, List.setIfInBounds_toArray, List.set_cons_zero, List.set_cons_succ])); (refine wpAnyH_take (i := 8) (oi := ?oib8) (v := ?vb8) ?hib8 (by kernel_rfl) (by kernel_rfl) (by kernel_rfl) ?hpb8 ?hyb8 (by assumption) ?hrb8; (case hib8 => (simp only [List.getElem?_toArray, List.getElem?_cons_succ, List.getElem?_cons_zero]; exact rfl)); (case hyb8 => refine Or.inl ⟨by rfl, ?_⟩; intro ww hSw; go_simp; try (with_reducible rfl)); (case hpb8 => exact fun _ _ _ h => h); (try simp only [Act.put, List.setIfInBounds_toArray, List.set_cons_zero, List.set_cons_succ])); (refine wpAnyH_take (i := 11) (oi := ?oib11) (v := ?vb11) ?hib11 (by kernel_rfl) (by kernel_rfl) (by kernel_rfl) ?hpb11 ?hyb11 (by assumption) ?hrb11; (case hib11 => (simp only [List.getElem?_toArray, List.getElem?_cons_succ, List.getElem?_cons_zero]; exact rfl)); (case hyb11 => refine Or.inl ⟨by rfl, ?_⟩; intro ww hSw; go_simp; try (with_reducible rfl)); (case hpb11 => exact fun _ _ _ h => h); (try simp only [Act.put, List.setIfInBounds_toArray, List.set_cons_zero, List.set_cons_succ]))
              (refine wpAnyH_ready (rs := [6]) (by kernel_rfl) (by simp) (AllReadyH.cons (o := ?oib6) ?hib6 (fun K hK => ?hyb6) AllReadyH.nil); (case hib6 => (simp only [List.getElem?_toArray, List.getElem?_cons_succ, List.getElem?_cons_zero]; exact rfl)); go_simp)
              (refine hK.out _ _ hsq (fun _ => ?_); clear hK K; (try simp only [Act.put, List.setIfInBounds_toArray, List.set_cons_zero, List.set_cons_succ]))
              (refine wpAnyH_take (i := 9) (oi := ?oib9) (v := ?vb9) ?hib9 (by kernel_rfl) (by kernel_rfl) (by kernel_rfl) ?hpb9 ?hyb9 (by assumption) ?hrb9; (case hib9 => (simp only [List.getElem?_toArray, List.getElem?_cons_succ, List.getElem?_cons_zero]; exact rfl)); (case hyb9 => refine Or.inl ⟨by rfl, ?_⟩; intro ww hSw; go_simp; try (with_reducible rfl)); (case hpb9 => exact fun _ _ _ h => h); (try simp only [Act.put, List.setIfInBounds_toArray, List.set_cons_zero, List.set_cons_succ]))
              (refine wpAnyH_ready (rs := [10]) (by kernel_rfl) (by simp) (AllReadyH.cons (o := ?oib10) ?hib10 (fun K hK => ?hyb10) AllReadyH.nil); (case hib10 => (simp only [List.getElem?_toArray, List.getElem?_cons_succ, List.getElem?_cons_zero]; exact rfl)); go_simp)
              (refine hK.out _ _ hsq (fun _ => ?_); clear hK K; (try simp only [Act.put, List.setIfInBounds_toArray, List.set_cons_zero, List.set_cons_succ]))
              (refine wpAnyH_ready (rs := [12]) (by kernel_rfl) (by simp) (AllReadyH.cons (o := ?oib12) ?hib12 (fun K hK => ?hyb12) AllReadyH.nil); (case hib12 => (simp only [List.getElem?_toArray, List.getElem?_cons_succ, List.getElem?_cons_zero]; exact rfl)); go_simp)
              refine HCM.out.mono ?_
              rintro e w6 ⟨rfl, hb6⟩
              have hbb6 : Below w5.heap.size w5 w6 := hdr.trans hb6
              have hs6 : w6.heap[q]? = some (.cells #[.int .i64 m.a1, .int .i64 m.a2, .int .i64 m.i1, .int .i64 m.i2, .string m.me, .slice X m.ar.length cX] 76 (0, 0)) := (hb6.block _ hql).trans hsq
              dsimp only
              (refine hK.out _ _ hs6 (fun _ => ?_); clear hK K; (try simp only [Act.put, List.setIfInBounds_toArray, List.set_cons_zero, List.set_cons_succ]))
              (refine wpAnyH_take (i := 13) (oi := ?oib13) (v := ?vb13) ?hib13 (by kernel_rfl) (by kernel_rfl) (by kernel_rfl) ?hpb13 ?hyb13 (by assumption) ?hrb13; (case hib13 => (simp only [List.getElem?_toArray, List.getElem?_cons_succ, List.getElem?_cons_zero]; exact rfl)); (case hyb13 => refine Or.inl ⟨by rfl, ?_⟩; intro ww hSw; go_simp; try (with_reducible rfl)); (case hpb13 => exact fun _ _ _ h => h); (try simp only [Act.put, List.setIfInBounds_toArray, List.set_cons_zero, List.set_cons_succ])); (refine wpAnyH_take (i := 14) (oi := ?oib14) (v := ?vb14) ?hib14 (by kernel_rfl) (by kernel_rfl) (by kernel_rfl) ?hpb14 ?hyb14 (by assumption) ?hrb14; (case hib14 => (simp only [List.getElem?_toArray, List.getElem?_cons_succ, List.getElem?_cons_zero]; exact rfl)); (case hyb14 => refine Or.inl ⟨by rfl, ?_⟩; intro ww hSw; go_simp; try (with_reducible rfl)); (case hpb14 => exact fun _ _ _ h => h); (try simp only [Act.put, List.setIfInBounds_toArray, List.set_cons_zero, List.set_cons_succ])); (refine wpAnyH_take (i := 15) (oi := ?oib15) (v := ?vb15) ?hib15 (by kernel_rfl) (by kernel_rfl) (by kernel_rfl) ?hpb15 ?hyb15 (by assumption) ?hrb15; (case hib15 => (simp only [List.getElem?_toArray, List.getElem?_cons_succ, List.getElem?_cons_zero]; exact rfl)); (case hyb15 => refine Or.inl ⟨by rfl, ?_⟩; intro ww hSw; go_simp; try (with_reducible rfl)); (case hpb15 => exact fun _ _ _ h => h); (try simp only [Act.put, List.setIfInBounds_toArray, List.set_cons_zero, List.set_cons_succ]))
              (refine wpAnyH_take (i := 16) (oi := ?oib16) (v := undef) ?hib16 (by kernel_rfl) (by kernel_rfl) (by kernel_rfl) ?hpb16 ?hyb16 (by assumption) ?hrb16; (case hib16 => (simp only [List.getElem?_toArray, List.getElem?_cons_succ, List.getElem?_cons_zero]; exact rfl)); (case hyb16 => exact Or.inr ⟨by rfl, rfl⟩); (case hpb16 => exact fun _ _ _ h => h); (try simp only [Act.put, List.setIfInBounds_toArray, List.set_cons_zero, List.set_cons_succ])); (refine wpAnyH_take (i := 17) (oi := ?oib17) (v := undef) ?hib17 (by kernel_rfl) (by kernel_rfl) (by kernel_rfl) ?hpb17 ?hyb17 (by assumption) ?hrb17; (case hib17 => (simp only [List.getElem?_toArray, List.getElem?_cons_succ, List.getElem?_cons_zero]; exact rfl)); (case hyb17 => exact Or.inr ⟨by rfl, rfl⟩); (case hpb17 => exact fun _ _ _ h => h); (try simp only [Act.put, List.setIfInBounds_toArray, List.set_cons_zero, List.set_cons_succ])); (refine wpAnyH_take (i := 18) (oi := ?oib18) (v := undef) ?hib18 (by kernel_rfl) (by kernel_rfl) (by kernel_rfl) ?hpb18 ?hyb18 (by assumption) ?hrb18; (case hib18 => (simp only [List.getElem?_toArray, List.getElem?_cons_succ, List.getElem?_cons_zero]; exact rfl)); (case hyb18 => exact Or.inr ⟨by rfl, rfl⟩); (case hpb18 => exact fun _ _ _ h => h); (try simp only [Act.put, List.setIfInBounds_toArray, List.set_cons_zero, List.set_cons_succ])); (refine wpAnyH_take (i := 19) (oi := ?oib19) (v := undef) ?hib19 (by kernel_rfl) (by kernel_rfl) (by kernel_rfl) ?hpb19 ?hyb19 (by assumption) ?hrb19; (case hib19 => (simp only [List.getElem?_toArray, List.getElem?_cons_succ, List.getElem?_cons_zero]; exact rfl)); (case hyb19 => exact Or.inr ⟨by rfl, rfl⟩); (case hpb19 => exact fun _ _ _ h => h); (try simp only [Act.put, List.setIfInBounds_toArray, List.set_cons_zero, List.set_cons_succ])); (refine wpAnyH_take (i := 20) (oi := ?oib20) (v := undef) ?hib20 (by kernel_rfl) (by kernel_rfl) (by kernel_rfl) ?hpb20 ?hyb20 (by assumption) ?hrb20; (case hib20 => (simp only [List.getElem?_toArray, List.getElem?_cons_succ, List.getElem?_cons_zero]; exact rfl)); (case hyb20 => exact Or.inr ⟨by rfl, rfl⟩); (case hpb20 => exact fun _ _ _ h => h); (try simp only [Act.put, List.setIfInBounds_toArray, List.set_cons_zero, List.set_cons_succ])); (refine wpAnyH_take (i := 21) (oi := ?oib21) (v := undef) ?hib21 (by kernel_rfl) (by kernel_rfl) (by kernel_rfl) ?hpb21 ?hyb21 (by assumption) ?hrb21; (case hib21 => (simp only [List.getElem?_toArray, List.getElem?_cons_succ, List.getElem?_cons_zero]; exact rfl)); (case hyb21 => exact Or.inr ⟨by rfl, rfl⟩); (case hpb21 => exact fun _ _ _ h => h); (try simp only [Act.put, List.setIfInBounds_toArray, List.set_cons_zero, List.set_cons_succ])); (refine wpAnyH_take (i := 22) (oi := ?oib22) (v := undef) ?hib22 (by kernel_rfl) (by kernel_rfl) (by kernel_rfl) ?hpb22 ?hyb22 (by assumption) ?hrb22; (case hib22 => (simp only [List.getElem?_toArray, List.getElem?_cons_succ, List.getElem?_cons_zero]; exact rfl)); (case hyb22 => exact Or.inr ⟨by rfl, rfl⟩); (case hpb22 => exact fun _ _ _ h => h); (try simp only [Act.put, List.setIfInBounds_toArray, List.set_cons_zero, List.set_cons_succ])); (refine wpAnyH_take (i := 23) (oi := ?oib23) (v := undef) ?hib23 (by kernel_rfl) (by kernel_rfl) (by kernel_rfl) ?hpb23 ?hyb23 (by assumption) ?hrb23; (case hib23 => (simp only [List.getElem?_toArray, List.getElem?_cons_succ, List.getElem?_cons_zero]; exact rfl)); (case hyb23 => exact Or.inr ⟨by rfl, rfl⟩); (case hpb23 => exact fun _ _ _ h => h); (try simp only [Act.put, List.setIfInBounds_toArray, List.set_cons_zero, List.set_cons_succ])); (refine wpAnyH_take (i := 24) (oi := ?oib24) (v := undef) ?hib24 (by kernel_rfl) (by kernel_rfl) (by kernel_rfl) ?hpb24 ?hyb24 (by assumption) ?hrb24; (case hib24 => (simp only [List.getElem?_toArray, List.getElem?_cons_succ, List.getElem?_cons_zero]; exact rfl)); (case hyb24 => exact Or.inr ⟨by rfl, rfl⟩); (case hpb24 => exact fun _ _ _ h => h); (try simp only [Act.put, List.setIfInBounds_toArray, List.set_cons_zero, List.set_cons_succ])); (refine wpAnyH_take (i := 25) (oi := ?oib25) (v := undef) ?hib25 (by kernel_rfl) (by kernel_rfl) (by kernel_rfl) ?hpb25 ?hyb25 (by assumption) ?hrb25; (case hib25 => (simp only [List.getElem?_toArray, List.getElem?_cons_succ, List.getElem?_cons_zero]; exact rfl)); (case hyb25 => exact Or.inr ⟨by rfl, rfl⟩); (case hpb25 => exact fun _ _ _ h => h); (try simp only [Act.put, List.setIfInBounds_toArray, List.set_cons_zero, List.set_cons_succ])); (refine wpAnyH_take (i := 26) (oi := ?oib26) (v := undef) ?hib26 (by kernel_rfl) (by kernel_rfl) (by kernel_rfl) ?hpb26 ?hyb26 (by assumption) ?hrb26; (case hib26 => (simp only [List.getElem?_toArray, List.getElem?_cons_succ, List.getElem?_cons_zero]; exact rfl)); (case hyb26 => exact Or.inr ⟨by rfl, rfl⟩); (case hpb26 => exact fun _ _ _ h => h); (try simp only [Act.put, List.setIfInBounds_toArray, List.set_cons_zero, List.set_cons_succ]))
              (refine wpAnyH_take (i := 27) (oi := ?oib27) (v := ?vb27) ?hib27 (by kernel_rfl) (by kernel_rfl) (by kernel_rfl) ?hpb27 ?hyb27 (by assumption) ?hrb27; (case hib27 => (simp only [List.getElem?_toArray, List.getElem?_cons_succ, List.getElem?_cons_zero]; exact rfl)); (case hyb27 => refine Or.inl ⟨by rfl, ?_⟩; intro ww hSw; go_simp; try (with_reducible rfl)); (case hpb27 => exact fun _ _ _ h => h); (try simp only [Act.put, List.setIfInBounds_toArray, List.set_cons_zero, List.set_cons_succ]))
              refine wpAnyH_done (by kernel_rfl) ?_ _
              have HBE : Hid (Below w.heap.size w w6) := Lib.hid (HB5.out.trans (hbb6.mono HB5.out.size))
              go_wp2_with fail
              go_meet
              exact .inl ⟨rfl, HLB.out, HBE.out⟩
        case rest =>
          rename World => wx
          rcases hcut with ⟨rfl, hnc, hbx2⟩ | ⟨rfl, hcd, wp, hwp, hbw⟩
          · have HDC : Hid (decodeR b = .error 11) := Lib.hid (by
              have h1 : nextR l (.ok (m, r')) (boxR (n0 - (k + 1))) = .error 11 := if_neg hnc
              rw [HDE.out, HEQ.out, h1])
            have HBE := Lib.hid hbx2
            clear hnc hbx2
            go_wp2_with fail
            go_ret2
            exact ⟨HBE.out, .inl ⟨11, HDC.out, by decide, rfl⟩⟩
          · have HNX : Hid (DecL w g B n0 r0 (k + 1) (putL l m) r' wx) := Lib.hid ⟨hbw.bx.sub (by simp), IsRd.lowB (HI5.out.below hwp) hbw.b hgl, (HB5.out.trans (hwp.mono HB5.out.size)).trans (hbw.b.mono HWB.out), Nat.le_trans HS5.out (Nat.le_trans hwp.size hbw.b.size), by rw [HEQ.out]; exact if_pos hcd, fun h => absurd (msgR_ok HMO.out).2.1 h⟩
            clear hcd hwp hbw
            go_wp2_with fail
            go_roundw
            case rel => exact ⟨k + 1, _, _, by omega, by go_num, HNX.out⟩
            case measure => simp [intOf]; omega
    · obtain rfl : k = n0 := by omega
      have HD := Lib.hid (done_calls g r wr HL.out.rd)
      have heq := HL.out.eq
      rw [Nat.sub_self, boxR_zero] at heq
      have HB0 := Lib.hid HL.out.b
      by_cases hd : doneR r = 0
      · have HDC : Hid (decodeR b = .ok l) := Lib.hid (by rw [HDE.out, heq]; exact if_neg (by simpa using hd))
        rw [hd] at HD
        clear hd heq
        go_wp2_with fail
        refine HD.out.mono ?_
        rintro e w4 ⟨rfl, rfl⟩
        go_wp2_with fail
        go_ret2
        exact ⟨HB0.out, .inr ⟨l, B, HDC.out, rfl, HWB.out, HL.out.bx⟩⟩
      · have HDC : Hid (decodeR b = .error (doneR r)) := Lib.hid (by rw [HDE.out, heq]; exact if_pos hd)
        have HNE := Lib.hid hd
        have e1 : (doneR r == 0) = false := by simpa using hd
        generalize doneR r = E at *
        clear hd heq
        go_wp2_with fail
        refine HD.out.mono ?_
        rintro e w4 ⟨rfl, rfl⟩
        go_wp2_with fail
        go_ret2
        exact ⟨HB0.out, .inl ⟨E, HDC.out, HNE.out, rfl⟩⟩
end Mb
end Go.Proofs.Ytddoepaplbnlcaa

/- The walk of the reference's Decode. -/
namespace Go.Proofs.Ytddoepaplbnlcaa
open Go.RowKit Go.Shelf
namespace Mb
open Wr Wi

theorem argsA_pre (k : Nat) (a : List Int) (r : Rs) (ar : List Int) (r' : Rs) (h : argsA k a r = some (ar, r')) : ∃ t, ar = a ++ t := by
  induction k generalizing a r with
  | zero => unfold argsA at h; injection h with h; injection h with h _; exact ⟨[], by rw [← h, List.append_nil]⟩
  | succ k ih =>
    unfold argsA at h
    split at h
    · cases h
    · split at h
      · cases h
      · obtain ⟨t, ht⟩ := ih _ _ h
        exact ⟨_ :: t, by rw [ht, List.append_assoc]; rfl⟩
theorem bad_args {m : Msg} {ar : List Int} (h : (0 : Int) ∈ ar) : valid (withA m ar) = false := by
  unfold valid withA
  have h2 : ar.all good = false := by
    rw [List.all_eq_false]
    exact ⟨0, h, by simp [good]⟩
  simp only [h2, Bool.and_false]
/-- the reference's loop over the arguments -/
structure RrL (w0 : World) (D g T q : Nat) (A1 A2 I1 I2 : Int) (s : ByteArray) (k : Nat) (r r4 : Rs) (j : Nat) (a : List Int) (X : Option Addr) (c : Nat) (r' : Rs) (wr : World) : Prop where
  qc : wr.heap[q]? = some (.cells #[.int .i64 A1, .int .i64 A2, .int .i64 I1, .int .i64 I2, .string s, .slice X j c] 36 (0, 0))
  ow : wr.ownsRow T 3 1 (.slice X j c) j (a.map (Value.int .i64))
  al : a.length = j
  rd : IsRr D wr g r'
  ch : Chg [g] w0 wr
  ab : ∀ z ∈ a, 0 ≤ z ∧ z ≤ 4294967296
  good : r'.e = 0 → argsA k [] r4 = argsA (k - j) a r'
  bad : r'.e ≠ 0 → msgR r = .error r'.e
theorem ok_row {T : Nat} {A1 A2 I1 I2 : Int} {s : ByteArray} {j : Nat} {a : List Int} {X : Option Addr} {c : Nat} {wx : World} (hal : a.length = j) (hab : ∀ z ∈ a, 0 ≤ z ∧ z ≤ 4294967296)
    (hb : (0 ≤ A1 ∧ A1 ≤ 1099511627775) ∧ (0 ≤ A2 ∧ A2 ≤ 1099511627775) ∧ (0 ≤ I1 ∧ I1 ≤ 1099511627775) ∧ (0 ≤ I2 ∧ I2 ≤ 1099511627775) ∧ s.size ≤ 4096) (hx : wx.ownsRow T 3 1 (.slice X j c) j (a.map (Value.int .i64))) :
    ∃ N, (Mm.mk ⟨A1, A2, I1, I2, s, a⟩ X c).ok wx N := by
  obtain ⟨b1, b2, b3, b4, b5⟩ := hb
  subst hal
  obtain ⟨_, _, e, h1, h2, _, hr⟩ := own_form hx
  cases e
  exact ⟨(Value.slice X a.length c).ownBlock.toList, ⟨hr, h1, h2, fun _ b off e => by have e' : X = some ⟨b, off, none⟩ := e; rw [e']; simp [Value.ownBlock], by simp only; omega, by simp only; omega, by simp only; omega, by simp only; omega, fun z hz => by have := hab z hz; omega, by simp only; omega⟩⟩
def RDecP (b : List UInt8) (w : World) (e : Ending) (w' : World) : Prop :=
  Below w.heap.size w w' ∧ ((∃ c, decodeR b = .error c ∧ e = .returned (.tuple #[.slice none 0 0, .int .i64 c])) ∨
    ∃ l v M, decodeR b = .ok l ∧ e = .returned (.tuple #[v, .int .i64 0]) ∧ Mo M l v w' ∧ ∀ y ∈ M, w.heap.size ≤ y)
/-- the reference's loop over the messages -/
structure RDL (w : World) (D g n0 : Nat) (r0 : Rs) (k : Nat) (l : List Msg) (v : Value) (M : List Nat) (r : Rs) (wr : World) : Prop where
  mo : Mo M l v wr
  mr : ∀ y ∈ M, g < y
  rd : IsRr D wr g r
  b : Below w.heap.size w wr
  eq : boxR n0 [] r0 = boxR (n0 - k) l r
  er : r.e ≠ 0 → n0 = 0 ∧ r = r0
  ln : l.length = k
  iv : Inv l
theorem argsA_succ (k : Nat) (a : List Int) (r : Rs) : argsA (k + 1) a r = if (uintR r).2.e ≠ 0 then none else if 4294967296 < (uintR r).1 then none else argsA k (a ++ [((uintR r).1 : Int)]) (uintR r).2 := rfl
theorem rr_lowB {w w' : World} {D g B : Nat} {r : Rs} (h : IsRr D w g r) (hb : Below B w w') (hg : g < B) : IsRr D w' g r := by
  obtain ⟨A, c, h1, h2, h3, h4, h5, h6⟩ := h
  refine ⟨A, c, (hb.block g hg).trans h1, h2, h3, ?_, h5, h6⟩
  by_cases hl : 0 < r.l.length
  · refine Rd.keep h4 (fun p v hp hm => ?_)
    cases A with
    | none => cases hm
    | some a =>
      obtain ⟨b, off, s⟩ := a
      have hs : s = none := by
        obtain ⟨b', off', e, _⟩ := Rd.cells h4 (by rw [List.length_map]; exact hl)
        cases e; rfl
      subst hs
      have hb5 := h5 hl b off rfl
      have hpb : b = p.block := by simpa using hm
      exact (hb.cell (p := p) (by omega)).trans hp
  · have : r.l = [] := List.eq_nil_of_length_eq_zero (by omega)
    rw [this]; exact RB.nil
theorem Mm.ok.below_range {w w' : World} {N : List Nat} {x : Mm} (h : x.ok w N) (hb : Below w.heap.size w w') : x.ok w' (List.range w'.heap.size) :=
  ⟨h.rd.below hb, h.c1, h.c2, fun hp b off e => by
    obtain ⟨b', off', e', hbl, _⟩ := h.rd.cells (by rw [List.length_map]; exact hp)
    rw [e'] at e
    cases e
    exact List.mem_range.2 (Nat.lt_of_lt_of_le hbl hb.size), h.a1, h.a2, h.i1, h.i2, h.ar, h.s⟩
theorem uintR_zero (r : Rs) (h : (uintR r).2.e ≠ 0) : (uintR r).1 = 0 := by
  by_cases he : r.e = 0
  · cases hp : parse r.l with
    | none => rw [uintR_none r he hp]
    | some p => obtain ⟨n, k⟩ := p; rw [uintR_some r he hp] at h; exact absurd rfl h
  · rw [uintR_err r he]
set_option maxRecDepth 100000 in
set_option maxHeartbeats 4000000 in
theorem rdecode_calls (A : Option Addr) (n c : Nat) (b : List UInt8) (w : World) (hn : b.length = n) (hnc : n ≤ c) (hcm : c ≤ maxLen) (hr : RB w A b) : Calls Try.prog 27 #[.slice A n c] w (RDecP b w) := by
  have HN := Lib.hid hn
  have hb1 := below1 w (.cells #[.slice A n c, .int .i64 0] 99)
  have hR1 := heap_alloc_new w (.cells #[.slice A n c, .int .i64 0] 99)
  have HR1 : Hid (IsRr w.heap.size (w.alloc (.cells #[.slice A n c, .int .i64 0] 99)) w.heap.size ⟨b, 0⟩) := by
    refine ⟨A, c, ?_, by show b.length ≤ c; rw [HN.out]; exact hnc, hcm, RB.below hr hb1, fun hp b off e => RB.lt hr hp b off e, Nat.le_refl _⟩
    show _ = some (Obj.cells #[.slice A b.length c, .int .i64 0] _ _)
    rw [HN.out]; exact hR1
  have HB1 := Lib.hid hb1
  clear hn hr hb1 hR1
  go_enter Try.func27, Try.ntmps27
  go_upto_region 2 with (fail)
  generalize w.alloc _ = w1 at *
  obtain ⟨D, HD⟩ : ∃ y, Hid (w.heap.size = y) := ⟨_, rfl⟩
  rw [HD.out] at HR1 ⊢
  have HC := Lib.hid (rdCount_calls D ⟨b, 0⟩ 1024 w1 HR1.out (by omega) (by omega))
  unfold RP at HC
  have hke : (countR 1024 ⟨b, 0⟩).2.e ≠ 0 → (countR 1024 ⟨b, 0⟩).1 = 0 := countR_zero 1024 _
  have hk1 : ((countR 1024 ⟨b, 0⟩).1 : Int) ≤ 1024 := countR_le 1024 _ (by omega)
  have HDE : Hid (decodeR b = match boxR (countR 1024 ⟨b, 0⟩).1 [] (countR 1024 ⟨b, 0⟩).2 with
    | .error e => .error e
    | .ok (l, r) => if doneR r ≠ 0 then .error (doneR r) else .ok l) := Lib.hid rfl
  generalize (countR 1024 ⟨b, 0⟩).1 = n0 at *
  generalize (countR 1024 ⟨b, 0⟩).2 = r0 at *
  have HKE := Lib.hid hke
  clear hke
  go_wp2_with fail
  refine HC.out.mono ?_
  rintro e w2 ⟨rfl, hi2, hc2⟩
  have hgl := hi2.lt
  have hb3 := below1 w2 (.cells #[] 36)
  have hB3 := (HB1.out.trans (hc2.below HB1.out.size (by simp; rw [HD.out]; exact Nat.le_refl _))).trans (hb3.mono (by have := HB1.out.size; have := hc2.size; omega))
  have HL0 : Hid (RDL w D D n0 r0 0 [] (.slice (some ⟨w2.heap.size, 0, none⟩) 0 0) [] r0 (w2.alloc (.cells #[] 36))) := Lib.hid ⟨⟨_, 0, 0, [], rfl, ⟨Rd.nil, fun h => absurd h (by omega), rfl, Nat.le_refl _, Nat.zero_le _, by simp, by simp⟩, rfl⟩, by simp, hi2.below hb3, hB3, rfl, fun h => ⟨HKE.out h, rfl⟩, rfl, inv_nil⟩
  clear hi2 hc2 hb3 hB3 HC HR1 HB1
  go_upto_region 5 with (fail)
  generalize w2.alloc _ = w3 at *
  go_wp2_with fail
  go_loopw [6, 7] (fun v i wr => ∃ k l M r, k ≤ n0 ∧ i = .int .i64 (k : Nat) ∧ RDL w D D n0 r0 k l v M r wr) (fun _ i _ => n0 - (intOf i).toNat)
  case atStart => exact ⟨0, _, _, _, by omega, rfl, HL0.out⟩
  case round =>
    obtain ⟨k, l, M, r, hk, rfl, hl⟩ := hrel
    generalize wr = w0 at *
    have HL := Lib.hid hl
    clear hl
    have j0 : (0 : Int) ≤ (k : Int) := by omega
    by_cases hlt : k < n0
    · have j1 : (k : Int) < (n0 : Int) := by omega
      have HE : Hid (r.e = 0) := Lib.hid (Classical.byContradiction fun h => by have := (HL.out.er h).1; omega)
      obtain ⟨d, hd⟩ : ∃ d, n0 - k = d + 1 := ⟨n0 - k - 1, by omega⟩
      have HEQ : Hid (boxR n0 [] r0 = nextR l (msgR r) (boxR (n0 - (k + 1)))) := Lib.hid (by rw [HL.out.eq, hd, show n0 - (k + 1) = d by omega]; rfl)
      clear hd
      have HI1 := Lib.hid (rdID_calls D r w0 HL.out.rd)
      unfold RP at HI1
      obtain ⟨A1, HA1⟩ : ∃ y : Int, Hid ((((idR r).1.1 : Nat) : Int) = y) := ⟨_, Lib.hid rfl⟩
      obtain ⟨A2, HA2⟩ : ∃ y : Int, Hid ((((idR r).1.2 : Nat) : Int) = y) := ⟨_, Lib.hid rfl⟩
      rw [HA1.out, HA2.out] at HI1
      have hDl := HL.out.rd.lt
      obtain ⟨T, HT⟩ : ∃ y, Hid (w0.heap.size = y) := ⟨_, rfl⟩
      rw [HT.out] at hDl
      go_wp2_with fail
      refine HI1.out.mono ?_
      rintro e w4 ⟨rfl, hi4, hc4⟩
      have hb5 := below1 w4 (.cells #[.int .i64 A1, .int .i64 A2, .int .i64 0, .int .i64 0, .string ⟨#[]⟩, .slice none 0 0] 36)
      have hk5 := heap_alloc_new w4 (.cells #[.int .i64 A1, .int .i64 A2, .int .i64 0, .int .i64 0, .string ⟨#[]⟩, .slice none 0 0] 36)
      have hTq : T ≤ w4.heap.size := by rw [← HT.out]; exact hc4.size
      have HC5 := Lib.hid (hc4.trans' (Chg.of_below hb5 [D]))
      have HR5 := Lib.hid (hi4.below hb5)
      clear hi4 hc4 hb5 HI1
      go_upto_region 8 with (fail)
      generalize w4.alloc _ = w5 at *
      obtain ⟨q, HQ⟩ : ∃ y, Hid (w4.heap.size = y) := ⟨_, rfl⟩
      rw [HQ.out] at hk5 hTq ⊢
      have HK5 := Lib.hid hk5
      have HI2 := Lib.hid (rdID_calls D (idR r).2 w5 HR5.out)
      unfold RP at HI2
      obtain ⟨I1, HJ1⟩ : ∃ y : Int, Hid ((((idR (idR r).2).1.1 : Nat) : Int) = y) := ⟨_, Lib.hid rfl⟩
      obtain ⟨I2, HJ2⟩ : ∃ y : Int, Hid ((((idR (idR r).2).1.2 : Nat) : Int) = y) := ⟨_, Lib.hid rfl⟩
      rw [HJ1.out, HJ2.out] at HI2
      have hDq : D ≠ q := by omega
      clear hk5
      go_wp2_with fail
      refine HI2.out.mono ?_
      rintro e w6 ⟨rfl, hi6, hc6⟩
      have hk6 := hc6.blk HK5.out (by simp; omega)
      have c2 := (row6 hk6).2.2.1
      have c3 := (row6 hk6).2.2.2.1
      have f2 := frozen_of_row _ _ 2 _ _ hk6
      have f3 := frozen_of_row _ _ 3 _ _ hk6
      have hk7 : ((w6.setCell ⟨q, 2, none⟩ (.int .i64 I1)).setCell ⟨q, 3, none⟩ (.int .i64 I2)).heap[q]? = some (.cells #[.int .i64 A1, .int .i64 A2, .int .i64 I1, .int .i64 I2, .string ⟨#[]⟩, .slice none 0 0] 36 (0, 0)) := heap_setCell_same _ _ _ _ _ _ (heap_setCell_same _ _ _ _ _ _ hk6)
      have hq7 : Chg [q] w6 ((w6.setCell ⟨q, 2, none⟩ (.int .i64 I1)).setCell ⟨q, 3, none⟩ (.int .i64 I2)) := ((Chg.refl [q] w6).setCell (p := ⟨q, 2, none⟩) (.inl (by simp)) _).setCell (p := ⟨q, 3, none⟩) (.inl (by simp)) _
      have HK7 := Lib.hid hk7
      have HR7 := Lib.hid (hi6.chg hq7 (by simp; omega))
      have HC7 := Lib.hid ((HC5.out.trans' hc6).trans hq7 (by simp only [List.mem_singleton]; intro y hy; right; rw [HT.out]; omega))
      clear hk6 hk7 hq7 hi6 hc6 HI2 HC5 HR5 HK5
      go_upto_region 9 with (fail)
      clear c2 c3 f2 f3
      generalize (w6.setCell _ _).setCell _ _ = w7 at *
      have HI3 := Lib.hid (rdString_calls D (idR (idR r).2).2 w7 HR7.out)
      unfold RP at HI3
      obtain ⟨s, HS⟩ : ∃ y : ByteArray, Hid ((⟨(stringR (idR (idR r).2).2).1.toArray⟩ : ByteArray) = y) := ⟨_, Lib.hid rfl⟩
      rw [HS.out] at HI3
      go_wp2_with fail
      refine HI3.out.mono ?_
      rintro e w8 ⟨rfl, hi8, hc8⟩
      have hk8 := hc8.blk HK7.out (by simp; omega)
      have c4 := (row6 hk8).2.2.2.2.1
      have f4 := frozen_of_row _ _ 4 _ _ hk8
      have hk9 : (w8.setCell ⟨q, 4, none⟩ (.string s)).heap[q]? = some (.cells #[.int .i64 A1, .int .i64 A2, .int .i64 I1, .int .i64 I2, .string s, .slice none 0 0] 36 (0, 0)) := heap_setCell_same _ _ _ _ _ _ hk8
      have hq9 : Chg [q] w8 (w8.setCell ⟨q, 4, none⟩ (.string s)) := (Chg.refl [q] w8).setCell (p := ⟨q, 4, none⟩) (.inl (by simp)) _
      have HK9 := Lib.hid hk9
      have HR9 := Lib.hid (hi8.chg hq9 (by simp; omega))
      have HC9 := Lib.hid ((HC7.out.trans' hc8).trans hq9 (by simp only [List.mem_singleton]; intro y hy; right; rw [HT.out]; omega))
      clear hk8 hk9 hq9 hi8 hc8 HI3 HC7 HR7 HK7
      go_upto_region 10 with (fail)
      clear c4 f4
      generalize w8.setCell _ _ = w9 at *
      have H4 := Lib.hid (rdCount_calls D _ 9 w9 HR9.out (by omega) (by omega))
      unfold RP at H4
      rw [show countR 9 (stringR (idR (idR r).2).2).2 = preC r from rfl] at H4
      have hk9 : ((preC r).1 : Int) ≤ 9 := countR_le 9 _ (by omega)
      have hke9 : (preC r).2.e ≠ 0 → (preC r).1 = 0 := countR_zero 9 _
      have HPM : preM r = ⟨A1, A2, I1, I2, s, []⟩ := by unfold preM; rw [HA1.out, HA2.out, HJ1.out, HJ2.out, HS.out]
      have HMS : Hid (msgR r = if (preC r).2.e ≠ 0 then .error (preC r).2.e else match argsA (preC r).1 [] (preC r).2 with
        | none => .error 11
        | some (ar, r') => if valid (withA ⟨A1, A2, I1, I2, s, []⟩ ar) = true then .ok (withA ⟨A1, A2, I1, I2, s, []⟩ ar, r') else .error 11) := Lib.hid (by unfold msgR; rw [HPM] <;> rfl)
      have hA1 : 0 ≤ A1 ∧ A1 ≤ 1099511627775 := by rw [← HA1.out]; have := idR_le r; omega
      have hA2 : 0 ≤ A2 ∧ A2 ≤ 1099511627775 := by rw [← HA2.out]; have := idR_le r; omega
      have hI1 : 0 ≤ I1 ∧ I1 ≤ 1099511627775 := by rw [← HJ1.out]; have := idR_le (idR r).2; omega
      have hI2 : 0 ≤ I2 ∧ I2 ≤ 1099511627775 := by rw [← HJ2.out]; have := idR_le (idR r).2; omega
      have hs : s.size ≤ 4096 := by rw [← HS.out]; have := stringR_le (idR (idR r).2).2; rw [me_size]; exact this
      have HBD := Lib.hid (And.intro hA1 (And.intro hA2 (And.intro hI1 (And.intro hI2 hs))))
      generalize (preC r).1 = kk at *
      generalize (preC r).2 = r4 at *
      have HKE9 := Lib.hid hke9
      clear HPM HA1 HA2 HJ1 HJ2 HS hA1 hA2 hI1 hI2 hs hke9
      go_wp2_with fail
      refine H4.out.mono ?_
      rintro e wa ⟨rfl, hia, hca⟩
      have HLA : Hid (RrL w0 D D T q A1 A2 I1 I2 s kk r r4 0 [] none 0 r4 wa) := Lib.hid ⟨hca.blk HK9.out (by simp; omega), ⟨rfl, .inl ⟨rfl, rfl⟩⟩, rfl, hia, HC9.out.trans' hca, by simp, fun _ => rfl, fun h => by rw [HMS.out, if_pos h]⟩
      have HEQ1 : Hid (∀ e1, msgR r = .error e1 → decodeR b = .error e1) := Lib.hid (fun e1 h => by rw [HDE.out, HEQ.out, h]; rfl)
      have HL4 : Hid (∀ {j : Nat}, j < kk → r4.e = 0) := Lib.hid (fun hj => Classical.byContradiction fun h => by have := HKE9.out h; omega)
      have HBL := Lib.hid HL.out.b
      clear hia hca H4 HC9 HR9 HK9
      go_upto_region 12 with (fail)
      go_wp2_with fail
      go_loopw [10] (fun i wr2 => ∃ j a X c r', j ≤ kk ∧ i = .int .i64 (j : Nat) ∧ RrL w0 D D T q A1 A2 I1 I2 s kk r r4 j a X c r' wr2) (fun i _ => kk - (intOf i).toNat)
      case atStart => exact ⟨0, _, _, _, _, by omega, rfl, HLA.out⟩
      case round =>
        obtain ⟨j, a, X, c', r', hj, rfl, hl2⟩ := hrel
        have HJ := Lib.hid hl2
        clear hl2
        have i0 : (0 : Int) ≤ (j : Int) := by omega
        have HBW : Hid (Below w.heap.size w wr) := Lib.hid (HBL.out.trans (HJ.out.ch.below HBL.out.size (by simp; rw [HD.out]; exact Nat.le_refl _)))
        by_cases hlj : j < kk
        · have i1 : (j : Int) < (kk : Int) := by omega
          have HU := Lib.hid (rdUint_calls D r' wr HJ.out.rd)
          unfold RuP at HU
          have hz0 := uintR_zero r'
          have HBAD : Hid ((uintR r').2.e ≠ 0 → msgR r = .error (uintR r').2.e) := Lib.hid (fun h2 => by
            by_cases he : r'.e = 0
            · have h11 := (uintR_e11 he).resolve_left h2
              obtain ⟨d, hd⟩ : ∃ d, kk - j = d + 1 := ⟨kk - j - 1, by omega⟩
              have ha := HJ.out.good he
              rw [hd, argsA_succ] at ha
              rw [if_pos h2] at ha
              rw [h11, HMS.out, if_neg (fun h => h (HL4.out hlj)), ha]
            · rw [uintR_err r' he]; exact HJ.out.bad he)
          have HGOOD : Hid ((uintR r').2.e = 0 → argsA kk [] r4 = if 4294967296 < (uintR r').1 then none else argsA (kk - (j + 1)) (a ++ [((uintR r').1 : Int)]) (uintR r').2) := Lib.hid (fun h2 => by
            have he := (uintR_ok r' h2).1
            obtain ⟨d, hd⟩ : ∃ d, kk - j = d + 1 := ⟨kk - j - 1, by omega⟩
            have ha := HJ.out.good he
            rw [hd, argsA_succ] at ha
            rw [if_neg (by simpa using h2)] at ha
            rw [ha, show kk - (j + 1) = d by omega])
          have hul := uintR_lt r'
          generalize (uintR r').1 = h at *
          generalize (uintR r').2 = r2 at *
          go_wp2_with fail
          refine HU.out.mono ?_
          rintro e w7 ⟨rfl, hi7, hc7⟩
          have HI7 := Lib.hid hi7
          have HQ7 := Lib.hid (hc7.blk HJ.out.qc (by simp; omega))
          have HO7 := Lib.hid (own_chg HJ.out.ow hc7 (by simp; omega))
          have HG7 := Lib.hid (HJ.out.ch.trans' hc7)
          have HB7 := Lib.hid (HBW.out.trans (hc7.below HBW.out.size (by simp; rw [HD.out]; exact Nat.le_refl _)))
          obtain ⟨_, _, hgc, _⟩ := hi7
          have e7 : w7.cell? ⟨D, 1, none⟩ = some (.int .i64 r2.e) := (cell_of_row _ _ 1 _ _ _ hgc).trans rfl
          clear hc7 hgc HU
          by_cases he2 : r2.e = 0
          · rw [he2] at e7
            have HAR := Lib.hid (HGOOD.out he2)
            by_cases hh0 : h = 0
            · have HM11 : Hid (msgR r = .error 11) := Lib.hid (by
                subst hh0
                rw [HMS.out, if_neg (fun h => h (HL4.out hlj))]
                cases ha : argsA kk [] r4 with
                | none => rfl
                | some p =>
                  obtain ⟨ar, r5⟩ := p
                  have h2 := HAR.out
                  rw [if_neg (by omega), ha] at h2
                  obtain ⟨t, ht⟩ := argsA_pre _ _ _ _ _ h2.symm
                  simp only
                  rw [bad_args (by rw [ht]; simp), if_neg (by simp)])
              have b1 : decide ((h : Int) < 1) = true := decide_eq_true (by omega)
              have b2 : decide (h < 1) = true := decide_eq_true (by omega)
              have b3 : (h : Int) < 1 := by omega
              clear hh0 HAR
              go_wp2_with fail
              go_ret2
              exact ⟨HB7.out, .inl ⟨11, HEQ1.out 11 HM11.out, rfl⟩⟩
            · by_cases hbig : 4294967296 < h
              · have HM11 : Hid (msgR r = .error 11) := Lib.hid (by rw [HMS.out, if_neg (fun h => h (HL4.out hlj)), HAR.out, if_pos hbig])
                have b1 : decide ((h : Int) < 1) = false := decide_eq_false (by omega)
                have b2 : decide (h < 1) = false := decide_eq_false (by omega)
                have b4 : decide ((4294967296 : Int) < (h : Int)) = true := decide_eq_true (by omega)
                have b5 : decide (4294967296 < h) = true := decide_eq_true hbig
                clear hh0 HAR
                go_wp2_with fail
                go_ret2
                exact ⟨HB7.out, .inl ⟨11, HEQ1.out 11 HM11.out, rfl⟩⟩
              · have b1 : decide ((h : Int) < 1) = false := decide_eq_false (by omega)
                have b2 : decide (h < 1) = false := decide_eq_false (by omega)
                have b4 : decide ((4294967296 : Int) < (h : Int)) = false := decide_eq_false (by omega)
                have b5 : decide (4294967296 < h) = false := decide_eq_false hbig
                have hhb : h ≤ 4294967296 := by omega
                have HNX1 : Hid (r2.e = 0 → argsA kk [] r4 = argsA (kk - (j + 1)) (a ++ [(h : Int)]) r2) := Lib.hid (fun _ => by rw [HAR.out, if_neg hbig])
                clear hh0 HAR hbig he2
                (have hw : IntKind.i64.wrap (h : Int) = (h : Int) := IntWalk.i64_in _ (by omega); have HHB := Lib.hid hhb; have hq7l : q < w7.heap.size := (Array.getElem?_eq_some_iff.1 HQ7.out).1; have hT7 : T ≤ w7.heap.size := (by omega); have q5 := (row6 HQ7.out).2.2.2.2.2; have fq5 := frozen_of_row _ _ 5 _ _ HQ7.out; have n5 : ∀ o, (w7.alloc o).cell? ⟨q, 5, none⟩ = some (.slice X j c') := fun o => (World.cell?_alloc_lt w7 o ⟨q, 5, none⟩ hq7l).trans q5; go_wp2_with (at_builtin; refine wpList_apps _ rfl (.tmp 58) (.tmp 61) 34 rfl T 3 (.int .i64 0) 8 Try.underlying34 info_n rfl (.slice X j c') j (a.map (Value.int .i64)) rfl (HO7.out.alloc _) (some ⟨w7.heap.size, 0, none⟩) 1 1 [.int .i64 (h : Int)] rfl rfl (Rd.one w7 _ _) (by simp [Value.oneCell']) (by simp only [maxLen]; omega) (by omega) (Nat.le_trans hT7 (by simp)) ?_; intro X9 c9 w9 hown9 happ9; have HO9 := Lib.hid hown9; have hp9 := (below1 w7 _).mono hT7 |>.trans (happ9.below (HO7.out.alloc _) (Nat.le_trans hT7 (by simp))); have HP9 := Lib.hid hp9; have hba := below1 w7 (.cells #[.int .i64 (h : Int)] 3); have hqa := (hba.block _ hq7l).trans HQ7.out; have HQ9 := Lib.hid (happ9.old hqa (own_ne (HO7.out.alloc _) hqa (by decide))); have k5 := (row6 HQ9.out).2.2.2.2.2; have gk5 := frozen_of_row _ _ 5 _ _ HQ9.out; clear hown9 happ9 hp9 hba hqa); have hcq : Chg [q] w9 (w9.setCell ⟨q, 5, none⟩ (.slice X9 (j + 1) c9)) := (Chg.refl [q] w9).setCell (p := ⟨q, 5, none⟩) (.inl (by simp)) _; have hbq : Below T w7 (w9.setCell ⟨q, 5, none⟩ (.slice X9 (j + 1) c9)) := HP9.out.trans (hcq.below (Nat.le_trans hT7 HP9.out.size) (by simp only [List.mem_singleton]; intro y hy; omega)); have HRD : Hid (RrL w0 D D T q A1 A2 I1 I2 s kk r r4 (j + 1) (a ++ [(h : Int)]) X9 c9 r2 (w9.setCell ⟨q, 5, none⟩ (.slice X9 (j + 1) c9))) := Lib.hid ⟨heap_setCell_same _ _ _ _ _ _ HQ9.out, by rw [List.map_append]; exact own_set HO9.out HQ9.out (by decide), by rw [List.length_append, HJ.out.al]; rfl, rr_lowB HI7.out hbq hDl, chg_lowB HG7.out (by rw [HT.out]; exact hbq), fun z hz => (List.mem_append.1 hz).elim (fun hz => HJ.out.ab z hz) (fun hz => by rw [List.mem_singleton.1 hz]; have := HHB.out; omega), HNX1.out, HBAD.out⟩; go_roundw; (case rel => exact ⟨j + 1, _, _, _, _, by omega, by go_num, HRD.out⟩); (case measure => simp [intOf]; omega))
          · have e0 : (r2.e == 0) = false := by simpa using he2
            have HNX1 : Hid (r2.e = 0 → argsA kk [] r4 = argsA (kk - (j + 1)) (a ++ [(h : Int)]) r2) := Lib.hid (fun h => absurd h he2)
            have hhb : h ≤ 4294967296 := by rw [hz0 he2]; omega
            clear he2
            (have hw : IntKind.i64.wrap (h : Int) = (h : Int) := IntWalk.i64_in _ (by omega); have HHB := Lib.hid hhb; have hq7l : q < w7.heap.size := (Array.getElem?_eq_some_iff.1 HQ7.out).1; have hT7 : T ≤ w7.heap.size := (by omega); have q5 := (row6 HQ7.out).2.2.2.2.2; have fq5 := frozen_of_row _ _ 5 _ _ HQ7.out; have n5 : ∀ o, (w7.alloc o).cell? ⟨q, 5, none⟩ = some (.slice X j c') := fun o => (World.cell?_alloc_lt w7 o ⟨q, 5, none⟩ hq7l).trans q5; go_wp2_with (at_builtin; refine wpList_apps _ rfl (.tmp 58) (.tmp 61) 34 rfl T 3 (.int .i64 0) 8 Try.underlying34 info_n rfl (.slice X j c') j (a.map (Value.int .i64)) rfl (HO7.out.alloc _) (some ⟨w7.heap.size, 0, none⟩) 1 1 [.int .i64 (h : Int)] rfl rfl (Rd.one w7 _ _) (by simp [Value.oneCell']) (by simp only [maxLen]; omega) (by omega) (Nat.le_trans hT7 (by simp)) ?_; intro X9 c9 w9 hown9 happ9; have HO9 := Lib.hid hown9; have hp9 := (below1 w7 _).mono hT7 |>.trans (happ9.below (HO7.out.alloc _) (Nat.le_trans hT7 (by simp))); have HP9 := Lib.hid hp9; have hba := below1 w7 (.cells #[.int .i64 (h : Int)] 3); have hqa := (hba.block _ hq7l).trans HQ7.out; have HQ9 := Lib.hid (happ9.old hqa (own_ne (HO7.out.alloc _) hqa (by decide))); have k5 := (row6 HQ9.out).2.2.2.2.2; have gk5 := frozen_of_row _ _ 5 _ _ HQ9.out; clear hown9 happ9 hp9 hba hqa); have hcq : Chg [q] w9 (w9.setCell ⟨q, 5, none⟩ (.slice X9 (j + 1) c9)) := (Chg.refl [q] w9).setCell (p := ⟨q, 5, none⟩) (.inl (by simp)) _; have hbq : Below T w7 (w9.setCell ⟨q, 5, none⟩ (.slice X9 (j + 1) c9)) := HP9.out.trans (hcq.below (Nat.le_trans hT7 HP9.out.size) (by simp only [List.mem_singleton]; intro y hy; omega)); have HRD : Hid (RrL w0 D D T q A1 A2 I1 I2 s kk r r4 (j + 1) (a ++ [(h : Int)]) X9 c9 r2 (w9.setCell ⟨q, 5, none⟩ (.slice X9 (j + 1) c9))) := Lib.hid ⟨heap_setCell_same _ _ _ _ _ _ HQ9.out, by rw [List.map_append]; exact own_set HO9.out HQ9.out (by decide), by rw [List.length_append, HJ.out.al]; rfl, rr_lowB HI7.out hbq hDl, chg_lowB HG7.out (by rw [HT.out]; exact hbq), fun z hz => (List.mem_append.1 hz).elim (fun hz => HJ.out.ab z hz) (fun hz => by rw [List.mem_singleton.1 hz]; have := HHB.out; omega), HNX1.out, HBAD.out⟩; go_roundw; (case rel => exact ⟨j + 1, _, _, _, _, by omega, by go_num, HRD.out⟩); (case measure => simp [intOf]; omega))
        · obtain rfl : j = kk := by omega
          have HQ7 := Lib.hid HJ.out.qc
          obtain ⟨_, _, hgc, _⟩ := HJ.out.rd
          have e7 : wr.cell? ⟨D, 1, none⟩ = some (.int .i64 r'.e) := (cell_of_row _ _ 1 _ _ _ hgc).trans rfl
          clear hgc
          by_cases he3 : r'.e = 0
          · have har := HJ.out.good he3
            rw [Nat.sub_self] at har
            have HAR : Hid (argsA j [] r4 = some (a, r')) := har
            have HE4 : Hid (¬ r4.e ≠ 0) := Lib.hid (fun h => by
              have hk := HKE9.out h
              subst hk
              have h2 := HAR.out
              unfold argsA at h2
              injection h2 with h2
              injection h2 with _ h2
              rw [h2] at h
              exact h he3)
            have HM : Hid (msgR r = if valid ⟨A1, A2, I1, I2, s, a⟩ = true then .ok (⟨A1, A2, I1, I2, s, a⟩, r') else .error 11) := Lib.hid (by rw [HMS.out, if_neg HE4.out, HAR.out]; rfl)
            obtain ⟨NV, hokm⟩ := ok_row HJ.out.al HJ.out.ab HBD.out HJ.out.ow
            have HOK := Lib.hid hokm
            have HMO := Lib.hid (HL.out.mo.same (fun y hy => HJ.out.ch.block y (HL.out.mo.lt y hy) (by have := HL.out.mr y hy; simp; omega)) HJ.out.ch.size)
            rw [he3] at e7
            have HE3 := Lib.hid he3
            clear he3 har hokm
            go_upto_region 20 with (fail)
            clear e7
            obtain ⟨Am, nm, cm, xs, e0, hm2, hml⟩ := HMO.out
            subst e0
            have HM2 := Lib.hid hm2
            have HML := Lib.hid hml
            have hnk : nm = k := by rw [← HL.out.ln, ← hml, List.length_map]; exact hm2.hn.symm
            have hal9 : a.length ≤ 9 := by have := HJ.out.al; omega
            have HAL9 := Lib.hid hal9
            have HNO : Hid (¬ (lastLt l ⟨A1, A2, I1, I2, s, a⟩ = true ∧ putE l ⟨A1, A2, I1, I2, s, a⟩ = 0) → decodeR b = .error 11) := Lib.hid (fun hne => by
              cases hv : valid ⟨A1, A2, I1, I2, s, a⟩ with
              | false => exact HEQ1.out 11 (by rw [HM.out, hv, if_neg (by simp)])
              | true =>
                have h1 : msgR r = .ok (⟨A1, A2, I1, I2, s, a⟩, r') := by rw [HM.out, hv, if_pos rfl]
                have h2 : nextR l (.ok (⟨A1, A2, I1, I2, s, a⟩, r')) (boxR (n0 - (k + 1))) = .error 11 := if_neg hne
                rw [HDE.out, HEQ.out, h1, h2])
            have HYES : Hid (lastLt l ⟨A1, A2, I1, I2, s, a⟩ = true ∧ putE l ⟨A1, A2, I1, I2, s, a⟩ = 0 → boxR n0 [] r0 = boxR (n0 - (k + 1)) (putL l ⟨A1, A2, I1, I2, s, a⟩) r') := Lib.hid (fun hy => by
              have hv := (putE_zero hy.2).1
              have h1 : msgR r = .ok (⟨A1, A2, I1, I2, s, a⟩, r') := by rw [HM.out, hv, if_pos rfl]
              rw [HEQ.out, h1]
              exact if_pos hy)
            have hval : mval ⟨⟨A1, A2, I1, I2, s, a⟩, X, c'⟩ = .agg #[.int .i64 A1, .int .i64 A2, .int .i64 I1, .int .i64 I2, .string s, .slice X j c'] := by rw [← HJ.out.al]; rfl
            have HRP := Lib.hid (fun w' (hb : Below wr.heap.size wr w') => rput_calls M l _ ⟨⟨A1, A2, I1, I2, s, a⟩, X, c'⟩ (List.range w'.heap.size) w' (HMO.out.below hb) ((HOK.out.below_range hb)) (Nat.le_trans HAL9.out (by omega)) HL.out.iv)
            rw [hval] at HRP
            simp only at HRP
            have HBF : Hid (∀ p (hp : p < xs.length), p + 1 = k → ∀ w', Below wr.heap.size wr w' → Calls Try.prog 15 #[mval xs[p], .agg #[.int .i64 A1, .int .i64 A2, .int .i64 I1, .int .i64 I2, .string s, .slice X j c']] w' fun e w'' => e = .returned (.bool (lastLt l ⟨A1, A2, I1, I2, s, a⟩)) ∧ Below wr.heap.size wr w'') := Lib.hid (fun p hp hpk w' hb => by
              have hpl : p < l.length := by rw [HL.out.ln]; omega
              have hlp : l[p] = xs[p].m := by simp only [← HML.out, List.getElem_map]
              have hla : lastLt l ⟨A1, A2, I1, I2, s, a⟩ = decide (Lt xs[p].m ⟨A1, A2, I1, I2, s, a⟩) := by
                unfold lastLt
                rw [List.getLast?_eq_getElem?, show l.length - 1 = p by rw [HL.out.ln]; omega, List.getElem?_eq_getElem hpl, hlp]
              rw [← hval, hla]
              exact (rbefore_calls xs[p] ⟨⟨A1, A2, I1, I2, s, a⟩, X, c'⟩ w').mono fun e w'' h2 => ⟨h2.1, hb.trans (h2.2.mono hb.size)⟩)
            have HL00 : Hid (k = 0 → lastLt l ⟨A1, A2, I1, I2, s, a⟩ = true) := Lib.hid (fun hk0 => by
              have : l = [] := List.eq_nil_of_length_eq_zero (by rw [HL.out.ln]; exact hk0)
              rw [this]; rfl)
            have hiv := HL.out.iv.put ⟨A1, A2, I1, I2, s, a⟩
            have hln : lastLt l ⟨A1, A2, I1, I2, s, a⟩ = true ∧ putE l ⟨A1, A2, I1, I2, s, a⟩ = 0 → (putL l ⟨A1, A2, I1, I2, s, a⟩).length = k + 1 := fun hy => by rw [put_last HL.out.iv.s hy.1 hy.2, List.length_append, HL.out.ln]; rfl
            have HIV := Lib.hid hiv
            have HLN := Lib.hid hln
            obtain ⟨E, HE2⟩ : ∃ y, Hid (putE l ⟨A1, A2, I1, I2, s, a⟩ = y) := ⟨_, Lib.hid rfl⟩
            obtain ⟨bl, HBLL⟩ : ∃ y, Hid (lastLt l ⟨A1, A2, I1, I2, s, a⟩ = y) := ⟨_, Lib.hid rfl⟩
            obtain ⟨L2, HL2⟩ : ∃ y, Hid (putL l ⟨A1, A2, I1, I2, s, a⟩ = y) := ⟨_, Lib.hid rfl⟩
            unfold RPutP at HRP
            simp only [HE2.out, HL2.out] at HRP
            rw [HE2.out, HBLL.out] at HNO
            rw [HE2.out, HBLL.out, HL2.out] at HYES HLN
            rw [HBLL.out] at HL00
            rw [HL2.out] at HIV
            simp only [HBLL.out] at HBF
            subst hnk
            clear hm2 hml hal9 hval hiv hln HM HMS HEQ HDE
            go_cut [84] (fun v wx => v = .bool (!bl) ∧ Below wr.heap.size wr wx)
            case first =>
              by_cases hk0 : nm = 0
              · obtain rfl : bl = true := HL00.out hk0
                have d0 : decide ((0 : Int) < (nm : Int)) = false := decide_eq_false (by omega)
                have d0n : decide (0 < nm) = false := decide_eq_false (by omega)
                clear hk0
                go_quiet (fail)
                have HBQ := Lib.hid (blw_drewN (Below.refl wr.heap.size wr) nq)
                go_wp2_with fail
                go_meet
                exact ⟨rfl, HBQ.out⟩
              · obtain ⟨p, hpn⟩ : ∃ p, p + 1 = nm := ⟨nm - 1, by omega⟩
                have hpx : p < xs.length := by rw [HM2.out.hn]; omega
                have HB9 := Lib.hid (HBF.out p hpx hpn)
                obtain ⟨bx, off, e, hbl2, x0, x1, x2, x3, x4, x5⟩ := rd6 HM2.out.rd p hpx
                subst e
                have hql : q < wr.heap.size := (Array.getElem?_eq_some_iff.1 HQ7.out).1
                obtain ⟨y0, y1, y2, y3, y4, y5⟩ := row6 HQ7.out
                have d0 : decide ((0 : Int) < (nm : Int)) = true := decide_eq_true (by omega)
                have d0n : decide (0 < nm) = true := decide_eq_true (by omega)
                have hsub : (nm : Int) - 1 = (p : Int) := by omega
                have hw1 : IntKind.i64.wrap ((nm : Int) - 1) = (p : Int) := by rw [hsub]; exact IntWalk.i64_in _ (by omega)
                have hw2 : IntKind.i64.wrap (p : Int) = (p : Int) := IntWalk.i64_in _ (by omega)
                have p0 : (0 : Int) ≤ (p : Int) := by omega
                have p1 : (p : Int) < (nm : Int) := by omega
                unfold mval Mm.cells at HB9
                generalize xs[p] = z at *
                have m0 : ∀ w', Below wr.heap.size wr w' → w'.cell? ⟨q, 0, none⟩ = some (.int .i64 A1) := fun w' h => (h.cell (p := ⟨q, 0, none⟩) hql).trans y0
                have m1 : ∀ w', Below wr.heap.size wr w' → w'.cell? ⟨q, 1, none⟩ = some (.int .i64 A2) := fun w' h => (h.cell (p := ⟨q, 1, none⟩) hql).trans y1
                have m2 : ∀ w', Below wr.heap.size wr w' → w'.cell? ⟨q, 2, none⟩ = some (.int .i64 I1) := fun w' h => (h.cell (p := ⟨q, 2, none⟩) hql).trans y2
                have m3 : ∀ w', Below wr.heap.size wr w' → w'.cell? ⟨q, 3, none⟩ = some (.int .i64 I2) := fun w' h => (h.cell (p := ⟨q, 3, none⟩) hql).trans y3
                have m4 : ∀ w', Below wr.heap.size wr w' → w'.cell? ⟨q, 4, none⟩ = some (.string s) := fun w' h => (h.cell (p := ⟨q, 4, none⟩) hql).trans y4
                have m5 : ∀ w', Below wr.heap.size wr w' → w'.cell? ⟨q, 5, none⟩ = some (.slice X j c') := fun w' h => (h.cell (p := ⟨q, 5, none⟩) hql).trans y5
                have r0' : ∀ w', Below wr.heap.size wr w' → w'.cell? ⟨bx, off + p * 6, none⟩ = some (.int .i64 z.m.a1) := fun w' h => (h.cell (p := ⟨bx, off + p * 6, none⟩) hbl2).trans x0
                have r1' : ∀ w', Below wr.heap.size wr w' → w'.cell? ⟨bx, off + p * 6 + 1, none⟩ = some (.int .i64 z.m.a2) := fun w' h => (h.cell (p := ⟨bx, off + p * 6 + 1, none⟩) hbl2).trans x1
                have r2' : ∀ w', Below wr.heap.size wr w' → w'.cell? ⟨bx, off + p * 6 + 2, none⟩ = some (.int .i64 z.m.i1) := fun w' h => (h.cell (p := ⟨bx, off + p * 6 + 2, none⟩) hbl2).trans x2
                have r3' : ∀ w', Below wr.heap.size wr w' → w'.cell? ⟨bx, off + p * 6 + 3, none⟩ = some (.int .i64 z.m.i2) := fun w' h => (h.cell (p := ⟨bx, off + p * 6 + 3, none⟩) hbl2).trans x3
                have r4' : ∀ w', Below wr.heap.size wr w' → w'.cell? ⟨bx, off + p * 6 + 4, none⟩ = some (.string z.m.me) := fun w' h => (h.cell (p := ⟨bx, off + p * 6 + 4, none⟩) hbl2).trans x4
                have r5' : ∀ w', Below wr.heap.size wr w' → w'.cell? ⟨bx, off + p * 6 + 5, none⟩ = some (.slice z.a z.m.ar.length z.c) := fun w' h => (h.cell (p := ⟨bx, off + p * 6 + 5, none⟩) hbl2).trans x5
                clear x0 x1 x2 x3 x4 x5 y0 y1 y2 y3 y4 y5 hk0 hpn HBF
                go_region_held3 (fun w' => Below wr.heap.size wr w') (first | exact (Below.refl _ _).drew | assumption) (first | (go_at_call 15; refine (HB9.out _ (by assumption)).mono ?_; rintro e wb ⟨rfl, hcb⟩))
                have HBQ := Lib.hid (by assumption : Below wr.heap.size wr _)
                clear m0 m1 m2 m3 m4 m5 r0' r1' r2' r3' r4' r5' d0 d0n hsub hw1 hw2
                go_wp2_with fail
                go_meet
                exact ⟨rfl, HBQ.out⟩
            case rest =>
              rename World => wx
              obtain ⟨rfl, hbx⟩ := hcut
              have HBX := Lib.hid hbx
              have HBE := Lib.hid (HBW.out.trans (hbx.mono HBW.out.size))
              have HRX := Lib.hid (HRP.out wx hbx)
              obtain ⟨y0, y1, y2, y3, y4, y5⟩ := row6 ((hbx.block _ (Array.getElem?_eq_some_iff.1 HQ7.out).1).trans HQ7.out)
              clear hbx HBF HRP HL00
              cases bl with
              | false =>
                have HDC : Hid (decodeR b = .error 11) := Lib.hid (HNO.out (by simp))
                go_wp2_with fail
                go_ret2
                exact ⟨HBE.out, .inl ⟨11, HDC.out, rfl⟩⟩
              | true =>
                go_upto_region 22 with (fail)
                go_wp2_with fail
                refine HRX.out.mono ?_
                rintro e wy ⟨Ay, ny, cy, rfl, hnm⟩
                have hby := hnm.b
                have HBY := Lib.hid (HBE.out.trans (hby.mono HBE.out.size))
                have HNM := Lib.hid hnm
                clear y0 y1 y2 y3 y4 y5 HRX hnm
                by_cases hE : E = 0
                · subst hE
                  have HRD : Hid (∃ M', RDL w D D n0 r0 (nm + 1) L2 (.slice Ay ny cy) M' r' wy) := Lib.hid (by
                    obtain ⟨M', h1, h2, h3⟩ := HNM.out
                    exact ⟨M', h1, fun y hy => (h2 y hy).elim (fun h => HL.out.mr y h) (fun h => by have := HBX.out.size; have := HJ.out.rd.lt; omega), (HJ.out.rd.below HBX.out).below hby, HBY.out, HYES.out ⟨by simp, by simp⟩, fun h => absurd HE3.out h, HLN.out ⟨by simp, by simp⟩, HIV.out⟩)
                  clear hby
                  go_wp2_with fail
                  go_roundw
                  case rel =>
                    obtain ⟨M', hrd⟩ := HRD.out
                    exact ⟨nm + 1, L2, M', r', by omega, by go_num, hrd⟩
                  case measure => simp [intOf]; omega
                · have HDC : Hid (decodeR b = .error 11) := Lib.hid (HNO.out (fun h => hE h.2))
                  have e1 : (E == 0) = false := by simpa using hE
                  clear hE hby
                  go_wp2_with fail
                  go_ret2
                  exact ⟨HBY.out, .inl ⟨11, HDC.out, rfl⟩⟩
          · have HDC : Hid (decodeR b = .error r'.e) := Lib.hid (HEQ1.out _ (HJ.out.bad he3))
            have e0 : (r'.e == 0) = false := by simpa using he3
            generalize r'.e = E at *
            clear he3
            go_upto_region 19 with (fail)
            go_quiet (fail)
            have HBQ := Lib.hid (blw_drewN HBW.out nq)
            go_wp2_with fail
            go_ret2
            exact ⟨HBQ.out, .inl ⟨E, HDC.out, rfl⟩⟩
    · obtain rfl : k = n0 := by omega
      have HDN := Lib.hid (rdDone_calls D r w0 HL.out.rd)
      have heq := HL.out.eq
      rw [Nat.sub_self, boxR_zero] at heq
      have HB0 := Lib.hid HL.out.b
      by_cases hd : doneR r = 0
      · have HDC : Hid (decodeR b = .ok l) := Lib.hid (by rw [HDE.out, heq]; exact if_neg (by simpa using hd))
        rw [hd] at HDN
        clear hd heq
        go_wp2_with fail
        refine HDN.out.mono ?_
        rintro e w4 ⟨rfl, rfl⟩
        go_wp2_with fail
        go_ret2
        exact ⟨HB0.out, .inr ⟨l, _, M, HDC.out, rfl, HL.out.mo, fun y hy => by have := HL.out.mr y hy; have := HD.out; omega⟩⟩
      · have HDC : Hid (decodeR b = .error (doneR r)) := Lib.hid (by rw [HDE.out, heq]; exact if_pos hd)
        have e1 : (doneR r == 0) = false := by simpa using hd
        generalize doneR r = E at *
        clear hd heq
        go_wp2_with fail
        refine HDN.out.mono ?_
        rintro e w4 ⟨rfl, rfl⟩
        go_wp2_with fail
        go_ret2
        exact ⟨HB0.out, .inl ⟨E, HDC.out, rfl⟩⟩
end Mb
end Go.Proofs.Ytddoepaplbnlcaa

/- The walk of MailboxDecoding. -/
namespace Go.Proofs.Ytddoepaplbnlcaa
open Go.RowKit Go.Shelf
namespace Mb
open Wr Wi

/-- the box that was decoded and the reference's list -/
theorem both_dec {B : Nat} {l : List Msg} {v : Value} {M : List Nat} {w w' : World} (h : Bx [] B B l w) (hb : Below w.heap.size w w') (hm : Mo M l v w') (hM : ∀ y ∈ M, w.heap.size ≤ y) : Both 0 B B l v w' :=
  ⟨M, M, h.grow hb (fun y hy => .inr ⟨hM y hy, hm.lt y hy⟩), hm, fun _ hy => hy, Nat.zero_le _, fun _ _ => Nat.zero_le _⟩
theorem sameB_refl (b : List UInt8) : sameB b b = true := by unfold sameB; exact beq_self_eq_true b
set_option maxRecDepth 100000 in
set_option maxHeartbeats 4000000 in
theorem decoding_calls (A : Option Addr) (n c : Nat) (b : List UInt8) (w : World) (hn : b.length = n) (hnc : n ≤ c) (hcm : c ≤ maxLen) (hr : RB w A b) :
    Calls Try.prog 8 #[.slice A n c] w fun e w' => e = .returned (.bool true) ∧ Below w.heap.size w w' := by
  have HN := Lib.hid hn
  have HR := Lib.hid hr
  have HA := Lib.hid (awake_calls w)
  clear hn hr
  by_cases hbig : 2000 < n
  · have d1 : decide ((2000 : Int) < (n : Int)) = true := decide_eq_true (by omega)
    have d2 : decide (2000 < n) = true := decide_eq_true hbig
    clear hbig
    go_enter Try.func8, Try.ntmps8
    go_wp2_with fail
    refine HA.out.mono ?_
    rintro e w1 ⟨rfl, hb1⟩
    have HB1 := Lib.hid hb1
    clear hb1
    go_wp2_with fail
    go_ret
    exact ⟨rfl, HB1.out⟩
  · have d1 : decide ((2000 : Int) < (n : Int)) = false := decide_eq_false (by omega)
    have d2 : decide (2000 < n) = false := decide_eq_false hbig
    have hm : n ≤ 1000000 := by omega
    clear hbig
    go_enter Try.func8, Try.ntmps8
    go_wp2_with fail
    refine HA.out.mono ?_
    rintro e w1 ⟨rfl, hb1⟩
    have HB1 := Lib.hid hb1
    have HR1 := Lib.hid (RB.below HR.out hb1)
    have HD := Lib.hid (decode_calls A n c b w1 HN.out HR1.out hm)
    clear hb1 HA
    go_wp2_with fail
    refine HD.out.mono ?_
    rintro e w2 ⟨hb2, ⟨ec, hd, hne, rfl⟩ | ⟨l, B, hd, rfl, hB, hx⟩⟩
    · have HB2 := Lib.hid (HB1.out.trans (hb2.mono HB1.out.size))
      have HRD := Lib.hid (rdecode_calls A n c b w2 HN.out hnc hcm (RB.below HR1.out hb2))
      have HDD := Lib.hid hd
      have e1 : (ec == 0) = false := by simpa using hne
      clear hb2 hd hne HD
      go_wp2_with fail
      refine HRD.out.mono ?_
      rintro e w3 ⟨hb3, ⟨ec2, hd2, rfl⟩ | ⟨l2, v2, M2, hd2, _⟩⟩
      · have hec : ec2 = ec := by rw [HDD.out] at hd2; injection hd2 with h; exact h.symm
        subst hec
        have HB3 := Lib.hid (HB2.out.trans (hb3.mono HB2.out.size))
        clear hb3 hd2 HRD
        go_wp2_with fail
        go_ret
        exact ⟨rfl, HB3.out⟩
      · rw [HDD.out] at hd2; cases hd2
    · have HB2 := Lib.hid (HB1.out.trans (hb2.mono HB1.out.size))
      have HRD := Lib.hid (rdecode_calls A n c b w2 HN.out hnc hcm (RB.below HR1.out hb2))
      have HDD := Lib.hid hd
      have HX := Lib.hid hx
      have HR2 := Lib.hid (RB.below HR1.out hb2)
      clear hb2 hd hx hB HD
      go_wp2_with fail
      refine HRD.out.mono ?_
      rintro e w3 ⟨hb3, ⟨ec2, hd2, rfl⟩ | ⟨l2, v2, M2, hd2, rfl, hmo, hM⟩⟩
      · rw [HDD.out] at hd2; cases hd2
      · have hll : l2 = l := by rw [HDD.out] at hd2; injection hd2 with h; exact h.symm
        subst hll
        have hbo := both_dec HX.out hb3 hmo hM
        obtain ⟨A3, n3, c3, rfl⟩ := hbo.slice
        have HS := Lib.hid (same_calls B B l2 A3 n3 c3 w3 hbo)
        have HX3 := Lib.hid (HX.out.below hb3)
        have HR3 := Lib.hid (RB.below HR2.out hb3)
        have HB3 := Lib.hid (HB2.out.trans (hb3.mono HB2.out.size))
        have HCN := Lib.hid (decodeR_canon HDD.out).2
        clear hb3 hd2 hmo hM hbo HRD
        go_wp2_with fail
        refine HS.out.mono ?_
        rintro e w4 ⟨rfl, hb4⟩
        have HB4 := Lib.hid (HB3.out.trans (hb4.mono HB3.out.size))
        have HEN := Lib.hid (encode_calls [] B B l2 w4 (HX3.out.below hb4))
        have HR4 := Lib.hid (RB.below HR3.out hb4)
        clear hb4 HS
        go_wp2_with fail
        refine HEN.out.mono ?_
        rintro e w5 ⟨X, cx, kx, rfl, hkx, hob, hb5⟩
        have HB5 := Lib.hid (HB4.out.trans (hb5.mono HB4.out.size))
        have HSM := Lib.hid (Wi.same_calls X A kx n cx c (encL l2) b w5 hkx.symm HN.out hob.rb.1 (RB.below HR4.out hb5))
        rw [HCN.out, sameB_refl] at HSM
        clear hkx hob hb5 HEN
        go_wp2_with fail
        refine HSM.out.mono ?_
        rintro e w6 ⟨rfl, rfl⟩
        go_wp2_with fail
        go_ret
        exact ⟨rfl, HB5.out⟩
theorem decoding_row (W : World) (A : Option Addr) (n c : Nat) (b : List UInt8) (hn : b.length = n) (hnc : n ≤ c) (hcm : c ≤ maxLen) (hr : RB W A b) :
    Calls Try.prog 8 #[.slice A n c] W fun e w' => e = .returned (.bool true) ∧ Below W.heap.size W w' := decoding_calls A n c b W hn hnc hcm hr
end Mb
end Go.Proofs.Ytddoepaplbnlcaa

/- The walk of MailboxEncoding. -/
namespace Go.Proofs.Ytddoepaplbnlcaa
open Go.RowKit Go.Shelf
namespace Mb
open Wr Wi

theorem Bx.old {K K' : List Nat} {B g : Nat} {l : List Msg} {w : World} (h : Bx K B g l w) (hK : ∀ y ∈ K', y < B) (hB : B ≤ w.heap.size) : Bx K' B g l w := by
  obtain ⟨N, A, n, c, xs, h1, h2, h3, _⟩ := h
  refine ⟨N, A, n, c, xs, h1, h2, h3, fun y hy => ⟨Nat.lt_of_lt_of_le (hK y hy) hB, ?_, ?_⟩⟩
  · have := hK y hy
    have := h1.gB
    omega
  · intro off e
    have := hK y hy
    have := (h1.lts y off e).2
    omega
theorem encL_le {l : List Msg} (hi : Inv l) : (encL l).length ≤ 1000000 := by
  have h1 : ∀ t : List Msg, (∀ m ∈ t, valid m = true) → (encMs t).length ≤ 170 * t.length := fun t => by
    induction t with
    | nil => intro _; simp [encMs]
    | cons m t ih =>
      intro hv
      have h2 := encM_len m (hv m (.head _))
      have h3 := ih (fun x hx => hv x (.tail _ hx))
      rw [encMs_cons, List.length_append, List.length_cons]
      omega
  have h2 := h1 l hi.v
  have h3 := enc_le l.length
  have h4 := hi.n
  unfold encL
  rw [List.length_append]
  omega
def stepsL (l : List Msg) (os : List Ot) : List Msg := os.foldl stepL l
theorem stepsL_succ (l : List Msg) (os : List Ot) (k : Nat) (hk : k < os.length) : stepsL l (os.take (k + 1)) = stepL (stepsL l (os.take k)) os[k] := by
  unfold stepsL; rw [List.take_succ_eq_append_getElem hk, List.foldl_append]; rfl
set_option maxRecDepth 100000 in
set_option maxHeartbeats 4000000 in
theorem encoding_calls (N : List Nat) (A : Option Addr) (n c : Nat) (os : List Ot) (N2 : List Nat) (A2 : Option Addr) (n2 c2 : Nat) (os2 : List Ot) (w : World) (h : IsO w N A n c os) (h2 : IsO w N2 A2 n2 c2 os2) :
    Calls Try.prog 9 #[.slice A n c, .slice A2 n2 c2] w fun e w' => e = .returned (.bool true) ∧ Below w.heap.size w w' := by
  have hnm2 : n2 ≤ 9223372036854775807 := by have h1 := h2.nc; have h2 := h2.cm; unfold maxLen at h2; omega
  have HO := Lib.hid h
  have HP := Lib.hid h2
  have HA := Lib.hid (awake_calls w)
  clear h h2
  go_enter Try.func9, Try.ntmps9
  go_wp2_with fail
  refine HA.out.mono ?_
  rintro e w1 ⟨rfl, hb1⟩
  have HB1 := Lib.hid hb1
  have HWI := Lib.hid (wide_calls N A n c os w1 (HO.out.below hb1))
  clear hb1 HA
  go_wp2_with fail
  refine HWI.out.mono ?_
  rintro e w2 ⟨rfl, hb2⟩
  have HB2 := Lib.hid (HB1.out.trans (hb2.mono HB1.out.size))
  have HWJ := Lib.hid (wide_calls N2 A2 n2 c2 os2 w2 (HP.out.below HB2.out))
  clear hb2 HWI
  cases hwd : wideB os with
  | true =>
    clear hwd
    go_wp2_with fail
    go_ret
    exact ⟨rfl, HB2.out⟩
  | false =>
    have HW1 := Lib.hid (wideB_false hwd).2
    clear hwd
    go_wp2_with fail
    refine HWJ.out.mono ?_
    rintro e w3 ⟨rfl, hb3⟩
    have HB3 := Lib.hid (HB2.out.trans (hb3.mono HB2.out.size))
    clear hb3 HWJ
    cases hwe : wideB os2 with
    | true =>
      clear hwe
      go_wp2_with fail
      go_ret
      exact ⟨rfl, HB3.out⟩
    | false =>
      have HW2 := Lib.hid (wideB_false hwe).2
      have HR := Lib.hid (run_calls N A n c os w3 (HO.out.below HB3.out) (fun o ho => (HW1.out o ho).2))
      clear hwe
      go_wp2_with fail
      refine HR.out.mono ?_
      rintro e w4 ⟨A4, n4, c4, rfl, hbo, hb4⟩
      obtain ⟨B, HB⟩ : ∃ y, Hid (w3.heap.size = y) := ⟨_, rfl⟩
      obtain ⟨l, HLL⟩ : ∃ y, Hid (runL os = y) := ⟨_, rfl⟩
      rw [HB.out, HLL.out] at hbo
      rw [HB.out]
      have hi := hbo.inv
      have HI := Lib.hid hi
      have HBO := Lib.hid hbo
      have HB4 := Lib.hid (HB3.out.trans (hb4.mono HB3.out.size))
      have HSZ4 : Hid (B ≤ w4.heap.size) := Lib.hid (by rw [← HB.out]; exact hb4.size)
      obtain ⟨K, M, hx, hmo, hMK, _, hMR⟩ := hbo
      have HEN := Lib.hid (encode_calls K B B l w4 hx)
      have HMO := Lib.hid hmo
      have HMR := Lib.hid hMR
      clear hi hx hmo hMK hMR hb4 HR HLL
      go_upto_region 8 with (fail)
      go_wp2_with fail
      refine HEN.out.mono ?_
      rintro e w5 ⟨X, cx, kx, rfl, hkx, hob, hb5⟩
      have hxb := hob.rb
      have HRX := Lib.hid hxb.1
      have HKX := Lib.hid hkx
      have hlen : kx ≤ 1000000 := by rw [hkx]; exact encL_le HI.out
      have HD := Lib.hid (decode_calls X kx cx (encL l) w5 hkx.symm hxb.1 hlen)
      have HB5 := Lib.hid (HB4.out.trans (hb5.mono HB4.out.size))
      have HBO5 := Lib.hid (HBO.out.below hb5)
      have HMO5 := Lib.hid (HMO.out.below hb5)
      have HS5 := Lib.hid (Nat.le_trans HSZ4.out hb5.size)
      clear hkx hob hb5 hxb hlen HEN
      go_wp2_with fail
      refine HD.out.mono ?_
      rintro e w6 ⟨hb6, ⟨ec, hd, _⟩ | ⟨l2, C, hd, rfl, hC, hxc⟩⟩
      · rw [decodeR_back HI.out] at hd; cases hd
      · have hll : l2 = l := by rw [decodeR_back HI.out] at hd; injection hd with h; exact h.symm
        subst hll
        have HB6 := Lib.hid hb6
        have HXC := Lib.hid hxc
        have HC := Lib.hid hC
        have hcs : C < w6.heap.size := by obtain ⟨_, _, _, _, _, h1, _⟩ := hxc; exact h1.lt
        have HMO6 := Lib.hid (HMO5.out.below hb6)
        have HBC : Hid (Both B C C l2 (.slice A4 n4 c4) w6) := Lib.hid ⟨M, M, HXC.out.old (fun y hy => Nat.lt_of_lt_of_le (HMO5.out.lt y hy) hC) (Nat.le_of_lt hcs), HMO6.out, fun _ hy => hy, Nat.le_trans HS5.out hC, HMR.out⟩
        have HCS := Lib.hid (Nat.le_of_lt hcs)
        have HRX6 := Lib.hid (RB.below HRX.out hb6)
        have HBT6 := Lib.hid (HB5.out.trans (hb6.mono HB5.out.size))
        have HRE := Lib.hid (rencode_calls M l2 _ w6 HMO6.out HI.out.n HI.out.v)
        clear hb6 hxc hC hcs hd HD
        go_upto_region 10 with (fail)
        go_wp2_with fail
        refine HRE.out.mono ?_
        rintro e w7 ⟨X7, c7, k7, rfl, hk7, hob7, hb7⟩
        have HSM := Lib.hid (Wi.same_calls X X7 kx k7 cx c7 (encL l2) (encL l2) w7 HKX.out.symm hk7.symm (RB.below HRX6.out hb7) hob7.rb.1)
        rw [sameB_refl] at HSM
        have HB7 := Lib.hid hb7
        have HS1 := Lib.hid (same_calls C C l2 A4 n4 c4 w7 (HBC.out.below hb7))
        clear hk7 hob7 hb7 HRE
        go_wp2_with fail
        refine HSM.out.mono ?_
        rintro e w8 ⟨rfl, rfl⟩
        clear HSM
        go_wp2_with fail
        refine HS1.out.mono ?_
        rintro e w9 ⟨rfl, hb9⟩
        have HB9 := Lib.hid (HB7.out.trans (hb9.mono HB7.out.size))
        have HBC9 := Lib.hid (HBC.out.below HB9.out)
        have HT9 := Lib.hid (HBT6.out.trans (HB9.out.mono HBT6.out.size))
        have HC9 := Lib.hid (Nat.le_trans HCS.out HB9.out.size)
        have H59 := Lib.hid (HB6.out.trans (HB9.out.mono HB6.out.size))
        clear hb9 HS1
        go_upto_region 14 with (fail)
        go_wp2_with fail
        go_loopw [11, 12] (fun v i wr => ∃ j : Nat, ∃ A n c, j ≤ n2 ∧ i = .int .i64 j ∧ v = .slice A n c ∧ Both B C C (stepsL l2 (os2.take j)) (.slice A n c) wr ∧ Below C w9 wr) (fun _ i _ => n2 - (intOf i).toNat)
        case atStart => exact ⟨0, _, _, _, by omega, rfl, rfl, HBC9.out, Below.refl _ _⟩
        case round =>
          obtain ⟨j, A1, n1, c1, hj, rfl, rfl, hbo, hbw⟩ := hrel
          have HBJ := Lib.hid hbo
          have HBW := Lib.hid hbw
          have hsz := Nat.le_trans HC9.out hbw.size
          clear hbo hbw
          have j0 : (0 : Int) ≤ (j : Int) := by omega
          have HWR : Hid (Below w.heap.size w wr) := Lib.hid (HT9.out.trans (HBW.out.mono (Nat.le_trans HB5.out.size HC.out)))
          by_cases hlt : j < n2
          · have j1 : (j : Int) < (n2 : Int) := by omega
            have hjx : j < os2.length := by rw [HP.out.hn]; exact hlt
            have HPW := Lib.hid (HP.out.below HWR.out)
            obtain ⟨bb, off, e, hbl, x0, x1, x2, x3, x4, x5, x6⟩ := rd7 HPW.out.rd j hjx
            subst e
            have HST := Lib.hid (step_calls C C (stepsL l2 (os2.take j)) _ os2[j] N2 wr HBJ.out hsz (HPW.out.ok _ (List.getElem_mem hjx)) (Nat.le_trans (HW2.out _ (List.getElem_mem hjx)).2 (by omega)) HPW.out.nl)
            rw [← stepsL_succ l2 os2 j hjx] at HST
            rw [show (os2[j].cells).toArray = #[.int .u8 (os2[j].k.toNat : Int), .int .i64 os2[j].x.m.a1, .int .i64 os2[j].x.m.a2, .int .i64 os2[j].x.m.i1, .int .i64 os2[j].x.m.i2, .string os2[j].x.m.me, .slice os2[j].x.a os2[j].x.m.ar.length os2[j].x.c] from rfl] at HST
            generalize os2[j] = z at *
            go_wp2_with fail
            refine HST.out.mono ?_
            rintro e w10 ⟨v3, rfl, hbo3, hb10⟩
            obtain ⟨A3, n3, c3, rfl⟩ := hbo3.slice
            have HBO3 := Lib.hid hbo3
            have HB10 := Lib.hid (HBW.out.trans hb10)
            clear hbo3 hb10 x0 x1 x2 x3 x4 x5 x6 HST
            go_wp2_with fail
            go_roundw
            case rel => exact ⟨j + 1, _, _, _, by omega, by go_num, rfl, HBO3.out, HB10.out⟩
            case measure => simp [intOf]; omega
          · have HS2 := Lib.hid (same_calls C C _ A1 n1 c1 wr HBJ.out)
            have H5R := Lib.hid (H59.out.trans (HBW.out.mono HC.out))
            clear hj
            go_upto_region 20 with (fail)
            go_wp2_with fail
            refine HS2.out.mono ?_
            rintro e w11 ⟨rfl, hb11⟩
            have HW11 := Lib.hid (HWR.out.trans (hb11.mono HWR.out.size))
            have HS3 := Lib.hid (same_calls B B l2 A4 n4 c4 w11 (HBO5.out.below (H5R.out.trans (hb11.mono H5R.out.size))))
            clear hb11 HS2
            go_wp2_with fail
            refine HS3.out.mono ?_
            rintro e w12 ⟨rfl, hb12⟩
            have HW12 := Lib.hid (HW11.out.trans (hb12.mono HW11.out.size))
            clear hb12 HS3
            go_wp2_with fail
            go_ret
            exact ⟨rfl, HW12.out⟩
theorem encoding_row (W : World) (A : Option Addr) (n c : Nat) (os : List Ot) (h : IsO W (List.range W.heap.size) A n c os) (A2 : Option Addr) (n2 c2 : Nat) (os2 : List Ot) (h2 : IsO W (List.range W.heap.size) A2 n2 c2 os2) :
    Calls Try.prog 9 #[.slice A n c, .slice A2 n2 c2] W fun e w' => e = .returned (.bool true) ∧ Below W.heap.size W w' := encoding_calls _ A n c os _ A2 n2 c2 os2 W h h2
end Mb
end Go.Proofs.Ytddoepaplbnlcaa
