/- The walks of refmeshref19: Bytes, Fill, Data, Same, Few. -/
import Derived.Test.YtoallpinpeolfaaDkU
namespace Go.Proofs.Ytoallpinpeolfaa
open Go.RowKit
namespace Dk

/-- the head of a loop that appends bytes -/
def Grow (w : World) (l : List UInt8) (v : Value) (wr : World) : Prop := ∃ X c, v = .slice X l.length c ∧ wr.ownsRow w.heap.size 5 1 (.slice X l.length c) l.length (l.map vb) ∧ Below w.heap.size w wr

set_option maxRecDepth 100000 in
set_option maxHeartbeats 1000000 in
theorem bytes_calls (x : UInt8) (n : Int) (w : World) (hn : n ≤ 100000) : Calls Try.prog 18 #[vb x, .int .i64 n] w (NewL w (List.replicate n.toNat x)) := by
  go_enter Try.func18, Try.ntmps18
  go_wp2_with fail
  have H0 : Hid (Grow w (List.replicate 0 x) (.slice (some ⟨w.heap.size, 0, none⟩) 0 0) (w.alloc (.cells #[] 5))) := ⟨_, _, rfl, own_empty _ _ _ _ rfl (Nat.le_refl _), below1 _ _⟩
  generalize w.alloc (.cells #[] 5) = w1 at *
  go_loopw [5, 6] (fun v i wr => ∃ k : Nat, k ≤ n.toNat ∧ i = .int .i64 k ∧ Grow w (List.replicate k x) v wr) (fun _ i _ => n.toNat - (intOf i).toNat)
  case atStart => exact ⟨0, by omega, rfl, H0.out⟩
  case round =>
    obtain ⟨k, hk, rfl, X, c, rfl, ho, hb⟩ := hrel
    rw [List.length_replicate] at ho ⊢
    have HO := Lib.hid ho
    have HB := Lib.hid hb
    clear ho hb
    by_cases hlt : (k : Int) < n
    · have d1 : decide ((k : Int) < n) = true := by simpa using hlt
      go_wp2_with (at_builtin; refine wpList_apps _ rfl (.tmp 13) (.tmp 15) 30 rfl w.heap.size 5 (.int .u8 0) 1 Try.underlying30 info_u8 rfl (.slice X k c) k _ rfl (own_below HO.out (below1 _ _)) (some ⟨wr.heap.size, 0, none⟩) 1 1 [vb x] rfl rfl (Rd.one _ _ _) (vb_one [x]) (by simp only [maxLen]; omega) (by omega) (Nat.le_trans HB.out.size (by simp)) ?_; intro X2 c2 w5 hown5 happ5; have HO5 := Lib.hid hown5; have HB5 := Lib.hid ((HB.out.trans ((below1 wr _).mono HB.out.size)).trans (happ5.below (own_below HO.out (below1 _ _)) (Nat.le_trans HB.out.size (by simp)))); clear hown5 happ5)
      have HG : Hid (Grow w (List.replicate (k + 1) x) (.slice X2 (k + 1) c2) w5) := by
        refine ⟨X2, c2, by rw [List.length_replicate], ?_, HB5.out⟩
        rw [List.length_replicate]
        have := HO5.out
        rw [List.replicate_succ', List.map_append]; simpa using this
      go_roundw
      case rel => exact ⟨k + 1, by omega, by go_num, HG.out⟩
      case measure => simp [intOf]; omega
    · have d1 : decide ((k : Int) < n) = false := by simpa using hlt
      have HK : Hid (k = n.toNat) := by show _ = _; omega
      have HF : Hid (NewL w (List.replicate n.toNat x) (.returned (.slice X k c)) wr) := by
        rw [HK.out] at HO ⊢
        exact ⟨X, c, by rw [List.length_replicate], by rw [List.length_replicate]; exact HO.out, HB.out⟩
      go_wp2_with fail
      go_ret
      exact HF.out

/-- seed, seed + 1 and so on -/
def fillB (x : UInt8) (n : Nat) : List UInt8 := (List.range n).map fun i => x + UInt8.ofNat i
theorem fillB_len (x : UInt8) (n : Nat) : (fillB x n).length = n := by simp [fillB]
theorem fillB_succ (x : UInt8) (n : Nat) : fillB x (n + 1) = fillB x n ++ [x + UInt8.ofNat n] := by simp [fillB, List.range_succ]
set_option maxRecDepth 100000 in
set_option maxHeartbeats 1000000 in
theorem fill_calls (x : UInt8) (s : Nat) (w : World) (hs : s ≤ 1000) : Calls Try.prog 25 #[vb x, .int .i64 (s : Int)] w (NewL w (fillB x (64 * s))) := by
  have hx := x.toNat_lt
  have hm : 64 * (s : Int) = ((64 * s : Nat) : Int) := by omega
  obtain ⟨N, HN⟩ : ∃ x, Hid (64 * s = x) := ⟨_, rfl⟩
  rw [HN.out] at hm ⊢
  have hN : N ≤ 64000 := by have := HN.out; omega
  go_enter Try.func25, Try.ntmps25
  go_wp2_with fail
  have H0 : Hid (Grow w (fillB x 0) (.slice (some ⟨w.heap.size, 0, none⟩) 0 0) (w.alloc (.cells #[] 5))) := ⟨_, _, rfl, own_empty _ _ _ _ rfl (Nat.le_refl _), below1 _ _⟩
  generalize w.alloc (.cells #[] 5) = w1 at *
  go_loopw [5, 6] (fun v i wr => ∃ k : Nat, k ≤ N ∧ i = .int .i64 k ∧ Grow w (fillB x k) v wr) (fun _ i _ => N - (intOf i).toNat)
  case atStart => exact ⟨0, by omega, rfl, H0.out⟩
  case round =>
    obtain ⟨k, hk, rfl, X, c, rfl, ho, hb⟩ := hrel
    rw [fillB_len] at ho ⊢
    have HO := Lib.hid ho
    have HB := Lib.hid hb
    clear ho hb
    by_cases hlt : k < N
    · obtain ⟨y, HY⟩ : ∃ y, Hid (y = x + UInt8.ofNat k) := ⟨_, rfl⟩
      have HYV : Hid ([Value.int .u8 (((x.toNat : Int) + (k : Int)) % 256)] = [vb y]) := by
        show _ = _
        rw [HY.out]
        have : ((x + UInt8.ofNat k).toNat : Int) = ((x.toNat : Int) + (k : Int)) % 256 := by
          rw [UInt8.toNat_add, UInt8.toNat_ofNat']; omega
        show _ = [Value.int .u8 ((x + UInt8.ofNat k).toNat : Int)]
        rw [this]
      go_wp2_with (at_builtin; refine wpList_apps _ rfl (.tmp 14) (.tmp 19) 30 rfl w.heap.size 5 (.int .u8 0) 1 Try.underlying30 info_u8 rfl (.slice X k c) k _ rfl (own_below HO.out (below1 _ _)) (some ⟨wr.heap.size, 0, none⟩) 1 1 [.int .u8 (((x.toNat : Int) + (k : Int)) % 256)] rfl rfl (Rd.one _ _ _) (by simp [Value.oneCell']) (by simp only [maxLen]; omega) (by omega) (Nat.le_trans HB.out.size (by simp)) ?_; intro X2 c2 w5 hown5 happ5; have HO5 := Lib.hid hown5; have HB5 := Lib.hid ((HB.out.trans ((below1 wr _).mono HB.out.size)).trans (happ5.below (own_below HO.out (below1 _ _)) (Nat.le_trans HB.out.size (by simp)))); clear hown5 happ5)
      have HG : Hid (Grow w (fillB x (k + 1)) (.slice X2 (k + 1) c2) w5) := by
        refine ⟨X2, c2, by rw [fillB_len], ?_, HB5.out⟩
        rw [fillB_len]
        have := HO5.out
        rw [HYV.out, HY.out] at this
        rw [fillB_succ, List.map_append]; simpa using this
      go_roundw
      case rel => exact ⟨k + 1, by omega, by go_num, HG.out⟩
      case measure => simp [intOf]; omega
    · have HK : Hid (k = N) := by show _ = _; omega
      have HF : Hid (NewL w (fillB x N) (.returned (.slice X k c)) wr) := by
        rw [HK.out] at HO ⊢
        exact ⟨X, c, by rw [fillB_len], by rw [fillB_len]; exact HO.out, HB.out⟩
      go_wp2_with fail
      go_ret
      exact HF.out

/-- the strings are equal -/
def sameB (a b : List UInt8) : Bool := a == b
set_option maxRecDepth 100000 in
theorem same_calls (A B : Option Addr) (n m ca cb : Nat) (a b : List UInt8) (w : World) (hn : a.length = n) (hm : b.length = m) (ra : RB w A a) (rb : RB w B b) :
    Calls Try.prog 17 #[.slice A n ca, .slice B m cb] w fun e w' => e = .returned (.bool (sameB a b)) ∧ w = w' := by
  have h1 := run_str (P := Try.prog) (w := w) n ca 30 5 9 Try.underlying30 Try.underlying5 Try.underlying9 hn ra
  have h2 := run_str (P := Try.prog) (w := w) m cb 30 5 9 Try.underlying30 Try.underlying5 Try.underlying9 hm rb
  clear hn hm ra rb
  go_enter Try.func17, Try.ntmps17
  go_wp2_with fail
  go_ret
  exact ⟨rfl, rfl⟩

/-- a call of the law -/
structure Cl where
  kind : Int
  sec : Int
  n : Int
  seed : UInt8
  sv : List Int
/-- the call in memory: the address and the capacity of Survive -/
structure Cm where
  c : Cl
  a : Option Addr
  cap : Nat
def Cm.cells (m : Cm) : List Value := [.int .i64 m.c.kind, .int .i64 m.c.sec, .int .i64 m.c.n, vb m.c.seed, .slice m.a m.c.sv.length m.cap]
def Cm.val (m : Cm) : Value := .agg #[.int .i64 m.c.kind, .int .i64 m.c.sec, .int .i64 m.c.n, vb m.c.seed, .slice m.a m.c.sv.length m.cap]
structure Cm.ok (w : World) (m : Cm) : Prop where
  rd : Rd w m.a (m.c.sv.map (Value.int .i64))
  s1 : -9223372036854775808 ≤ m.c.sec
  s2 : m.c.sec ≤ 9223372036854775807
  n2 : m.c.n ≤ 9223372036854775807
  sl : m.c.sv.length ≤ 9223372036854775807
/-- the data of a call -/
def dataB (c : Cl) : List UInt8 := if c.kind = 1 then List.replicate (max 0 (min c.n 300)).toNat c.seed else fillB c.seed (64 * (max 0 (min c.n 6)).toNat)
theorem dataB_len (c : Cl) : (dataB c).length ≤ 384 := by
  unfold dataB; split
  · rw [List.length_replicate]; omega
  · rw [fillB_len]; omega
set_option maxRecDepth 100000 in
theorem data_calls (m : Cm) (w : World) : Calls Try.prog 13 #[m.val] w (NewL w (dataB m.c)) := by
  obtain ⟨⟨kd, sc, n, sd, sv⟩, a, cap⟩ := m
  unfold Cm.val dataB
  simp only
  by_cases h1 : kd = 1
  · subst h1
    rw [if_pos rfl]
    have HF := fun w' => Lib.hid (bytes_calls sd (max 0 (min n 300)) w' (by omega))
    have hb1 := below1 w (.cells #[.int .i64 1, .int .i64 sc, .int .i64 n, vb sd, .slice a sv.length cap] 36)
    have HB1 := Lib.hid hb1
    generalize sv.length = sl at *
    clear hb1
    go_enter Try.func13, Try.ntmps13
    go_wp2_with fail
    refine (HF _).out.mono ?_
    rintro e w1 ⟨X, c, rfl, ho, hb⟩
    have HP : Hid (NewL w (List.replicate (max 0 (min n 300)).toNat sd) (.returned (.slice X (List.replicate (max 0 (min n 300)).toNat sd).length c)) w1) := ⟨X, c, rfl, own_base ho (by simp), HB1.out.trans (hb.mono (by simp))⟩
    generalize (List.replicate (max 0 (min n 300)).toNat sd).length = z at *
    clear ho hb
    go_wp2_with fail
    go_ret
    exact HP.out
  · rw [if_neg h1]
    have q1 : (kd == 1) = false := by simpa using h1
    have HF := fun w' => Lib.hid (fill_calls sd (max 0 (min n 6)).toNat w' (by omega))
    have hc : (((max 0 (min n 6)).toNat : Nat) : Int) = max 0 (min n 6) := by omega
    rw [hc] at HF
    have hb1 := below1 w (.cells #[.int .i64 kd, .int .i64 sc, .int .i64 n, vb sd, .slice a sv.length cap] 36)
    have HB1 := Lib.hid hb1
    generalize sv.length = sl at *
    clear hb1 h1 hc
    go_enter Try.func13, Try.ntmps13
    go_wp2_with fail
    refine (HF _).out.mono ?_
    rintro e w1 ⟨X, c, rfl, ho, hb⟩
    have HP : Hid (NewL w (fillB sd (64 * (max 0 (min n 6)).toNat)) (.returned (.slice X (fillB sd (64 * (max 0 (min n 6)).toNat)).length c)) w1) := ⟨X, c, rfl, own_base ho (by simp), HB1.out.trans (hb.mono (by simp))⟩
    generalize (fillB sd (64 * (max 0 (min n 6)).toNat)).length = z at *
    clear ho hb
    go_wp2_with fail
    go_ret
    exact HP.out
end Dk
end Go.Proofs.Ytoallpinpeolfaa
