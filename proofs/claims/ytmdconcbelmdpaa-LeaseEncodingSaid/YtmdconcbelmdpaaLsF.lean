/- The walks of lease.Overdue and its reference. -/
import Derived.Test.YtmdconcbelmdpaaLsE
import Derived.Test.YtmdconcbelmdpaaInts
namespace Go.Proofs.Ytmdconcbelmdpaa
open Go.RowKit
namespace Ls
open In (vi conB)

/-- is machine i + 1 overdue? -/
def dueB (L : St) (tick : Int) (zs : List Int) (i : Nat) : Bool := decide (0 < tick) && decide (L.t i < tick - 4) && conB zs ((i : Int) + 1)
/-- those of the first k machines that are overdue -/
def od (L : St) (tick : Int) (zs : List Int) (k : Nat) : List Int := ((List.range k).filter (dueB L tick zs)).map fun i : Nat => (i : Int) + 1
theorem od_len (L : St) (tick : Int) (zs : List Int) (k : Nat) : (od L tick zs k).length ≤ k := by
  unfold od; rw [List.length_map]; exact Nat.le_trans (List.length_filter_le _ _) (by simp)
theorem od_yes (L : St) (tick : Int) (zs : List Int) (k : Nat) (h : dueB L tick zs k = true) : od L tick zs (k + 1) = od L tick zs k ++ [(k : Int) + 1] := by
  unfold od; rw [List.range_succ, List.filter_append, List.map_append]; simp [h]
theorem od_no (L : St) (tick : Int) (zs : List Int) (k : Nat) (h : dueB L tick zs k = false) : od L tick zs (k + 1) = od L tick zs k := by
  unfold od; rw [List.range_succ, List.filter_append, List.map_append]; simp [h]

/-- a new slice with these numbers -/
def NewInts (w : World) (xs : List Int) (e : Ending) (w' : World) : Prop :=
  ∃ X c, e = .returned (.slice X xs.length c) ∧ w'.ownsRow w.heap.size 3 1 (.slice X xs.length c) xs.length (xs.map vi) ∧ Below w.heap.size w w'

/-- the slice that is being filled -/
def Fill (w : World) (xs : List Int) (v : Value) (wr : World) : Prop :=
  ∃ X c, v = .slice X xs.length c ∧ wr.ownsRow w.heap.size 3 1 (.slice X xs.length c) xs.length (xs.map vi) ∧ Below w.heap.size w wr

theorem vi_one (l : List Int) : ∀ u ∈ l.map vi, u.oneCell' = true := by
  intro u hu
  obtain ⟨_, _, rfl⟩ := List.mem_map.1 hu
  rfl

set_option maxRecDepth 100000 in
set_option maxHeartbeats 1000000 in
theorem overdue_calls (g : Nat) (L : St) (tick : Int) (C : Option Addr) (n cap : Nat) (zs : List Int) (w : World) (h : IsL w g L) (hn : zs.length = n) (hm : n ≤ 9223372036854775807) (hr : Rd w C (zs.map vi))
    (ht : tick ≤ 9223372036854775807) :
    Calls Try.prog 14 #[.pointer (some ⟨g, 0, none⟩), .int .i64 tick, .slice C n cap] w (NewInts w (od L tick zs L.m)) := by
  have HI := Lib.hid h
  have HN := Lib.hid hn
  have HR := Lib.hid hr
  have hm8 := h.2
  clear h hn hr
  go_enter Try.func14, Try.ntmps14
  go_wp2_with fail
  go_loopw [7, 8] (fun v i wr => ∃ k : Nat, k ≤ L.m ∧ i = .int .i64 ((k : Int) + 1) ∧ Fill w (od L tick zs k) v wr) (fun _ i _ => L.m + 1 - (intOf i).toNat)
  case atStart => exact ⟨0, Nat.zero_le _, rfl, none, 0, rfl, ⟨rfl, .inl ⟨rfl, rfl⟩⟩, Below.refl _ _⟩
  case round =>
    obtain ⟨k, hk, rfl, X, c, rfl, hown, hb⟩ := hrel
    have HO := Lib.hid hown
    have HB := Lib.hid hb
    have hmach := (HI.out.below hb).machines
    have hlen := od_len L tick zs k
    by_cases hlt : k < L.m
    · have hd0 : decide ((k : Int) + 1 ≤ (L.m : Int)) = true := by simp; omega
      have c1 := (HI.out.below hb).tick k (by omega)
      clear hown hb
      by_cases h1 : 0 < tick
      · have d1 : decide (0 < tick) = true := by simpa using h1
        by_cases h2 : L.t k < tick - 4
        · have d2 : decide (L.t k < tick - 4) = true := by simpa using h2
          have HC := Lib.hid (In.contains_calls C n cap zs ((k : Int) + 1) wr HN.out hm (HR.out.below HB.out))
          cases h3 : conB zs ((k : Int) + 1)
          · have HE := Lib.hid (od_no L tick zs k (by simp [dueB, h3]))
            rw [h3] at HC
            clear h3
            generalize od L tick zs k = xs at *
            go_wp2_with (go_at_call 29; refine HC.out.mono ?_; rintro e w' ⟨rfl, rfl⟩)
            go_roundw
            case rel => exact ⟨k + 1, by omega, by go_num, by rw [HE.out]; exact ⟨X, c, rfl, HO.out, HB.out⟩⟩
            case measure => simp [intOf]; omega
          · have HE := Lib.hid (od_yes L tick zs k (by simp [dueB, h3, d1, d2]))
            rw [h3] at HC
            clear h3
            generalize od L tick zs k = xs at *
            go_wp2_with (first | (go_at_call 29; refine HC.out.mono ?_; rintro e w' ⟨rfl, rfl⟩) | (at_builtin; refine wpList_apps _ rfl (.tmp 37) (.tmp 39) 25 rfl w.heap.size 3 (.int .i64 0) 8 Try.underlying25 info_int rfl _ xs.length (xs.map vi) rfl (HO.out.alloc _) (some ⟨wr.heap.size, 0, none⟩) 1 1 [vi ((k : Int) + 1)] rfl rfl (Rd.one wr _ _) (by simp [Value.oneCell']) (by simp only [maxLen]; omega) (by omega) (Nat.le_trans HB.out.size (by simp)) ?_; intro X' c' w1 hown1 happ1; have HO1 := Lib.hid hown1; have HA1 := Lib.hid happ1; clear hown1 happ1))
            go_roundw
            case rel =>
              refine ⟨k + 1, by omega, by go_num, ?_⟩
              rw [HE.out]
              have hl : (xs ++ [(k : Int) + 1]).length = xs.length + 1 := by simp
              refine ⟨X', c', by rw [hl], ?_, ?_⟩
              · rw [hl, List.map_append]; exact HO1.out
              · exact (HB.out.alloc HB.out.size _).trans (HA1.out.below (HO.out.alloc _) (Nat.le_trans HB.out.size (by simp)))
            case measure => simp [intOf]; omega
        · have d2 : decide (L.t k < tick - 4) = false := by simpa using h2
          have HE := Lib.hid (od_no L tick zs k (by simp [dueB, d2]))
          generalize od L tick zs k = xs at *
          go_wp2_with fail
          go_roundw
          case rel => exact ⟨k + 1, by omega, by go_num, by rw [HE.out]; exact ⟨X, c, rfl, HO.out, HB.out⟩⟩
          case measure => simp [intOf]; omega
      · have d1 : decide (0 < tick) = false := by simpa using h1
        have HE := Lib.hid (od_no L tick zs k (by simp [dueB, d1]))
        generalize od L tick zs k = xs at *
        go_wp2_with fail
        go_roundw
        case rel => exact ⟨k + 1, by omega, by go_num, by rw [HE.out]; exact ⟨X, c, rfl, HO.out, HB.out⟩⟩
        case measure => simp [intOf]; omega
    · have hd0 : decide ((k : Int) + 1 ≤ (L.m : Int)) = false := by simp; omega
      have hkm : k = L.m := by omega
      have HK : Hid (od L tick zs L.m = od L tick zs k) := by show _ = _; rw [hkm]
      clear hown hb hkm
      generalize od L tick zs k = xs at *
      go_wp2_with fail
      go_ret
      rw [HK.out]
      exact ⟨X, c, rfl, HO.out, HB.out⟩

/-- the reference's slice that is being filled, and its box -/
def RFill (w : World) (bx : Array Value) (xs : List Int) (v : Value) (wr : World) : Prop :=
  ∃ X c, v = .slice X xs.length c ∧ wr.ownsRow (w.heap.size + 1) 3 1 (.slice X xs.length c) xs.length (xs.map vi) ∧ Below w.heap.size w wr ∧ wr.heap[w.heap.size]? = some (.cells bx 27 (0, 0))

theorem con_take (zs : List Int) (z : Int) (j : Nat) (hj : j < zs.length) : conB (zs.take (j + 1)) z = (conB (zs.take j) z || zs[j] == z) := by
  unfold conB
  rw [List.take_succ_eq_append_getElem hj, Bool.eq_iff_iff]
  simp only [decide_eq_true_eq, List.mem_append, List.mem_singleton, Bool.or_eq_true, beq_iff_eq]
  constructor <;> rintro (h | h)
  · exact .inl h
  · exact .inr h.symm
  · exact .inl h
  · exact .inr h.symm

set_option maxRecDepth 100000 in
set_option maxHeartbeats 2000000 in
theorem roverdue_calls (v : Value) (L : St) (tick : Int) (C : Option Addr) (n cap : Nat) (zs : List Int) (w : World) (h : IsR w v L) (hn : zs.length = n) (hm : n ≤ 9223372036854775807) (hr : Rd w C (zs.map vi))
    (ht : tick ≤ 9223372036854775807) :
    Calls Try.prog 15 #[v, .int .i64 tick, .slice C n cap] w (NewInts w (od L tick zs L.m)) := by
  obtain ⟨hm8, A, ca, B, cb, rfl, hA, _⟩ := h
  have HN := Lib.hid hn
  have HR := Lib.hid hr
  have HA := Lib.hid hA
  clear hn hr hA
  go_enter Try.func15, Try.ntmps15
  go_wp2_with fail
  go_loopw [7, 8] (fun v i wr => ∃ k : Nat, k ≤ L.m ∧ i = .int .i64 ((k : Int) + 1) ∧ RFill w #[.slice A L.m ca, .slice B L.m cb, .int .i64 L.c] (od L tick zs k) v wr) (fun _ i _ => L.m + 1 - (intOf i).toNat)
  case atStart => exact ⟨0, Nat.zero_le _, rfl, _, 0, rfl, own_empty _ _ _ _ (by simp) (by simp), below2 _ _ _, (Below.heap_alloc _ _ _ (by simp)).trans (heap_alloc_new _ _)⟩
  case round =>
    obtain ⟨k, hk, rfl, X, c, rfl, hown, hb, hbx⟩ := hrel
    have HO := Lib.hid hown
    have HB := Lib.hid hb
    have HX := Lib.hid hbx
    have m0 : wr.cell? ⟨w.heap.size, 0, none⟩ = some (.slice A L.m ca) := (cell_of_row _ _ 0 _ _ _ hbx).trans rfl
    have hlen := od_len L tick zs k
    have hwr : w.heap.size + 1 ≤ wr.heap.size := (Array.getElem?_eq_some_iff.1 hbx).1
    clear hown hb hbx
    obtain ⟨wo, rfl⟩ : ∃ wo : World, wo = wr := ⟨_, rfl⟩
    by_cases hlt : k < L.m
    · have hd0 : decide ((k : Int) + 1 ≤ (L.m : Int)) = true := by simp; omega
      go_wp2_with fail
      go_loop [9, 10] (fun a i => ∃ j : Nat, j ≤ n ∧ i = .int .i64 j ∧ a = .bool (conB (zs.take j) ((k : Int) + 1))) (fun _ i => n - (intOf i).toNat)
      case atStart => exact ⟨0, Nat.zero_le _, rfl, rfl⟩
      case round =>
        obtain ⟨j, hj, rfl, rfl⟩ := hrel
        by_cases hlt2 : j < n
        · have hjl : j < zs.length := by have := HN.out; omega
          obtain ⟨b, off, rfl, _, hc⟩ := Rd.cells (Rd.below HR.out HB.out) (by simp; omega)
          have h1 := hc j (vi zs[j]) (by simp [hjl])
          have i0 : (0 : Int) ≤ (j : Int) := by omega
          have i1 : (j : Int) < (n : Int) := by omega
          have HT := Lib.hid (con_take zs ((k : Int) + 1) j hjl)
          clear hc
          generalize conB (zs.take j) ((k : Int) + 1) = p at *
          cases p
          · generalize zs[j] = zj at *
            go_wp2_with fail
            go_round
            case rel => exact ⟨j + 1, by omega, by go_num, by rw [HT.out]; rfl⟩
            case measure => simp [intOf]; omega
          · go_wp2_with fail
            go_round
            case rel => exact ⟨j + 1, by omega, by go_num, by rw [HT.out]; rfl⟩
            case measure => simp [intOf]; omega
        · obtain rfl : j = n := by omega
          have HT : Hid (zs.take j = zs) := by show _ = _; rw [List.take_of_length_le (by have := HN.out; omega)]
          rw [HT.out]
          obtain ⟨_, _, e1, _, _, _, rA⟩ := own_form (own_below HA.out HB.out)
          cases e1
          obtain ⟨ba, oa, rfl, ha, cA⟩ := Rd.cells rA (by rw [ints_length]; omega)
          have x1 := cA k _ (ints_get L.t L.m k hlt)
          have i0 : (0 : Int) ≤ (k : Int) := by omega
          have i1 : (k : Int) < (L.m : Int) := by omega
          clear rA cA
          cases h3 : conB zs ((k : Int) + 1)
          · have HE := Lib.hid (od_no L tick zs k (by simp [dueB, h3]))
            clear h3
            generalize od L tick zs k = xs at *
            go_wp2_with fail
            go_roundw
            case rel => exact ⟨k + 1, by omega, by go_num, by rw [HE.out]; exact ⟨X, c, rfl, HO.out, HB.out, HX.out⟩⟩
            case measure => simp [intOf]; omega
          · by_cases h1 : 0 < tick
            · have d1 : decide (0 < tick) = true := by simpa using h1
              by_cases h2 : L.t k < tick - 4
              · have d2 : decide (L.t k < tick - 4) = true := by simpa using h2
                have HE := Lib.hid (od_yes L tick zs k (by simp [dueB, h3, d1, d2]))
                clear h3
                generalize od L tick zs k = xs at *
                go_wp2_with (at_builtin; refine wpList_apps _ rfl (.tmp 50) (.tmp 52) 25 rfl (w.heap.size + 1) 3 (.int .i64 0) 8 Try.underlying25 info_int rfl _ xs.length (xs.map vi) rfl (HO.out.alloc _) (some ⟨wo.heap.size, 0, none⟩) 1 1 [vi ((k : Int) + 1)] rfl rfl (Rd.one wo _ _) (by simp [Value.oneCell']) (by simp only [maxLen]; omega) (by omega) (Nat.le_trans hwr (by simp)) ?_; intro X' c' w1 hown1 happ1; have HO1 := Lib.hid hown1; have HA1 := Lib.hid happ1; clear hown1 happ1)
                go_roundw
                case rel =>
                  refine ⟨k + 1, by omega, by go_num, ?_⟩
                  rw [HE.out]
                  have hl : (xs ++ [(k : Int) + 1]).length = xs.length + 1 := by simp
                  have hbb := HA1.out.below (HO.out.alloc _) (Nat.le_trans hwr (by simp))
                  refine ⟨X', c', by rw [hl], ?_, ?_, ?_⟩
                  · rw [hl, List.map_append]; exact HO1.out
                  · exact (HB.out.alloc HB.out.size _).trans (hbb.mono (by omega))
                  · exact (hbb.block _ (by omega)).trans ((Below.heap_alloc _ _ _ (by omega)).trans HX.out)
                case measure => simp [intOf]; omega
              · have d2 : decide (L.t k < tick - 4) = false := by simpa using h2
                have HE := Lib.hid (od_no L tick zs k (by simp [dueB, d2]))
                clear h3
                generalize od L tick zs k = xs at *
                go_wp2_with fail
                go_roundw
                case rel => exact ⟨k + 1, by omega, by go_num, by rw [HE.out]; exact ⟨X, c, rfl, HO.out, HB.out, HX.out⟩⟩
                case measure => simp [intOf]; omega
            · have d1 : decide (0 < tick) = false := by simpa using h1
              have HE := Lib.hid (od_no L tick zs k (by simp [dueB, d1]))
              clear h3
              generalize od L tick zs k = xs at *
              go_wp2_with fail
              go_roundw
              case rel => exact ⟨k + 1, by omega, by go_num, by rw [HE.out]; exact ⟨X, c, rfl, HO.out, HB.out, HX.out⟩⟩
              case measure => simp [intOf]; omega
    · have hd0 : decide ((k : Int) + 1 ≤ (L.m : Int)) = false := by simp; omega
      have hkm : k = L.m := by omega
      have HK : Hid (od L tick zs L.m = od L tick zs k) := by show _ = _; rw [hkm]
      clear hkm
      generalize od L tick zs k = xs at *
      go_wp2_with fail
      go_ret
      rw [HK.out]
      exact ⟨X, c, rfl, own_base HO.out (by omega), HB.out⟩
end Ls
end Go.Proofs.Ytmdconcbelmdpaa
