/- Merged: JoD Open OpenS OpenE JoO. -/
import Derived.OpenShut
import Derived.ShutString
import Derived.ChangeOld
import Derived.Deep.Slices
import Derived.Deep.Fields
import Derived.ChangeSame
import Derived.Test.YtmdpmpfjldgalaaMM
import Derived.Test.YtmdpmpfjldgalaaRows
import Derived.Test.YtmdpmpfjldgalaaMA
/- The walks of the law's play and of JournalCalls. -/
namespace Go.Proofs.Ytmdpmpfjldgalaa
open Go.RowKit
namespace Jn
open Dk Wi Wr

/-- an undisturbed journal stays one -/
theorem do_play {D : St} {j : Jr} (h : Play D j) (k : Nat) (hk : k < 3) (d : List UInt8) (nn : Int) (sv : List Int) :
    ∃ j', doO D (some j) k d sv = some j' ∧ doM D (some j) j k d sv = j' ∧ Play (doD D (some j) k d nn sv) j' ∧ (doD D (some j) k d nn sv).n = D.n := by
  have hx : ¬ j.x = true := by rw [h.jx]; simp
  have h3 : k = 0 ∨ k = 1 ∨ k = 2 := by omega
  rcases h3 with rfl | rfl | rfl
  · show ∃ j', some (appJ D j d) = some j' ∧ appJ D j d = j' ∧ Play (appD D j d) j' ∧ (appD D j d).n = D.n
    refine ⟨_, rfl, rfl, ?_, appD_n D j d⟩
    cases hf : apFull D j d with
    | false => obtain ⟨_, h2, h3, _⟩ := h.append d hf; rw [h2]; exact h3
    | true =>
      have e1 : appD D j d = D := by unfold appD; rw [if_neg hx, if_pos hf]
      have e2 : appJ D j d = j := by unfold appJ; rw [if_neg hx, if_pos hf]
      rw [e1, e2]; exact h
  · show ∃ j', some (chkJ D j d) = some j' ∧ chkJ D j d = j' ∧ Play (chkD D j d) j' ∧ (chkD D j d).n = D.n
    refine ⟨_, rfl, rfl, ?_, chkD_n D j d⟩
    cases hf : ckFull D j d with
    | false => obtain ⟨_, h2, h3, _⟩ := h.checkpoint d hf; rw [h2]; exact h3
    | true =>
      have e1 : chkD D j d = D := by unfold chkD; rw [if_neg hx, if_pos hf]
      have e2 : chkJ D j d = j := by unfold chkJ; rw [if_neg hx, if_pos hf]
      rw [e1, e2]; exact h
  · show ∃ j', openJ D = some j' ∧ (openJ D).getD j0 = j' ∧ Play (openD D) j' ∧ (openD D).n = D.n
    obtain ⟨h1, h2⟩ := h.open
    rw [h1, h2]
    exact ⟨j, rfl, rfl, h, rfl⟩

/-- the pair, whatever its state -/
def AnyB (w0 : World) (x N : Nat) (w : World) : Prop := ∃ D o jm, Bo w0 [] x D o jm w ∧ (∀ j, o = some j → jm = j) ∧ Calm D ∧ D.n = N
/-- the pair, undisturbed -/
def PlayB (w0 : World) (x N : Nat) (w : World) : Prop := ∃ D j, Bo w0 [] x D (some j) j w ∧ Play D j ∧ D.n = N
theorem AnyB.do {w0 w : World} {x N : Nat} (h : AnyB w0 x N w) (hN : N ≤ 100) (m : Om) (hm : m.ok w0) (hd : m.d.length ≤ 400) :
    Calls Try.prog 13 #[.pointer (some ⟨x, 0, none⟩), opval m.kd m.a m.d.length m.c m.nn m.z m.sv.length m.zc] w fun e w' => e = .returned (.bool true) ∧ AnyB w0 x N w' := by
  obtain ⟨D, o, jm, hb, hag, hc, hn⟩ := h
  refine (do_calls w0 w [] x D o jm m.kd m.a m.d.length m.c m.nn m.z m.sv.length m.zc m.d m.sv hb hag rfl (by omega) (fun u hu => RB.below hm.rd hu) hm.n1 hm.n2 rfl hm.rz (by omega) hc).mono ?_
  rintro e w' ⟨rfl, h1, _⟩
  obtain ⟨k1, k2, k3⟩ := do_keeps D o jm (m.kd.toNat % 5) m.d m.nn m.sv hag hc hm.n2
  exact ⟨rfl, _, _, _, h1, k3, k1, k2.trans hn⟩
theorem PlayB.do {w0 w : World} {x N : Nat} (h : PlayB w0 x N w) (m : Om) (hm : m.ok w0) (hd : m.d.length ≤ 400) (hk : m.kd.toNat % 5 < 3) :
    Calls Try.prog 13 #[.pointer (some ⟨x, 0, none⟩), opval m.kd m.a m.d.length m.c m.nn m.z m.sv.length m.zc] w fun e w' => e = .returned (.bool true) ∧ PlayB w0 x N w' := by
  obtain ⟨D, j, hb, hp, hn⟩ := h
  refine (do_calls w0 w [] x D (some j) j m.kd m.a m.d.length m.c m.nn m.z m.sv.length m.zc m.d m.sv hb (fun j h => by injection h) rfl (by omega) (fun u hu => RB.below hm.rd hu) hm.n1 hm.n2 rfl hm.rz (hp.hn) hp.calm).mono ?_
  rintro e w' ⟨rfl, h1, _⟩
  obtain ⟨j', k1, k2, k3, k4⟩ := do_play hp (m.kd.toNat % 5) hk m.d m.nn m.sv
  rw [k1, k2] at h1
  exact ⟨rfl, _, _, h1, k3, k4.trans hn⟩
theorem AnyB.b {w0 w : World} {x N : Nat} (h : AnyB w0 x N w) : Below w0.heap.size w0 w := by
  obtain ⟨D, o, jm, hb, _⟩ := h; exact hb.lt.2.2.2.2
theorem PlayB.b {w0 w : World} {x N : Nat} (h : PlayB w0 x N w) : Below w0.heap.size w0 w := by
  obtain ⟨D, o, hb, _⟩ := h; exact hb.lt.2.2.2.2
theorem start_any {w w' : World} {n x : Nat} (h1 : 1 ≤ n) (h2 : n ≤ 100) (h : Bo w [] x (openD (newD n)) (openJ (newD n)) ((openJ (newD n)).getD j0) w') : AnyB w x n w' :=
  ⟨_, _, _, h, fun j h => by rw [h]; rfl, openD_calm _ (calm_new n h1 (by omega)), openD_n _⟩
theorem start_play {w w' : World} {n x : Nat} (h1 : 2 ≤ n) (h2 : n ≤ 100) (h : Bo w [] x (openD (newD n)) (openJ (newD n)) ((openJ (newD n)).getD j0) w') : PlayB w x n w' := by
  obtain ⟨o1, o2, o3⟩ := Play.new n h1 h2
  rw [o1] at h
  exact ⟨_, _, h, o2, o3⟩

set_option maxRecDepth 100000 in
set_option maxHeartbeats 2000000 in
theorem calls_law (w : World) (sb : UInt8) (A : Option Addr) (n ca : Nat) (ms : List Om) (hn : ms.length = n) (hr : RdO w A ms) (hnm : n ≤ 9223372036854775807) :
    Calls Try.prog 3 #[vb sb, .slice A n ca] w fun e w' => e = .returned (.bool true) ∧ Below w.heap.size w w' := by
  have HN := Lib.hid hn
  have HR := Lib.hid hr
  have HFEW := Lib.hid (ofew_calls A n ca 20 ms w hn hr hnm)
  rw [show ((20 : Nat) : Int) = 20 from rfl] at HFEW
  obtain ⟨m0, HM0⟩ : ∃ y, Hid (sb.toNat % 40 = y) := ⟨_, rfl⟩
  have hm40 : m0 < 40 := by have := HM0.out; omega
  have e40 : ((sb.toNat : Int) % 40) = (m0 : Int) := by have := HM0.out; omega
  clear hn hr
  unfold vb
  go_enter Try.func3, Try.ntmps3
  go_wp2_with fail
  (with_reducible refine HFEW.out.mono ?_)
  rintro e w1 ⟨rfl, hb1⟩
  have HB1 := Lib.hid hb1
  cases hf : fewO ms 20 with
  | false =>
    have HAW := Lib.hid (oawake_calls w1)
    clear hb1 HFEW
    go_wp2_with fail
    (with_reducible refine HAW.out.mono ?_)
    rintro e w2 ⟨rfl, hb2⟩
    have HF := Lib.hid (HB1.out.trans (hb2.mono HB1.out.size))
    clear hb2
    go_wp2_with fail
    go_ret
    exact ⟨rfl, HF.out⟩
  | true =>
    obtain ⟨hall, hn20⟩ := fewO_of hf
    have HALL := Lib.hid hall
    have HR1 := Lib.hid (HR.out.below HB1.out)
    have HST := start_calls (1 + m0) w1 (by omega) (by omega)
    rw [show ((1 + m0 : Nat) : Int) = 1 + (m0 : Int) by omega] at HST
    have HSTT := Lib.hid HST
    clear hf hall hb1 HFEW HST
    go_wp2_with fail
    (with_reducible refine HSTT.out.mono ?_)
    rintro e w2 ⟨x, rfl, hbo⟩
    have HAB := Lib.hid (start_any (by omega) (by omega) hbo)
    clear hbo HSTT
    go_wp2_with fail
    go_loopw [6, 7] (fun ok i wr => ∃ k : Nat, k ≤ n ∧ ok = .bool true ∧ i = .int .i64 k ∧ AnyB w1 x (1 + m0) wr) (fun _ i _ => n - (intOf i).toNat)
    case atStart => exact ⟨0, by omega, rfl, rfl, HAB.out⟩
    case round =>
      obtain ⟨k, hk, rfl, rfl, ho⟩ := hrel
      have HO := Lib.hid ho
      clear ho
      have j0 : (0 : Int) ≤ (k : Int) := by omega
      by_cases hlt : k < n
      · have j1 : (k : Int) < (n : Int) := by omega
        have hkl : k < ms.length := by have := HN.out; omega
        obtain ⟨b, off, rfl, _, x0, x1, x2, x3⟩ := (HR1.out.below HO.out.b).cells k hkl
        have HS := Lib.hid (HO.out.do (by omega) ms[k] (HR1.out.ok _ (List.getElem_mem hkl)) (HALL.out _ (List.getElem_mem hkl)).1)
        unfold opval at HS
        generalize ms[k] = m at *
        obtain ⟨kd, a, c, d, nn, z, zc, sv⟩ := m
        simp only at *
        obtain ⟨dl, HDL⟩ : ∃ y, Hid (d.length = y) := ⟨_, rfl⟩
        obtain ⟨zl, HZL⟩ : ∃ y, Hid (sv.length = y) := ⟨_, rfl⟩
        rw [HDL.out] at x1 HS
        rw [HZL.out] at x3 HS
        unfold vb at x0 HS
        go_wp2_with fail
        (with_reducible refine HS.out.mono ?_)
        rintro e w3 ⟨rfl, h3⟩
        have H3 := Lib.hid h3
        clear h3 x0 x1 x2 x3 HS
        go_wp2_with fail
        go_roundw
        case rel => exact ⟨k + 1, by omega, rfl, by go_num, H3.out⟩
        case measure => simp [intOf]; omega
      · have HAW := Lib.hid (oawake_calls wr)
        have HBR := Lib.hid (HB1.out.trans (HO.out.b.mono HB1.out.size))
        go_wp2_with fail
        (with_reducible refine HAW.out.mono ?_)
        rintro e w3 ⟨rfl, hb3⟩
        have HF := Lib.hid (HBR.out.trans (hb3.mono HBR.out.size))
        clear hb3
        go_wp2_with fail
        go_ret
        exact ⟨rfl, HF.out⟩
set_option maxRecDepth 100000 in
set_option maxHeartbeats 2000000 in
theorem play_calls (w : World) (sb : UInt8) (A : Option Addr) (n ca : Nat) (ms : List Om) (hn : ms.length = n) (hr : RdO w A ms) (hall : ∀ m ∈ ms, m.d.length ≤ 400) (hnm : n ≤ 9223372036854775807) :
    Calls Try.prog 20 #[.int .u8 (sb.toNat : Int), .slice A n ca] w fun e w' => ∃ x N, 2 ≤ N ∧ N ≤ 41 ∧ e = .returned (.tuple #[.pointer (some ⟨x, 0, none⟩), .bool true]) ∧ PlayB w x N w' := by
  have HN := Lib.hid hn
  have HR := Lib.hid hr
  have HALL := Lib.hid hall
  obtain ⟨m0, HM0⟩ : ∃ y, Hid (sb.toNat % 40 = y) := ⟨_, rfl⟩
  have hm40 : m0 < 40 := by have := HM0.out; omega
  have e40 : ((sb.toNat : Int) % 40) = (m0 : Int) := by have := HM0.out; omega
  have HST := start_calls (2 + m0) w (by omega) (by omega)
  rw [show ((2 + m0 : Nat) : Int) = 2 + (m0 : Int) by omega] at HST
  have HSTT := Lib.hid HST
  clear hn hr hall HST
  go_enter Try.func20, Try.ntmps20
  go_wp2_with fail
  (with_reducible refine HSTT.out.mono ?_)
  rintro e w2 ⟨x, rfl, hbo⟩
  have HAB := Lib.hid (start_play (by omega) (by omega) hbo)
  clear hbo HSTT
  go_wp2_with fail
  go_loopw [7, 8] (fun ok i wr => ∃ k : Nat, k ≤ n ∧ ok = .bool true ∧ i = .int .i64 k ∧ PlayB w x (2 + m0) wr) (fun _ i _ => n - (intOf i).toNat)
  case atStart => exact ⟨0, by omega, rfl, rfl, HAB.out⟩
  case round =>
    obtain ⟨k, hk, rfl, rfl, ho⟩ := hrel
    have HO := Lib.hid ho
    clear ho
    have j0 : (0 : Int) ≤ (k : Int) := by omega
    by_cases hlt : k < n
    · have j1 : (k : Int) < (n : Int) := by omega
      have hkl : k < ms.length := by have := HN.out; omega
      obtain ⟨b, off, rfl, _, x0, x1, x2, x3⟩ := (HR.out.below HO.out.b).cells k hkl
      have HS := Lib.hid (HO.out.do ms[k] (HR.out.ok _ (List.getElem_mem hkl)) (HALL.out _ (List.getElem_mem hkl)))
      unfold opval at HS
      generalize ms[k] = m at *
      obtain ⟨kd, a, c, d, nn, z, zc, sv⟩ := m
      simp only at *
      obtain ⟨dl, HDL⟩ : ∃ y, Hid (d.length = y) := ⟨_, rfl⟩
      obtain ⟨zl, HZL⟩ : ∃ y, Hid (sv.length = y) := ⟨_, rfl⟩
      rw [HDL.out] at x1 HS
      rw [HZL.out] at x3 HS
      unfold vb at x0 HS
      obtain ⟨kk, HKK⟩ : ∃ y, Hid (kd.toNat % 5 = y) := ⟨_, rfl⟩
      have e5 : ((kd.toNat : Int) % 5) = (kk : Int) := by have := HKK.out; omega
      rw [HKK.out] at HS
      by_cases h3 : kk < 3
      · have d3 : decide ((kk : Int) < 3) = true := by simp; omega
        have HS3 := Lib.hid (HS.out h3)
        clear HS
        go_wp2_with fail
        (with_reducible refine HS3.out.mono ?_)
        rintro e w3 ⟨rfl, h3⟩
        have H3 := Lib.hid h3
        clear h3 x0 x1 x2 x3 HS3
        go_wp2_with fail
        go_roundw
        case rel => exact ⟨k + 1, by omega, rfl, by go_num, H3.out⟩
        case measure => simp [intOf]; omega
      · have d3 : decide ((kk : Int) < 3) = false := by simp; omega
        clear HS
        go_wp2_with fail
        go_roundw
        case rel => exact ⟨k + 1, by omega, rfl, by go_num, HO.out⟩
        case measure => simp [intOf]; omega
    · have HF : Hid (∃ x' N, 2 ≤ N ∧ N ≤ 41 ∧ Ending.returned (.tuple #[.pointer (some ⟨x, 0, none⟩), .bool true]) = Ending.returned (.tuple #[.pointer (some ⟨x', 0, none⟩), .bool true]) ∧ PlayB w x' N wr) := ⟨x, 2 + m0, by omega, by omega, rfl, HO.out⟩
      obtain ⟨D, j, hbo, _, _⟩ := HO.out
      obtain ⟨g, p, N, A, ca, X, cx, P, sa, sc, ra, rc, ms', h⟩ := hbo
      have hp : ∃ q, p = some q := by
        rcases h.dj with ⟨h1, _⟩ | ⟨_, q, _, h2, _⟩
        · cases h1
        · exact ⟨q, h2⟩
      obtain ⟨q, rfl⟩ := hp
      have c1 : wr.cell? ⟨x, 1, none⟩ = some (.pointer (some ⟨q, 0, none⟩)) := (cell_of_row _ _ 1 _ _ _ h.hd).trans rfl
      have HDR : Hid (∀ z, PlayB w x (2 + m0) (wr.drewN z)) := fun z => by
        obtain ⟨D, j, hbo, h2, h3⟩ := HO.out
        exact ⟨D, j, Bo2.below hbo (below_drewN (Below.refl _ _) z), h2, h3⟩
      clear h
      go_upto_region 8 with (fail)
      go_quiet (fail)
      go_wp2_with fail
      go_ret2
      exact ⟨x, 2 + m0, by omega, by omega, rfl, HDR.out _⟩
end Jn
end Go.Proofs.Ytmdpmpfjldgalaa

/- Arguments opened to the words of Mem. -/
namespace Go.Proofs.Ytmdpmpfjldgalaa
open Go.ChangeShapes Go.WideShapes Go.ChangeAt Go.RowKit
open Go.ChangeMaps (open_string shut_string)

theorem own : ownKnob Try.prog.godebug = none := by kernel_rfl
theorem laidOut : laidOutB Try.prog = true := by kernel_rfl

theorem wf_u64 {n : Int} (h : (Lit.int .u64 n).wf = true) : ∃ x : BitVec 64, n = (x.toNat : Int) := by
  have hb := bounds_u64 h
  refine ⟨BitVec.ofNat 64 n.toNat, ?_⟩
  rw [BitVec.toNat_ofNat, Nat.mod_eq_of_lt (by omega)]; omega
theorem wf_u8 {n : Int} (h : (Lit.int .u8 n).wf = true) : ∃ x : UInt8, n = (x.toNat : Int) := by
  have hb := bounds_u8 h
  refine ⟨UInt8.ofNat n.toNat, ?_⟩
  rw [UInt8.toNat_ofNat', Nat.mod_eq_of_lt (by omega)]; omega

section
variable {H : Type} {enc : TypeId × Value → H} {P : Program} {W : World} {b : Nat} {sp : Nat → Bool} {hd : Bool}

theorem open_row {k : IntKind} {t e : TypeId} {r : Reach} {b0 : Nat} {v : Value} {d : DataW H} {p : List MemPlace} (ht : P.underlying t = some (.slice e)) (he : P.underlying e = some (.int k)) (hc : P.cellsOf e = 1)
    (hv : Value.okWide P W r b0 t v) (h : DataW.Trod enc P W b sp hd t v d p) :
    ∃ (A : Option Addr) (n cap : Nat) (zs : List Int), v = .slice A n cap ∧ n ≤ cap ∧ cap ≤ maxLen ∧ zs.length = n ∧ Rd W A (zs.map (Value.int k)) ∧ ∀ z ∈ zs, (Lit.int k z).wf = true := by
  obtain ⟨A, n, cap, rfl⟩ := okWide_slice ht hv
  obtain ⟨fuel, hf⟩ := h
  rcases open_ints ht he hc hf with ⟨hcs, _⟩ | ⟨x, l, c, zs, hcs, _, hl, hm, hz, _, hcell, hwz⟩
  · simp [Value.cells] at hcs
    obtain ⟨rfl, rfl, rfl⟩ := hcs
    exact ⟨none, 0, 0, [], rfl, Nat.le_refl _, by simp [maxLen], rfl, Rd.nil, by simp⟩
  · simp [Value.cells] at hcs
    obtain ⟨rfl, rfl, rfl⟩ := hcs
    have hzl : n ≤ zs.length := by rw [hz]; split <;> omega
    refine ⟨_, n, cap, zs.take n, rfl, hl, hm, by simp; omega, ?_, fun z hz => hwz z (List.mem_of_mem_take hz)⟩
    intro i u hu
    have hi : i < n := by have := (List.getElem?_eq_some_iff.1 hu).1; simp at this; omega
    have hi' : i < zs.length := by omega
    have hc0 := hcell i hi'
    have hu' : u = .int k (zs.getD i 0) := by
      rw [List.getElem?_map, List.getElem?_take, if_pos hi, List.getElem?_eq_getElem hi'] at hu
      simp only [Option.map_some, Option.some.injEq] at hu
      rw [← hu, List.getD_eq_getElem?_getD, List.getElem?_eq_getElem hi']; rfl
    obtain ⟨blk, off, spot⟩ := x
    have hsp : spot = none := by
      have h0 := hcell 0 (by omega)
      simpa [Addr.add] using World.cell?_spot h0
    subst hsp
    refine ⟨blk, off, rfl, ?_⟩
    rw [← addr_add, hc0, hu']

theorem open_bytes {t e : TypeId} {r : Reach} {b0 : Nat} {v : Value} {d : DataW H} {p : List MemPlace} (ht : P.underlying t = some (.slice e)) (he : P.underlying e = some (.int .u8)) (hc : P.cellsOf e = 1)
    (hv : Value.okWide P W r b0 t v) (h : DataW.Trod enc P W b sp hd t v d p) :
    ∃ (A : Option Addr) (n cap : Nat) (l : List UInt8), v = .slice A n cap ∧ n ≤ cap ∧ cap ≤ maxLen ∧ l.length = n ∧ RB W A l := by
  obtain ⟨A, n, cap, zs, rfl, h1, h2, h3, h4, h5⟩ := open_row ht he hc hv h
  refine ⟨A, n, cap, zs.map (fun z => UInt8.ofNat z.toNat), rfl, h1, h2, by simpa using h3, ?_⟩
  have : (zs.map (fun z => UInt8.ofNat z.toNat)).map vb = zs.map (Value.int .u8) := by
    rw [List.map_map]
    apply List.map_congr_left
    intro z hz
    have hb := bounds_u8 (h5 z hz)
    simp only [Function.comp, vb]
    rw [UInt8.toNat_ofNat', Nat.mod_eq_of_lt (by omega)]
    congr 1; omega
  unfold RB
  rw [this]; exact h4
end
end Go.Proofs.Ytmdpmpfjldgalaa

/- Arguments that are slices of structs, opened to the words of Mem. -/
namespace Go.Proofs.Ytmdpmpfjldgalaa
open Go.ChangeShapes Go.WideShapes Go.ChangeAt Go.RowKit Go.Deep

theorem flatten_rows {α : Type} (f : Nat → α) (s n : Nat) : ((List.range n).map fun i => (List.range s).map fun j => f (i * s + j)).flatten = (List.range (n * s)).map f := by
  induction n with
  | zero => simp
  | succ n ih =>
    rw [List.range_succ, List.map_append, List.flatten_append, ih, Nat.succ_mul, List.range_add, List.map_append]
    simp [Function.comp_def]

/-- a list of rows that are each of a kind -/
theorem rows_of {α β : Type} {g : β → α} {Q : β → Prop} (rows : List α) (h : ∀ r ∈ rows, ∃ c, r = g c ∧ Q c) : ∃ cs : List β, rows = cs.map g ∧ ∀ c ∈ cs, Q c := by
  induction rows with
  | nil => exact ⟨[], rfl, by simp⟩
  | cons r rows ih =>
    obtain ⟨cs, h1, h2⟩ := ih fun r hr => h r (List.mem_cons_of_mem _ hr)
    obtain ⟨c, h3, h4⟩ := h r List.mem_cons_self
    exact ⟨c :: cs, by rw [h1, h3]; rfl, by
      intro x hx
      rcases List.mem_cons.1 hx with rfl | hx
      · exact h4
      · exact h2 x hx⟩

section
variable {H : Type} {enc : TypeId × Value → H} {P : Program} {W : World} {b : Nat} {sp : Nat → Bool} {hd : Bool}
theorem open_structs {t e : TypeId} {fs : Array Field} {r : Reach} {b0 : Nat} {v : Value} {d : DataW H} {p : List MemPlace} (ht : P.underlying t = some (.slice e)) (he : P.underlying e = some (.struct fs))
    (hone : oneCellFields P fs = true) (hC : P.cellsOf e = fs.size) (hpos : 0 < fs.size) (hv : Value.okWide P W r b0 t v) (h : DataW.Trod enc P W b sp hd t v d p) :
    ∃ (A : Option Addr) (n cap : Nat) (rows : List (List Value)), v = .slice A n cap ∧ n ≤ cap ∧ cap ≤ maxLen ∧ rows.length = n ∧ Rd W A rows.flatten ∧
      ∀ r ∈ rows, r.length = fs.size ∧ ∀ (j : Nat) (f : Field), fs[j]? = some f → ∃ u y k, r[j]? = some u ∧ DataW.trod enc P W b sp hd k f.type [u] = some y := by
  obtain ⟨A, n, cap, rfl⟩ := okWide_slice ht hv
  obtain ⟨fuel, hf⟩ := h
  rcases open_slice ht hf with ⟨hcs, _⟩ | ⟨a, len, cp, m, k, D, Pl, hcs, _, hl, hm, hmm, hx, hi⟩
  · simp [Value.cells] at hcs
    obtain ⟨rfl, rfl, rfl⟩ := hcs
    exact ⟨none, 0, 0, [], rfl, Nat.le_refl _, by simp [maxLen], rfl, Rd.nil, by simp⟩
  · simp [Value.cells] at hcs
    obtain ⟨rfl, rfl, rfl⟩ := hcs
    have hnm : n ≤ m := by rw [hmm]; split <;> omega
    have key : ∀ i, i < n → ∀ j f, fs[j]? = some f → ∃ u y k, W.cell? (a.add (i * fs.size + j)) = some u ∧ DataW.trod enc P W b sp hd k f.type [u] = some y := by
      intro i hin j f hj
      obtain ⟨cs', hc, ht'⟩ := hi i (by omega)
      rw [hC] at hc
      obtain ⟨ys, n', hn', hy, hlen, hyl, hfd⟩ := DataW.trod_struct he ht'
      obtain ⟨_, hcl, hat⟩ := World.cells?_some hc
      obtain ⟨ho, hk⟩ := hone_of hone j f hj
      have hjl : j < fs.size := (Array.getElem?_eq_some_iff.1 hj).1
      have hcell := hat j hjl
      have h1 := hfd j f hj
      rw [ho, hk] at h1
      have hone' : (cs'.drop j).take 1 = [cs'[j]'(by omega)] := by
        rw [List.drop_eq_getElem_cons (by omega)]
        rfl
      rw [hone'] at h1
      have hys : ys[j]? = some (ys[j]'(by omega)) := List.getElem?_eq_getElem (by omega)
      exact ⟨_, _, n', by rw [← Go.Deep.add_add, hcell]; exact List.getElem?_eq_getElem (by omega), h1.trans hys⟩
    let F : Nat → Value := fun q => (W.cell? (a.add q)).getD undef
    refine ⟨_, n, cap, (List.range n).map fun i => (List.range fs.size).map fun j => F (i * fs.size + j), rfl, hl, hm, by simp, ?_, ?_⟩
    · rw [flatten_rows]
      have hall : ∀ q, q < n * fs.size → ∃ u, W.cell? (a.add q) = some u := by
        intro q hq
        have h1 : q / fs.size < n := Nat.div_lt_of_lt_mul (by rw [Nat.mul_comm]; exact hq)
        have h2 : q % fs.size < fs.size := Nat.mod_lt _ hpos
        obtain ⟨u, _, _, hu, _⟩ := key (q / fs.size) h1 (q % fs.size) _ (Array.getElem?_eq_getElem h2)
        refine ⟨u, ?_⟩
        rw [← hu]; congr 2
        rw [Nat.mul_comm]; exact (Nat.div_add_mod q fs.size).symm
      by_cases hn0 : 0 < n * fs.size
      · obtain ⟨blk, off, spot⟩ := a
        have hsp : spot = none := by
          obtain ⟨u, hu⟩ := hall 0 hn0
          simpa [Addr.add] using World.cell?_spot hu
        subst hsp
        refine Rd.mk fun q u hu => ?_
        have hq : q < n * fs.size := by simpa using (List.getElem?_eq_some_iff.1 hu).1
        obtain ⟨u', hu'⟩ := hall q hq
        simp [hq, F, hu'] at hu
        rw [← addr_add, hu', hu]
      · rw [show n * fs.size = 0 by omega]; exact Rd.nil
    · intro r hr
      simp only [List.mem_map, List.mem_range] at hr
      obtain ⟨i, hin, rfl⟩ := hr
      refine ⟨by simp, fun j f hj => ?_⟩
      have hjl : j < fs.size := (Array.getElem?_eq_some_iff.1 hj).1
      obtain ⟨u, y, k', hu, hty⟩ := key i hin j f hj
      exact ⟨u, y, k', by simp [hjl, F, hu], hty⟩
end
end Go.Proofs.Ytmdpmpfjldgalaa

/- Arguments that are slices of one-cell elements of any kind, and slices of calls of a disk. -/
namespace Go.Proofs.Ytmdpmpfjldgalaa
open Go.ChangeShapes Go.WideShapes Go.ChangeAt Go.RowKit Go.Deep

section
variable {H : Type} {enc : TypeId × Value → H} {P : Program} {W : World} {b : Nat} {sp : Nat → Bool} {hd : Bool}

/-- a slice of integers as an element -/
theorem open_ints_cell {k : IntKind} {t e : TypeId} {fuel : Nat} {u : Value} {x : DataW H × List MemPlace} (ht : P.underlying t = some (.slice e)) (he : P.underlying e = some (.int k)) (hc : P.cellsOf e = 1)
    (hf : DataW.trod enc P W b sp hd fuel t [u] = some x) : ∃ (A : Option Addr) (cap : Nat) (zs : List Int), u = .slice A zs.length cap ∧ zs.length ≤ cap ∧ cap ≤ maxLen ∧ Rd W A (zs.map (Value.int k)) ∧ ∀ z ∈ zs, (Lit.int k z).wf = true := by
  rcases open_ints ht he hc hf with ⟨hcs, _⟩ | ⟨a, n, cap, zs, hcs, _, hl, hm, hz, _, hcell, hwz⟩
  · simp at hcs
    subst hcs
    exact ⟨none, 0, [], rfl, Nat.le_refl _, by simp [maxLen], Rd.nil, by simp⟩
  · simp at hcs
    subst hcs
    have hzl : n ≤ zs.length := by rw [hz]; split <;> omega
    have hll : (zs.take n).length = n := by simp; omega
    refine ⟨some a, cap, zs.take n, by rw [hll], by rw [hll]; exact hl, hm, ?_, fun z hz => hwz z (List.mem_of_mem_take hz)⟩
    intro i u hu
    have hi : i < n := by have := (List.getElem?_eq_some_iff.1 hu).1; simp at this; omega
    have hi' : i < zs.length := by omega
    have hc0 := hcell i hi'
    have hu' : u = .int k (zs.getD i 0) := by
      rw [List.getElem?_map, List.getElem?_take, if_pos hi, List.getElem?_eq_getElem hi'] at hu
      simp only [Option.map_some, Option.some.injEq] at hu
      rw [← hu, List.getD_eq_getElem?_getD, List.getElem?_eq_getElem hi']; rfl
    obtain ⟨blk, off, spot⟩ := a
    have hsp : spot = none := by
      have h0 := hcell 0 (by omega)
      simpa [Addr.add] using World.cell?_spot h0
    subst hsp
    exact ⟨blk, off, rfl, by rw [← addr_add, hc0, hu']⟩

theorem open_elems {β : Type} (g : β → Value) (Q : β → Prop) {t e : TypeId} {r : Reach} {b0 : Nat} {v : Value} {d : DataW H} {p : List MemPlace} (ht : P.underlying t = some (.slice e)) (hc : P.cellsOf e = 1)
    (hel : ∀ (fuel : Nat) (u : Value) (x : DataW H × List MemPlace), DataW.trod enc P W b sp hd fuel e [u] = some x → ∃ r : β, u = g r ∧ Q r) (hv : Value.okWide P W r b0 t v) (h : DataW.Trod enc P W b sp hd t v d p) :
    ∃ (A : Option Addr) (n cap : Nat) (rows : List β), v = .slice A n cap ∧ n ≤ cap ∧ cap ≤ maxLen ∧ rows.length = n ∧ Rd W A (rows.map g) ∧ ∀ r ∈ rows, Q r := by
  obtain ⟨A, n, cap, rfl⟩ := okWide_slice ht hv
  obtain ⟨fuel, hf⟩ := h
  rcases open_slice ht hf with ⟨hcs, _⟩ | ⟨a, len, cp, m, k, D, Pl, hcs, _, hl, hm, hmm, hx, hi⟩
  · simp [Value.cells] at hcs
    obtain ⟨rfl, rfl, rfl⟩ := hcs
    exact ⟨none, 0, 0, [], rfl, Nat.le_refl _, by simp [maxLen], rfl, Rd.nil, by simp⟩
  · simp [Value.cells] at hcs
    obtain ⟨rfl, rfl, rfl⟩ := hcs
    have hnm : n ≤ m := by rw [hmm]; split <;> omega
    have key : ∀ i, i < n → ∃ r : β, W.cell? (a.add i) = some (g r) ∧ Q r := by
      intro i hin
      obtain ⟨cs', hcc, ht'⟩ := hi i (by omega)
      rw [hc, Nat.mul_one] at hcc
      obtain ⟨_, hcl, hat⟩ := World.cells?_some hcc
      match cs', hcl with
      | [u], _ =>
        obtain ⟨r, hr, hok⟩ := hel _ _ _ ht'
        refine ⟨r, ?_, hok⟩
        have := hat 0 (by omega)
        rw [Go.Deep.add_add, Nat.add_zero] at this
        rw [this, ← hr]; rfl
    have hall : ∃ rows : List β, rows.length = n ∧ ∀ i (hi : i < rows.length), W.cell? (a.add i) = some (g rows[i]) ∧ Q rows[i] := by
      clear hl hm hmm hx hi hnm hf hv
      induction n with
      | zero => exact ⟨[], rfl, by simp⟩
      | succ n ih =>
        obtain ⟨rows, h1, h2⟩ := ih fun i hi => key i (by omega)
        obtain ⟨r, h3, h4⟩ := key n (by omega)
        refine ⟨rows ++ [r], by simp [h1], fun i hi => ?_⟩
        by_cases hin : i < rows.length
        · rw [List.getElem_append_left hin]; exact h2 i hin
        · have : i = n := by simp at hi; omega
          subst this
          have e : (rows ++ [r])[i] = r := by simp [← h1]
          rw [e]; exact ⟨h3, h4⟩
    obtain ⟨rows, h1, h2⟩ := hall
    refine ⟨_, n, cap, rows, rfl, hl, hm, h1, ?_, fun r hr => ?_⟩
    · by_cases hn0 : 0 < n
      · obtain ⟨blk, off, spot⟩ := a
        have hsp : spot = none := by
          obtain ⟨u, _⟩ := h2 0 (by omega)
          simpa [Addr.add] using World.cell?_spot u
        subst hsp
        refine Rd.mk fun i u hu => ?_
        have hi : i < rows.length := by simpa using (List.getElem?_eq_some_iff.1 hu).1
        have := (h2 i hi).1
        rw [addr_add] at this
        rw [this]
        simp [hi] at hu
        rw [hu]
      · have : rows = [] := List.eq_nil_of_length_eq_zero (by omega)
        subst this; exact Rd.nil
    · obtain ⟨i, hi, rfl⟩ := List.getElem_of_mem hr
      exact (h2 i hi).2
end
end Go.Proofs.Ytmdpmpfjldgalaa

/- An argument of type []Op, opened. -/
namespace Go.Proofs.Ytmdpmpfjldgalaa
open Go.ChangeShapes Go.WideShapes Go.ChangeAt Go.RowKit Go.Deep
namespace Jn

set_option maxRecDepth 100000 in
theorem open_ops {H : Type} {enc : TypeId × Value → H} {W : World} {b : Nat} {sp : Nat → Bool} {hd : Bool} {r : Reach} {b0 : Nat} {v : Value} {d : DataW H} {p : List MemPlace}
    (hv : Value.okWide Try.prog W r b0 22 v) (h : DataW.Trod enc Try.prog W b sp hd 22 v d p) :
    ∃ (A : Option Addr) (n cap : Nat) (ms : List Om), v = .slice A n cap ∧ n ≤ cap ∧ cap ≤ maxLen ∧ ms.length = n ∧ RdO W A ms := by
  obtain ⟨A, n, cap, rows, rfl, h1, h2, h3, h4, h5⟩ := open_structs Try.underlying22 Try.underlying32 (by kernel_rfl) (by kernel_rfl) (by decide) hv h
  obtain ⟨ms, rfl, hms⟩ := rows_of (g := Om.cells) (Q := fun m => m.ok W) rows (fun r hr => by
    obtain ⟨hl, hf⟩ := h5 r hr
    match r, hl with
    | [u0, u1, u2, u3], _ =>
      obtain ⟨_, _, _, e0, t0⟩ := hf 0 _ rfl
      obtain ⟨_, _, _, e1, t1⟩ := hf 1 _ rfl
      obtain ⟨_, _, _, e2, t2⟩ := hf 2 _ rfl
      obtain ⟨_, _, _, e3, t3⟩ := hf 3 _ rfl
      cases e0; cases e1; cases e2; cases e3
      obtain ⟨n0, e0, _, w0⟩ := DataW.trod_int Try.underlying5 t0
      obtain ⟨A1, c1, ys, e1, hl1, hm1, hr1, hw1⟩ := open_ints_cell Try.underlying29 Try.underlying5 (by kernel_rfl) t1
      obtain ⟨n2, e2, _, w2⟩ := DataW.trod_int Try.underlying3 t2
      obtain ⟨A3, c3, zs, e3, hl3, hm3, hr3, _⟩ := open_ints_cell Try.underlying30 Try.underlying3 (by kernel_rfl) t3
      cases e0; cases e1; cases e2; cases e3
      obtain ⟨x, rfl⟩ := wf_u8 w0
      have hb2 := bounds_i64 w2
      have hyz : (ys.map (fun z => UInt8.ofNat z.toNat)).map vb = ys.map (Value.int .u8) := by
        rw [List.map_map]
        apply List.map_congr_left
        intro z hz
        have hb := bounds_u8 (hw1 z hz)
        simp only [Function.comp, vb]
        rw [UInt8.toNat_ofNat', Nat.mod_eq_of_lt (by omega)]
        congr 1; omega
      unfold maxLen at hm1 hm3
      refine ⟨⟨x, A1, c1, ys.map (fun z => UInt8.ofNat z.toNat), n2, A3, c3, zs⟩, ?_, ?_, hr3, hb2.1, hb2.2, ?_, ?_⟩
      · simp [Om.cells]
      · show Rd W A1 ((ys.map (fun z => UInt8.ofNat z.toNat)).map vb)
        rw [hyz]; exact hr1
      · show (ys.map _).length ≤ _
        rw [List.length_map]; omega
      · show zs.length ≤ _
        omega)
  exact ⟨A, n, cap, ms, rfl, h1, h2, by simpa using h3, h4, hms⟩
end Jn
end Go.Proofs.Ytmdpmpfjldgalaa
