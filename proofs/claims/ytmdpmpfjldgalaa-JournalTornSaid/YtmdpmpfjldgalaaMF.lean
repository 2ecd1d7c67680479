/- Merged: JnF JnG JnH JnI. -/
import Derived.Shelf.Abstract
import Derived.Test.YtmdpmpfjldgalaaME
/- The walks of journal.each, write and its closures. -/
namespace Go.Proofs.Ytmdpmpfjldgalaa
open Go.RowKit
namespace Jn
open Dk Wi Wr

/-- a function value: the function, what it is bound to, what it has captured -/
structure Sf where
  F : Nat
  b : Array Value
  c : Array Value
def Sf.val (s : Sf) : Value := .func (Fn.func s.F) s.b s.c

set_option maxRecDepth 100000 in
theorem each_calls (A : Option Addr) (n c : Nat) (fs : List Sf) (I : Nat → World → Prop) (Q : World → Prop) (w : World) (hn : fs.length = n) (hnm : n ≤ 100) (h0 : I 0 w)
    (hcf : ∀ s ∈ fs, ∀ w' : World, (callFunc s.F (s.b ++ s.c)).run Try.prog w' = .ok (.enter s.F (s.b ++ s.c)) w')
    (hr : ∀ i w', I i w' → Rd w' A (fs.map Sf.val))
    (H : ∀ i (hi : i < fs.length) w', I i w' → Calls Try.prog fs[i].F (fs[i].b ++ fs[i].c) w' (fun e w'' => ∃ er, e = .returned (.int .i64 er) ∧ ((er = 0 ∧ I (i + 1) w'') ∨ (er ≠ 0 ∧ Q w'')))) :
    Calls Try.prog 68 #[.slice A n c] w fun e w' => (e = .returned (.int .i64 0) ∧ I n w') ∨ (e = .returned (.int .i64 10) ∧ Q w') := by
  have HN := Lib.hid hn
  have H0 := Lib.hid h0
  have HCF := Lib.hid hcf
  have HR := Lib.hid hr
  have HH := Lib.hid H
  clear hn h0 hcf hr H
  go_enter Try.func68, Try.ntmps68
  go_wp2_with fail
  go_loopw [7] (fun i wr => ∃ k : Nat, k ≤ n ∧ i = .int .i64 (k : Int) ∧ I k wr) (fun i _ => n - (intOf i).toNat)
  case atStart => exact ⟨0, Nat.zero_le _, rfl, H0.out⟩
  case round =>
    obtain ⟨k, hk, rfl, hI⟩ := hrel
    by_cases hlt : k < n
    · have hkl : k < fs.length := by have := HN.out; omega
      have HC := Lib.hid (HH.out k hkl wr hI)
      have HF := Lib.hid (HCF.out fs[k] (List.getElem_mem hkl))
      obtain ⟨b, off, rfl, hb, hcell⟩ := Rd.cells (HR.out k wr hI) (by simpa using (by omega : 0 < fs.length))
      have hc := hcell k _ (by rw [List.getElem?_map, List.getElem?_eq_getElem hkl]; rfl)
      unfold Sf.val at hc
      have d1 : decide (k < n) = true := by simpa using hlt
      generalize fs[k].F = F at *
      generalize fs[k].b = bs at *
      generalize fs[k].c = cs at *
      have hcf := HF.out
      have i0 : (0 : Int) ≤ (k : Int) := by omega
      have i1 : (k : Int) < (n : Int) := by omega
      clear hcell hI
      go_wp2_with fail
      refine HC.out.mono ?_
      rintro e w1 ⟨er, rfl, h⟩
      rcases h with ⟨rfl, hI⟩ | ⟨hne, hQ⟩
      · have HI := Lib.hid hI
        clear hI hcf hc d1
        go_wp2_with fail
        go_roundw
        case rel => exact ⟨k + 1, by omega, by go_num, HI.out⟩
        case measure => simp [intOf]; omega
      · have HQ := Lib.hid hQ
        have q1 : (er != 0) = true := by simpa using hne
        clear hQ hcf hc d1 hne
        go_wp2_with fail
        go_ret
        exact .inr ⟨rfl, HQ.out⟩
    · have hkn : Hid (k = n) := Lib.hid (by omega)
      have HI : Hid (I n wr) := by show I n wr; rw [← hkn.out]; exact hI
      have d1 : decide (k < n) = false := by simpa using hlt
      clear hlt hI
      go_wp2_with fail
      go_ret
      exact .inl ⟨rfl, HI.out⟩

set_option maxRecDepth 100000 in
theorem write1_calls (p q r : Nat) (w0 w : World) (F : List Nat) (g at' : Nat) (D : St) (B : Option Addr) (n c : Nat) (l : List UInt8) (h : OwnF w0 F g D w) (hn : l.length = n) (hr : RB w B l) (hnm : n ≤ 900000) (ha : at' ≤ 1000000) (hpl : D.p.length ≤ 10)
    (hp : w.cell? ⟨p, 0, none⟩ = some (.pointer (some ⟨g, 0, none⟩))) (hq : w.cell? ⟨q, 0, none⟩ = some (.int .i64 (at' : Int))) (hb : w.cell? ⟨r, 0, none⟩ = some (.slice B n c)) :
    Calls Try.prog 66 #[.pointer (some ⟨p, 0, none⟩), .pointer (some ⟨q, 0, none⟩), .pointer (some ⟨r, 0, none⟩)] w fun e w' => e = .returned (.int .i64 (writeE D at' l)) ∧ OwnF w0 F g (writeD D at' l) w' ∧ Kept F w w' := by
  have HW := Lib.hid (ownF_write h at' B n c l hn hr (by omega) (by omega) (by omega) (by omega))
  clear h hn hr hpl
  go_enter Try.func66, Try.ntmps66
  go_wp2_with fail
  refine HW.out.mono ?_
  rintro e w1 ⟨rfl, h1⟩
  have H1 := Lib.hid h1
  clear h1 HW
  go_wp2_with fail
  go_ret
  exact ⟨rfl, H1.out⟩

set_option maxRecDepth 100000 in
set_option maxHeartbeats 1000000 in
theorem write2_calls (p q : Nat) (w0 w : World) (F : List Nat) (g at' : Nat) (D : St) (h : OwnF w0 F g D w) (ha : at' ≤ 1000000) (hpl : D.p.length ≤ 10) (hpF : p ∈ F) (hqF : q ∈ F)
    (hp : w.cell? ⟨p, 0, none⟩ = some (.pointer (some ⟨g, 0, none⟩))) (hq : w.cell? ⟨q, 0, none⟩ = some (.int .i64 (at' : Int))) :
    Calls Try.prog 67 #[.pointer (some ⟨p, 0, none⟩), .pointer (some ⟨q, 0, none⟩)] w fun e w' => e = .returned (.int .i64 (writeE D at' zero64)) ∧ OwnF w0 F g (writeD D at' zero64) w' ∧ Kept F w w' := by
  obtain ⟨i0, hi0, hz0, hz1, hz2⟩ := info_parts Dk.info_u8
  have hmk : ∀ u : World, (Instr.makeSlice 29 (.int .i64 64) (.int .i64 64)).run Try.prog u = .ok (.slice (some ⟨u.heap.size, 0, none⟩) 64 64) (u.alloc (.cells (madeCells #[.int .u8 0] 64) 5)) := fun u => by
    have h := run_make (P := Try.prog) u 29 5 i0 (.int .u8 0) Try.underlying29 hi0 hz0 .i64 .i64 64 64 (by omega) (Int.le_refl _) (by rw [hz2]; omega) (by omega)
    simpa [hz1, Value.cells] using h
  have HMC : Hid ((madeCells #[.int .u8 0] 64).toList = zero64.map vb) := made_bytes 64
  generalize madeCells #[.int .u8 0] 64 = mc at *
  clear hi0 hz0 hz1 hz2
  have hps := h.lt p hpF
  have hqs := h.lt q hqF
  have HW : Hid (∀ u : World, Below w.heap.size w u → Calls Try.prog 15 #[.pointer (some ⟨g, 0, none⟩), .int .i64 (at' : Int), .slice (some ⟨u.heap.size, 0, none⟩) 64 64] (u.alloc (.cells mc 5)) fun e w' => e = .returned (.int .i64 (writeE D at' zero64)) ∧ OwnF w0 F g (writeD D at' zero64) w' ∧ Kept F w w') := by
    intro u hu
    have hb := hu.trans ((below1 u (.cells mc 5)).mono hu.size)
    refine (ownF_write (h.below hb) at' _ 64 64 zero64 (by decide) ?_ (by omega) (by omega) (by omega) (by omega)).mono ?_
    · show Rd _ _ (zero64.map vb)
      rw [← HMC.out]
      have h := Rd.new u mc.toList 5 (0, 0)
      simpa using h
    · rintro e w' ⟨h1, h2, h3⟩
      exact ⟨h1, h2, (Kept.of_below h.lt hb).trans h3⟩
  have m0 : ∀ u : World, Below w.heap.size w u → u.cell? ⟨p, 0, none⟩ = some (.pointer (some ⟨g, 0, none⟩)) := fun u hu => (hu.cell (p := ⟨p, 0, none⟩) hps).trans hp
  have m1 : ∀ u : World, Below w.heap.size w u → u.cell? ⟨q, 0, none⟩ = some (.int .i64 (at' : Int)) := fun u hu => (hu.cell (p := ⟨q, 0, none⟩) hqs).trans hq
  clear h hpl m0 m1
  go_enter Try.func67, Try.ntmps67
  go_upto_region 1 with (fail)
  go_region_law (go_simp; go_at_call 15; refine (HW.out w.drew (Go.Proofs.Ytmdpmpfjldgalaa.below_drew w)).mono ?_; rintro e w1 ⟨rfl, h1⟩; have H1 := Lib.hid h1; clear h1)
  all_goals
    go_wp2_with fail
    go_ret
    exact ⟨rfl, H1.out⟩

theorem ownF_sync {w0 w : World} {F : List Nat} {g : Nat} {D : St} (h : OwnF w0 F g D w) :
    Calls Try.prog 16 #[.pointer (some ⟨g, 0, none⟩)] w fun e w' => e = .returned (.int .i64 (syncE D)) ∧ OwnF w0 F g (syncD D) w' ∧ Kept F w w' := by
  obtain ⟨M, E, h1, h2, h3, h4⟩ := h
  exact (sync_calls g M E D w h1).mono fun _ _ ⟨a, b⟩ => ⟨a, OwnF.dk h2 h3 h4 b⟩

/-- what write leaves -/
def WriteP (w0 : World) (F : List Nat) (g : Nat) (r : St × Bool) (w : World) (e : Ending) (w' : World) : Prop :=
  e = .returned (.int .i64 (if r.2 = true then 0 else 10)) ∧ OwnF w0 F g r.1 w' ∧ Kept F w w'

/-- steps that are each a function of the disk -/
structure StepC (w0 : World) (F : List Nat) (g : Nat) (wS : World) (s : Sf) (f : St → St × Int) : Prop where
  ent : ∀ w' : World, (callFunc s.F (s.b ++ s.c)).run Try.prog w' = .ok (.enter s.F (s.b ++ s.c)) w'
  call : ∀ D w', OwnF w0 F g D w' → Kept F wS w' → D.p.length ≤ 9 → Calls Try.prog s.F (s.b ++ s.c) w' fun e w'' => e = .returned (.int .i64 (f D).2) ∧ OwnF w0 F g (f D).1 w'' ∧ Kept F w' w''
  len : ∀ D, (f D).1.p.length ≤ D.p.length + 1

theorem each_steps (w0 : World) (F F0 : List Nat) (g : Nat) (D : St) (wS w : World) (A : Option Addr) (n c : Nat) (fs : List Sf) (fp : List (St → St × Int)) (hn : fs.length = n) (hp : fp.length = n) (hnm : n ≤ 5) (hD : D.p.length ≤ 2)
    (h : OwnF w0 F g D wS) (hS : ∀ i (hi : i < n), StepC w0 F g wS (fs[i]'(by omega)) (fp[i]'(by omega))) (hA : ∀ b off, A = some ⟨b, off, none⟩ → b ∈ F) (hr : Rd wS A (fs.map Sf.val))
    (hF : ∀ x ∈ F0, x ∈ F) (hw : Kept F0 w wS) :
    Calls Try.prog 68 #[.slice A n c] wS (WriteP w0 F0 g (runS fp D) w) := by
  refine (each_calls A n c fs (fun i w' => ∃ Di, OwnF w0 F g Di w' ∧ Kept F wS w' ∧ runS (fp.drop i) Di = runS fp D ∧ Di.p.length ≤ 2 + i) (fun w' => ∃ D', OwnF w0 F g D' w' ∧ Kept F wS w' ∧ runS fp D = (D', false)) wS hn (by omega)
    ⟨D, h, Kept.refl _ _, rfl, by omega⟩ (fun s hs w' => ?_) (fun i w' ⟨_, _, hk, _⟩ => hk.rd hr (fun _ => hA)) (fun i hi w' ⟨Di, h1, h2, h3, h4⟩ => ?_)).mono ?_
  · obtain ⟨i, hi, rfl⟩ := List.getElem_of_mem hs
    exact (hS i (by omega)).ent w'
  · have hs := hS i (by omega)
    refine (hs.call Di w' h1 h2 (by omega)).mono ?_
    rintro e w'' ⟨rfl, k1, k2⟩
    have hd : fp.drop i = fp[i]'(by omega) :: fp.drop (i + 1) := List.drop_eq_getElem_cons (by omega)
    rw [hd, runS_cons] at h3
    refine ⟨_, rfl, ?_⟩
    by_cases he : ((fp[i]'(by omega)) Di).2 = 0
    · rw [if_pos he] at h3
      exact .inl ⟨he, _, k1, h2.trans k2, h3, by have := hs.len Di; omega⟩
    · rw [if_neg he] at h3
      exact .inr ⟨he, _, k1, h2.trans k2, h3.symm⟩
  · rintro e w' (⟨rfl, Di, h1, h2, h3, _⟩ | ⟨rfl, D', h1, h2, h3⟩)
    · rw [List.drop_of_length_le (by omega), show runS [] Di = (Di, true) from rfl] at h3
      refine ⟨?_, ?_, hw.trans (fun x hx => h2 x (hF x hx))⟩
      · rw [← h3]; rfl
      · rw [← h3]; exact h1.sub hF
    · refine ⟨?_, ?_, hw.trans (fun x hx => h2 x (hF x hx))⟩
      · rw [h3]; rfl
      · rw [h3]; exact h1.sub hF

theorem alloc_at (u : World) (o : Obj) (k : Nat) (hk : u.heap.size = k) : (u.alloc o).heap[k]? = some o := hk ▸ heap_alloc_new u o
theorem alloc5 (w : World) (o0 o1 o2 o3 o4 : Obj) (w5 : World) (h : (((((w.alloc o0).alloc o1).alloc o2).alloc o3).alloc o4) = w5) :
    w5.heap[w.heap.size]? = some o0 ∧ w5.heap[w.heap.size + 1]? = some o1 ∧ w5.heap[w.heap.size + 1 + 1]? = some o2 ∧ w5.heap[w.heap.size + 1 + 1 + 1]? = some o3 ∧ w5.heap[w.heap.size + 1 + 1 + 1 + 1]? = some o4 ∧
      Below w.heap.size w w5 ∧ w5.heap.size = w.heap.size + 5 := by
  subst h
  have s1 : (w.alloc o0).heap.size = w.heap.size + 1 := by simp
  have s2 : ((w.alloc o0).alloc o1).heap.size = w.heap.size + 1 + 1 := by simp
  have s3 : (((w.alloc o0).alloc o1).alloc o2).heap.size = w.heap.size + 1 + 1 + 1 := by simp
  have s4 : ((((w.alloc o0).alloc o1).alloc o2).alloc o3).heap.size = w.heap.size + 1 + 1 + 1 + 1 := by simp
  refine ⟨?_, ?_, ?_, ?_, alloc_at _ _ _ s4, ?_, by simp⟩
  · rw [Below.heap_alloc _ _ _ (by omega), Below.heap_alloc _ _ _ (by omega), Below.heap_alloc _ _ _ (by omega), Below.heap_alloc _ _ _ (by omega)]; exact heap_alloc_new _ _
  · rw [Below.heap_alloc _ _ _ (by omega), Below.heap_alloc _ _ _ (by omega), Below.heap_alloc _ _ _ (by omega)]; exact alloc_at _ _ _ s1
  · rw [Below.heap_alloc _ _ _ (by omega), Below.heap_alloc _ _ _ (by omega)]; exact alloc_at _ _ _ s2
  · rw [Below.heap_alloc _ _ _ (by omega)]; exact alloc_at _ _ _ s3
  · exact ((((below1 w o0).alloc (by omega) o1).alloc (by omega) o2).alloc (by omega) o3).alloc (by omega) o4

def fW1 (p q r : Nat) : Sf := ⟨66, #[], #[.pointer (some ⟨p, 0, none⟩), .pointer (some ⟨q, 0, none⟩), .pointer (some ⟨r, 0, none⟩)]⟩
def fW2 (p q : Nat) : Sf := ⟨67, #[], #[.pointer (some ⟨p, 0, none⟩), .pointer (some ⟨q, 0, none⟩)]⟩
def fSy (g : Nat) : Sf := ⟨16, #[.pointer (some ⟨g, 0, none⟩)], #[]⟩
theorem cell_kept {F : List Nat} {w w' : World} {p : Nat} {v : Value} {t : TypeId} (hk : Kept F w w') (hp : p ∈ F) (h : w.heap[p]? = some (.cells #[v] t (0, 0))) : w'.cell? ⟨p, 0, none⟩ = some v :=
  (cell_of_row _ _ 0 _ _ _ ((hk p hp).trans h)).trans rfl
theorem stepC_sync (w0 : World) (F : List Nat) (g : Nat) (wS : World) : StepC w0 F g wS (fSy g) stS := by
  refine ⟨fun w' => enters_of Try.func16 (by kernel_rfl) rfl _ w', fun D w' h1 _ _ => ?_, fun D => syncD_p D⟩
  have := ownF_sync h1
  simpa [fSy, stS] using this
theorem stepC_w1 (w0 : World) (F : List Nat) (g s : Nat) (wS : World) (p q r : Nat) (t1 t2 t3 : TypeId) (B : Option Addr) (n c : Nat) (l : List UInt8) (hn : l.length = n) (hr : RB wS B l) (hB : 0 < n → ∀ b off, B = some ⟨b, off, none⟩ → b ∈ F) (hnm : n ≤ 900000) (hs : s ≤ 1000000)
    (hp : p ∈ F) (hq : q ∈ F) (hrr : r ∈ F) (kp : wS.heap[p]? = some (.cells #[.pointer (some ⟨g, 0, none⟩)] t1 (0, 0))) (kq : wS.heap[q]? = some (.cells #[.int .i64 (s : Int)] t2 (0, 0))) (kr : wS.heap[r]? = some (.cells #[.slice B n c] t3 (0, 0))) :
    StepC w0 F g wS (fW1 p q r) (stW s l) := by
  refine ⟨fun w' => enters_of Try.func66 (by kernel_rfl) rfl _ w', fun D w' h1 hk hD => ?_, fun D => writeD_p D s l⟩
  have := write1_calls p q r w0 w' F g s D B n c l h1 hn (hk.rd hr (fun hh => hB (by rw [List.length_map, hn] at hh; exact hh))) hnm hs (by omega) (cell_kept hk hp kp) (cell_kept hk hq kq) (cell_kept hk hrr kr)
  simpa [fW1, stW] using this
theorem stepC_w2 (w0 : World) (F : List Nat) (g s : Nat) (wS : World) (p q : Nat) (t1 t2 : TypeId) (hs : s ≤ 1000000)
    (hp : p ∈ F) (hq : q ∈ F) (kp : wS.heap[p]? = some (.cells #[.pointer (some ⟨g, 0, none⟩)] t1 (0, 0))) (kq : wS.heap[q]? = some (.cells #[.int .i64 (s : Int)] t2 (0, 0))) :
    StepC w0 F g wS (fW2 p q) (stW s zero64) := by
  refine ⟨fun w' => enters_of Try.func67 (by kernel_rfl) rfl _ w', fun D w' h1 hk hD => ?_, fun D => writeD_p D s zero64⟩
  have := write2_calls p q w0 w' F g s D h1 hs (by omega) hp hq (cell_kept hk hp kp) (cell_kept hk hq kq)
  simpa [fW2, stW] using this

theorem info_fn : (Try.prog.info? 39).map (fun i => (i.zero, i.size, i.bytes)) = some (some .nilFunc, 1, 8) := by kernel_rfl

set_option maxRecDepth 100000 in
set_option maxHeartbeats 2000000 in
theorem write_calls (w0 w : World) (F : List Nat) (g s tt : Nat) (D : St) (B : Option Addr) (n c : Nat) (l : List UInt8) (h : OwnF w0 F g D w) (hn : l.length = n) (hr : RB w B l) (hB : 0 < n → ∀ b off, B = some ⟨b, off, none⟩ → b ∈ F) (hnm : n ≤ 600000) (hs : s ≤ 100000) (_ht : tt ≤ 1000000) (hpl : D.p.length ≤ 2) :
    Calls Try.prog 52 #[.pointer (some ⟨g, 0, none⟩), .int .i64 (s : Int), .int .i64 (tt : Int), .slice B n c] w (WriteP w0 F g (wrJ D s tt l) w) := by
  have HO := Lib.hid h
  have HR := Lib.hid hr
  have HN := Lib.hid hn
  have HB := Lib.hid hB
  have HRUN := Lib.hid (wrJ_run D s tt l)
  rw [← HRUN.out]
  obtain ⟨nq, HNQ⟩ : ∃ x, Hid (n / 64 = x) := ⟨_, rfl⟩
  have e1 : (n : Int) / 64 = (nq : Int) := by have := HNQ.out; omega
  obtain ⟨be, HBE⟩ : ∃ x, Hid (s + nq = x) := ⟨_, rfl⟩
  have e2 : (s : Int) + (nq : Int) = (be : Int) := by have := HBE.out; omega
  have hbe : be ≤ 200000 := by have := HBE.out; have := HNQ.out; omega
  have HST : Hid (steps s tt l = if be < tt then [stW be zero64, stS, stW s l, stS] else [stW s l, stS]) := by
    show _ = _
    unfold steps; rw [HN.out, HNQ.out, HBE.out]
  obtain ⟨w5, HW5⟩ : ∃ x, Hid (((((w.alloc (.cells #[.pointer (some ⟨g, 0, none⟩)] 34)).alloc (.cells #[.int .i64 (s : Int)] 3)).alloc (.cells #[.slice B n c] 29)).alloc (.cells #[(fW1 w.heap.size (w.heap.size + 1) (w.heap.size + 1 + 1)).val, (fSy g).val] 39)).alloc (.cells #[.int .i64 (be : Int)] 3) = x) := ⟨_, rfl⟩
  obtain ⟨k0, k1, k2, k3, k4, hb5, hz5⟩ := alloc5 w _ _ _ _ _ w5 HW5.out
  have HK0 := Lib.hid k0
  have HK1 := Lib.hid k1
  have HK2 := Lib.hid k2
  have HK3 := Lib.hid k3
  have HK4 := Lib.hid k4
  have HB5 := Lib.hid hb5
  have HZ5 := Lib.hid hz5
  have HW5' := HW5
  unfold fW1 fSy Sf.val at HW5'
  clear h hr hn hB k0 k1 k2 k3 k4 hb5 hz5
  have HG : Hid (∀ w6 F1, Below w5.heap.size w5 w6 → (∀ x ∈ F1, w5.heap.size ≤ x ∧ x < w6.heap.size) → OwnF w0 (F1 ++ ([w.heap.size, w.heap.size + 1, w.heap.size + 1 + 1, w.heap.size + 1 + 1 + 1, w.heap.size + 1 + 1 + 1 + 1] ++ F)) g D w6) := by
    intro w6 F1 hb hF1
    have hz := HZ5.out
    refine (HO.out.grow (HB5.out.trans (hb.mono HB5.out.size)) (fun x hx => ?_))
    have := hb.size
    rcases List.mem_append.1 hx with hx | hx
    · have := hF1 x hx; exact .inr (by omega)
    · rcases List.mem_append.1 hx with hx | hx
      · simp only [List.mem_cons, List.not_mem_nil, or_false] at hx
        exact .inr (by omega)
      · exact .inl hx
  by_cases hlt : be < tt
  · have d1 : decide (be < tt) = true := by simpa using hlt
    have HS2 := HST.out
    rw [if_pos hlt] at HS2
    have HSS := Lib.hid HS2
    clear HS2 HST hlt
    rw [HSS.out]
    go_enter Try.func52, Try.ntmps52
    go_upto_region 4 with (fail)
    rw [HW5'.out]
    have m0 : w5.cell? ⟨w.heap.size, 0, none⟩ = some (.pointer (some ⟨g, 0, none⟩)) := (cell_of_row _ _ 0 _ _ _ HK0.out).trans rfl
    have HO6 : Hid ((w5.alloc (.cells #[(fW2 w.heap.size (w.heap.size + 1 + 1 + 1 + 1)).val, (fSy g).val] 39)).ownsRow w5.heap.size 39 1 (.slice (some ⟨w5.heap.size, 0, none⟩) 2 2) 2 [(fW2 w.heap.size (w.heap.size + 1 + 1 + 1 + 1)).val, (fSy g).val]) :=
      own_of_blk (Nat.le_refl _) (heap_alloc_new _ _) (Nat.le_refl _) (by simp [maxLen]) rfl rfl
    have HR6 : Hid (Rd (w5.alloc (.cells #[(fW2 w.heap.size (w.heap.size + 1 + 1 + 1 + 1)).val, (fSy g).val] 39)) (some ⟨w.heap.size + 1 + 1 + 1, 0, none⟩) [(fW1 w.heap.size (w.heap.size + 1) (w.heap.size + 1 + 1)).val, (fSy g).val]) :=
      Rd.mk fun i v hv => by rw [Nat.zero_add, cell_of_row _ _ _ _ _ _ (((below1 w5 (.cells #[(fW2 w.heap.size (w.heap.size + 1 + 1 + 1 + 1)).val, (fSy g).val] 39)).block _ (by have := HZ5.out; omega)).trans HK3.out)]; simpa using hv
    have HB6 := Lib.hid (below1 w5 (.cells #[(fW2 w.heap.size (w.heap.size + 1 + 1 + 1 + 1)).val, (fSy g).val] 39))
    go_upto_region 5 with (at_builtin; go_must (refine wpList_apps _ rfl (.tmp 26) (.tmp 27) 106 rfl w5.heap.size 39 .nilFunc 8 Try.underlying106 info_fn rfl _ 2 _ rfl HO6.out (some ⟨w.heap.size + 1 + 1 + 1, 0, none⟩) 2 2 _ rfl rfl HR6.out (by simp [Sf.val, Value.oneCell']) (by simp [maxLen]) (by omega) HB6.out.size ?_; intro X cap w7 ho7 ha7; have HO7 := Lib.hid ho7; have HA7 := Lib.hid ha7; clear ho7 ha7))
    have hb7 : Below w5.heap.size w5 w7 := HB6.out.trans (HA7.out.below HO6.out HB6.out.size)
    obtain ⟨_, _, e7, _, _, _, hr7⟩ := own_form HO7.out
    cases e7
    have hx7 : ∀ b off, X = some ⟨b, off, none⟩ → w5.heap.size ≤ b ∧ b < w7.heap.size := fun b off e => own_cut (k := 0) (c' := cap) HO7.out (by rw [cutA_zero]; exact e)
    have HE := Lib.hid (each_steps w0 (bl X ++ ([w.heap.size, w.heap.size + 1, w.heap.size + 1 + 1, w.heap.size + 1 + 1 + 1, w.heap.size + 1 + 1 + 1 + 1] ++ F)) F g D w7 w X 4 cap [fW2 w.heap.size (w.heap.size + 1 + 1 + 1 + 1), fSy g, fW1 w.heap.size (w.heap.size + 1) (w.heap.size + 1 + 1), fSy g] [stW be zero64, stS, stW s l, stS] rfl rfl (by omega) hpl
      (HG.out w7 _ hb7 (fun x hx => by obtain ⟨off, rfl⟩ := mem_bl hx; exact hx7 x off rfl)) (fun i hi => by
        have hz5 := HZ5.out
        have : i = 0 ∨ i = 1 ∨ i = 2 ∨ i = 3 := by omega
        rcases this with rfl | rfl | rfl | rfl
        · exact stepC_w2 w0 _ g be w7 _ _ _ _ (by omega) (by simp) (by simp) ((hb7.block _ (by omega)).trans HK0.out) ((hb7.block _ (by omega)).trans HK4.out)
        · exact stepC_sync w0 _ g w7
        · exact stepC_w1 w0 _ g s w7 _ _ _ _ _ _ B n c l HN.out (RB.below HR.out (HB5.out.trans (hb7.mono HB5.out.size))) (fun hp b off e => by simp [HB.out hp b off e]) (by omega) (by omega) (by simp) (by simp) (by simp) ((hb7.block _ (by omega)).trans HK0.out) ((hb7.block _ (by omega)).trans HK1.out) ((hb7.block _ (by omega)).trans HK2.out)
        · exact stepC_sync w0 _ g w7)
      (fun b off e => by rw [e]; simp [bl]) hr7 (fun x hx => by simp [hx]) (Kept.of_below HO.out.lt (HB5.out.trans (hb7.mono HB5.out.size))))
    clear hr7 hx7 hb7 HO7 HA7 HO6 HR6 HB6 m0
    go_wp2_with fail
    refine HE.out.mono ?_
    rintro e w6 ⟨he, h6⟩
    obtain ⟨er, HER⟩ : ∃ x, Hid ((if (runS [stW be zero64, stS, stW s l, stS] D).2 = true then (0 : Int) else 10) = x) := ⟨_, rfl⟩
    rw [HER.out] at he
    subst he
    have H6 := Lib.hid h6
    clear h6 HE
    go_wp2_with fail
    go_ret
    exact ⟨by rw [HER.out]; rfl, H6.out⟩
  · have d1 : decide (be < tt) = false := by simpa using hlt
    have HS2 := HST.out
    rw [if_neg hlt] at HS2
    have HSS := Lib.hid HS2
    clear HS2 HST hlt
    rw [HSS.out]
    have HE := Lib.hid (each_steps w0 ([] ++ ([w.heap.size, w.heap.size + 1, w.heap.size + 1 + 1, w.heap.size + 1 + 1 + 1, w.heap.size + 1 + 1 + 1 + 1] ++ F)) F g D w5 w (some ⟨w.heap.size + 1 + 1 + 1, 0, none⟩) 2 2 [fW1 w.heap.size (w.heap.size + 1) (w.heap.size + 1 + 1), fSy g] [stW s l, stS] rfl rfl (by omega) hpl
      (HG.out w5 [] (Below.refl _ _) (by simp)) (fun i hi => by
        have : i = 0 ∨ i = 1 := by omega
        rcases this with rfl | rfl
        · exact stepC_w1 w0 _ g s w5 _ _ _ _ _ _ B n c l HN.out (RB.below HR.out HB5.out) (fun hp b off e => by simp [HB.out hp b off e]) (by omega) (by omega) (by simp) (by simp) (by simp) HK0.out HK1.out HK2.out
        · exact stepC_sync w0 _ g w5)
      (fun b off e => by cases e; simp) (Rd.mk fun i v hv => by rw [Nat.zero_add, cell_of_row _ _ _ _ _ _ HK3.out]; simpa using hv) (fun x hx => by simp [hx]) (Kept.of_below HO.out.lt HB5.out))
    go_enter Try.func52, Try.ntmps52
    go_upto_region 5 with (fail)
    rw [HW5'.out]
    go_wp2_with fail
    refine HE.out.mono ?_
    rintro e w6 ⟨he, h6⟩
    obtain ⟨er, HER⟩ : ∃ x, Hid ((if (runS [stW s l, stS] D).2 = true then (0 : Int) else 10) = x) := ⟨_, rfl⟩
    rw [HER.out] at he
    subst he
    have H6 := Lib.hid h6
    clear h6 HE
    go_wp2_with fail
    go_ret
    exact ⟨by rw [HER.out]; rfl, H6.out⟩
end Jn
end Go.Proofs.Ytmdpmpfjldgalaa

/- The walks of journal.State, Records, Turn, Room. -/
namespace Go.Proofs.Ytmdpmpfjldgalaa
open Go.RowKit
namespace Jn
open Dk Wi Wr

/-- a slice of byte slices that lies in blocks of N -/
structure RsR (w : World) (N : List Nat) (A : Option Addr) (c : Nat) (ms : List Rm) : Prop where
  rd : Rd w A (ms.map rval)
  c1 : ms.length ≤ c
  c2 : c ≤ maxLen
  b : 0 < ms.length → ∀ b off, A = some ⟨b, off, none⟩ → b ∈ N
  el : ∀ m ∈ ms, InR w N m
theorem RsR.kept {w w' : World} {N : List Nat} {A : Option Addr} {c : Nat} {ms : List Rm} (h : RsR w N A c ms) (k : Kept N w w') : RsR w' N A c ms :=
  ⟨k.rd h.rd (fun hp => h.b (by simpa using hp)), h.c1, h.c2, h.b, fun m hm => (h.el m hm).kept k⟩
theorem RsR.sub {w : World} {N N' : List Nat} {A : Option Addr} {c : Nat} {ms : List Rm} (h : RsR w N A c ms) (hs : ∀ x ∈ N, x ∈ N') : RsR w N' A c ms :=
  ⟨h.rd, h.c1, h.c2, fun hp b off e => hs b (h.b hp b off e), fun m hm => (h.el m hm).sub hs⟩
theorem RsR.below {w w' : World} {N : List Nat} {A : Option Addr} {c : Nat} {ms : List Rm} (h : RsR w N A c ms) (hb : Below w.heap.size w w') : RsR w' N A c ms :=
  ⟨Rd.below h.rd hb, h.c1, h.c2, h.b, fun m hm => (h.el m hm).below hb⟩

section
variable {w : World} {gj g h : Nat} {W R : List Nat} {j : Jr}
theorem turn_calls (k : IsJ w gj g W R h j) : Calls Try.prog 35 #[.pointer (some ⟨gj, 0, none⟩)] w fun e w' => e = .returned (.int .i64 (j.t : Int)) ∧ w = w' := by
  obtain ⟨sa, sc, ra, rc, ms, rfl, k⟩ := k
  obtain ⟨_, c1, _⟩ := k.cells
  clear k
  go_enter Try.func35, Try.ntmps35
  go_wp2_with fail
  go_ret
  exact ⟨rfl, rfl⟩
theorem state_calls (k : IsJ w gj g W R h j) (hh : h ≤ 100) : Calls Try.prog 53 #[.pointer (some ⟨gj, 0, none⟩)] w (NewB w j.s) := by
  obtain ⟨sa, sc, ra, rc, ms, rfl, k⟩ := k
  obtain ⟨_, _, c2, _⟩ := k.cells
  have hl := k.ok.s
  have HS := Lib.hid k.st.rd
  have hgl := (Array.getElem?_eq_some_iff.1 k.hd).1
  clear k
  obtain ⟨n, HN⟩ : ∃ x, Hid (j.s.length = x) := ⟨_, rfl⟩
  rw [HN.out] at c2 hl
  have c2' : ∀ o : Obj, (w.alloc o).cell? ⟨gj, 2, none⟩ = some (.slice sa n sc) := fun o => (World.cell?_alloc_lt w o ⟨gj, 2, none⟩ hgl).trans c2
  go_enter Try.func53, Try.ntmps53
  go_wp2_with (at_builtin; refine app0 _ rfl (.tmp 3) (.tmp 7) rfl j.s rfl sa n sc rfl HN.out HS.out (by omega) ?_; intro X cap k' w' HK hk hk' HO HB hs)
  go_ret
  exact ⟨X, cap, k', rfl, HK.out, HO.out, HB.out⟩

/-- what Records leaves -/
def RecP (w : World) (rs : List (List UInt8)) (e : Ending) (w' : World) : Prop :=
  ∃ (A : Option Addr) (c : Nat) (ms : List Rm) (N : List Nat), e = .returned (.slice A ms.length c) ∧ rs = ms.map (·.d) ∧ RsR w' N A c ms ∧ (∀ x ∈ N, w.heap.size ≤ x ∧ x < w'.heap.size) ∧ Below w.heap.size w w'
def RecL (w : World) (ms : List Rm) (k : Nat) (v : Value) (wr : World) : Prop :=
  ∃ (A : Option Addr) (c : Nat) (ns : List Rm) (N : List Nat), v = .slice A k c ∧ ns.length = k ∧ wr.ownsRow w.heap.size 29 1 (.slice A k c) k (ns.map rval) ∧ ns.map (·.d) = (ms.take k).map (·.d) ∧ (∀ m ∈ ns, InR wr N m) ∧ (∀ x ∈ N, w.heap.size ≤ x ∧ x < wr.heap.size) ∧
    (∀ b, (Value.slice A k c).ownBlock = some b → b ∉ N) ∧ Below w.heap.size w wr

set_option maxRecDepth 100000 in
set_option maxHeartbeats 2000000 in
theorem records_calls (k : IsJ w gj g W R h j) (hh : h ≤ 100) : Calls Try.prog 36 #[.pointer (some ⟨gj, 0, none⟩)] w (RecP w j.rs) := by
  obtain ⟨sa, sc, ra, rc, ms, rfl, k⟩ := k
  obtain ⟨_, _, _, c3, _⟩ := k.cells
  have hml : ms.length ≤ 100 := by have h1 := k.ok.r; have h2 := k.ok.e; rw [k.rs, List.length_map] at h1; omega
  have hmd : ∀ m ∈ ms, m.d.length ≤ 6400 := fun m hm => by have := k.ok.d m.d (by rw [k.rs]; exact List.mem_map.2 ⟨m, hm, rfl⟩); omega
  obtain ⟨_, _, e0, _, _, _, hrd⟩ := own_form k.own
  cases e0
  have HRD := Lib.hid hrd
  have HEL : Hid (∀ m ∈ ms, RB w m.a m.d) := fun m hm => (k.rd m hm).rd
  have HRS := Lib.hid k.rs
  obtain ⟨n, HN⟩ : ∃ x, Hid (ms.length = x) := ⟨_, rfl⟩
  rw [HN.out] at c3 hml
  rw [HRS.out]
  clear k hrd
  go_enter Try.func36, Try.ntmps36
  go_wp2_with fail
  go_loopw [3, 11] (fun v i wr => ∃ k : Nat, k ≤ n ∧ i = .int .i64 (k : Int) ∧ RecL w ms k v wr) (fun _ i _ => n - (intOf i).toNat)
  case atStart => exact ⟨0, Nat.zero_le _, rfl, none, 0, [], [], rfl, rfl, ⟨rfl, .inl ⟨rfl, rfl⟩⟩, rfl, by simp, by simp, by simp, Below.refl _ _⟩
  case round =>
    obtain ⟨k, hk, rfl, A, c, ns, N, rfl, hns, ho, hd, hin, hN, hob, hb⟩ := hrel
    have HO := Lib.hid ho
    have HD := Lib.hid hd
    have HIN := Lib.hid hin
    have HNN := Lib.hid hN
    have HOB := Lib.hid hob
    have HB := Lib.hid hb
    have HNS := Lib.hid hns
    have hsz := hb.size
    clear ho hd hin hN hob hb hns
    by_cases hlt : k < n
    · have d1 : decide (k < n) = true := by simpa using hlt
      have hkl : k < ms.length := by have := HN.out; omega
      obtain ⟨b, off, rfl, hbl, hcell⟩ := Rd.cells HRD.out (by simpa using (by omega : 0 < ms.length))
      have hc := hcell k _ (by rw [List.getElem?_map, List.getElem?_eq_getElem hkl]; rfl)
      have hc' : wr.cell? ⟨b, off + k, none⟩ = some (rval ms[k]) := (HB.out.cell hbl).trans hc
      have HMR := Lib.hid (RB.below (HEL.out ms[k] (List.getElem_mem hkl)) HB.out)
      have HTK : Hid ((ms.take (k + 1)).map (·.d) = (ms.take k).map (·.d) ++ [ms[k].d]) := by show _ = _; rw [List.take_succ_eq_append_getElem hkl, List.map_append]; rfl
      have hmdk := hmd ms[k] (List.getElem_mem hkl)
      unfold rval at hc'
      generalize ms[k].d = md at *
      generalize ms[k].a = ma at *
      generalize ms[k].c = mc at *
      obtain ⟨dl, HDL⟩ : ∃ x, Hid (md.length = x) := ⟨_, rfl⟩
      rw [HDL.out] at hc' hmdk
      have i0 : (0 : Int) ≤ (k : Int) := by omega
      have i1 : (k : Int) < (n : Int) := by omega
      clear hcell hc
      go_wp2_with (first | (at_builtin; refine app0 _ rfl (.tmp 16) (.tmp 17) rfl md rfl ma dl mc rfl HDL.out HMR.out (by omega) ?_; intro X1 c1 k1 w1 HK1 hk1 hk1' HO1 HB1 hs1) | (at_builtin; refine wpList_apps _ rfl (.tmp 15) (.tmp 19) 44 rfl w.heap.size 29 (.slice none 0 0) 24 Try.underlying44 info_sl rfl _ k (ns.map rval) rfl (own_below (own_below HO.out HB1.out) (below1 w1 _)) (some ⟨w1.heap.size, 0, none⟩) 1 1 [.slice X1 k1 c1] rfl rfl (Rd.one w1 _ _) (by simp [Value.oneCell']) (by simp only [maxLen]; omega) (by omega) (Nat.le_trans hsz (Nat.le_trans hs1 (by simp))) ?_; intro X2 c2 w2 ho2 ha2; have HO2 := Lib.hid ho2; have HA2 := Lib.hid ha2.alloc_left; clear ho2 ha2))
      go_roundw
      case rel =>
        have hB1 := HB.out.trans (HB1.out.mono hsz)
        have ho1 := own_below HO.out HB1.out
        have hc2 : Chg (Value.slice A k c).ownBlock.toList w1 w2 := HA2.out.chg (fun b hb => Option.mem_toList.2 hb)
        have hB2 := hB1.trans (HA2.out.below ho1 hB1.size)
        have hX1 : ∀ x ∈ bl X1, wr.heap.size ≤ x ∧ x < w1.heap.size := fun x hx => by
          obtain ⟨off, rfl⟩ := mem_bl hx
          have ho := HO1.out
          unfold OB at ho
          rw [← HK1.out] at ho
          exact own_cut (k := 0) (c' := c1) ho (by rw [cutA_zero])
        have hold : ∀ b, (Value.slice A k c).ownBlock = some b → b < wr.heap.size := fun b hb => (HO.out.lt b hb).2
        have hr1 := HO1.out.rb
        refine ⟨k + 1, by omega, by go_num, X2, c2, ns ++ [⟨X1, c1, md⟩], bl X1 ++ N, rfl, by simp [HNS.out], ?_, ?_, fun m hm => ?_, fun x hx => ?_, fun b hb hx => ?_, hB2⟩
        · rw [List.map_append, show [(⟨X1, c1, md⟩ : Rm)].map rval = [.slice X1 k1 c1] by rw [HK1.out]; rfl]; exact HO2.out
        · rw [List.map_append, HD.out, HTK.out]; rfl
        · rcases List.mem_append.1 hm with hm | hm
          · refine ((HIN.out m hm).below HB1.out |>.chg hc2 (fun x hx => HOB.out x (by simpa using hx))).sub (fun x hx => List.mem_append_right _ hx)
          · simp only [List.mem_singleton] at hm
            subst hm
            have h1 : InR w1 (bl X1 ++ N) ⟨X1, c1, md⟩ := ⟨hr1.1, by have := hr1.2.2.1; have := HK1.out; show md.length ≤ c1; omega, hr1.2.2.2, fun _ b off e => by rw [show X1 = _ from e]; simp [bl]⟩
            refine h1.chg hc2 (fun x hx hm => ?_)
            rcases List.mem_append.1 hm with hm | hm
            · have := hX1 x hm; have := hold x (by simpa using hx); omega
            · exact HOB.out x (by simpa using hx) hm
        · have := hc2.size
          rcases List.mem_append.1 hx with hx | hx
          · have := hX1 x hx; omega
          · have := HNN.out x hx; omega
        · rcases HA2.out.2 with h2 | ⟨b', h2, h3⟩
          · rw [hb] at h2
            rcases List.mem_append.1 hx with hx | hx
            · have := hX1 b hx; have := hold b h2.symm; omega
            · exact HOB.out b h2.symm hx
          · rw [hb] at h2
            injection h2 with h2
            subst h2
            rcases List.mem_append.1 hx with hx | hx
            · have := hX1 b hx; omega
            · have := HNN.out b hx; omega
      case measure => simp [intOf]; omega
    · have hkn : k = n := by omega
      subst hkn
      have d1 : decide (k < k) = false := by simp
      have HF : Hid (RecP w (ms.map (·.d)) (.returned (.slice A k c)) wr) := by
        obtain ⟨_, _, e0, hk1, hk2, _, hrd⟩ := own_form HO.out
        cases e0
        refine ⟨A, c, ns, bl A ++ N, by rw [HNS.out], ?_, ⟨hrd, by rw [HNS.out]; exact hk1, hk2, fun _ b off e => by rw [e]; simp [bl], fun m hm => (HIN.out m hm).sub (fun x hx => List.mem_append_right _ hx)⟩, fun x hx => ?_, HB.out⟩
        · rw [HD.out, List.take_of_length_le (by rw [HN.out]; exact Nat.le_refl _)]
        · rcases List.mem_append.1 hx with hx | hx
          · obtain ⟨off, rfl⟩ := mem_bl hx
            exact own_cut (k := 0) (c' := c) HO.out (by rw [cutA_zero])
          · exact HNN.out x hx
      clear hlt hk
      go_wp2_with fail
      go_ret
      exact HF.out

theorem jq (D : St) (j : Jr) (he : j.e ≤ half D) : ((fst D j.t + half D : Nat) : Int) - ((j.t % 2 * half D + j.e : Nat) : Int) = ((half D - j.e : Nat) : Int) := by
  unfold fst; omega
set_option maxRecDepth 100000 in
theorem room_calls {w0 : World} {F : List Nat} {D : St} (k : IsJ w gj g W R (half D) j) (hO : OwnF w0 F g D w) (hn : D.n ≤ 100) : Calls Try.prog 25 #[.pointer (some ⟨gj, 0, none⟩)] w fun e w' => e = .returned (.int .i64 ((half D - j.e : Nat) : Int)) ∧ Below w.heap.size w w' := by
  obtain ⟨sa, sc, ra, rc, ms, rfl, k⟩ := k
  obtain ⟨c0, c1, _, _, c4, _⟩ := k.cells
  have hq : half D ≤ 50 := by unfold half; omega
  have HE := Lib.hid (jq D j k.ok.e)
  obtain ⟨M, E, h1, _⟩ := hO
  have HH : Hid (∀ z, Calls Try.prog 50 #[.pointer (some ⟨g, 0, none⟩), .int .i64 (j.t : Int)] (w.drewN z) fun e w' => e = .returned (.tuple #[.int .i64 (fst D j.t : Int), .int .i64 ((fst D j.t + half D : Nat) : Int)]) ∧ w' = w.drewN z) := fun z =>
    (half_calls g M E D j.t (w.drewN z) (h1.below (below_drewN (Below.refl _ _) z)) (by have := k.ok.t2; omega)).mono fun e w' ⟨a, b⟩ => ⟨a, b.symm⟩
  clear k h1
  obtain ⟨tt, HT⟩ : ∃ x, Hid (fst D j.t + half D = x) := ⟨_, rfl⟩
  obtain ⟨ee, HEE⟩ : ∃ x, Hid (j.t % 2 * half D + j.e = x) := ⟨_, rfl⟩
  obtain ⟨rr, HRR⟩ : ∃ x, Hid (half D - j.e = x) := ⟨_, rfl⟩
  rw [HT.out] at HH
  rw [HEE.out] at c4
  rw [HT.out, HEE.out, HRR.out] at HE
  rw [HRR.out]
  have he := HE.out
  have hw : wrap64 (rr : Int) = rr := w64_nat rr (by have := HRR.out; omega)
  generalize fst D j.t = f at *
  go_enter Try.func25, Try.ntmps25
  go_upto_region 1 with (fail)
  go_quiet ((go_at_call 50; exact Calls.quiet_of_same (HH.out _)))
  go_wp2_with fail
  go_ret
  exact ⟨by show Ending.returned (.int .i64 (wrap64 (rr : Int))) = _; rw [hw], below_drewN (Below.refl _ _) _⟩
end
end Jn
end Go.Proofs.Ytmdpmpfjldgalaa

/- The walk of journal.Open. -/
namespace Go.Proofs.Ytmdpmpfjldgalaa
open Go.RowKit
namespace Jn
open Dk Wi Wr

/-- a journal on a disk; the blocks F are others' -/
def JO (w0 : World) (F : List Nat) (g gj : Nat) (D : St) (j : Jr) (w : World) : Prop :=
  ∃ W R, OwnF w0 (W ++ (R ++ F)) g D w ∧ IsJ w gj g W R (half D) j ∧ (∀ x ∈ W, w0.heap.size ≤ x ∧ x ∉ F) ∧ (∀ x ∈ R, x ∉ F)
def OpenP (w0 : World) (F : List Nat) (g : Nat) (D : St) (w : World) (e : Ending) (w' : World) : Prop :=
  Kept F w w' ∧ ((openJ D = none ∧ e = .returned (.tuple #[.pointer none, .int .i64 (openE D)]) ∧ OwnF w0 F g (openD D) w') ∨
    ∃ j gj, openJ D = some j ∧ e = .returned (.tuple #[.pointer (some ⟨gj, 0, none⟩), .int .i64 (openE D)]) ∧ JO w0 F g gj (openD D) j w')

theorem JO.of {w0 wS w : World} {F W R : List Nat} {g gj h : Nat} {D : St} {j : Jr} (hO : OwnF w0 F g D wS) (hb : Below wS.heap.size wS w) (hJ : IsJ w gj g W R h j) (hh : h = half D) (hW : ∀ x ∈ W, wS.heap.size ≤ x) (hR : ∀ x ∈ R, wS.heap.size ≤ x) : JO w0 F g gj D j w := by
  subst hh
  have hl := hJ.lt
  have hs := hO.b.size
  refine ⟨W, R, hO.grow hb (fun x hx => ?_), hJ, fun x hx => ⟨Nat.le_trans hs (hW x hx), fun hF => by have := hO.lt x hF; have := hW x hx; omega⟩, fun x hx hF => by have := hO.lt x hF; have := hR x hx; omega⟩
  rcases List.mem_append.1 hx with hx | hx
  · exact .inr ⟨hW x hx, hl.1 x hx⟩
  · rcases List.mem_append.1 hx with hx | hx
    · exact .inr ⟨hR x hx, hl.2.1 x hx⟩
    · exact .inl hx

/-- the best of the first k halves -/
def bestK (D : St) : Nat → Option Jr
  | 0 => none
  | 1 => loadD D 0
  | _ => best (loadD D 0) (loadD D 1)
theorem bestK_succ (D : St) (k : Nat) (hk : k < 2) : bestK D (k + 1) = best (bestK D k) (loadD D k) := by
  have : k = 0 ∨ k = 1 := by omega
  rcases this with rfl | rfl
  · rfl
  · rfl
theorem best_none (b : Option Jr) : best b none = b := by cases b <;> rfl
theorem best_lt {b j : Jr} (h : b.t < j.t) : best (some b) (some j) = some j := by show (if _ then _ else _) = _; rw [if_pos h]
theorem best_ge {b j : Jr} (h : ¬ b.t < j.t) : best (some b) (some j) = some b := by show (if _ then _ else _) = _; rw [if_neg h]
def BestV (wS : World) (g h : Nat) (o : Option Jr) (v : Value) (wr : World) : Prop :=
  (o = none ∧ v = .pointer none) ∨ ∃ j gj W R, o = some j ∧ v = .pointer (some ⟨gj, 0, none⟩) ∧ IsJ wr gj g W R h j ∧ (∀ x ∈ W, wS.heap.size ≤ x) ∧ (∀ x ∈ R, wS.heap.size ≤ x)
theorem BestV.below {wS w w' : World} {g h : Nat} {o : Option Jr} {v : Value} (k : BestV wS g h o v w) (hb : Below w.heap.size w w') : BestV wS g h o v w' := by
  rcases k with k | ⟨j, gj, W, R, h1, h2, h3, h4, h5⟩
  · exact .inl k
  · exact .inr ⟨j, gj, W, R, h1, h2, h3.below hb, h4, h5⟩

set_option maxRecDepth 100000 in
set_option maxHeartbeats 1000000 in
theorem open_calls (w0 w : World) (F : List Nat) (g : Nat) (D : St) (h : OwnF w0 F g D w) (hn : D.n ≤ 100) (hc : Calm D) :
    Calls Try.prog 22 #[.pointer (some ⟨g, 0, none⟩)] w (OpenP w0 F g D w) := by
  have HO := Lib.hid h
  have HC := Lib.hid hc
  have hq50 : half D ≤ 50 := by unfold half; omega
  have HSE : Hid (Calls Try.prog 38 #[.pointer (some ⟨g, 0, none⟩)] w fun e w' => e = .returned (.int .i64 (D.n : Int)) ∧ w = w') := by
    obtain ⟨M, E, h1, _⟩ := h; exact sectors_calls g M E D w h1
  obtain ⟨q, HQ⟩ : ∃ x, Hid (half D = x) := ⟨_, rfl⟩
  have e1 : (D.n : Int) / 2 = (q : Int) := by have := HQ.out; unfold half at this; omega
  rw [HQ.out] at hq50
  clear h hc
  by_cases h0 : q = 0
  · have d0 : ((q : Int) == 0) = true := by simpa using h0
    have HF : Hid (OpenP w0 F g D w (.returned (.tuple #[.pointer none, .int .i64 8])) w) := by
      have e1 : half D = 0 := by rw [HQ.out]; exact h0
      refine ⟨Kept.refl _ _, .inl ⟨by unfold openJ; rw [if_pos e1], by unfold openE; rw [if_pos e1], ?_⟩⟩
      unfold openD; rw [if_pos e1]; exact HO.out
    clear h0
    go_enter Try.func22, Try.ntmps22
    go_wp2_with fail
    refine HSE.out.mono ?_
    rintro e w1 ⟨rfl, rfl⟩
    go_wp2_with fail
    go_ret2
    exact HF.out
  have d0 : ((q : Int) == 0) = false := by rw [beq_eq_false_iff_ne]; omega
  have HQ0 := Lib.hid h0
  have HLD : Hid (∀ (k : Nat) (hk : k < 2) w', Below w.heap.size w w' → Calls Try.prog 49 #[.pointer (some ⟨g, 0, none⟩), .int .i64 (k : Int)] w' (LoadP w' g D k)) := by
    intro k hk w' hb
    obtain ⟨M, E, h1, _⟩ := HO.out
    exact load_calls g M E D k w' (h1.below hb) hk hn
  have HXD : Hid (D.x = true → ∀ w', Below w.heap.size w w' → OpenP w0 F g D w (.returned (.tuple #[.pointer none, .int .i64 10])) w') := by
    intro hx w' hb
    have e1 : ¬ half D = 0 := by rw [HQ.out]; exact HQ0.out
    refine ⟨Kept.of_below HO.out.lt hb, .inl ⟨by unfold openJ; rw [if_neg e1, if_pos hx], by unfold openE; rw [if_neg e1, if_pos hx], ?_⟩⟩
    unfold openD; rw [if_neg e1, if_pos hx]; exact HO.out.below hb
  have HBD : Hid (∀ j gj W R w', D.x = false → best (loadD D 0) (loadD D 1) = some j → IsJ w' gj g W R q j → (∀ x ∈ W, w.heap.size ≤ x) → (∀ x ∈ R, w.heap.size ≤ x) → Below w.heap.size w w' →
      OpenP w0 F g D w (.returned (.tuple #[.pointer (some ⟨gj, 0, none⟩), .int .i64 0])) w') := by
    intro j gj W R w' hx hj hJ hW hR hb
    have e1 : ¬ half D = 0 := by rw [HQ.out]; exact HQ0.out
    have e2 : ¬ D.x = true := by simp [hx]
    have hD : openD D = D := by unfold openD; rw [if_neg e1, if_neg e2, hj]
    refine ⟨Kept.of_below HO.out.lt hb, .inr ⟨j, gj, by unfold openJ; rw [if_neg e1, if_neg e2, hj], by unfold openE; rw [if_neg e1, if_neg e2, hj], ?_⟩⟩
    rw [hD]
    exact JO.of HO.out hb hJ HQ.out.symm hW hR
  clear h0
  go_enter Try.func22, Try.ntmps22
  go_wp2_with fail
  refine HSE.out.mono ?_
  rintro e w1 ⟨rfl, rfl⟩
  go_wp2_with fail
  go_loopw [4, 16] (fun v i wr => ∃ k : Nat, k ≤ 2 ∧ i = .int .i64 (k : Int) ∧ Below w.heap.size w wr ∧ BestV w g q (bestK D k) v wr ∧ (0 < k → D.x = false)) (fun _ i _ => 2 - (intOf i).toNat)
  case atStart => exact ⟨0, by omega, rfl, Below.refl _ _, .inl ⟨rfl, rfl⟩, fun h => by omega⟩
  case round =>
    obtain ⟨k, hk, rfl, hb, hbv, hxk⟩ := hrel
    have HB := Lib.hid hb
    have HXK := Lib.hid hxk
    have hsz := hb.size
    by_cases hlt : k < 2
    · have d1 : decide ((k : Int) < 2) = true := by simp; omega
      have HV := Lib.hid hbv
      have HL := Lib.hid (HLD.out k hlt wr hb)
      have HBS := Lib.hid (bestK_succ D k hlt)
      clear hb hbv hxk HSE HLD HBD
      go_wp2_with fail
      refine HL.out.mono ?_
      rintro e w2 ⟨hb2, hp⟩
      have HB2 := Lib.hid (HB.out.trans (hb2.mono hsz))
      have HV2 := Lib.hid (HV.out.below hb2)
      have hs2 := hb2.size
      clear hb2 HV HB HL
      rcases hp with ⟨hx, rfl⟩ | ⟨hx, hl, rfl⟩ | ⟨j, gj, W, R, hx, hl, rfl, hJ, hW, hR⟩
      · have HF := Lib.hid (HXD.out hx w2 HB2.out)
        clear hx HXD HV2 HBS HXK
        go_wp2_with fail
        go_ret2
        exact HF.out
      · rw [hl, best_none] at HBS
        have HX := Lib.hid hx
        have HREL : Hid (∀ nq, ∃ k' : Nat, k' ≤ 2 ∧ (Value.int .i64 ((k : Int) + 1)) = .int .i64 (k' : Int) ∧ Below w.heap.size w (w2.drewN nq) ∧ BestV w g q (bestK D k') _ (w2.drewN nq) ∧ (0 < k' → D.x = false)) := fun nq =>
          ⟨k + 1, by omega, by go_num, below_drewN HB2.out nq, by rw [HBS.out]; exact HV2.out.below (below_drewN (Below.refl _ _) nq), fun _ => HX.out⟩
        clear hx hl HXD HBS HXK
        go_upto_region 10 with (fail)
        go_quiet (fail)
        go_wp2_with fail
        go_roundw
        case rel => exact HREL.out _
        case measure => simp [intOf]; omega
      · have HX := Lib.hid hx
        rw [HQ.out] at hJ
        have HJ := Lib.hid hJ
        have HW := Lib.hid (fun x hx => Nat.le_trans hsz (hW x hx))
        have HR := Lib.hid (fun x hx => Nat.le_trans hsz (hR x hx))
        obtain ⟨sa, sc, ra, rc, ms, _, hJ'⟩ := hJ
        obtain ⟨_, cj, _⟩ := hJ'.cells
        rw [hl] at HBS
        clear hJ' hW hR hx hl HXD HXK
        rcases HV2.out with ⟨hbn, rfl⟩ | ⟨b, gb, Wb, Rb, hbj, rfl, hJb, hWb, hRb⟩
        · rw [hbn, show best none (some j) = some j from rfl] at HBS
          have HREL : Hid (∀ nq, ∃ k' : Nat, k' ≤ 2 ∧ (Value.int .i64 ((k : Int) + 1)) = .int .i64 (k' : Int) ∧ Below w.heap.size w (w2.drewN nq) ∧ BestV w g q (bestK D k') (.pointer (some ⟨gj, 0, none⟩)) (w2.drewN nq) ∧ (0 < k' → D.x = false)) := fun nq =>
            ⟨k + 1, by omega, by go_num, below_drewN HB2.out nq, by rw [HBS.out]; exact .inr ⟨j, gj, W, R, rfl, rfl, HJ.out.below (below_drewN (Below.refl _ _) nq), fun x hx => HW.out x hx, fun x hx => HR.out x hx⟩, fun _ => HX.out⟩
          clear hbn HV2
          go_upto_region 10 with (fail)
          go_quiet (fail)
          go_wp2_with fail
          go_roundw
          case rel => exact HREL.out _
          case measure => simp [intOf]; omega
        · have HJB := Lib.hid hJb
          have HWB := Lib.hid hWb
          have HRB := Lib.hid hRb
          obtain ⟨_, _, _, _, _, _, hJb'⟩ := hJb
          obtain ⟨_, cb, _⟩ := hJb'.cells
          rw [hbj] at HBS
          clear hJb' hWb hRb hbj HV2
          by_cases ht : b.t < j.t
          · rw [best_lt ht] at HBS
            have HREL : Hid (∀ nq, ∃ k' : Nat, k' ≤ 2 ∧ (Value.int .i64 ((k : Int) + 1)) = .int .i64 (k' : Int) ∧ Below w.heap.size w (w2.drewN nq) ∧ BestV w g q (bestK D k') (.pointer (some ⟨gj, 0, none⟩)) (w2.drewN nq) ∧ (0 < k' → D.x = false)) := fun nq =>
              ⟨k + 1, by omega, by go_num, below_drewN HB2.out nq, by rw [HBS.out]; exact .inr ⟨j, gj, W, R, rfl, rfl, HJ.out.below (below_drewN (Below.refl _ _) nq), fun x hx => HW.out x hx, fun x hx => HR.out x hx⟩, fun _ => HX.out⟩
            have d2 : decide ((b.t : Int) < (j.t : Int)) = true := by simp; omega
            have d3 : decide (b.t < j.t) = true := by simp; omega
            generalize b.t = bt at *
            generalize j.t = jt at *
            clear ht HBS
            go_upto_region 10 with (fail)
            go_quiet (fail)
            go_wp2_with fail
            go_roundw
            case rel => exact HREL.out _
            case measure => simp [intOf]; omega
          · rw [best_ge ht] at HBS
            have HREL : Hid (∀ nq, ∃ k' : Nat, k' ≤ 2 ∧ (Value.int .i64 ((k : Int) + 1)) = .int .i64 (k' : Int) ∧ Below w.heap.size w (w2.drewN nq) ∧ BestV w g q (bestK D k') (.pointer (some ⟨gb, 0, none⟩)) (w2.drewN nq) ∧ (0 < k' → D.x = false)) := fun nq =>
              ⟨k + 1, by omega, by go_num, below_drewN HB2.out nq, by rw [HBS.out]; exact .inr ⟨b, gb, Wb, Rb, rfl, rfl, HJB.out.below (below_drewN (Below.refl _ _) nq), fun x hx => HWB.out x hx, fun x hx => HRB.out x hx⟩, fun _ => HX.out⟩
            have d2 : decide ((b.t : Int) < (j.t : Int)) = false := by simp; omega
            have d3 : decide (b.t < j.t) = false := by simp; omega
            generalize b.t = bt at *
            generalize j.t = jt at *
            clear ht HBS
            go_upto_region 10 with (fail)
            go_quiet (fail)
            go_wp2_with fail
            go_roundw
            case rel => exact HREL.out _
            case measure => simp [intOf]; omega
    · obtain rfl : k = 2 := by omega
      have HXF := Lib.hid (HXK.out (by omega))
      rcases hbv with ⟨hbn, rfl⟩ | ⟨j, gj, W, R, hbj, rfl, hJ, hW, hR⟩
      · have HBN : Hid (best (loadD D 0) (loadD D 1) = none) := hbn
        have hf1 : fst D 1 = q := by unfold fst; rw [HQ.out]; omega
        have HH : Hid (Calls Try.prog 50 #[.pointer (some ⟨g, 0, none⟩), .int .i64 1] wr fun e w' => e = .returned (.tuple #[.int .i64 (q : Int), .int .i64 ((q + q : Nat) : Int)]) ∧ wr = w') := by
          obtain ⟨M, E, h1, _⟩ := HO.out
          have := half_calls g M E D 1 wr (h1.below hb) (by omega)
          rw [hf1, HQ.out] at this
          exact this
        have HBL := Lib.hid (block_calls 1 0 none 0 0 [] wr rfl RB.nil (by omega) (by omega) (by omega))
        have HOR := Lib.hid (HO.out.below hb)
        have HKR := Lib.hid (Kept.of_below HO.out.lt hb)
        have HOPN : Hid (openR D = wrJ D q (q + q) (blockL 1 0 [])) := by show _ = _; unfold openR; rw [HQ.out, show 2 * q = q + q by omega]
        have HOE : Hid (openE D = if (openR D).2 = true then 0 else 10) := by
          show _ = _
          unfold openE; rw [if_neg (by rw [HQ.out]; exact HQ0.out), if_neg (by rw [HXF.out]; simp), HBN.out]
        have HOJ : Hid (openJ D = if (openR D).2 = true then some newJ else none) := by
          show _ = _
          unfold openJ; rw [if_neg (by rw [HQ.out]; exact HQ0.out), if_neg (by rw [HXF.out]; simp), HBN.out]
        have HOD : Hid (openD D = (openR D).1) := by
          show _ = _
          unfold openD; rw [if_neg (by rw [HQ.out]; exact HQ0.out), if_neg (by rw [HXF.out]; simp), HBN.out]
        have HBLN : Hid ((blockL 1 0 []).length = 64) := blk0_len
        have HNR : Hid (half (openR D).1 = half D) := by show _ = _; unfold openR; exact wrJ_half _ _ _ _
        clear hb hlt HLD HXD HBD hbn hxk HXK HSE hf1
        generalize blockL 1 0 [] = BL at *
        obtain ⟨qq, HQQ⟩ : ∃ x, Hid (q + q = x) := ⟨_, rfl⟩
        have hqq := HQQ.out
        rw [HQQ.out] at HH HOPN
        go_wp2_with fail
        refine HH.out.mono ?_
        rintro e w1 ⟨rfl, rfl⟩
        clear hqq
        go_wp2_with fail
        refine HBL.out.mono ?_
        rintro e w1 ⟨X, c, k, rfl, hk, ho, hb1⟩
        have hk64 : k = 64 := by rw [hk, HBLN.out]
        subst hk64
        have hx1 : ∀ x ∈ bl X, wr.heap.size ≤ x ∧ x < w1.heap.size := fun x hx => by
          obtain ⟨off, rfl⟩ := mem_bl hx
          have h := ho
          unfold OB at h
          rw [HBLN.out] at h
          exact own_cut (k := 0) (c' := c) h (by rw [cutA_zero])
        have HW := Lib.hid (write_calls w0 w1 (bl X ++ F) g q qq D X 64 c BL (HOR.out.add hb1 (bl X) hx1) HBLN.out ho.rb.1 (fun _ b off e => by rw [e]; simp [bl]) (by omega) (by omega) (by have := HQQ.out; omega) (by have := HC.out.l; omega))
        rw [← HOPN.out] at HW
        have HK1 := Lib.hid (HKR.out.trans (Kept.of_below HOR.out.lt hb1))
        have hs1 := hb1.size
        clear hk ho hb1 hx1 HBL HH
        go_wp2_with fail
        refine HW.out.mono ?_
        rintro e w2 ⟨he, ho2, hk2⟩
        have HO2 := Lib.hid (ho2.sub (F' := F) (fun x hx => List.mem_append_right _ hx))
        have HK2 := Lib.hid (HK1.out.trans (fun x hx => hk2 x (List.mem_append_right _ hx)))
        clear ho2 hk2 HW
        generalize openR D = r at *
        obtain ⟨r1, r2⟩ := r
        simp only at *
        cases r2 with
        | true =>
          rw [if_pos rfl] at he HOE HOJ
          subst he
          have HF : Hid (OpenP w0 F g D w (.returned (.tuple #[.pointer (some ⟨w2.heap.size, 0, none⟩), .int .i64 0])) (w2.alloc (.cells #[.pointer (some ⟨g, 0, none⟩), .int .i64 ((1 : Nat) : Int), rval ⟨none, 0, []⟩, .slice none 0 0, .int .i64 ((q + 1 : Nat) : Int), .bool false] 86))) := by
            have hb3 := below1 w2 (.cells #[.pointer (some ⟨g, 0, none⟩), .int .i64 ((1 : Nat) : Int), rval ⟨none, 0, []⟩, .slice none 0 0, .int .i64 ((q + 1 : Nat) : Int), .bool false] 86)
            refine ⟨HK2.out.trans (Kept.of_below HO2.out.lt hb3), .inr ⟨newJ, w2.heap.size, HOJ.out, by rw [HOE.out], ?_⟩⟩
            have hJ := IsJ.new (w := w2) (g := g) (h := half r1) (t := 1) (f := q) (e := 1) (R := []) (m := ⟨none, 0, []⟩) ⟨RB.nil, Nat.le_refl _, by simp [maxLen], fun _ b off e => by cases e⟩ (by simp) (by rw [HNR.out, HQ.out]; omega) (by omega) (by omega) (by rw [HNR.out, HQ.out]; have := HQ0.out; omega) (by simp)
            rw [HOD.out]
            exact JO.of HO2.out hb3 hJ rfl (by simp) (by simp)
          have HF' := HF
          unfold rval at HF'
          obtain ⟨q1, HQ1⟩ : ∃ x, Hid (q + 1 = x) := ⟨_, rfl⟩
          rw [HQ1.out] at HF'
          have e2 : (q : Int) + 1 = (q1 : Int) := by have := HQ1.out; omega
          clear HOE HOJ HOD HNR HF
          go_wp2_with fail
          go_ret2
          exact HF'.out
        | false =>
          rw [if_neg (by simp)] at he HOE HOJ
          subst he
          have HF : Hid (OpenP w0 F g D w (.returned (.tuple #[.pointer none, .int .i64 10])) w2) := ⟨HK2.out, .inl ⟨HOJ.out, by rw [HOE.out], by rw [HOD.out]; exact HO2.out⟩⟩
          clear HOE HOJ HOD HNR
          go_wp2_with fail
          go_ret2
          exact HF.out
      · have HF := Lib.hid (HBD.out j gj W R wr HXF.out hbj hJ hW hR hb)
        clear hb hlt hbj hJ hxk
        go_wp2_with fail
        go_ret2
        exact HF.out
end Jn
end Go.Proofs.Ytmdpmpfjldgalaa

/- The walk of Journal.Append. -/
namespace Go.Proofs.Ytmdpmpfjldgalaa
open Go.RowKit
namespace Jn
open Dk Wi Wr

theorem _root_.Go.Proofs.Ytmdpmpfjldgalaa.Dk.Kept.sub {F F' : List Nat} {w w' : World} (h : Kept F w w') (hs : ∀ x ∈ F', x ∈ F) : Kept F' w w' := fun x hx => h x (hs x hx)
theorem full_arith {f q tt ee e2 je nb : Nat} (h1 : f + q = tt) (h2 : ee + nb = e2) (h3 : ee = f + je) : tt < e2 ↔ q < je + nb := by omega
/-- what a call on a journal leaves -/
def CallP (w0 : World) (F : List Nat) (g gj : Nat) (D : St) (j : Jr) (er : Int) (w : World) (e : Ending) (w' : World) : Prop :=
  e = .returned (.int .i64 er) ∧ JO w0 F g gj D j w' ∧ Kept F w w'

theorem JO.own {w0 w : World} {F : List Nat} {g gj : Nat} {D : St} {j : Jr} (h : JO w0 F g gj D j w) : OwnF w0 F g D w := by
  obtain ⟨W, R, h1, _⟩ := h
  exact h1.sub (fun x hx => List.mem_append_right _ (List.mem_append_right _ hx))

theorem _root_.Go.Proofs.Ytmdpmpfjldgalaa.Dk.OwnF.step {w0 w w' : World} {F F' S : List Nat} {g : Nat} {D : St} (h : OwnF w0 F g D w) (hc : Chg S w w') (hS : ∀ x ∈ S, x ∈ F ∧ w0.heap.size ≤ x) (hF : ∀ x ∈ F', x ∈ F ∨ (w.heap.size ≤ x ∧ x < w'.heap.size)) : OwnF w0 F' g D w' := by
  obtain ⟨M, E, h1, h2, h3, h4⟩ := h
  refine ⟨M, E, h1.chg hc (fun x hx => (h4 x (hS x hx).1).1) (fun x hx => (h4 x (hS x hx).1).2.1), h2, h3.trans (hc.below h3.size (fun x hx => (hS x hx).2)), fun x hx => ?_⟩
  rcases hF x hx with hx | hx
  · exact ⟨(h4 x hx).1, (h4 x hx).2.1, Nat.lt_of_lt_of_le (h4 x hx).2.2 hc.size⟩
  · exact ⟨fun hm => by have := h1.ml x hm; omega, fun hm => by have := h1.el x hm; omega, hx.2⟩

/-- the journal has one record more -/
theorem JO.push {w0 w3 w7 w8 : World} {F W R : List Nat} {g gj : Nat} {D : St} {j : Jr} {sa ra X1 X8 : Option Addr} {sc rc c1 c8 e' f : Nat} {ms : List Rm} {d : List UInt8} (hO : OwnF w0 (W ++ (R ++ F)) g D w3) (hWE : W = gj :: (Value.slice ra ms.length rc).ownBlock.toList) (k : IsJ' w3 gj g R (half D) j sa sc ra rc ms)
    (hW : ∀ x ∈ W, w0.heap.size ≤ x ∧ x ∉ F) (hR : ∀ x ∈ R, x ∉ F) (hb : Below w3.heap.size w3 w7) (ho7 : OB w7 w3.heap.size (.slice X1 d.length c1) d) (hA : App w7 (.slice ra ms.length rc) w8 (.slice X8 (ms.length + 1) c8))
    (ho8 : w8.ownsRow 0 29 1 (.slice X8 (ms.length + 1) c8) (ms.length + 1) (ms.map rval ++ [rval ⟨X1, c1, d⟩])) (he : e' ≤ half D) (hr : ms.length + 1 ≤ e') (hd : d.length ≤ 64 * half D) (hf : j.t % 2 * half D + e' = f) :
    JO w0 F g gj D { j with rs := j.rs ++ [d], e := e' } ((w8.setCell ⟨gj, 3, none⟩ (.slice X8 (ms.length + 1) c8)).setCell ⟨gj, 4, none⟩ (.int .i64 (f : Int))) ∧
      Kept F w3 ((w8.setCell ⟨gj, 3, none⟩ (.slice X8 (ms.length + 1) c8)).setCell ⟨gj, 4, none⟩ (.int .i64 (f : Int))) := by
  subst hf
  have hX : ∀ x ∈ bl X1, w3.heap.size ≤ x ∧ x < w7.heap.size := fun x hx => by
    obtain ⟨off, rfl⟩ := mem_bl hx
    exact own_cut (k := 0) (c' := c1) ho7 (by rw [cutA_zero])
  have hr7 := ho7.rb
  have hgl := (Array.getElem?_eq_some_iff.1 k.hd).1
  have k7 := k.below hb
  have hold : ∀ b, (Value.slice ra ms.length rc).ownBlock = some b → b < w3.heap.size := fun b hb => (k.own.lt b hb).2
  have hp := k7.push (R' := bl X1 ++ R) (e' := e') ⟨X1, c1, d⟩ ⟨hr7.1, hr7.2.2.1, hr7.2.2.2, fun _ b off e => by rw [show X1 = _ from e]; simp [bl]⟩ (fun x hx => List.mem_append_right _ hx) (fun hx => by
      rcases List.mem_append.1 hx with hx | hx
      · have := hX _ hx; omega
      · exact k.gr hx) (fun b hb hx => by
      rcases List.mem_append.1 hx with hx | hx
      · have := hX _ hx; have := hold b hb; omega
      · exact (k.ob b hb).2 hx) (fun x hx => by
      rcases List.mem_append.1 hx with hx | hx
      · exact (hX x hx).2
      · exact k7.rl x hx) hA ho8 he hr hd
  have hc78 : Chg W w7 ((w8.setCell ⟨gj, 3, none⟩ (.slice X8 (ms.length + 1) c8)).setCell ⟨gj, 4, none⟩ (.int .i64 ((j.t % 2 * half D + e' : Nat) : Int))) := by
    have h1 : Chg W w7 w8 := hA.chg (by intro b hb; rw [hWE]; simp [hb])
    have hg : gj ∈ W := by rw [hWE]; simp
    exact (h1.setCell (p := ⟨gj, 3, none⟩) (.inl hg) _).setCell (p := ⟨gj, 4, none⟩) (.inl hg) _
  have hc : Chg W w3 ((w8.setCell ⟨gj, 3, none⟩ (.slice X8 (ms.length + 1) c8)).setCell ⟨gj, 4, none⟩ (.int .i64 ((j.t % 2 * half D + e' : Nat) : Int))) := (Chg.of_below hb W).trans' hc78
  have hl : IsJ _ gj g (gj :: (Value.slice X8 (ms ++ [(⟨X1, c1, d⟩ : Rm)]).length c8).ownBlock.toList) (bl X1 ++ R) (half D) _ := ⟨_, _, _, _, _, rfl, hp⟩
  have hlt := hl.lt
  have hn8 : ∀ b, (Value.slice X8 (ms ++ [(⟨X1, c1, d⟩ : Rm)]).length c8).ownBlock = some b → b ∈ W ∨ w3.heap.size ≤ b := fun b hb' => by
    have hb'' : (Value.slice X8 (ms.length + 1) c8).ownBlock = some b := by rw [← hb']; simp
    rcases hA.2 with h2 | ⟨b', h2, h3⟩
    · rw [hb''] at h2; exact .inl (by rw [hWE]; simp [← h2])
    · rw [hb''] at h2; injection h2 with h2; subst h2; exact .inr (Nat.le_trans hb.size h3)
  have hsz := hO.b.size
  refine ⟨⟨_, _, hO.step hc (fun x hx => ⟨by simp [hx], (hW x hx).1⟩) (fun x hx => ?_), hl, fun x hx => ?_, fun x hx => ?_⟩, fun x hx => hc.block x (hO.lt x (by simp [hx])) (fun hm => (hW x hm).2 hx)⟩
  · rcases List.mem_append.1 hx with hx | hx
    · have hlx := hlt.1 x hx
      simp only [List.mem_cons, Option.mem_toList] at hx
      rcases hx with rfl | hx
      · exact .inl (by rw [hWE]; simp)
      · rcases hn8 x hx with h | h
        · exact .inl (by simp [h])
        · exact .inr ⟨h, hlx⟩
    · rcases List.mem_append.1 hx with hx | hx
      · have hlx := hlt.2.1 x hx
        rcases List.mem_append.1 hx with hx | hx
        · exact .inr ⟨(hX x hx).1, hlx⟩
        · exact .inl (by simp [hx])
      · exact .inl (by simp [hx])
  · simp only [List.mem_cons, Option.mem_toList] at hx
    rcases hx with rfl | hx
    · exact hW _ (by rw [hWE]; simp)
    · rcases hn8 x hx with h | h
      · exact hW x h
      · exact ⟨by omega, fun hF => by have := hO.lt x (by simp [hF]); omega⟩
  · rcases List.mem_append.1 hx with hx | hx
    · intro hF
      have := hO.lt x (by simp [hF]); have := hX x hx; omega
    · exact hR x hx

/-- the journal's own numbers are written -/
theorem JO.setx {w0 w : World} {F W R : List Nat} {g gj : Nat} {D : St} {j : Jr} (hO : OwnF w0 (W ++ (R ++ F)) g D w) (hJ : IsJ w gj g W R (half D) j) (hW : ∀ x ∈ W, w0.heap.size ≤ x ∧ x ∉ F) (hR : ∀ x ∈ R, x ∉ F) :
    JO w0 F g gj D { j with x := true } (w.setCell ⟨gj, 5, none⟩ (.bool true)) ∧ Kept F w (w.setCell ⟨gj, 5, none⟩ (.bool true)) := by
  have hl := hJ.lt
  have hc : Chg [gj] w (w.setCell ⟨gj, 5, none⟩ (.bool true)) := (Chg.refl [gj] w).setCell (p := ⟨gj, 5, none⟩) (.inl (by simp)) _
  obtain ⟨sa, sc, ra, rc, ms, hWE, k⟩ := hJ
  refine ⟨⟨W, R, hO.wr hc (fun x hx => ?_), ⟨sa, sc, ra, rc, ms, hWE, ?_⟩, hW, hR⟩, fun x hx => hc.block x (hO.lt x (by simp [hx])) (fun hm => ?_)⟩
  · simp only [List.mem_singleton] at hx
    subst hx
    exact ⟨by simp [hl.2.2.2.1], (hW x hl.2.2.2.1).1⟩
  · refine ⟨heap_setCell_same _ _ _ _ _ _ k.hd, k.st.chg hc (fun x hx hm => ?_), hc.own k.own (fun b hb hm => ?_), k.ob, fun m hm => (k.rd m hm).chg hc (fun x hx hr => ?_), k.rs, k.gr, fun x hx => Nat.lt_of_lt_of_le (k.rl x hx) hc.size, ⟨k.ok.t1, k.ok.t2, k.ok.e, k.ok.r, k.ok.s, k.ok.d⟩⟩
    · simp only [List.mem_singleton] at hx; subst hx; exact k.gr hm
    · simp only [List.mem_singleton] at hm; exact (k.ob b hb).1 hm
    · simp only [List.mem_singleton] at hx; subst hx; exact k.gr hr
  · simp only [List.mem_singleton] at hm
    subst hm
    exact (hW x hl.2.2.2.1).2 hx

set_option maxRecDepth 100000 in
set_option maxHeartbeats 4000000 in
theorem append_calls (w0 w : World) (F : List Nat) (g gj : Nat) (D : St) (j : Jr) (A : Option Addr) (n c : Nat) (d : List UInt8) (h : JO w0 F g gj D j w) (hn : d.length = n) (hm : n ≤ 500000)
    (hr : ∀ w', Kept F w w' → Below w0.heap.size w0 w' → RB w' A d) (hD : D.n ≤ 100) (hc : Calm D) :
    Calls Try.prog 28 #[.pointer (some ⟨gj, 0, none⟩), .slice A n c] w (CallP w0 F g gj (appD D j d) (appJ D j d) (appE D j d) w) := by
  have HJO := Lib.hid h
  obtain ⟨W, R, hO, hJ, hW, hR⟩ := h
  have HO := Lib.hid hO
  have HJ := Lib.hid hJ
  have HW := Lib.hid hW
  have HRF := Lib.hid hR
  have HRD := Lib.hid hr
  have HN := Lib.hid hn
  have HC := Lib.hid hc
  obtain ⟨sa, sc, ra, rc, ms, hWE, hJ'⟩ := hJ
  have HWE := Lib.hid hWE
  have HJ' := Lib.hid hJ'
  obtain ⟨c0, c1, c2, c3, c4, c5⟩ := hJ'.cells
  have hgl := (Array.getElem?_eq_some_iff.1 hJ'.hd).1
  have ht2 := hJ'.ok.t2
  have hje := hJ'.ok.e
  have hq50 : half D ≤ 50 := by unfold half; omega
  have hml : ms.length ≤ 50 := by have := hJ'.ok.r; rw [hJ'.rs, List.length_map] at this; omega
  have HMS : Hid (j.rs.length = ms.length) := by show _ = _; rw [hJ'.rs]; simp
  clear hO hW hR hr hn hc hJ' hWE
  by_cases hx : j.x = true
  · have HF : Hid (CallP w0 F g gj (appD D j d) (appJ D j d) (appE D j d) w (.returned (.int .i64 9)) w) := by
      have e1 : appD D j d = D := by unfold appD; rw [if_pos hx]
      have e2 : appJ D j d = j := by unfold appJ; rw [if_pos hx]
      have e3 : appE D j d = 9 := by unfold appE; rw [if_pos hx]
      rw [e1, e2, e3]
      exact ⟨rfl, HJO.out, Kept.refl _ _⟩
    rw [hx] at c5
    clear hx
    go_enter Try.func28, Try.ntmps28
    go_wp2_with fail
    go_ret
    exact HF.out
  have hx' : j.x = false := by simpa using hx
  rw [hx'] at c5
  have HX := Lib.hid hx
  have HH : Hid (∀ z, Calls Try.prog 50 #[.pointer (some ⟨g, 0, none⟩), .int .i64 (j.t : Int)] (w.drewN z) fun e w' => e = .returned (.tuple #[.int .i64 (fst D j.t : Int), .int .i64 ((fst D j.t + half D : Nat) : Int)]) ∧ w' = w.drewN z) := by
    obtain ⟨M, E, h1, _⟩ := HO.out
    exact fun z => (half_calls g M E D j.t (w.drewN z) (h1.below (below_drewN (Below.refl _ _) z)) (by omega)).mono fun e w' ⟨a, b⟩ => ⟨a, b.symm⟩
  obtain ⟨BL, HBL⟩ : ∃ x, Hid (apB j d = x) := ⟨_, rfl⟩
  have hb1 := blockL_len j.t (j.rs.length + 1) d
  have hbl1 : BL.length % 64 = 0 := by rw [← HBL.out]; exact hb1.1
  have hbl2 : BL.length < n + 99 := by rw [← HBL.out, ← HN.out]; exact hb1.2.2
  have HB1 : Hid (∀ w', Kept F w w' → Below w.heap.size w w' → Calls Try.prog 51 #[.int .i64 (j.t : Int), .int .i64 ((ms.length + 1 : Nat) : Int), .slice A n c] w' (NewB w' BL)) := by
    intro w' hk hb
    rw [← HBL.out, show apB j d = blockL j.t (ms.length + 1) d by unfold apB; rw [HMS.out]]
    exact block_calls j.t (ms.length + 1) A n c d w' HN.out (HRD.out w' hk (HO.out.b.trans (hb.mono HO.out.b.size))) hm (by omega) (by omega)
  obtain ⟨f, HFF⟩ : ∃ x, Hid (fst D j.t = x) := ⟨_, rfl⟩
  obtain ⟨q, HQ⟩ : ∃ x, Hid (half D = x) := ⟨_, rfl⟩
  obtain ⟨tt, HTT⟩ : ∃ x, Hid (f + q = x) := ⟨_, rfl⟩
  obtain ⟨ee, HEE⟩ : ∃ x, Hid (j.t % 2 * half D + j.e = x) := ⟨_, rfl⟩
  have HFE : Hid (ee = f + j.e) := by show _ = _; rw [← HEE.out, ← HFF.out]; rfl
  have hf50 : f ≤ 50 := by rw [← HFF.out]; unfold fst; have : j.t % 2 * half D ≤ 1 * half D := Nat.mul_le_mul_right _ (by omega); omega
  rw [HFF.out, HQ.out, HTT.out] at HH
  rw [HEE.out] at c4
  rw [HQ.out] at hq50 hje
  obtain ⟨m1, HM1⟩ : ∃ x, Hid (ms.length + 1 = x) := ⟨_, rfl⟩
  rw [HM1.out] at HB1
  have em : (ms.length : Int) + 1 = (m1 : Int) := by have := HM1.out; omega
  have hwi : IntKind.i64.wrap (m1 : Int) = (m1 : Int) := by rw [IntKind.wrap_i64]; have := HM1.out; omega
  clear hx hx' hb1
  go_enter Try.func28, Try.ntmps28
  go_upto_region 3 with (fail)
  go_quiet ((go_at_call 50; exact Calls.quiet_of_same (HH.out _)))
  have hb1 : Below w.heap.size w (w.drewN nq) := below_drewN (Below.refl _ _) nq
  generalize w.drewN nq = w1 at *
  have HBW1 := Lib.hid hb1
  have HKW1 := Lib.hid (Kept.of_below HO.out.lt hb1)
  have HO1 := Lib.hid (HO.out.below hb1)
  have HJ1 := Lib.hid (HJ.out.below hb1)
  have HJ1' := Lib.hid (HJ'.out.below hb1)
  have hg1 : gj < w1.heap.size := Nat.lt_of_lt_of_le hgl hb1.size
  have HB2 : Hid (∀ w', Below w1.heap.size w1 w' → Calls Try.prog 51 #[.int .i64 (j.t : Int), .int .i64 (m1 : Int), .slice A n c] w' (NewB w' BL)) := fun w' hb =>
    HB1.out w' ((HKW1.out.trans (Kept.of_below HO1.out.lt hb)).sub (fun x hx => by simp [hx])) (hb1.trans (hb.mono hb1.size))
  have z1 : ∀ w', Below w1.heap.size w1 w' → w'.cell? ⟨gj, 1, none⟩ = some (.int .i64 (j.t : Int)) := fun w' h => (h.cell (p := ⟨gj, 1, none⟩) hg1).trans ((hb1.cell (p := ⟨gj, 1, none⟩) hgl).trans c1)
  have z3 : ∀ w', Below w1.heap.size w1 w' → w'.cell? ⟨gj, 3, none⟩ = some (.slice ra ms.length rc) := fun w' h => (h.cell (p := ⟨gj, 3, none⟩) hg1).trans ((hb1.cell (p := ⟨gj, 3, none⟩) hgl).trans c3)
  clear hb1 c0 c1 c2 c3 c4 c5 HO HJ HJ' HB1 HH
  go_upto_region 4 with (fail)
  go_region_held3 (fun w' => Below w1.heap.size w1 w') (first | exact (Below.refl _ _).drew | assumption) ((go_at_call 51; (with_reducible refine (HB2.out _ (by assumption)).mono ?_); rintro e w2 ⟨X, cX, k, rfl, hk, ho, hb2⟩; have HK := Lib.hid hk; have HOX := Lib.hid ho; have hbw2 : Below w1.heap.size w1 w2 := (Go.Proofs.Ytmdpmpfjldgalaa.below_drew w1).trans hb2; clear hk ho hb2))
  clear hwi em
  have hbw2' : Below w1.heap.size w1 w2 := by assumption
  have HKF2 := Lib.hid ((HKW1.out.trans (Kept.of_below HO1.out.lt hbw2')).sub (F' := F) (fun x hx => by simp [hx]))
  have HO2 := Lib.hid (HO1.out.below hbw2')
  have HJ2 := Lib.hid (HJ1.out.below hbw2')
  have HJ2' := Lib.hid (HJ1'.out.below hbw2')
  have hk64 : k % 64 = 0 := by rw [HK.out]; exact hbl1
  have hkl : k < n + 99 := by rw [HK.out]; exact hbl2
  obtain ⟨nb, HNB⟩ : ∃ x, Hid (k / 64 = x) := ⟨_, rfl⟩
  have en : (k : Int) / 64 = (nb : Int) := by have := HNB.out; omega
  have HNL : Hid ((apB j d).length / 64 = nb) := by show _ = _; rw [HBL.out, ← HK.out]; exact HNB.out
  obtain ⟨e2, HE2⟩ : ∃ x, Hid (ee + nb = x) := ⟨_, rfl⟩
  have ee2 : (ee : Int) + (nb : Int) = (e2 : Int) := by have := HE2.out; omega
  have hee : ee ≤ 100 := by have := HFE.out; omega
  have hkb : k ≤ 600000 := by omega
  have hnb : nb ≤ 10000 := by have := HNB.out; omega
  have he2 : e2 ≤ 20000 := by have := HE2.out; omega
  have HAR := Lib.hid (full_arith HTT.out HE2.out HFE.out)
  have HX2 : Hid (∀ x ∈ bl X, w1.heap.size ≤ x ∧ x < w2.heap.size) := by
    intro x hx
    obtain ⟨off, rfl⟩ := mem_bl hx
    have h := HOX.out
    unfold OB at h
    rw [← HK.out] at h
    have := own_cut (k := 0) (c' := cX) h (by rw [cutA_zero])
    exact ⟨by simpa using this.1, this.2⟩
  obtain ⟨_, _, _, _, c4, _⟩ := HJ2'.out.cells
  rw [HEE.out] at c4
  have HBW2 := Lib.hid hbw2'
  clear z1 z3 hbw2' HJ1 HJ1' HB2 hk64 hkl
  by_cases hfull : tt < e2
  · have d1 : decide (tt < e2) = true := by simpa using hfull
    have hff : apFull D j d = true := by
      unfold apFull
      rw [HNL.out, HQ.out]
      exact decide_eq_true (HAR.out.1 hfull)
    have HF : Hid (CallP w0 F g gj (appD D j d) (appJ D j d) (appE D j d) w (.returned (.int .i64 8)) w2) := by
      have e1 : appD D j d = D := by unfold appD; rw [if_neg HX.out, if_pos hff]
      have e2 : appJ D j d = j := by unfold appJ; rw [if_neg HX.out, if_pos hff]
      have e3 : appE D j d = 8 := by unfold appE; rw [if_neg HX.out, if_pos hff]
      rw [e1, e2, e3]
      exact ⟨rfl, ⟨W, R, HO2.out, HJ2.out, HW.out, HRF.out⟩, HKF2.out⟩
    clear hfull hff
    go_wp2_with fail
    go_ret
    exact HF.out
  have d1 : decide (tt < e2) = false := by simpa using hfull
  have hff : apFull D j d = false := by
    unfold apFull
    rw [HNL.out, HQ.out]
    exact decide_eq_false (fun hc => hfull (HAR.out.2 hc))
  have HFU := Lib.hid hff
  clear hfull hff
  go_upto_region 7 with (fail)
  have hgW : gj ∈ W := HJ2.out.lt.2.2.2.1
  have hf8 : ee ≤ 100000 := by omega
  have HOF := Lib.hid (HO1.out.grow (F' := bl X ++ (W ++ (R ++ F))) (HBW2.out.trans ((Go.Proofs.Ytmdpmpfjldgalaa.below_drew w2).mono HBW2.out.size)) (fun x hx => by
    rcases List.mem_append.1 hx with hx | hx
    · exact .inr (HX2.out x hx)
    · exact .inl hx))
  have HWR := Lib.hid (write_calls w0 w2.drew (bl X ++ (W ++ (R ++ F))) g ee tt D X k cX BL HOF.out HK.out.symm (RB.below (HOX.out.rb.1) (Go.Proofs.Ytmdpmpfjldgalaa.below_drew w2)) (fun _ b off e => by rw [e]; simp [bl]) (by omega) hf8 (by have := HTT.out; omega) (by have := HC.out.l; omega))
  have HAPW : Hid (wrJ D ee tt BL = apW D j d) := by
    show _ = _
    unfold apW
    rw [HBL.out, HFF.out, HQ.out, HTT.out, ← HFE.out]
  rw [HAPW.out] at HWR
  have hg2 := HJ2.out.lt.2.2.1
  have y0 : ∀ w', Kept [gj] w2 w' → w'.cell? ⟨gj, 0, none⟩ = some (.pointer (some ⟨g, 0, none⟩)) := fun w' h => (World.cell?_of_block (a := ⟨gj, 0, none⟩) (h gj (by simp))).trans HJ2'.out.cells.1
  have y4 : ∀ w', Kept [gj] w2 w' → w'.cell? ⟨gj, 4, none⟩ = some (.int .i64 (ee : Int)) := fun w' h => (World.cell?_of_block (a := ⟨gj, 4, none⟩) (h gj (by simp))).trans c4
  have hwe : IntKind.i64.wrap (ee : Int) = ee := by rw [IntKind.wrap_i64]; omega
  clear c4 hwe
  go_region_held3 (fun w' => Kept [gj] w2 w') (first | exact (Kept.of_below (by intro x hx; simp only [List.mem_singleton] at hx; subst hx; exact hg2) (Go.Proofs.Ytmdpmpfjldgalaa.below_drew w2)) | assumption) ((go_at_call 52; (with_reducible refine HWR.out.mono ?_); rintro e w3 ⟨he, ho3, hk3⟩; obtain ⟨er, HER⟩ : ∃ x, Hid ((if (apW D j d).2 = true then (0 : Int) else 10) = x) := ⟨_, rfl⟩; rw [HER.out] at he; subst he; have HO3 := Lib.hid ho3; have HK3 := Lib.hid hk3; have hs3 : Kept [gj] w2 w3 := fun x hx => (hk3 x (by simp only [List.mem_singleton] at hx; subst hx; simp [hgW])); clear ho3 hk3))
  have hs3' : Kept [gj] w2 w3 := hs3
  have hd2 := (Go.Proofs.Ytmdpmpfjldgalaa.below_drew w2)
  have HJ3 := Lib.hid ((HJ2.out.below hd2).kept (HK3.out.sub (fun x hx => by
    rcases List.mem_append.1 hx with hx | hx
    · simp [hx]
    · simp [hx])))
  have HO3' := Lib.hid (HO3.out.sub (F' := W ++ (R ++ F)) (fun x hx => List.mem_append_right _ hx))
  have HKF3 := Lib.hid (HKF2.out.trans (((Kept.of_below (F := F) (fun x hx => HO2.out.lt x (by simp [hx])) hd2)).trans (HK3.out.sub (fun x hx => by simp [hx]))))
  have HHD : Hid (half (apW D j d).1 = half D) := by show _ = _; unfold apW; exact wrJ_half _ _ _ _
  clear y0 y4 hs3 hs3' hd2 HO3 HK3 HOX HX2
  cases hr2 : (apW D j d).2 with
  | false =>
    have hE := HER.out
    rw [hr2, if_neg (by simp)] at hE
    subst hE
    have HF : Hid (CallP w0 F g gj (appD D j d) (appJ D j d) (appE D j d) w (.returned (.int .i64 10)) (w3.setCell ⟨gj, 5, none⟩ (.bool true))) := by
      have e1 : appD D j d = (apW D j d).1 := by unfold appD; rw [if_neg HX.out, if_neg (by rw [HFU.out]; simp)]
      have e2 : appJ D j d = { j with x := true } := by unfold appJ; rw [if_neg HX.out, if_neg (by rw [HFU.out]; simp), if_neg (by rw [hr2]; simp)]
      have e3 : appE D j d = 10 := by unfold appE; rw [if_neg HX.out, if_neg (by rw [HFU.out]; simp), if_neg (by rw [hr2]; simp)]
      rw [e1, e2, e3]
      have := JO.setx HO3'.out (by rw [HHD.out]; exact HJ3.out) HW.out HRF.out
      exact ⟨rfl, this.1, HKF3.out.trans this.2⟩
    obtain ⟨_, _, _, _, _, _, hJ3'⟩ := HJ3.out
    have c5 := hJ3'.cells.2.2.2.2.2
    have f5 := hJ3'.froz 5
    clear hJ3' hr2
    go_wp2_with fail
    go_ret
    exact HF.out
  | true =>
    have hE := HER.out
    rw [hr2, if_pos rfl] at hE
    subst hE
    have HR2 := Lib.hid hr2
    clear hr2
    go_upto_region 11 with (fail)
    obtain ⟨sa3, sc3, ra3, rc3, ms3, hWE3, hJ3'⟩ := HJ3.out
    rw [← HHD.out] at hJ3'
    have hml3 : ms3.length ≤ 50 := by have h1 := hJ3'.ok.r; have h2 := hJ3'.ok.e; rw [hJ3'.rs, List.length_map] at h1; rw [HHD.out, HQ.out] at h2; omega
    have c3 := hJ3'.cells.2.2.2.1
    have hg3 := (Array.getElem?_eq_some_iff.1 hJ3'.hd).1
    have HRDW : Hid (∀ u, Below w3.heap.size w3 u → RB u A d) := fun u hu => HRD.out u (HKF3.out.trans (Kept.of_below (fun x hx => HO3'.out.lt x (by simp [hx])) hu)) (HO3'.out.b.trans (hu.mono HO3'.out.b.size))
    have HPU : Hid (∀ w7 w8 X1 c1 k1 X8 c8, Below w3.heap.size w3 w7 → k1 = d.length → OB w7 w3.heap.size (.slice X1 k1 c1) d → App w7 (.slice ra3 ms3.length rc3) w8 (.slice X8 (ms3.length + 1) c8) →
        w8.ownsRow 0 29 1 (.slice X8 (ms3.length + 1) c8) (ms3.length + 1) (ms3.map rval ++ [.slice X1 k1 c1]) →
        CallP w0 F g gj (appD D j d) (appJ D j d) (appE D j d) w (.returned (.int .i64 0)) ((w8.setCell ⟨gj, 3, none⟩ (.slice X8 (ms3.length + 1) c8)).setCell ⟨gj, 4, none⟩ (.int .i64 (e2 : Int)))) := by
      intro w7 w8 X1 c1 k1 X8 c8 hb hk ho7 hA ho8
      subst hk
      have e1 : appD D j d = (apW D j d).1 := by unfold appD; rw [if_neg HX.out, if_neg (by rw [HFU.out]; simp)]
      have e2' : appJ D j d = { j with rs := j.rs ++ [d], e := j.e + nb } := by unfold appJ; rw [if_neg HX.out, if_neg (by rw [HFU.out]; simp), if_pos HR2.out, HNL.out]
      have e3 : appE D j d = 0 := by unfold appE; rw [if_neg HX.out, if_neg (by rw [HFU.out]; simp), if_pos HR2.out]
      have hfu := of_decide_eq_false (show decide (half D < j.e + (apB j d).length / 64) = false from HFU.out)
      rw [HNL.out] at hfu
      rw [e1, e2', e3]
      have hbl := blockL_len j.t (j.rs.length + 1) d
      have hn1 : 1 ≤ nb := by rw [← HNL.out]; show 1 ≤ (blockL j.t (j.rs.length + 1) d).length / 64; have := hbl.2.1; omega
      have hbd := blockL_ge j.t (j.rs.length + 1) d
      have hdn : d.length ≤ 64 * nb := by rw [← HNL.out]; have h64 := hbl.1; show _ ≤ 64 * ((blockL j.t (j.rs.length + 1) d).length / 64); omega
      have hp := JO.push (e' := j.e + nb) (f := e2) HO3'.out hWE3 hJ3' HW.out HRF.out hb ho7 hA ho8 (by rw [HHD.out]; omega) (by have h1 := hJ3'.ok.r; rw [hJ3'.rs, List.length_map] at h1; omega) (by rw [HHD.out]; omega) (by rw [HHD.out, ← HE2.out, ← HEE.out]; omega)
      exact ⟨rfl, hp.1, HKF3.out.trans hp.2⟩
    have HJ3' := Lib.hid hJ3'
    obtain ⟨ml, HML⟩ : ∃ x, Hid (ms3.length = x) := ⟨_, rfl⟩
    rw [HML.out] at c3 hml3 HPU
    have c3a : ∀ o : Obj, (w3.alloc o).cell? ⟨gj, 3, none⟩ = some (.slice ra3 ml rc3) := fun o => (World.cell?_alloc_lt w3 o ⟨gj, 3, none⟩ hg3).trans c3
    have HOW : Hid (∀ u, Below w3.heap.size w3 u → u.ownsRow 0 29 1 (.slice ra3 ml rc3) ml (ms3.map rval)) := fun u hu => by
      have := own_below HJ3'.out.own hu
      rw [HML.out] at this
      exact this
    have HGO : Hid (∀ w7 w8 v8, Below w3.heap.size w3 w7 → App w7 (.slice ra3 ml rc3) w8 v8 → w8.heap[gj]? = some (.cells (jcells g (half (apW D j d).1) j sa3 sc3 ra3 ml rc3) 86 (0, 0))) := fun w7 w8 v8 hb hA => by
      have h := hA.old (hb.block gj hg3 |>.trans HJ3'.out.hd) (fun e => (HJ3'.out.ob gj (by rw [HML.out]; exact e)).1 rfl)
      rw [HML.out] at h
      exact h
    have HC4 : Hid ((jcells g (half (apW D j d).1) j sa3 sc3 ra3 ml rc3)[4]? = some (.int .i64 (ee : Int))) := by show _ = _; unfold jcells; rw [HHD.out, HEE.out]; rfl
    clear hJ3'
    go_region_law (first | (refine st_app0 _ (by rfl) _ _ (by rfl) d (by rfl) A n c (by rfl) HN.out (HRDW.out _ (Go.Proofs.Ytmdpmpfjldgalaa.below_drew w3)) (by omega) ?_; intro X1 c1 k1 w7 HK1 hk1 hk1' HO7 HB7 hs7; have hb7 : Below w3.heap.size w3 w7 := (Go.Proofs.Ytmdpmpfjldgalaa.below_drew w3).trans HB7.out; have e7 : w7.cell? ⟨gj, 3, none⟩ = some (.slice ra3 ml rc3) := (hb7.cell (p := ⟨gj, 3, none⟩) hg3).trans c3; have e7b : ∀ o : Obj, (w7.alloc o).cell? ⟨gj, 3, none⟩ = some (.slice ra3 ml rc3) := fun o => (World.cell?_alloc_lt w7 o ⟨gj, 3, none⟩ (block_lt_of_cell e7)).trans e7) | (refine step_app _ (by rfl) _ _ 44 (by rfl) 0 29 (.slice none 0 0) 24 Try.underlying44 info_sl rfl (.slice ra3 ml rc3) ml (ms3.map rval) (by rfl) (own_below (HOW.out w7 hb7) (below1 w7 _)) (some ⟨w7.heap.size, 0, none⟩) 1 1 [.slice X1 k1 c1] (by rfl) rfl (Rd.one w7 _ _) (by simp [Value.oneCell']) (by simp only [maxLen]; omega) (by omega) (Nat.zero_le _) ?_; intro v8 w8 ho8 ha8; obtain ⟨X8, c8, rfl, _⟩ := own_form ho8; have HO8 := Lib.hid ho8; have HA8 := Lib.hid ha8.alloc_left; have HG8 := Lib.hid (HGO.out w7 w8 _ hb7 HA8.out); have e8 : w8.cell? ⟨gj, 3, none⟩ = some (.slice ra3 ml rc3) := (cell_of_row _ _ 3 _ _ _ HG8.out).trans rfl; have f8 : w8.frozen? ⟨gj, 3, none⟩ = false := frozen_of_row _ _ _ _ _ HG8.out; have e84 : w8.cell? ⟨gj, 4, none⟩ = some (.int .i64 (ee : Int)) := (cell_of_row _ _ 4 _ _ _ HG8.out).trans HC4.out; have f84 : w8.frozen? ⟨gj, 4, none⟩ = false := frozen_of_row _ _ _ _ _ HG8.out; clear ho8 ha8))
    all_goals
      have HF := Lib.hid (HPU.out w7 w8 X1 c1 k1 X8 c8 hb7 HK1.out HO7.out HA8.out HO8.out)
      clear e7 e7b hb7 c3 c3a
      go_wp2_with fail
      go_ret
      exact HF.out
end Jn
end Go.Proofs.Ytmdpmpfjldgalaa
