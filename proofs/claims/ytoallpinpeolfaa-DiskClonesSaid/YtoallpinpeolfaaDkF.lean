/- The walks of Disk.settle, Sync, Crash. -/
import Derived.Test.YtoallpinpeolfaaDkE
import Derived.Laws.EntriesVeiled
import Derived.Shelf.Abstract
namespace Go.Proofs.Ytoallpinpeolfaa
open Go.RowKit
namespace Dk

def wrV (m : Pm) : Value := .agg #[.int .i64 (m.q.s : Int), .slice m.a m.q.d.length m.c]

set_option maxRecDepth 100000 in
theorem sync1_calls (i : Int) (m : Pm) (w : World) (hm : m.q.d.length = 64 * m.q.k) (hl : m.q.d.length ≤ 4194304) :
    Calls Try.prog 38 #[.int .i64 i, .agg #[.int .i64 (m.q.s : Int), .slice m.a m.q.d.length m.c]] w fun e w' => e = .returned (.int .i64 (m.q.k : Int)) ∧ Below w.heap.size w w' := by
  have hq : (m.q.d.length : Int) / 64 = (m.q.k : Int) := by omega
  clear hm
  generalize m.q.d.length = dl at *
  generalize m.q.k = kk at *
  generalize m.q.s = ms at *
  generalize m.a = ma at *
  generalize m.c = mc at *
  go_enter Try.func38, Try.ntmps38
  go_wp2_with fail
  go_ret
  exact ⟨rfl, below1 _ _⟩
set_option maxRecDepth 100000 in
theorem crash1_calls (Sb : Nat) (Z : Option Addr) (zn zc : Nat) (sv : List Int) (i : Nat) (m : Pm) (w : World) (hS : w.cell? ⟨Sb, 0, none⟩ = some (.slice Z zn zc)) (hz : sv.length = zn) (hr : Rd w Z (sv.map (Value.int .i64))) :
    Calls Try.prog 36 #[.int .i64 (i : Int), .agg #[.int .i64 (m.q.s : Int), .slice m.a m.q.d.length m.c], .pointer (some ⟨Sb, 0, none⟩)] w fun e w' => e = .returned (.int .i64 (zSv sv i)) ∧ Below w.heap.size w w' := by
  generalize m.q.d.length = dl at *
  generalize m.q.s = ms at *
  generalize m.a = ma at *
  generalize m.c = mc at *
  have hSb := block_lt_of_cell hS
  have hS' : ∀ o : Obj, (w.alloc o).cell? ⟨Sb, 0, none⟩ = some (.slice Z zn zc) := fun o => (World.cell?_alloc_lt w o ⟨Sb, 0, none⟩ hSb).trans hS
  have HZ := Lib.hid hz
  have HR := Lib.hid hr
  clear hS hz hr
  by_cases hi : i < zn
  · have hil : i < sv.length := by have := HZ.out; omega
    have HE := Lib.hid (zSv_lt sv i hil)
    rw [HE.out]
    obtain ⟨b, off, rfl, hb, hc⟩ := Rd.cells HR.out (by simp; omega)
    have hx := hc i (.int .i64 sv[i]) (by simp [List.getElem?_eq_getElem hil])
    have hx' : ∀ o : Obj, (w.alloc o).cell? ⟨b, off + i, none⟩ = some (.int .i64 sv[i]) := fun o => (World.cell?_alloc_lt w o ⟨b, off + i, none⟩ hb).trans hx
    have d1 : decide ((zn : Int) ≤ (i : Int)) = false := by simp; omega
    have i0 : (0 : Int) ≤ (i : Int) := by omega
    have i1 : (i : Int) < (zn : Int) := by omega
    clear hc hx hb
    generalize sv[i] = x at *
    go_enter Try.func36, Try.ntmps36
    go_wp2_with fail
    go_ret
    exact ⟨rfl, below1 _ _⟩
  · have HE := Lib.hid (zSv_ge sv i (by have := HZ.out; omega))
    rw [HE.out]
    have d1 : decide ((zn : Int) ≤ (i : Int)) = true := by simp; omega
    go_enter Try.func36, Try.ntmps36
    go_wp2_with fail
    go_ret
    exact ⟨rfl, below1 _ _⟩

/-- the disk's bytes were written, the writes forgotten -/
def settD (D : St) (c : Nat → Pc → Nat) : St := { D with b := setB D.b D.p c D.p.length, p := [] }

/-- the disk's own block of bytes -/
theorem IsD'.dne {w : World} {g : Nat} {M E : List Nat} {D : St} {A X : Option Addr} {ca cx : Nat} {P : List Pm} (h : IsD' w g M E D A ca X cx P) : ∀ b, (Value.slice A (64 * D.n) ca).ownBlock = some b → b ≠ g ∧ ∀ x, (Value.slice X P.length cx).ownBlock = some x → x ≠ b := by
  intro b hb
  rcases h.du.2 with ⟨e, _⟩ | ⟨g', cap, cur, e, _, hh, _⟩
  · rw [e] at hb; cases hb
  · rw [e] at hb
    have : g' = b := by simpa [Value.ownBlock] using hb
    subst this
    refine ⟨?_, ?_⟩
    · rintro rfl
      rw [h.hd] at hh
      injection hh with hh
      injection hh with _ ht
      exact absurd ht (by decide)
    · rintro x hx rfl
      rcases h.pe.2 with ⟨e2, _⟩ | ⟨g2, _, _, e2, _, hh2, _⟩
      · rw [e2] at hx; cases hx
      · rw [e2] at hx
        have : g2 = x := by simpa [Value.ownBlock] using hx
        subst this
        rw [hh2] at hh
        injection hh with hh
        injection hh with _ ht
        exact absurd ht (by decide)
theorem IsD'.pne {w : World} {g : Nat} {M E : List Nat} {D : St} {A X : Option Addr} {ca cx : Nat} {P : List Pm} (h : IsD' w g M E D A ca X cx P) : ∀ b, (Value.slice X P.length cx).ownBlock = some b → b ≠ g := by
  intro b hb
  rcases h.pe.2 with ⟨e, _⟩ | ⟨g', cap, cur, e, _, hh, _⟩
  · rw [e] at hb; cases hb
  · rw [e] at hb
    have : g' = b := by simpa [Value.ownBlock] using hb
    subst this
    rintro rfl
    rw [h.hd] at hh
    injection hh with hh
    injection hh with _ ht
    exact absurd ht (by decide)

set_option maxRecDepth 100000 in
set_option maxHeartbeats 2000000 in
theorem settle_try (g : Nat) (M E : List Nat) (D : St) (w : World) (h : IsD w g M E D) (fi : FuncId) (cap : Array Value) (z : Nat → Pc → Int)
    (hcl : ∀ (i : Nat) (m : Pm) (w' : World), m.q ∈ D.p → Chg M w w' → Calls Try.prog fi (#[.int .i64 (i : Int), .agg #[.int .i64 (m.q.s : Int), .slice m.a m.q.d.length m.c]] ++ cap) w' fun e w'' => e = .returned (.int .i64 (z i m.q)) ∧ Below w'.heap.size w' w'')
    (hent : ∀ (args : Array Value) (w' : World), (callFunc fi args).run Try.prog w' = .ok (.enter fi args) w') :
    Calls Try.prog 35 #[.pointer (some ⟨g, 0, none⟩), .func (Fn.func fi) #[] cap] w fun e w' => e = .returned (.tuple #[]) ∧ DkP w g M E (settD D fun i q => clamp (z i q) q.k) w' := by
  obtain ⟨A, ca, X, cx, P, h⟩ := h
  have c1 := h.cell1
  have HI := Lib.hid h
  have HCL := Lib.hid hcl
  obtain ⟨_, _, e1, hcx, hcxm, _, _⟩ := own_formS h.pe
  cases e1
  unfold maxLen at hcxm
  have hn := h.ok.n2
  have hgl := h.lt
  obtain ⟨T, HT⟩ : ∃ T, Hid (T = (Value.slice A (64 * D.n) ca).ownBlock.toList) := ⟨_, rfl⟩
  have HT2 : Hid (∀ b, (Value.slice A (64 * D.n) ca).ownBlock = some b → b ∈ T) := by intro b hb; rw [HT.out]; simpa using hb
  have HTM : Hid (∀ x ∈ T, x ∈ M) := by intro x hx; rw [HT.out] at hx; exact h.ma x (by simpa using hx)
  have HTg : Hid (g ∉ T) := by show ¬ _; intro hx; rw [HT.out] at hx; exact (h.dne g (by simpa using hx)).1 rfl
  have HTx : Hid (∀ b, (Value.slice X P.length cx).ownBlock = some b → b ∉ T) := by intro b hb hx; rw [HT.out] at hx; exact (h.dne b (by simpa using hx)).2 b hb rfl
  have HTl : Hid (∀ x ∈ T, x < w.heap.size) := fun x hx => h.ml x (HTM.out x hx)
  have HTE : Hid (∀ x ∈ T, x ∉ E) := fun x hx => h.me x (HTM.out x hx)
  have HPD := Lib.hid h.pd
  have HOKP := Lib.hid h.ok.p
  have HST0 : Hid (w.ownsRow 0 5 1 (.slice A (64 * D.n) ca) (64 * D.n) ((setB D.b (P.map (·.q)) (fun i q => clamp (z i q) q.k) 0).map vb)) := h.du
  have HEND : Hid (settD D (fun i q => clamp (z i q) q.k) = { D with b := setB D.b (P.map (·.q)) (fun i q => clamp (z i q) q.k) P.length, p := [] }) := by show _ = _; unfold settD; rw [h.pd]; simp
  clear h hcl
  go_enter Try.func35, Try.ntmps35
  go_wp2_with fail
  obtain ⟨pl, HPL⟩ : ∃ x, Hid (P.length = x) := ⟨_, rfl⟩
  rw [HPL.out] at hcx ⊢
  clear c1
  go_loopw [11] (fun i wr => ∃ j : Nat, j ≤ pl ∧ i = .int .i64 j ∧ wr.ownsRow 0 5 1 (.slice A (64 * D.n) ca) (64 * D.n) ((setB D.b (P.map (·.q)) (fun i q => clamp (z i q) q.k) j).map vb) ∧ Chg T w wr) (fun i _ => pl - (intOf i).toNat)
  case atStart => exact ⟨0, Nat.zero_le _, rfl, HST0.out, Chg.refl _ _⟩
  case round =>
    obtain ⟨j, hj, rfl, hor, hbr⟩ := hrel
    have HO := Lib.hid hor
    have HC := Lib.hid hbr
    have hgr : wr.heap[g]? = some (.cells #[.slice A (64 * D.n) ca, .slice X P.length cx, .int .i64 D.f, .bool D.x] 67 (0, 0)) := hbr.blk HI.out.hd HTg.out
    have HG := Lib.hid hgr
    have hpe := hbr.ownS HI.out.pe HTx.out
    have HPE := Lib.hid hpe
    have HPR := Lib.hid (HI.out.pr.chg hbr HTE.out)
    have hgl2 : g < wr.heap.size := Nat.lt_of_lt_of_le hgl hbr.size
    clear hor hbr
    have j0 : (0 : Int) ≤ (j : Int) := by omega
    by_cases hlt : j < pl
    · have j1 : (j : Int) < (pl : Int) := by omega
      have hjP : j < P.length := by have := HPL.out; omega
      have HST := Lib.hid (setB_stepP D.b P (fun i q => clamp (z i q) q.k) j hjP)
      obtain ⟨bb, rfl, x0, x1⟩ := pe_cells hpe j hjP
      obtain ⟨r1, r2, _, _⟩ := HPR.out P[j] (List.getElem_mem hjP)
      have hqm : P[j].q ∈ D.p := by rw [HPD.out]; exact List.mem_map.2 ⟨_, List.getElem_mem hjP, rfl⟩
      have hqo : P[j].q.ok D.n := HOKP.out _ hqm
      obtain ⟨m, HM⟩ : ∃ x, Hid (P[j] = x) := ⟨P[j], rfl⟩
      rw [HM.out] at HST x0 x1 r1 r2 hqo hqm
      have HR1 := Lib.hid r1
      have HR2 := Lib.hid r2
      have HQO := Lib.hid hqo
      have HQM := Lib.hid hqm
      obtain ⟨b, HBB⟩ : ∃ x, Hid (setB D.b (P.map (·.q)) (fun i q => clamp (z i q) q.k) j = x) := ⟨_, rfl⟩
      rw [HBB.out] at HO HST
      obtain ⟨zz, HZZ⟩ : ∃ x, Hid (z j m.q = x) := ⟨_, rfl⟩
      have HST2 : Hid (setB D.b (P.map (·.q)) (fun i q => clamp (z i q) q.k) (j + 1) = ap b m.q (clamp zz m.q.k)) := by rw [← HZZ.out]; exact HST.out
      have hcc := fun w' (hb : Chg M w w') => Lib.hid (HCL.out j m w' HQM.out hb)
      rw [HZZ.out] at hcc
      clear hgr hpe r1 r2 hqo hqm HST
      go_wp2_with fail
      have hk3 := heap_alloc_new wr (.cells #[.int .i64 (m.q.s : Int), .slice m.a m.q.d.length m.c] 74)
      have hb3 := below1 wr (.cells #[.int .i64 (m.q.s : Int), .slice m.a m.q.d.length m.c] 74)
      have hT3 : wr.heap.size ∉ T := fun hx => by have := HTl.out _ hx; have := HC.out.size; omega
      generalize wr.alloc (.cells #[.int .i64 (m.q.s : Int), .slice m.a m.q.d.length m.c] 74) = w3 at *
      have HB3 := Lib.hid hb3
      have HO3 := Lib.hid (own_below HO.out hb3)
      have HR3 := Lib.hid (RB.below HR1.out hb3)
      have hMC : ∀ w', Chg T w3 w' → Chg M w w' := fun w' h => (((HC.out.trans' (Chg.of_below HB3.out T)).trans' h).mono HTM.out)
      have y0 : ∀ w', Chg T w3 w' → w'.cell? ⟨wr.heap.size, 0, none⟩ = some (.int .i64 (m.q.s : Int)) := fun w' h => (h.cellAt hk3 hT3).trans rfl
      have y1 : ∀ w', Chg T w3 w' → w'.cell? ⟨wr.heap.size, 1, none⟩ = some (.slice m.a m.q.d.length m.c) := fun w' h => (h.cellAt hk3 hT3).trans rfl
      have y2 : ∀ w', Chg T w3 w' → w'.cell? ⟨g, 0, none⟩ = some (.slice A (64 * D.n) ca) := fun w' h => (h.cellAt ((HB3.out.block g hgl2).trans HG.out) HTg.out).trans rfl
      have hclo : ∀ w', Chg T w3 w' → Hid (Calls Try.prog fi (#[.int .i64 (j : Int), .agg #[.int .i64 (m.q.s : Int), .slice m.a m.q.d.length m.c]] ++ cap) w' fun e w'' => e = .returned (.int .i64 zz) ∧ Below w'.heap.size w' w'' ∧ Chg T w3 w'') := fun w' h =>
        (hcc w' (hMC w' h)).out.mono fun e w'' ⟨h1, h2⟩ => ⟨h1, h2, h.trans' (Chg.of_below h2 T)⟩
      clear hk3 hb3 x0 x1 hcc hMC
      go_region_held3 (fun w' => Chg T w3 w') (first | exact (Chg.refl _ _).drew | assumption) (first | (go_at_call 37; refine (apply_calls 0 D.n A ca b m zz w5 (own_below (own_below HO3.out (below_drew _)) hb5) hn HQO.out (RB.below (RB.below HR3.out (below_drew _)) hb5) HR2.out).mono ?_; rintro e w9 ⟨rfl, ho9, hc9⟩; have hs9 : Chg T w3 w9 := hs5.trans' (hc9 T HT2.out)) | (refine (hclo w3.drew (Chg.refl _ _).drew).out.mono ?_; rintro e w5 ⟨rfl, hb5, hs5⟩))
      have HO9 : Hid (w9.ownsRow 0 5 1 (.slice A (64 * D.n) ca) (64 * D.n) ((setB D.b (P.map (·.q)) (fun i q => clamp (z i q) q.k) (j + 1)).map vb)) := by rw [HST2.out]; exact ho9
      have HC9 : Hid (Chg T w w9) := (HC.out.trans' (Chg.of_below HB3.out T)).trans' hs9
      clear ho9 hc9 hs9 hb5 hs5 y0 y1 y2 hclo
      go_wp2_with fail
      go_roundw
      case rel => exact ⟨j + 1, by omega, by go_num, HO9.out, HC9.out⟩
      case measure => simp [intOf]; omega
    · have HJ : Hid (j = P.length) := by show _ = _; have := HPL.out; omega
      rw [HJ.out] at HO
      have e0 : wr.cell? ⟨g, 1, none⟩ = some (.slice X pl cx) := by rw [← HPL.out]; exact (cell_of_row _ _ 1 _ _ _ HG.out).trans rfl
      have f0 : wr.frozen? ⟨g, 1, none⟩ = false := frozen_of_row _ _ _ _ _ HG.out
      have hcs : Chg [g] wr (wr.setCell ⟨g, 1, none⟩ (.slice none 0 0)) := (Chg.refl [g] wr).setCell (p := ⟨g, 1, none⟩) (.inl (by simp)) _
      have HF : Hid (DkP w g M E (settD D fun i q => clamp (z i q) q.k) (wr.setCell ⟨g, 1, none⟩ (.slice none 0 0))) := by
        have hok := HI.out.ok
        have hcw : Chg M w (wr.setCell ⟨g, 1, none⟩ (.slice none 0 0)) := (HC.out.mono HTM.out).trans' (hcs.mono (by simp; exact HI.out.mg))
        refine ⟨M, E, ?_, hcw, fun _ h => .inl h, fun _ h => .inl h⟩
        rw [HEND.out]
        refine ⟨A, ca, none, 0, [], ?_, ?_, ⟨rfl, .inl ⟨rfl, rfl⟩⟩, rfl, fun m hm => absurd hm (by simp), ?_, HI.out.mg, HI.out.ma, (fun b hb => by cases hb), HI.out.me, fun x hx => Nat.lt_of_lt_of_le (HI.out.ml x hx) hcw.size, fun x hx => Nat.lt_of_lt_of_le (HI.out.el x hx) hcw.size⟩
        · exact heap_setCell_same _ _ _ _ _ _ HG.out
        · exact hcs.ownS HO.out (fun b hb hx => (HI.out.dne b hb).1 (by simpa using hx))
        · refine ⟨hok.n1, hok.n2, ?_, fun q hq => absurd hq (by simp), hok.f1, hok.f2⟩
          exact setB_len _ _ _ _ _ hok.b (by rw [← HPD.out]; exact hok.p)
      clear hcs
      go_wp2_with fail
      go_end0
      exact ⟨rfl, HF.out⟩

theorem DkP.trans {w w1 w2 : World} {g : Nat} {M E : List Nat} {D : St} (hc : Chg M w w1) (h : DkP w1 g M E D w2) : DkP w g M E D w2 := by
  obtain ⟨M', E', h1, h2, h3, h4⟩ := h
  exact ⟨M', E', h1, hc.trans' h2, fun x hx => (h3 x hx).imp id fun h => Nat.le_trans hc.size h, fun x hx => (h4 x hx).imp id fun h => Nat.le_trans hc.size h⟩

theorem enters_sync : ∀ (args : Array Value) (w' : World), (callFunc 38 args).run Try.prog w' = .ok (.enter 38 args) w' := enters_of Try.func38 (by kernel_rfl) rfl
theorem enters_crash : ∀ (args : Array Value) (w' : World), (callFunc 36 args).run Try.prog w' = .ok (.enter 36 args) w' := enters_of Try.func36 (by kernel_rfl) rfl

set_option maxRecDepth 100000 in
set_option maxHeartbeats 1000000 in
theorem sync_calls (g : Nat) (M E : List Nat) (D : St) (w : World) (h : IsD w g M E D) :
    Calls Try.prog 21 #[.pointer (some ⟨g, 0, none⟩)] w fun e w' => e = .returned (.int .i64 (syncE D)) ∧ DkP w g M E (syncD D) w' := by
  have HI := Lib.hid h
  have HBU := Lib.hid (burn_calls g M E D w h)
  obtain ⟨A, ca, X, cx, P, h'⟩ := h
  have c3 := h'.cell3
  have hok := h'.ok
  have HOK := Lib.hid hok
  clear h' hok
  cases hx : D.x with
  | true =>
    have HE : Hid (syncE D = 10 ∧ syncD D = D) := by constructor <;> simp [syncE, syncD, hx]
    rw [HE.out.1, HE.out.2]
    rw [hx] at c3
    clear hx
    go_enter Try.func21, Try.ntmps21
    go_wp2_with fail
    go_ret
    exact ⟨rfl, .refl HI.out⟩
  | false =>
    rw [hx] at c3
    by_cases h0 : D.f = 0
    · have HE : Hid (syncE D = 10 ∧ syncD D = burnD D) := by constructor <;> simp [syncE, syncD, hx, h0, burnD]
      rw [HE.out.1, HE.out.2]
      rw [decide_eq_true h0] at HBU
      clear hx h0
      go_enter Try.func21, Try.ntmps21
      go_wp2_with (go_at_call 33; refine HBU.out.mono ?_; rintro e w1 ⟨rfl, hi1, hc1⟩; have HI1 := Lib.hid hi1; have HC1 := Lib.hid hc1; clear hi1 hc1)
      go_ret
      exact ⟨rfl, M, E, HI1.out, HC1.out.mono (by simp; exact HI.out.mg), fun _ h => .inl h, fun _ h => .inl h⟩
    · have HE : Hid (syncE D = 0 ∧ syncD D = settD (burnD D) fun _ q => clamp (q.k : Int) q.k) := by
        constructor
        · simp [syncE, hx, h0]
        · have : burnD D = { D with f := burnF D.f } := by unfold burnD; rw [if_neg h0]
          unfold syncD settD
          rw [if_neg (by simp [hx]), if_neg h0, this]
          simp only [clamp_self]
          rfl
      rw [HE.out.1, HE.out.2]
      rw [decide_eq_false h0] at HBU
      have HBP : Hid ((burnD D).p = D.p ∧ (burnD D).n = D.n) := by unfold burnD; show _ ∧ _; rw [if_neg h0]; exact ⟨rfl, rfl⟩
      have HSE : Hid (∀ w1, IsD w1 g M E (burnD D) → Calls Try.prog 35 #[.pointer (some ⟨g, 0, none⟩), .func (Fn.func 38) #[] #[]] w1 fun e w' => e = .returned (.tuple #[]) ∧ DkP w1 g M E (settD (burnD D) fun _ q => clamp (q.k : Int) q.k) w') := by
        intro w1 h1
        refine settle_try g M E (burnD D) w1 h1 _ #[] (fun _ q => (q.k : Int)) (fun i m w' hm _ => ?_) enters_sync
        rw [HBP.out.1] at hm
        obtain ⟨ho1, ho2⟩ := HOK.out.p _ hm
        have := HOK.out.n2
        exact sync1_calls (i : Int) m w' ho1 (by omega)
      clear hx h0 HE
      generalize burnD D = D1 at *
      go_enter Try.func21, Try.ntmps21
      go_wp2_with (go_at_call 33; refine HBU.out.mono ?_; rintro e w1 ⟨rfl, hi1, hc1⟩; have HI1 := Lib.hid hi1; have HC1 := Lib.hid hc1; clear hi1 hc1)
      refine (HSE.out w1 HI1.out).mono ?_
      rintro e w2 ⟨rfl, hd2⟩
      have HD2 := Lib.hid (DkP.trans (HC1.out.mono (by simp; exact HI.out.mg)) hd2)
      clear hd2
      go_wp2_with fail
      go_ret
      exact ⟨rfl, HD2.out⟩
set_option maxRecDepth 100000 in
set_option maxHeartbeats 1000000 in
theorem crash_calls (g : Nat) (M E : List Nat) (D : St) (Z : Option Addr) (zn zc : Nat) (sv : List Int) (w : World) (h : IsD w g M E D) (hz : sv.length = zn) (hr : Rd w Z (sv.map (Value.int .i64))) (hZ : sv ≠ [] → ∀ b off, Z = some ⟨b, off, none⟩ → b ∉ M) :
    Calls Try.prog 15 #[.pointer (some ⟨g, 0, none⟩), .slice Z zn zc] w fun e w' => e = .returned (.tuple #[]) ∧ DkP w g M E (crashD D sv) w' := by
  have HI := Lib.hid h
  have hml := h.ml
  have HML := Lib.hid hml
  have hk1 := heap_alloc_new w (.cells #[.slice Z zn zc] 23)
  have hb1 := below1 w (.cells #[.slice Z zn zc] 23)
  have HI1 := Lib.hid (h.below hb1)
  have HR1 := Lib.hid (Rd.below hr hb1)
  have HZM := Lib.hid hZ
  have hs1 : w.heap.size ∉ M := fun hx => by have := hml _ hx; omega
  have HSE : Hid (Calls Try.prog 35 #[.pointer (some ⟨g, 0, none⟩), .func (Fn.func 36) #[] #[.pointer (some ⟨w.heap.size, 0, none⟩)]] (w.alloc (.cells #[.slice Z zn zc] 23)) fun e w' => e = .returned (.tuple #[]) ∧ DkP (w.alloc (.cells #[.slice Z zn zc] 23)) g M E (settD D (cSv sv)) w') := by
    refine settle_try g M E D _ HI1.out _ _ (fun i _ => zSv sv i) (fun i m w' _ hc => ?_) enters_crash
    refine crash1_calls w.heap.size Z zn zc sv i m w' ((hc.cellAt hk1 hs1).trans rfl) hz ?_
    by_cases hsv : sv = []
    · subst hsv; exact Rd.nil
    · exact hc.rd HR1.out (HZM.out hsv)
  have HB1 := Lib.hid hb1
  have hlt1 : w.heap.size < (w.alloc (.cells #[.slice Z zn zc] 23)).heap.size := by simp
  clear h hml hz hr hZ hk1 hb1 hs1
  go_enter Try.func15, Try.ntmps15
  go_wp2_with fail
  refine HSE.out.mono ?_
  rintro e w2 ⟨rfl, M2, E2, hd2, hc2, hm2, he2⟩
  obtain ⟨A, ca, X, cx, P, hd2⟩ := hd2
  have HD2 := Lib.hid hd2
  have c2 := hd2.cell2
  have c3 := hd2.cell3
  have f2 := hd2.frz 2
  have f3 := hd2.frz 3
  have hcs : Chg [g] w2 (((w2.setCell ⟨g, 2, none⟩ (.int .i64 (-1))).setCell ⟨g, 3, none⟩ (.bool false))) := ((Chg.refl [g] w2).setCell (p := ⟨g, 2, none⟩) (.inl (by simp)) _).setCell (p := ⟨g, 3, none⟩) (.inl (by simp)) _
  have HF : Hid (DkP w g M E (crashD D sv) ((w2.setCell ⟨g, 2, none⟩ (.int .i64 (-1))).setCell ⟨g, 3, none⟩ (.bool false))) := by
    have hd3 := hd2.head hcs (f := -1) (x := false) (heap_setCell_same _ _ _ _ _ _ (heap_setCell_same _ _ _ _ _ _ hd2.hd)) ⟨by omega, by omega⟩
    have hcM := (Chg.of_below HB1.out M).trans' hc2
    refine ⟨M2, E2, ⟨A, ca, X, cx, P, hd3⟩, hcM.trans hcs (fun x hx => ?_), fun x hx => (hm2 x hx).imp id fun h => Nat.le_trans (Nat.le_of_lt hlt1) h, fun x hx => (he2 x hx).imp id fun h => Nat.le_trans (Nat.le_of_lt hlt1) h⟩
    simp only [List.mem_singleton] at hx
    subst hx
    exact .inl HI.out.mg
  clear hd2 hc2 hm2 he2 hcs
  go_wp2_with fail
  go_end0
  exact ⟨rfl, HF.out⟩
end Dk
end Go.Proofs.Ytoallpinpeolfaa
