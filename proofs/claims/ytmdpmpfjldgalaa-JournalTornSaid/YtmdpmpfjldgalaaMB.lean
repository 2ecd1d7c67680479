/- Merged: DkF DkG DkU DkQ DkR DkV DkW. -/
import Derived.Laws.EntriesVeiled
import Derived.Shelf.Abstract
import Derived.Deep.DeepCutAuto
import Derived.Deep.CutRange
import Derived.Deep.DeepMust
import Derived.Test.YtmdpmpfjldgalaaMA
/- The walks of Disk.settle, Sync, Crash. -/
namespace Go.Proofs.Ytmdpmpfjldgalaa
open Go.RowKit
namespace Dk

def wrV (m : Pm) : Value := .agg #[.int .i64 (m.q.s : Int), .slice m.a m.q.d.length m.c]

set_option maxRecDepth 100000 in
theorem sync1_calls (i : Int) (m : Pm) (w : World) (hm : m.q.d.length = 64 * m.q.k) (hl : m.q.d.length ≤ 4194304) :
    Calls Try.prog 44 #[.int .i64 i, .agg #[.int .i64 (m.q.s : Int), .slice m.a m.q.d.length m.c]] w fun e w' => e = .returned (.int .i64 (m.q.k : Int)) ∧ Below w.heap.size w w' := by
  have hq : (m.q.d.length : Int) / 64 = (m.q.k : Int) := by omega
  clear hm
  generalize m.q.d.length = dl at *
  generalize m.q.k = kk at *
  generalize m.q.s = ms at *
  generalize m.a = ma at *
  generalize m.c = mc at *
  go_enter Try.func44, Try.ntmps44
  go_wp2_with fail
  go_ret
  exact ⟨rfl, below1 _ _⟩
set_option maxRecDepth 100000 in
theorem crash1_calls (Sb : Nat) (Z : Option Addr) (zn zc : Nat) (sv : List Int) (i : Nat) (m : Pm) (w : World) (hS : w.cell? ⟨Sb, 0, none⟩ = some (.slice Z zn zc)) (hz : sv.length = zn) (hr : Rd w Z (sv.map (Value.int .i64))) :
    Calls Try.prog 48 #[.int .i64 (i : Int), .agg #[.int .i64 (m.q.s : Int), .slice m.a m.q.d.length m.c], .pointer (some ⟨Sb, 0, none⟩)] w fun e w' => e = .returned (.int .i64 (zSv sv i)) ∧ Below w.heap.size w w' := by
  generalize m.q.d.length = dl at *
  generalize m.q.s = ms at *
  generalize m.a = ma at *
  generalize m.c = mc at *
  have hSb := block_lt_of_cell hS
  have hS' : ∀ o : Obj, (w.alloc o).cell? ⟨Sb, 0, none⟩ = some (.slice Z zn zc) := fun o => (World.cell?_alloc_lt w o ⟨Sb, 0, none⟩ hSb).trans hS
  have HZ := Lib.hid hz
  have HR := Lib.hid hr
  clear hS hz hr
  by_cases hi : i < zn
  · have hil : i < sv.length := by have := HZ.out; omega
    have HE := Lib.hid (zSv_lt sv i hil)
    rw [HE.out]
    obtain ⟨b, off, rfl, hb, hc⟩ := Rd.cells HR.out (by simp; omega)
    have hx := hc i (.int .i64 sv[i]) (by simp [List.getElem?_eq_getElem hil])
    have hx' : ∀ o : Obj, (w.alloc o).cell? ⟨b, off + i, none⟩ = some (.int .i64 sv[i]) := fun o => (World.cell?_alloc_lt w o ⟨b, off + i, none⟩ hb).trans hx
    have d1 : decide ((zn : Int) ≤ (i : Int)) = false := by simp; omega
    have i0 : (0 : Int) ≤ (i : Int) := by omega
    have i1 : (i : Int) < (zn : Int) := by omega
    clear hc hx hb
    generalize sv[i] = x at *
    go_enter Try.func48, Try.ntmps48
    go_wp2_with fail
    go_ret
    exact ⟨rfl, below1 _ _⟩
  · have HE := Lib.hid (zSv_ge sv i (by have := HZ.out; omega))
    rw [HE.out]
    have d1 : decide ((zn : Int) ≤ (i : Int)) = true := by simp; omega
    go_enter Try.func48, Try.ntmps48
    go_wp2_with fail
    go_ret
    exact ⟨rfl, below1 _ _⟩

/-- the disk's bytes were written, the writes forgotten -/
def settD (D : St) (c : Nat → Pc → Nat) : St := { D with b := setB D.b D.p c D.p.length, p := [] }

/-- the disk's own block of bytes -/
theorem IsD'.dne {w : World} {g : Nat} {M E : List Nat} {D : St} {A X : Option Addr} {ca cx : Nat} {P : List Pm} (h : IsD' w g M E D A ca X cx P) : ∀ b, (Value.slice A (64 * D.n) ca).ownBlock = some b → b ≠ g ∧ ∀ x, (Value.slice X P.length cx).ownBlock = some x → x ≠ b := by
  intro b hb
  rcases h.du.2 with ⟨e, _⟩ | ⟨g', cap, cur, e, _, hh, _⟩
  · rw [e] at hb; cases hb
  · rw [e] at hb
    have : g' = b := by simpa [Value.ownBlock] using hb
    subst this
    refine ⟨?_, ?_⟩
    · rintro rfl
      rw [h.hd] at hh
      injection hh with hh
      injection hh with _ ht
      exact absurd ht (by decide)
    · rintro x hx rfl
      rcases h.pe.2 with ⟨e2, _⟩ | ⟨g2, _, _, e2, _, hh2, _⟩
      · rw [e2] at hx; cases hx
      · rw [e2] at hx
        have : g2 = x := by simpa [Value.ownBlock] using hx
        subst this
        rw [hh2] at hh
        injection hh with hh
        injection hh with _ ht
        exact absurd ht (by decide)
theorem IsD'.pne {w : World} {g : Nat} {M E : List Nat} {D : St} {A X : Option Addr} {ca cx : Nat} {P : List Pm} (h : IsD' w g M E D A ca X cx P) : ∀ b, (Value.slice X P.length cx).ownBlock = some b → b ≠ g := by
  intro b hb
  rcases h.pe.2 with ⟨e, _⟩ | ⟨g', cap, cur, e, _, hh, _⟩
  · rw [e] at hb; cases hb
  · rw [e] at hb
    have : g' = b := by simpa [Value.ownBlock] using hb
    subst this
    rintro rfl
    rw [h.hd] at hh
    injection hh with hh
    injection hh with _ ht
    exact absurd ht (by decide)

set_option maxRecDepth 100000 in
set_option maxHeartbeats 2000000 in
theorem settle_try (g : Nat) (M E : List Nat) (D : St) (w : World) (h : IsD w g M E D) (fi : FuncId) (cap : Array Value) (z : Nat → Pc → Int)
    (hcl : ∀ (i : Nat) (m : Pm) (w' : World), m.q ∈ D.p → Chg M w w' → Calls Try.prog fi (#[.int .i64 (i : Int), .agg #[.int .i64 (m.q.s : Int), .slice m.a m.q.d.length m.c]] ++ cap) w' fun e w'' => e = .returned (.int .i64 (z i m.q)) ∧ Below w'.heap.size w' w'')
    (hent : ∀ (args : Array Value) (w' : World), (callFunc fi args).run Try.prog w' = .ok (.enter fi args) w') :
    Calls Try.prog 43 #[.pointer (some ⟨g, 0, none⟩), .func (Fn.func fi) #[] cap] w fun e w' => e = .returned (.tuple #[]) ∧ DkP w g M E (settD D fun i q => clamp (z i q) q.k) w' := by
  obtain ⟨A, ca, X, cx, P, h⟩ := h
  have c1 := h.cell1
  have HI := Lib.hid h
  have HCL := Lib.hid hcl
  obtain ⟨_, _, e1, hcx, hcxm, _, _⟩ := own_formS h.pe
  cases e1
  unfold maxLen at hcxm
  have hn := h.ok.n2
  have hgl := h.lt
  obtain ⟨T, HT⟩ : ∃ T, Hid (T = (Value.slice A (64 * D.n) ca).ownBlock.toList) := ⟨_, rfl⟩
  have HT2 : Hid (∀ b, (Value.slice A (64 * D.n) ca).ownBlock = some b → b ∈ T) := by intro b hb; rw [HT.out]; simpa using hb
  have HTM : Hid (∀ x ∈ T, x ∈ M) := by intro x hx; rw [HT.out] at hx; exact h.ma x (by simpa using hx)
  have HTg : Hid (g ∉ T) := by show ¬ _; intro hx; rw [HT.out] at hx; exact (h.dne g (by simpa using hx)).1 rfl
  have HTx : Hid (∀ b, (Value.slice X P.length cx).ownBlock = some b → b ∉ T) := by intro b hb hx; rw [HT.out] at hx; exact (h.dne b (by simpa using hx)).2 b hb rfl
  have HTl : Hid (∀ x ∈ T, x < w.heap.size) := fun x hx => h.ml x (HTM.out x hx)
  have HTE : Hid (∀ x ∈ T, x ∉ E) := fun x hx => h.me x (HTM.out x hx)
  have HPD := Lib.hid h.pd
  have HOKP := Lib.hid h.ok.p
  have HST0 : Hid (w.ownsRow 0 5 1 (.slice A (64 * D.n) ca) (64 * D.n) ((setB D.b (P.map (·.q)) (fun i q => clamp (z i q) q.k) 0).map vb)) := h.du
  have HEND : Hid (settD D (fun i q => clamp (z i q) q.k) = { D with b := setB D.b (P.map (·.q)) (fun i q => clamp (z i q) q.k) P.length, p := [] }) := by show _ = _; unfold settD; rw [h.pd]; simp
  clear h hcl
  go_enter Try.func43, Try.ntmps43
  go_wp2_with fail
  obtain ⟨pl, HPL⟩ : ∃ x, Hid (P.length = x) := ⟨_, rfl⟩
  rw [HPL.out] at hcx ⊢
  clear c1
  go_loopw [11] (fun i wr => ∃ j : Nat, j ≤ pl ∧ i = .int .i64 j ∧ wr.ownsRow 0 5 1 (.slice A (64 * D.n) ca) (64 * D.n) ((setB D.b (P.map (·.q)) (fun i q => clamp (z i q) q.k) j).map vb) ∧ Chg T w wr) (fun i _ => pl - (intOf i).toNat)
  case atStart => exact ⟨0, Nat.zero_le _, rfl, HST0.out, Chg.refl _ _⟩
  case round =>
    obtain ⟨j, hj, rfl, hor, hbr⟩ := hrel
    have HO := Lib.hid hor
    have HC := Lib.hid hbr
    have hgr : wr.heap[g]? = some (.cells #[.slice A (64 * D.n) ca, .slice X P.length cx, .int .i64 D.f, .bool D.x] 75 (0, 0)) := hbr.blk HI.out.hd HTg.out
    have HG := Lib.hid hgr
    have hpe := hbr.ownS HI.out.pe HTx.out
    have HPE := Lib.hid hpe
    have HPR := Lib.hid (HI.out.pr.chg hbr HTE.out)
    have hgl2 : g < wr.heap.size := Nat.lt_of_lt_of_le hgl hbr.size
    clear hor hbr
    have j0 : (0 : Int) ≤ (j : Int) := by omega
    by_cases hlt : j < pl
    · have j1 : (j : Int) < (pl : Int) := by omega
      have hjP : j < P.length := by have := HPL.out; omega
      have HST := Lib.hid (setB_stepP D.b P (fun i q => clamp (z i q) q.k) j hjP)
      obtain ⟨bb, rfl, x0, x1⟩ := pe_cells hpe j hjP
      obtain ⟨r1, r2, _, _⟩ := HPR.out P[j] (List.getElem_mem hjP)
      have hqm : P[j].q ∈ D.p := by rw [HPD.out]; exact List.mem_map.2 ⟨_, List.getElem_mem hjP, rfl⟩
      have hqo : P[j].q.ok D.n := HOKP.out _ hqm
      obtain ⟨m, HM⟩ : ∃ x, Hid (P[j] = x) := ⟨P[j], rfl⟩
      rw [HM.out] at HST x0 x1 r1 r2 hqo hqm
      have HR1 := Lib.hid r1
      have HR2 := Lib.hid r2
      have HQO := Lib.hid hqo
      have HQM := Lib.hid hqm
      obtain ⟨b, HBB⟩ : ∃ x, Hid (setB D.b (P.map (·.q)) (fun i q => clamp (z i q) q.k) j = x) := ⟨_, rfl⟩
      rw [HBB.out] at HO HST
      obtain ⟨zz, HZZ⟩ : ∃ x, Hid (z j m.q = x) := ⟨_, rfl⟩
      have HST2 : Hid (setB D.b (P.map (·.q)) (fun i q => clamp (z i q) q.k) (j + 1) = ap b m.q (clamp zz m.q.k)) := by rw [← HZZ.out]; exact HST.out
      have hcc := fun w' (hb : Chg M w w') => Lib.hid (HCL.out j m w' HQM.out hb)
      rw [HZZ.out] at hcc
      clear hgr hpe r1 r2 hqo hqm HST
      go_wp2_with fail
      have hk3 := heap_alloc_new wr (.cells #[.int .i64 (m.q.s : Int), .slice m.a m.q.d.length m.c] 79)
      have hb3 := below1 wr (.cells #[.int .i64 (m.q.s : Int), .slice m.a m.q.d.length m.c] 79)
      have hT3 : wr.heap.size ∉ T := fun hx => by have := HTl.out _ hx; have := HC.out.size; omega
      generalize wr.alloc (.cells #[.int .i64 (m.q.s : Int), .slice m.a m.q.d.length m.c] 79) = w3 at *
      have HB3 := Lib.hid hb3
      have HO3 := Lib.hid (own_below HO.out hb3)
      have HR3 := Lib.hid (RB.below HR1.out hb3)
      have hMC : ∀ w', Chg T w3 w' → Chg M w w' := fun w' h => (((HC.out.trans' (Chg.of_below HB3.out T)).trans' h).mono HTM.out)
      have y0 : ∀ w', Chg T w3 w' → w'.cell? ⟨wr.heap.size, 0, none⟩ = some (.int .i64 (m.q.s : Int)) := fun w' h => (h.cellAt hk3 hT3).trans rfl
      have y1 : ∀ w', Chg T w3 w' → w'.cell? ⟨wr.heap.size, 1, none⟩ = some (.slice m.a m.q.d.length m.c) := fun w' h => (h.cellAt hk3 hT3).trans rfl
      have y2 : ∀ w', Chg T w3 w' → w'.cell? ⟨g, 0, none⟩ = some (.slice A (64 * D.n) ca) := fun w' h => (h.cellAt ((HB3.out.block g hgl2).trans HG.out) HTg.out).trans rfl
      have hclo : ∀ w', Chg T w3 w' → Hid (Calls Try.prog fi (#[.int .i64 (j : Int), .agg #[.int .i64 (m.q.s : Int), .slice m.a m.q.d.length m.c]] ++ cap) w' fun e w'' => e = .returned (.int .i64 zz) ∧ Below w'.heap.size w' w'' ∧ Chg T w3 w'') := fun w' h =>
        (hcc w' (hMC w' h)).out.mono fun e w'' ⟨h1, h2⟩ => ⟨h1, h2, h.trans' (Chg.of_below h2 T)⟩
      clear hk3 hb3 x0 x1 hcc hMC
      go_region_held3 (fun w' => Chg T w3 w') (first | exact (Chg.refl _ _).drew | assumption) (first | (go_at_call 60; refine (apply_calls 0 D.n A ca b m zz w5 (own_below (own_below HO3.out (below_drew _)) hb5) hn HQO.out (RB.below (RB.below HR3.out (below_drew _)) hb5) HR2.out).mono ?_; rintro e w9 ⟨rfl, ho9, hc9⟩; have hs9 : Chg T w3 w9 := hs5.trans' (hc9 T HT2.out)) | (refine (hclo w3.drew (Chg.refl _ _).drew).out.mono ?_; rintro e w5 ⟨rfl, hb5, hs5⟩))
      have HO9 : Hid (w9.ownsRow 0 5 1 (.slice A (64 * D.n) ca) (64 * D.n) ((setB D.b (P.map (·.q)) (fun i q => clamp (z i q) q.k) (j + 1)).map vb)) := by rw [HST2.out]; exact ho9
      have HC9 : Hid (Chg T w w9) := (HC.out.trans' (Chg.of_below HB3.out T)).trans' hs9
      clear ho9 hc9 hs9 hb5 hs5 y0 y1 y2 hclo
      go_wp2_with fail
      go_roundw
      case rel => exact ⟨j + 1, by omega, by go_num, HO9.out, HC9.out⟩
      case measure => simp [intOf]; omega
    · have HJ : Hid (j = P.length) := by show _ = _; have := HPL.out; omega
      rw [HJ.out] at HO
      have e0 : wr.cell? ⟨g, 1, none⟩ = some (.slice X pl cx) := by rw [← HPL.out]; exact (cell_of_row _ _ 1 _ _ _ HG.out).trans rfl
      have f0 : wr.frozen? ⟨g, 1, none⟩ = false := frozen_of_row _ _ _ _ _ HG.out
      have hcs : Chg [g] wr (wr.setCell ⟨g, 1, none⟩ (.slice none 0 0)) := (Chg.refl [g] wr).setCell (p := ⟨g, 1, none⟩) (.inl (by simp)) _
      have HF : Hid (DkP w g M E (settD D fun i q => clamp (z i q) q.k) (wr.setCell ⟨g, 1, none⟩ (.slice none 0 0))) := by
        have hok := HI.out.ok
        have hcw : Chg M w (wr.setCell ⟨g, 1, none⟩ (.slice none 0 0)) := (HC.out.mono HTM.out).trans' (hcs.mono (by simp; exact HI.out.mg))
        refine ⟨M, E, ?_, hcw, fun _ h => .inl h, fun _ h => .inl h⟩
        rw [HEND.out]
        refine ⟨A, ca, none, 0, [], ?_, ?_, ⟨rfl, .inl ⟨rfl, rfl⟩⟩, rfl, fun m hm => absurd hm (by simp), ?_, HI.out.mg, HI.out.ma, (fun b hb => by cases hb), HI.out.me, fun x hx => Nat.lt_of_lt_of_le (HI.out.ml x hx) hcw.size, fun x hx => Nat.lt_of_lt_of_le (HI.out.el x hx) hcw.size⟩
        · exact heap_setCell_same _ _ _ _ _ _ HG.out
        · exact hcs.ownS HO.out (fun b hb hx => (HI.out.dne b hb).1 (by simpa using hx))
        · refine ⟨hok.n1, hok.n2, ?_, fun q hq => absurd hq (by simp), hok.f1, hok.f2⟩
          exact setB_len _ _ _ _ _ hok.b (by rw [← HPD.out]; exact hok.p)
      clear hcs
      go_wp2_with fail
      go_end0
      exact ⟨rfl, HF.out⟩

theorem DkP.trans {w w1 w2 : World} {g : Nat} {M E : List Nat} {D : St} (hc : Chg M w w1) (h : DkP w1 g M E D w2) : DkP w g M E D w2 := by
  obtain ⟨M', E', h1, h2, h3, h4⟩ := h
  exact ⟨M', E', h1, hc.trans' h2, fun x hx => (h3 x hx).imp id fun h => Nat.le_trans hc.size h, fun x hx => (h4 x hx).imp id fun h => Nat.le_trans hc.size h⟩

theorem enters_sync : ∀ (args : Array Value) (w' : World), (callFunc 44 args).run Try.prog w' = .ok (.enter 44 args) w' := enters_of Try.func44 (by kernel_rfl) rfl
theorem enters_crash : ∀ (args : Array Value) (w' : World), (callFunc 48 args).run Try.prog w' = .ok (.enter 48 args) w' := enters_of Try.func48 (by kernel_rfl) rfl

set_option maxRecDepth 100000 in
set_option maxHeartbeats 1000000 in
theorem sync_calls (g : Nat) (M E : List Nat) (D : St) (w : World) (h : IsD w g M E D) :
    Calls Try.prog 16 #[.pointer (some ⟨g, 0, none⟩)] w fun e w' => e = .returned (.int .i64 (syncE D)) ∧ DkP w g M E (syncD D) w' := by
  have HI := Lib.hid h
  have HBU := Lib.hid (burn_calls g M E D w h)
  obtain ⟨A, ca, X, cx, P, h'⟩ := h
  have c3 := h'.cell3
  have hok := h'.ok
  have HOK := Lib.hid hok
  clear h' hok
  cases hx : D.x with
  | true =>
    have HE : Hid (syncE D = 10 ∧ syncD D = D) := by constructor <;> simp [syncE, syncD, hx]
    rw [HE.out.1, HE.out.2]
    rw [hx] at c3
    clear hx
    go_enter Try.func16, Try.ntmps16
    go_wp2_with fail
    go_ret
    exact ⟨rfl, .refl HI.out⟩
  | false =>
    rw [hx] at c3
    by_cases h0 : D.f = 0
    · have HE : Hid (syncE D = 10 ∧ syncD D = burnD D) := by constructor <;> simp [syncE, syncD, hx, h0, burnD]
      rw [HE.out.1, HE.out.2]
      rw [decide_eq_true h0] at HBU
      clear hx h0
      go_enter Try.func16, Try.ntmps16
      go_wp2_with (go_at_call 41; refine HBU.out.mono ?_; rintro e w1 ⟨rfl, hi1, hc1⟩; have HI1 := Lib.hid hi1; have HC1 := Lib.hid hc1; clear hi1 hc1)
      go_ret
      exact ⟨rfl, M, E, HI1.out, HC1.out.mono (by simp; exact HI.out.mg), fun _ h => .inl h, fun _ h => .inl h⟩
    · have HE : Hid (syncE D = 0 ∧ syncD D = settD (burnD D) fun _ q => clamp (q.k : Int) q.k) := by
        constructor
        · simp [syncE, hx, h0]
        · have : burnD D = { D with f := burnF D.f } := by unfold burnD; rw [if_neg h0]
          unfold syncD settD
          rw [if_neg (by simp [hx]), if_neg h0, this]
          simp only [clamp_self]
          rfl
      rw [HE.out.1, HE.out.2]
      rw [decide_eq_false h0] at HBU
      have HBP : Hid ((burnD D).p = D.p ∧ (burnD D).n = D.n) := by unfold burnD; show _ ∧ _; rw [if_neg h0]; exact ⟨rfl, rfl⟩
      have HSE : Hid (∀ w1, IsD w1 g M E (burnD D) → Calls Try.prog 43 #[.pointer (some ⟨g, 0, none⟩), .func (Fn.func 44) #[] #[]] w1 fun e w' => e = .returned (.tuple #[]) ∧ DkP w1 g M E (settD (burnD D) fun _ q => clamp (q.k : Int) q.k) w') := by
        intro w1 h1
        refine settle_try g M E (burnD D) w1 h1 _ #[] (fun _ q => (q.k : Int)) (fun i m w' hm _ => ?_) enters_sync
        rw [HBP.out.1] at hm
        obtain ⟨ho1, ho2⟩ := HOK.out.p _ hm
        have := HOK.out.n2
        exact sync1_calls (i : Int) m w' ho1 (by omega)
      clear hx h0 HE
      generalize burnD D = D1 at *
      go_enter Try.func16, Try.ntmps16
      go_wp2_with (go_at_call 41; refine HBU.out.mono ?_; rintro e w1 ⟨rfl, hi1, hc1⟩; have HI1 := Lib.hid hi1; have HC1 := Lib.hid hc1; clear hi1 hc1)
      refine (HSE.out w1 HI1.out).mono ?_
      rintro e w2 ⟨rfl, hd2⟩
      have HD2 := Lib.hid (DkP.trans (HC1.out.mono (by simp; exact HI.out.mg)) hd2)
      clear hd2
      go_wp2_with fail
      go_ret
      exact ⟨rfl, HD2.out⟩
set_option maxRecDepth 100000 in
set_option maxHeartbeats 1000000 in
theorem crash_calls (g : Nat) (M E : List Nat) (D : St) (Z : Option Addr) (zn zc : Nat) (sv : List Int) (w : World) (h : IsD w g M E D) (hz : sv.length = zn) (hr : Rd w Z (sv.map (Value.int .i64))) (hZ : sv ≠ [] → ∀ b off, Z = some ⟨b, off, none⟩ → b ∉ M) :
    Calls Try.prog 21 #[.pointer (some ⟨g, 0, none⟩), .slice Z zn zc] w fun e w' => e = .returned (.tuple #[]) ∧ DkP w g M E (crashD D sv) w' := by
  have HI := Lib.hid h
  have hml := h.ml
  have HML := Lib.hid hml
  have hk1 := heap_alloc_new w (.cells #[.slice Z zn zc] 30)
  have hb1 := below1 w (.cells #[.slice Z zn zc] 30)
  have HI1 := Lib.hid (h.below hb1)
  have HR1 := Lib.hid (Rd.below hr hb1)
  have HZM := Lib.hid hZ
  have hs1 : w.heap.size ∉ M := fun hx => by have := hml _ hx; omega
  have HSE : Hid (Calls Try.prog 43 #[.pointer (some ⟨g, 0, none⟩), .func (Fn.func 48) #[] #[.pointer (some ⟨w.heap.size, 0, none⟩)]] (w.alloc (.cells #[.slice Z zn zc] 30)) fun e w' => e = .returned (.tuple #[]) ∧ DkP (w.alloc (.cells #[.slice Z zn zc] 30)) g M E (settD D (cSv sv)) w') := by
    refine settle_try g M E D _ HI1.out _ _ (fun i _ => zSv sv i) (fun i m w' _ hc => ?_) enters_crash
    refine crash1_calls w.heap.size Z zn zc sv i m w' ((hc.cellAt hk1 hs1).trans rfl) hz ?_
    by_cases hsv : sv = []
    · subst hsv; exact Rd.nil
    · exact hc.rd HR1.out (HZM.out hsv)
  have HB1 := Lib.hid hb1
  have hlt1 : w.heap.size < (w.alloc (.cells #[.slice Z zn zc] 30)).heap.size := by simp
  clear h hml hz hr hZ hk1 hb1 hs1
  go_enter Try.func21, Try.ntmps21
  go_wp2_with fail
  refine HSE.out.mono ?_
  rintro e w2 ⟨rfl, M2, E2, hd2, hc2, hm2, he2⟩
  obtain ⟨A, ca, X, cx, P, hd2⟩ := hd2
  have HD2 := Lib.hid hd2
  have c2 := hd2.cell2
  have c3 := hd2.cell3
  have f2 := hd2.frz 2
  have f3 := hd2.frz 3
  have hcs : Chg [g] w2 (((w2.setCell ⟨g, 2, none⟩ (.int .i64 (-1))).setCell ⟨g, 3, none⟩ (.bool false))) := ((Chg.refl [g] w2).setCell (p := ⟨g, 2, none⟩) (.inl (by simp)) _).setCell (p := ⟨g, 3, none⟩) (.inl (by simp)) _
  have HF : Hid (DkP w g M E (crashD D sv) ((w2.setCell ⟨g, 2, none⟩ (.int .i64 (-1))).setCell ⟨g, 3, none⟩ (.bool false))) := by
    have hd3 := hd2.head hcs (f := -1) (x := false) (heap_setCell_same _ _ _ _ _ _ (heap_setCell_same _ _ _ _ _ _ hd2.hd)) ⟨by omega, by omega⟩
    have hcM := (Chg.of_below HB1.out M).trans' hc2
    refine ⟨M2, E2, ⟨A, ca, X, cx, P, hd3⟩, hcM.trans hcs (fun x hx => ?_), fun x hx => (hm2 x hx).imp id fun h => Nat.le_trans (Nat.le_of_lt hlt1) h, fun x hx => (he2 x hx).imp id fun h => Nat.le_trans (Nat.le_of_lt hlt1) h⟩
    simp only [List.mem_singleton] at hx
    subst hx
    exact .inl HI.out.mg
  clear hd2 hc2 hm2 he2 hcs
  go_wp2_with fail
  go_end0
  exact ⟨rfl, HF.out⟩
end Dk
end Go.Proofs.Ytmdpmpfjldgalaa

/- The walks of disk.New, Disk.Write, Disk.Clone. -/
namespace Go.Proofs.Ytmdpmpfjldgalaa
open Go.RowKit
namespace Dk

theorem IsD'.push {w0 w1 w1' w2 : World} {g : Nat} {M E : List Nat} {D : St} {A X X' Y : Option Addr} {ca cx cx' cy s : Nat} {P : List Pm} {l : List UInt8} (h : IsD' w0 g M E D A ca X cx P)
    (hb1 : Below w0.heap.size w0 w1) (hY : w1.ownsRow w0.heap.size 5 1 (.slice Y l.length cy) l.length (l.map vb)) (hb2 : Below w1.heap.size w1 w1') (hq : Pc.ok D.n ⟨s, l⟩)
    (hown : w2.ownsRow 0 79 2 (.slice X' (P.length + 1) cx') (P.length + 1) (pcells P ++ [.int .i64 (s : Int), .slice Y l.length cy]))
    (happ : App w1' (.slice X P.length cx) w2 (.slice X' (P.length + 1) cx')) :
    DkP w0 g M E { D with p := D.p ++ [⟨s, l⟩] } (w2.setCell ⟨g, 1, none⟩ (.slice X' (P.length + 1) cx')) := by
  have hw : Below w0.heap.size w0 w1' := hb1.trans (hb2.mono hb1.size)
  obtain ⟨Sx, HSx⟩ : ∃ S, S = (Value.slice X P.length cx).ownBlock.toList := ⟨_, rfl⟩
  obtain ⟨Sn, HSn⟩ : ∃ S, S = (Value.slice X' (P.length + 1) cx').ownBlock.toList := ⟨_, rfl⟩
  obtain ⟨Sy, HSy⟩ : ∃ S, S = (Value.slice Y l.length cy).ownBlock.toList := ⟨_, rfl⟩
  have mSx : ∀ x, x ∈ Sx ↔ (Value.slice X P.length cx).ownBlock = some x := by intro x; rw [HSx]; simp
  have mSn : ∀ x, x ∈ Sn ↔ (Value.slice X' (P.length + 1) cx').ownBlock = some x := by intro x; rw [HSn]; simp
  have mSy : ∀ x, x ∈ Sy ↔ (Value.slice Y l.length cy).ownBlock = some x := by intro x; rw [HSy]; simp
  have ha : Chg Sx w1' w2 := happ.chg (fun b hb => (mSx b).2 hb)
  have hc2 : Chg Sx w0 w2 := (Chg.of_below hw Sx).trans' ha
  have hgS : g ∉ Sx := fun hx => h.pne g ((mSx g).1 hx) rfl
  have hcs : Chg [g] w2 (w2.setCell ⟨g, 1, none⟩ (.slice X' (P.length + 1) cx')) := (Chg.refl [g] w2).setCell (p := ⟨g, 1, none⟩) (.inl (by simp)) _
  have hSM : ∀ x ∈ Sx, x ∈ M := fun x hx => h.mx x ((mSx x).1 hx)
  have hcM : Chg M w0 (w2.setCell ⟨g, 1, none⟩ (.slice X' (P.length + 1) cx')) := (hc2.mono hSM).trans' (hcs.mono (by simp; exact h.mg))
  have hn : ∀ x ∈ Sn, x ∈ Sx ∨ w1'.heap.size ≤ x := by
    intro x hx
    have hx' := (mSn x).1 hx
    rcases happ.2 with e | ⟨y, e, hy⟩
    · rw [e] at hx'; exact .inl ((mSx x).2 hx')
    · rw [e] at hx'; injection hx' with hx'; subst hx'; exact .inr hy
  have hyl : ∀ x ∈ Sy, w0.heap.size ≤ x ∧ x < w1.heap.size := fun x hx => hY.lt x ((mSy x).1 hx)
  obtain ⟨_, _, e1, hyc, hym, _, hry⟩ := own_form hY
  cases e1
  have hgl := h.lt
  have hws := hw.size
  have hs2 := hb2.size
  have hnl : ∀ x ∈ Sn, x < w2.heap.size := fun x hx => (hown.lt x ((mSn x).1 hx)).2
  have hz2 : w2.heap.size = (w2.setCell ⟨g, 1, none⟩ (.slice X' (P.length + 1) cx')).heap.size := by simp [World.setCell]
  refine ⟨M ++ Sn, E ++ Sy, ⟨A, ca, X', cx', P ++ [⟨⟨s, l⟩, Y, cy⟩], ?_⟩, hcM, fun x hx => ?_, fun x hx => ?_⟩
  · refine ⟨?_, ?_, ?_, ?_, ?_, ?_, ?_, ?_, ?_, ?_, ?_, ?_⟩
    · rw [List.length_append]
      exact heap_setCell_same _ _ _ _ _ _ (hc2.blk h.hd hgS)
    · refine hcs.ownS (hc2.ownS h.du fun b hb hx => (h.dne b hb).2 b ((mSx b).1 hx) rfl) fun b hb hx => (h.dne b hb).1 (by simpa using hx)
    · rw [List.length_append, pcells_snoc]
      refine hcs.ownS hown fun b hb hx => ?_
      have hbn := (mSn b).2 hb
      simp only [List.mem_singleton] at hx
      subst hx
      rcases hn b hbn with h1 | h1
      · exact hgS h1
      · omega
    · show D.p ++ [⟨s, l⟩] = _
      rw [h.pd]; simp
    · intro m hm
      rcases List.mem_append.1 hm with hm | hm
      · obtain ⟨r1, r2, r3, r4⟩ := (h.pr.chg hc2 (fun x hx => h.me x (hSM x hx))).chg hcs (fun x hx => by simp only [List.mem_singleton] at hx; subst hx; exact h.me _ h.mg) m hm
        exact ⟨r1, r2, r3, fun b off e => List.mem_append_left _ (r4 b off e)⟩
      · simp only [List.mem_singleton] at hm
        subst hm
        have hyb : ∀ b off, Y = some ⟨b, off, none⟩ → b ∈ Sy := fun b off e => (mSy b).2 (by rw [e]; rfl)
        refine ⟨?_, hyc, hym, fun b off e => List.mem_append_right _ (hyb b off e)⟩
        refine hcs.rd (ha.rd (Rd.below hry hb2) fun b off e hx => ?_) fun b off e hx => ?_
        · have := (hyl b (hyb b off e)).1; have := h.ml b (hSM b hx); omega
        · simp only [List.mem_singleton] at hx
          have := (hyl b (hyb b off e)).1; omega
    · refine ⟨h.ok.n1, h.ok.n2, h.ok.b, fun q hq' => ?_, h.ok.f1, h.ok.f2⟩
      rcases List.mem_append.1 hq' with hq' | hq'
      · exact h.ok.p q hq'
      · simp only [List.mem_singleton] at hq'
        subst hq'; exact hq
    · exact List.mem_append_left _ h.mg
    · exact fun b hb => List.mem_append_left _ (h.ma b hb)
    · intro b hb
      rw [List.length_append] at hb
      exact List.mem_append_right _ ((mSn b).2 hb)
    · intro x hx hxE
      rcases List.mem_append.1 hx with hx | hx
      · rcases List.mem_append.1 hxE with hxE | hxE
        · exact h.me x hx hxE
        · have := (hyl x hxE).1; have := h.ml x hx; omega
      · rcases hn x hx with h1 | h1
        · rcases List.mem_append.1 hxE with hxE | hxE
          · exact h.me x (hSM x h1) hxE
          · have := (hyl x hxE).1; have := h.ml x (hSM x h1); omega
        · rcases List.mem_append.1 hxE with hxE | hxE
          · have := h.el x hxE; omega
          · have := (hyl x hxE).2; omega
    · intro x hx
      rw [← hz2]
      rcases List.mem_append.1 hx with hx | hx
      · have := h.ml x hx; have := hc2.size; omega
      · exact hnl x hx
    · intro x hx
      rw [← hz2]
      rcases List.mem_append.1 hx with hx | hx
      · have := h.el x hx; have := hc2.size; omega
      · have := (hyl x hx).2; have := ha.size; omega
  · rcases List.mem_append.1 hx with hx | hx
    · exact .inl hx
    · rcases hn x hx with h1 | h1
      · exact .inl (hSM x h1)
      · exact .inr (by omega)
  · rcases List.mem_append.1 hx with hx | hx
    · exact .inl hx
    · exact .inr (hyl x hx).1

/-- bytes do not lie in the disk's head -/
theorem IsD'.rb {w w' : World} {g : Nat} {M E : List Nat} {D : St} {A X B : Option Addr} {ca cx : Nat} {P : List Pm} {l : List UInt8} (h : IsD' w g M E D A ca X cx P) (hc : Chg [g] w w') (hr : RB w B l) : RB w' B l := fun i v hv => by
  obtain ⟨b, off, rfl, hcell⟩ := hr i v hv
  have hne : b ≠ g := by
    rintro rfl
    rw [cell_of_row _ _ _ _ _ _ h.hd] at hcell
    rw [List.getElem?_map] at hv
    obtain ⟨x, _, rfl⟩ := Option.map_eq_some_iff.1 hv
    match hq : off + i with
    | 0 => rw [hq] at hcell; cases hcell
    | 1 => rw [hq] at hcell; cases hcell
    | 2 => rw [hq] at hcell; cases hcell
    | 3 => rw [hq] at hcell; cases hcell
    | k + 4 => rw [hq] at hcell; simp at hcell
  exact ⟨b, off, rfl, (World.cell?_of_block (a := ⟨b, off + i, none⟩) (hc.block b (block_lt_of_cell hcell) (by simpa using hne))).trans hcell⟩

set_option maxRecDepth 100000 in
set_option maxHeartbeats 2000000 in
theorem write_calls (g : Nat) (M E : List Nat) (D : St) (s : Int) (B : Option Addr) (n c : Nat) (l : List UInt8) (w : World) (h : IsD w g M E D) (hn : l.length = n) (hr : RB w B l) (hnm : n ≤ 9223372036854775807) (hs : -9223372036854775808 ≤ s) (hs2 : s ≤ 9223372036854775807) (hp : D.p.length ≤ 10000) :
    Calls Try.prog 15 #[.pointer (some ⟨g, 0, none⟩), .int .i64 s, .slice B n c] w fun e w' => e = .returned (.int .i64 (writeE D s l)) ∧ DkP w g M E (writeD D s l) w' := by
  have HI := Lib.hid h
  have HBU := Lib.hid (burn_calls g M E D w h)
  have HIN := Lib.hid (inside_calls g M E D s ((n / 64 : Nat) : Int) w h hs hs2)
  obtain ⟨A, ca, X, cx, P, h'⟩ := h
  have c3 := h'.cell3
  have hok := h'.ok
  have HOK := Lib.hid hok
  have HN := Lib.hid hn
  have HR := Lib.hid hr
  have i0 : (0 : Int) ≤ (n : Int) := by omega
  have hq64 : (n : Int) / 64 = ((n / 64 : Nat) : Int) := by omega
  obtain ⟨nk, HNK⟩ : ∃ x, Hid (n / 64 = x) := ⟨_, rfl⟩
  rw [HNK.out] at HIN hq64
  clear hn hr
  have HI0 := Lib.hid h'
  clear h'
  cases hx : D.x with
  | true =>
    have HE : Hid (writeE D s l = 10 ∧ writeD D s l = D) := by constructor <;> simp [writeE, writeD, hx]
    rw [HE.out.1, HE.out.2]
    rw [hx] at c3
    clear hx hok
    go_enter Try.func15, Try.ntmps15
    go_wp2_with fail
    go_ret
    exact ⟨rfl, .refl HI.out⟩
  | false =>
    rw [hx] at c3
    by_cases hm : n % 64 = 0
    · have q1 : ((n : Int) % 64 != 0) = false := by rw [bne_eq_false_iff_eq]; omega
      cases hi : inB D.n s (nk : Int) with
      | false =>
        have HE : Hid (writeE D s l = 2 ∧ writeD D s l = D) := by
          have hi' : inB D.n s ((l.length / 64 : Nat) : Int) = false := by rw [HN.out, HNK.out]; exact hi
          constructor
          · unfold writeE; rw [if_neg (by simp [hx]), if_neg (by rw [HN.out]; omega), if_pos hi']
          · unfold writeD; rw [if_neg (by simp [hx]), if_neg (by rw [HN.out]; omega), if_pos hi']
        rw [HE.out.1, HE.out.2]
        rw [hi] at HIN
        clear hx hok hi hm
        go_enter Try.func15, Try.ntmps15
        go_wp2_with (go_at_call 40; refine HIN.out.mono ?_; rintro e w' ⟨rfl, rfl⟩)
        go_ret
        exact ⟨rfl, .refl HI.out⟩
      | true =>
        have hi' : inB D.n s ((l.length / 64 : Nat) : Int) = true := by rw [HN.out, HNK.out]; exact hi
        rw [hi] at HIN
        by_cases h0 : D.f = 0
        · have HE : Hid (writeE D s l = 10 ∧ writeD D s l = burnD D) := by
            constructor
            · unfold writeE; rw [if_neg (by simp [hx]), if_neg (by rw [HN.out]; omega), if_neg (by rw [hi']; simp), if_pos h0]
            · unfold writeD burnD; rw [if_neg (by simp [hx]), if_neg (by rw [HN.out]; omega), if_neg (by rw [hi']; simp), if_pos h0, if_pos h0]
          rw [HE.out.1, HE.out.2]
          rw [decide_eq_true h0] at HBU
          clear hx hok hi hi' hm h0
          go_enter Try.func15, Try.ntmps15
          go_wp2_with (first | (go_at_call 40; refine HIN.out.mono ?_; rintro e w' ⟨rfl, rfl⟩) | (go_at_call 41; refine HBU.out.mono ?_; rintro e w1 ⟨rfl, hi1, hc1⟩; have HI1 := Lib.hid hi1; have HC1 := Lib.hid hc1; clear hi1 hc1))
          go_ret
          exact ⟨rfl, M, E, HI1.out, HC1.out.mono (by simp; exact HI.out.mg), fun _ h => .inl h, fun _ h => .inl h⟩
        · obtain ⟨b1, b2, b3, b4⟩ := inB_of hi
          obtain ⟨si, rfl⟩ : ∃ si : Nat, s = si := ⟨s.toNat, by omega⟩
          have hbd : burnD D = { D with f := burnF D.f } := by unfold burnD; rw [if_neg h0]
          have hn2 := hok.n2
          have hqo : Pc.ok D.n ⟨si, l⟩ := by
            refine ⟨?_, ?_⟩
            · show l.length = 64 * (l.length / 64); have := HN.out; omega
            · show si + l.length / 64 ≤ D.n; have := HN.out; have := HNK.out; omega
          have HQO := Lib.hid hqo
          have HE : Hid (writeE D si l = 0 ∧ writeD D si l = { burnD D with p := (burnD D).p ++ [⟨si, l⟩] }) := by
            constructor
            · unfold writeE; rw [if_neg (by simp [hx]), if_neg (by rw [HN.out]; omega), if_neg (by rw [hi']; simp), if_neg h0]
            · unfold writeD; rw [if_neg (by simp [hx]), if_neg (by rw [HN.out]; omega), if_neg (by rw [hi']; simp), if_neg h0, hbd]; rfl
          have HBN : Hid ((burnD D).n = D.n ∧ (burnD D).p.length = D.p.length) := by rw [hbd]; exact ⟨rfl, rfl⟩
          rw [HE.out.1, HE.out.2]
          rw [decide_eq_false h0] at HBU
          have hnm2 : n ≤ 4194304 := by have := HNK.out; omega
          clear hx hok hi hi' hm h0 hqo hbd HE
          generalize burnD D = D1 at *
          go_enter Try.func15, Try.ntmps15
          go_wp2_with (first | (go_at_call 40; refine HIN.out.mono ?_; rintro e w' ⟨rfl, rfl⟩) | (go_at_call 41; refine HBU.out.mono ?_; rintro e w1 ⟨rfl, hi1, hc1⟩; have HI1 := Lib.hid hi1; have HC1 := Lib.hid hc1; clear hi1 hc1))
          obtain ⟨A1, ca1, X1, cx1, P1, hi1⟩ := HI1.out
          have HD1 := Lib.hid hi1
          have d1 := hi1.cell1
          have f1 := hi1.frz 1
          have hgl := hi1.lt
          have hP1 : P1.length ≤ 10000 := by have h1 := hi1.pd; have h2 := HBN.out.2; rw [h1] at h2; simp at h2; omega
          have HR1 : Hid (RB w1 B l) := HI0.out.rb HC1.out HR.out
          clear hi1 c3 HBU HIN
          obtain ⟨pl, HPL⟩ : ∃ x, Hid (P1.length = x) := ⟨_, rfl⟩
          rw [HPL.out] at d1 hP1
          have hpe1 : w1.ownsRow 0 79 2 (.slice X1 pl cx1) pl (pcells P1) := by rw [← HPL.out]; exact HD1.out.pe
          have HPE1 := Lib.hid hpe1
          have hhd1 : w1.heap[g]? = some (.cells #[.slice A1 (64 * D1.n) ca1, .slice X1 pl cx1, .int .i64 D1.f, .bool D1.x] 75 (0, 0)) := by rw [← HPL.out]; exact HD1.out.hd
          have HHD1 := Lib.hid hhd1
          have HPN : Hid ((Value.slice X1 pl cx1).ownBlock ≠ some g) := by rw [← HPL.out]; intro he; exact HD1.out.pne g he rfl
          have HCL : Hid (Calls Try.prog 42 #[.slice B n c] w1.drew fun e w' => ∃ Y cy, e = .returned (.slice Y n cy) ∧ w'.ownsRow w1.heap.size 5 1 (.slice Y n cy) n (l.map vb) ∧ Below w1.heap.size w1 w') := by
            refine (cloneB_calls B n c l w1.drew HN.out (RB.below HR1.out (below_drew _)) (by omega)).mono ?_
            rintro e w2 ⟨Y, cy, rfl, h1, h2⟩
            rw [HN.out] at h1 ⊢
            exact ⟨Y, cy, rfl, h1, (below_drew _).trans h2⟩
          clear hpe1 hhd1
          go_region_law (first | (refine step_appS _ (by rfl) _ _ 73 (by rfl) 0 79 (.agg #[.int .i64 0, .slice none 0 0]) 2 32 Try.underlying73 info_wr rfl (by omega) (.slice X1 pl cx1) pl (pcells P1) (by rfl) (own_belowS HPE1.out (HB2.out.trans ((below1 w2 _).mono HB2.out.size))) (some ⟨w2.heap.size, 0, none⟩) 1 1 [.int .i64 (si : Int), .slice Y n cy] (by rfl) rfl (Rd.new w2 [.int .i64 (si : Int), .slice Y n cy] _ _) (by simp [Value.oneCell']) (by simp only [maxLen]; omega) (by omega) (by simp) ?_; intro X3 cx3 w3 hown3 happ3; have hg3 := happ3.old (((HB2.out.trans ((below1 w2 _).mono HB2.out.size)).block g hgl).trans HHD1.out) HPN.out; have e3 : w3.cell? ⟨g, 1, none⟩ = some (.slice X1 pl cx1) := (cell_of_row _ _ 1 _ _ _ hg3).trans rfl; have f3 : w3.frozen? ⟨g, 1, none⟩ = false := frozen_of_row _ _ _ _ _ hg3; have HO3 := Lib.hid hown3; have HA3 := Lib.hid happ3; clear hown3 happ3 hg3) | (go_simp; go_at_call 42; refine HCL.out.mono ?_; rintro e w2 ⟨Y, cy, rfl, hy2, hb2⟩; have HY2 := Lib.hid hy2; have HB2 := Lib.hid hb2; have e2 : w2.cell? ⟨g, 1, none⟩ = some (.slice X1 pl cx1) := (hb2.cell (p := ⟨g, 1, none⟩) hgl).trans d1; have e2b : ∀ o : Obj, (w2.alloc o).cell? ⟨g, 1, none⟩ = some (.slice X1 pl cx1) := fun o => (World.cell?_alloc_lt w2 o ⟨g, 1, none⟩ (block_lt_of_cell e2)).trans e2; clear hy2 hb2))
          all_goals
            have HF : Hid (DkP w g M E { D1 with p := D1.p ++ [⟨si, l⟩] } (w3.setCell ⟨g, 1, none⟩ (.slice X3 (pl + 1) cx3))) := by
              have h1 := HPL.out
              have h2 := HN.out
              subst h1
              subst h2
              exact DkP.trans (HC1.out.mono (by simp; exact HI.out.mg)) (HD1.out.push HB2.out HY2.out (below1 w2 _) (by rw [HBN.out.1]; exact HQO.out) HO3.out HA3.out)
            clear e2 e2b e3 f3 HO3 HA3
            go_wp2_with fail
            go_ret
            exact ⟨rfl, HF.out⟩
    · have hm' : ¬ l.length % 64 = 0 := by have := HN.out; omega
      have HE : Hid (writeE D s l = 1 ∧ writeD D s l = D) := by
        constructor
        · unfold writeE; rw [if_neg (by simp [hx]), if_pos hm']
        · unfold writeD; rw [if_neg (by simp [hx]), if_pos hm']
      have q1 : ((n : Int) % 64 != 0) = true := by rw [bne_iff_ne]; omega
      rw [HE.out.1, HE.out.2]
      clear hx hok hm hm'
      go_enter Try.func15, Try.ntmps15
      go_wp2_with fail
      go_ret
      exact ⟨rfl, .refl HI.out⟩
theorem made_bytes (n : Nat) : (madeCells #[.int .u8 0] n).toList = (List.replicate n (0 : UInt8)).map vb := by
  rw [toList_madeCells_one]
  simp
/-- what New leaves -/
def NewP (z : Int) (w : World) (e : Ending) (w' : World) : Prop := (¬ (1 ≤ z ∧ z ≤ 65536) ∧ e = .returned (.tuple #[.pointer none, .int .i64 2]) ∧ w = w') ∨
    (1 ≤ z ∧ z ≤ 65536 ∧ ∃ g M, e = .returned (.tuple #[.pointer (some ⟨g, 0, none⟩), .int .i64 0]) ∧ IsD w' g M [] (newD z.toNat) ∧ (∀ x ∈ M, w.heap.size ≤ x) ∧ Below w.heap.size w w')
set_option maxRecDepth 100000 in
set_option maxHeartbeats 1000000 in
theorem new_calls (z : Int) (w : World) : Calls Try.prog 14 #[.int .i64 z] w (NewP z w) := by
  by_cases h1 : 1 ≤ z
  · have d1 : decide (z < 1) = false := by simp; omega
    by_cases h2 : z ≤ 65536
    · have d2 : decide (65536 < z) = false := by simp; omega
      obtain ⟨n, rfl⟩ : ∃ n : Nat, z = n := ⟨z.toNat, by omega⟩
      have hm64 : (n : Int) * 64 = ((64 * n : Nat) : Int) := by omega
      obtain ⟨N, HN⟩ : ∃ x, Hid (64 * n = x) := ⟨_, rfl⟩
      rw [HN.out] at hm64
      have hNl : N ≤ 4194304 := by have := HN.out; omega
      obtain ⟨i0, hi0, hz0, hz1, hz2⟩ := info_parts info_u8
      have hmk : ∀ u : World, (Instr.makeSlice 29 (.int .i64 (N : Int)) (.int .i64 (N : Int))).run Try.prog u = .ok (.slice (some ⟨u.heap.size, 0, none⟩) N N) (u.alloc (.cells (madeCells #[.int .u8 0] N) 5)) := fun u => by
        have h := run_make (P := Try.prog) u 29 5 i0 (.int .u8 0) Try.underlying29 hi0 hz0 .i64 .i64 N N (by omega) (Int.le_refl _) (by rw [hz2]; omega) (by omega)
        simpa [hz1, Value.cells] using h
      have HMC : Hid ((madeCells #[.int .u8 0] N).toList = (List.replicate N (0 : UInt8)).map vb) := made_bytes N
      generalize madeCells #[.int .u8 0] N = mc at *
      clear hi0 hz0 hz1 hz2
      go_enter Try.func14, Try.ntmps14
      go_wp2_with fail
      have hb2 := below2 w (.cells mc 5) (.cells #[.slice (some ⟨w.heap.size, 0, none⟩) N N, .slice none 0 0, .int .i64 (-1), .bool false] 75)
      have hA : ((w.alloc (.cells mc 5)).alloc (.cells #[.slice (some ⟨w.heap.size, 0, none⟩) N N, .slice none 0 0, .int .i64 (-1), .bool false] 75)).heap[w.heap.size]? = some (.cells mc 5 (0, 0)) := (Below.heap_alloc _ _ _ (by simp)).trans (heap_alloc_new _ _)
      have hG : ((w.alloc (.cells mc 5)).alloc (.cells #[.slice (some ⟨w.heap.size, 0, none⟩) N N, .slice none 0 0, .int .i64 (-1), .bool false] 75)).heap[w.heap.size + 1]? = some (.cells #[.slice (some ⟨w.heap.size, 0, none⟩) N N, .slice none 0 0, .int .i64 (-1), .bool false] 75 (0, 0)) := heap_alloc2_new _ _ _
      have hz : ((w.alloc (.cells mc 5)).alloc (.cells #[.slice (some ⟨w.heap.size, 0, none⟩) N N, .slice none 0 0, .int .i64 (-1), .bool false] 75)).heap.size = w.heap.size + 2 := by simp
      have hmcl : mc.size = N := by have := congrArg List.length HMC.out; simpa using this
      have HFF : Hid (∀ w', w'.heap[w.heap.size]? = some (.cells mc 5 (0, 0)) → w'.heap[w.heap.size + 1]? = some (.cells #[.slice (some ⟨w.heap.size, 0, none⟩) N N, .slice none 0 0, .int .i64 (-1), .bool false] 75 (0, 0)) → w'.heap.size = w.heap.size + 2 → Below w.heap.size w w' →
          NewP (n : Int) w (.returned (.tuple #[.pointer (some ⟨w.heap.size + 1, 0, none⟩), .int .i64 0])) w') := by
        intro w' k1 k2 k3 k4
        refine .inr ⟨h1, h2, w.heap.size + 1, [w.heap.size + 1, w.heap.size], rfl, ⟨some ⟨w.heap.size, 0, none⟩, N, none, 0, [], ?_⟩, by simp, k4⟩
        rw [Int.toNat_natCast]
        have hNn : 64 * (newD n).n = N := HN.out
        refine ⟨?_, ?_, ⟨rfl, .inl ⟨rfl, rfl⟩⟩, rfl, fun m hm => absurd hm (by simp), newD_ok n (by omega) (by omega), by simp, ?_, (fun b hb => by cases hb), by simp, ?_, by simp⟩
        · rw [hNn]; exact k2
        · rw [hNn]
          refine ⟨?_, .inr ⟨w.heap.size, N, mc, rfl, Nat.zero_le _, k1, Nat.le_refl _, by simp only [maxLen]; omega, by omega, ?_⟩⟩
          · show ((List.replicate (64 * n) (0 : UInt8)).map vb).length = _; simp; exact HN.out
          · rw [Nat.mul_one, List.take_of_length_le (by simp; omega), HMC.out]
            show _ = (List.replicate (64 * n) (0 : UInt8)).map vb
            rw [HN.out]
        · intro b hb
          have : w.heap.size = b := by simpa [Value.ownBlock] using hb
          simp [this]
        · intro x hx
          simp only [List.mem_cons, List.not_mem_nil, or_false] at hx
          omega
      have HF2 := Lib.hid (HFF.out _ hA hG hz hb2)
      clear hb2 hA hG hz hmk
      go_ret2
      exact HF2.out
    · have d2 : decide (65536 < z) = true := by simp; omega
      go_enter Try.func14, Try.ntmps14
      go_wp2_with fail
      go_ret2
      exact .inl ⟨by omega, rfl, rfl⟩
  · have d1 : decide (z < 1) = true := by simp; omega
    go_enter Try.func14, Try.ntmps14
    go_wp2_with fail
    go_ret2
    exact .inl ⟨by omega, rfl, rfl⟩
end Dk
end Go.Proofs.Ytmdpmpfjldgalaa

/- A disk of the call's own, beside blocks that it leaves alone. -/
namespace Go.Proofs.Ytmdpmpfjldgalaa
open Go.RowKit
namespace Dk

theorem _root_.Go.World.ownsRow.older {B B' sz n : Nat} {e : TypeId} {v : Value} {xs : List Value} {w : World} (h : w.ownsRow B e sz v n xs) (hb : B' ≤ B) : w.ownsRow B' e sz v n xs := by
  refine ⟨h.1, ?_⟩
  rcases h.2 with h | ⟨g, cap, cur, h1, h2, h3⟩
  · exact .inl h
  · exact .inr ⟨g, cap, cur, h1, Nat.le_trans hb h2, h3⟩

theorem DkP.of_below {w w' : World} {g : Nat} {M E : List Nat} {D : St} (h : IsD w g M E D) (hb : Below w.heap.size w w') : DkP w g M E D w' :=
  ⟨M, E, h.below hb, Chg.of_below hb M, fun _ h => .inl h, fun _ h => .inl h⟩
theorem DkP.of_g {w w' : World} {g : Nat} {M E : List Nat} {D : St} (h : IsD w' g M E D) (hg : g ∈ M) (hb : Chg [g] w w') : DkP w g M E D w' :=
  ⟨M, E, h, hb.mono (by simp; exact hg), fun _ h => .inl h, fun _ h => .inl h⟩

/-- a disk that was made since w0 -/
def Own (w0 : World) (g : Nat) (D : St) (w : World) : Prop := ∃ M E, IsD w g M E D ∧ (∀ x ∈ M, w0.heap.size ≤ x) ∧ Below w0.heap.size w0 w
theorem Own.b {w0 w : World} {g : Nat} {D : St} (h : Own w0 g D w) : Below w0.heap.size w0 w := by obtain ⟨_, _, _, _, h⟩ := h; exact h
theorem Own.ok {w0 w : World} {g : Nat} {D : St} (h : Own w0 g D w) : D.ok := by obtain ⟨_, _, h, _⟩ := h; exact h.ok
theorem Own.below {w0 w w' : World} {g : Nat} {D : St} (h : Own w0 g D w) (hb : Below w.heap.size w w') : Own w0 g D w' := by
  obtain ⟨M, E, h1, h2, h3⟩ := h
  exact ⟨M, E, h1.below hb, h2, h3.trans (hb.mono h3.size)⟩
theorem Own.dk {w0 w w' : World} {g : Nat} {D' : St} {M E : List Nat} (hM : ∀ x ∈ M, w0.heap.size ≤ x) (hb : Below w0.heap.size w0 w) (hd : DkP w g M E D' w') : Own w0 g D' w' := by
  obtain ⟨M', E', k1, k2, k3, _⟩ := hd
  refine ⟨M', E', k1, fun x hx => ?_, hb.trans (k2.below hb.size hM)⟩
  rcases k3 x hx with h | h
  · exact hM x h
  · exact Nat.le_trans hb.size h
theorem RB.of_own {w : World} {B n c : Nat} {X : Option Addr} {l : List UInt8} (h : w.ownsRow B 5 1 (.slice X n c) n (l.map vb)) : RB w X l := by
  obtain ⟨_, _, e1, _, _, _, hr⟩ := own_form h
  cases e1; exact hr

section
variable {w0 : World} {g : Nat} {D : St} {w : World}
theorem own_write (h : Own w0 g D w) (s : Int) (B : Option Addr) (n c : Nat) (l : List UInt8) (hn : l.length = n) (hr : RB w B l) (hnm : n ≤ 9223372036854775807) (hs : -9223372036854775808 ≤ s) (hs2 : s ≤ 9223372036854775807) (hp : D.p.length ≤ 10000) :
    Calls Try.prog 15 #[.pointer (some ⟨g, 0, none⟩), .int .i64 s, .slice B n c] w fun e w' => e = .returned (.int .i64 (writeE D s l)) ∧ Own w0 g (writeD D s l) w' := by
  obtain ⟨M, E, h1, h2, h3⟩ := h
  exact (write_calls g M E D s B n c l w h1 hn hr hnm hs hs2 hp).mono fun _ _ ⟨a, b⟩ => ⟨a, Own.dk h2 h3 b⟩
theorem own_read (h : Own w0 g D w) (s k : Int) (hs : -9223372036854775808 ≤ s) (hs2 : s ≤ 9223372036854775807) :
    Calls Try.prog 37 #[.pointer (some ⟨g, 0, none⟩), .int .i64 s, .int .i64 k] w fun e w' => ∃ X n c, e = .returned (.tuple #[.slice X n c, .int .i64 (readE D s k)]) ∧ n = (readL D s k).length ∧ RB w' X (readL D s k) ∧ n ≤ c ∧ Own w0 g D w' := by
  obtain ⟨M, E, h1, h2, h3⟩ := h
  refine (read_calls g M E D s k w h1 hs hs2).mono ?_
  rintro e w' ⟨X, n, c, rfl, hn, ho, hb⟩
  obtain ⟨_, _, e1, hnc, _, _, hr⟩ := own_form ho
  cases e1
  exact ⟨X, n, c, rfl, hn, hr, hnc, M, E, h1.below hb, h2, h3.trans (hb.mono h3.size)⟩
theorem own_crash (h : Own w0 g D w) (Z : Option Addr) (zn zc : Nat) (sv : List Int) (hz : sv.length = zn) (hr : Rd w0 Z (sv.map (Value.int .i64))) :
    Calls Try.prog 21 #[.pointer (some ⟨g, 0, none⟩), .slice Z zn zc] w fun e w' => e = .returned (.tuple #[]) ∧ Own w0 g (crashD D sv) w' := by
  obtain ⟨M, E, h1, h2, h3⟩ := h
  refine (crash_calls g M E D Z zn zc sv w h1 hz (Rd.below hr h3) (fun hsv b off e hm => ?_)).mono fun _ _ ⟨a, b⟩ => ⟨a, Own.dk h2 h3 b⟩
  have := h2 b hm
  obtain ⟨b', off', e', hb', _⟩ := Rd.cells hr (by rw [List.length_map]; exact List.length_pos_iff.2 hsv)
  rw [e] at e'; cases e'; omega
/-- Crash whose cells were made since, outside the disk -/
theorem own_crash_own (h : Own w0 g D w) (Z : Option Addr) (zn zc : Nat) (sv : List Int) (hz : sv.length = zn) (hr : Rd w Z (sv.map (Value.int .i64))) (hZ : ∀ M E, IsD w g M E D → ∀ b off, Z = some ⟨b, off, none⟩ → b ∉ M) :
    Calls Try.prog 21 #[.pointer (some ⟨g, 0, none⟩), .slice Z zn zc] w fun e w' => e = .returned (.tuple #[]) ∧ Own w0 g (crashD D sv) w' := by
  obtain ⟨M, E, h1, h2, h3⟩ := h
  exact (crash_calls g M E D Z zn zc sv w h1 hz hr (fun _ => hZ M E h1)).mono fun _ _ ⟨a, b⟩ => ⟨a, Own.dk h2 h3 b⟩
/-- Crash with a literal's cells -/
theorem own_crash_new (h : Own w0 g D w) (sv : List Int) (T : TypeId) :
    Calls Try.prog 21 #[.pointer (some ⟨g, 0, none⟩), .slice (some ⟨w.heap.size, 0, none⟩) sv.length sv.length] (w.alloc (.cells (sv.map (Value.int .i64)).toArray T)) fun e w' => e = .returned (.tuple #[]) ∧ Own w0 g (crashD D sv) w' := by
  obtain ⟨M, E, h1, h2, h3⟩ := h
  have hb := below1 w (.cells (sv.map (Value.int .i64)).toArray T)
  refine (crash_calls g M E D _ _ _ sv _ (h1.below hb) rfl (Rd.new w _ _ _) (fun _ b off e hm => ?_)).mono fun _ _ ⟨a, b⟩ => ⟨a, Own.dk h2 (h3.trans (hb.mono h3.size)) b⟩
  cases e
  have := h1.ml _ hm
  omega
theorem own_sync (h : Own w0 g D w) :
    Calls Try.prog 16 #[.pointer (some ⟨g, 0, none⟩)] w fun e w' => e = .returned (.int .i64 (syncE D)) ∧ Own w0 g (syncD D) w' := by
  obtain ⟨M, E, h1, h2, h3⟩ := h
  exact (sync_calls g M E D w h1).mono fun _ _ ⟨a, b⟩ => ⟨a, Own.dk h2 h3 b⟩
theorem own_fail (h : Own w0 g D w) (n : Int) (hn : n ≤ 9223372036854775807) :
    Calls Try.prog 26 #[.pointer (some ⟨g, 0, none⟩), .int .i64 n] w fun e w' => e = .returned (.tuple #[]) ∧ Own w0 g (failD D n) w' := by
  obtain ⟨M, E, h1, h2, h3⟩ := h
  exact (failAfter_calls g M E D n w h1 hn).mono fun _ _ ⟨a, b, c⟩ => ⟨a, Own.dk h2 h3 (DkP.of_g b h1.mg c)⟩
theorem own_pending (h : Own w0 g D w) : Calls Try.prog 39 #[.pointer (some ⟨g, 0, none⟩)] w fun e w' => e = .returned (.int .i64 (D.p.length : Int)) ∧ w = w' := by
  obtain ⟨M, E, h1, _, _⟩ := h
  exact pending_calls g M E D w h1
theorem own_failed (h : Own w0 g D w) : Calls Try.prog 45 #[.pointer (some ⟨g, 0, none⟩)] w fun e w' => e = .returned (.bool D.x) ∧ w = w' := by
  obtain ⟨M, E, h1, _, _⟩ := h
  exact failed_calls g M E D w h1
theorem own_new (z : Nat) (hz : 1 ≤ z) (hz2 : z ≤ 65536) (h0 : Below w0.heap.size w0 w) : Calls Try.prog 14 #[.int .i64 (z : Int)] w fun e w' => ∃ g, e = .returned (.tuple #[.pointer (some ⟨g, 0, none⟩), .int .i64 0]) ∧ Own w0 g (newD z) w' := by
  refine (new_calls (z : Int) w).mono ?_
  rintro e w' (⟨h1, _⟩ | ⟨_, _, g, M, rfl, h1, h2, h3⟩)
  · omega
  · rw [Int.toNat_natCast] at h1
    exact ⟨g, rfl, M, [], h1, fun x hx => Nat.le_trans h0.size (h2 x hx), h0.trans (h3.mono h0.size)⟩
end

theorem own_readB {w0 w : World} {g : Nat} {D : St} (h : Own w0 g D w) (s k : Int) (hs : -9223372036854775808 ≤ s) (hs2 : s ≤ 9223372036854775807) :
    Calls Try.prog 37 #[.pointer (some ⟨g, 0, none⟩), .int .i64 s, .int .i64 k] w fun e w' => ∃ X n c, e = .returned (.tuple #[.slice X n c, .int .i64 (readE D s k)]) ∧ n = (readL D s k).length ∧ w'.ownsRow w.heap.size 5 1 (.slice X n c) n ((readL D s k).map vb) ∧ Below w.heap.size w w' ∧ Own w0 g D w' := by
  obtain ⟨M, E, h1, h2, h3⟩ := h
  refine (read_calls g M E D s k w h1 hs hs2).mono ?_
  rintro e w' ⟨X, n, c, rfl, hn, ho, hb⟩
  exact ⟨X, n, c, rfl, hn, ho, hb, M, E, h1.below hb, h2, h3.trans (hb.mono h3.size)⟩
/-- a disk that was made since w0, and the blocks F are not its -/
def OwnF (w0 : World) (F : List Nat) (g : Nat) (D : St) (w : World) : Prop :=
  ∃ M E, IsD w g M E D ∧ (∀ x ∈ M, w0.heap.size ≤ x) ∧ Below w0.heap.size w0 w ∧ ∀ x ∈ F, x ∉ M ∧ x ∉ E ∧ x < w.heap.size
/-- the blocks F are as they were -/
def Kept (F : List Nat) (w w' : World) : Prop := ∀ x ∈ F, w'.heap[x]? = w.heap[x]?
theorem IsK_size {w w' : World} {F : List Nat} (h : Kept F w w') (hF : ∀ x ∈ F, x < w.heap.size) : ∀ x ∈ F, x < w'.heap.size := fun x hx => by
  have h1 := h x hx
  rw [Array.getElem?_eq_getElem (hF x hx)] at h1
  exact (Array.getElem?_eq_some_iff.1 h1).1
theorem Kept.trans {F : List Nat} {a b c : World} (h : Kept F a b) (k : Kept F b c) : Kept F a c := fun x hx => (k x hx).trans (h x hx)
theorem Kept.refl (F : List Nat) (w : World) : Kept F w w := fun _ _ => rfl
theorem Kept.of_below {F : List Nat} {w w' : World} (hF : ∀ x ∈ F, x < w.heap.size) (h : Below w.heap.size w w') : Kept F w w' := fun x hx => h.block x (hF x hx)
theorem Kept.rd {F : List Nat} {w w' : World} {A : Option Addr} {vs : List Value} (h : Kept F w w') (hr : Rd w A vs) (hA : 0 < vs.length → ∀ b off, A = some ⟨b, off, none⟩ → b ∈ F) : Rd w' A vs := fun i v hv => by
  obtain ⟨b, off, rfl, hc⟩ := hr i v hv
  have hpos : 0 < vs.length := Nat.lt_of_le_of_lt (Nat.zero_le i) (List.getElem?_eq_some_iff.1 hv).1
  exact ⟨b, off, rfl, (World.cell?_of_block (a := ⟨b, off + i, none⟩) (h b (hA hpos b off rfl))).trans hc⟩
section
variable {w0 w w' : World} {F : List Nat} {g : Nat} {D : St}
theorem OwnF.own (h : OwnF w0 F g D w) : Own w0 g D w := by obtain ⟨M, E, h1, h2, h3, _⟩ := h; exact ⟨M, E, h1, h2, h3⟩
theorem Own.ownF (h : Own w0 g D w) : OwnF w0 [] g D w := by obtain ⟨M, E, h1, h2, h3⟩ := h; exact ⟨M, E, h1, h2, h3, by simp⟩
theorem OwnF.b (h : OwnF w0 F g D w) : Below w0.heap.size w0 w := h.own.b
theorem OwnF.ok (h : OwnF w0 F g D w) : D.ok := h.own.ok
theorem OwnF.lt (h : OwnF w0 F g D w) : ∀ x ∈ F, x < w.heap.size := by obtain ⟨_, _, _, _, _, h⟩ := h; exact fun x hx => (h x hx).2.2
theorem OwnF.below (h : OwnF w0 F g D w) (hb : Below w.heap.size w w') : OwnF w0 F g D w' := by
  obtain ⟨M, E, h1, h2, h3, h4⟩ := h
  exact ⟨M, E, h1.below hb, h2, h3.trans (hb.mono h3.size), fun x hx => ⟨(h4 x hx).1, (h4 x hx).2.1, Nat.lt_of_lt_of_le (h4 x hx).2.2 hb.size⟩⟩
theorem OwnF.sub {F' : List Nat} (h : OwnF w0 F g D w) (hs : ∀ x ∈ F', x ∈ F) : OwnF w0 F' g D w := by
  obtain ⟨M, E, h1, h2, h3, h4⟩ := h
  exact ⟨M, E, h1, h2, h3, fun x hx => h4 x (hs x hx)⟩
/-- blocks that were made since are not the disk's -/
theorem OwnF.add (h : OwnF w0 F g D w) (hb : Below w.heap.size w w') (G : List Nat) (hG : ∀ x ∈ G, w.heap.size ≤ x ∧ x < w'.heap.size) : OwnF w0 (G ++ F) g D w' := by
  obtain ⟨M, E, h1, h2, h3, h4⟩ := h
  refine ⟨M, E, h1.below hb, h2, h3.trans (hb.mono h3.size), fun x hx => ?_⟩
  rcases List.mem_append.1 hx with hx | hx
  · have := hG x hx
    exact ⟨fun hm => by have := h1.ml x hm; omega, fun hm => by have := h1.el x hm; omega, this.2⟩
  · exact ⟨(h4 x hx).1, (h4 x hx).2.1, Nat.lt_of_lt_of_le (h4 x hx).2.2 hb.size⟩
/-- a block of F is written -/
theorem OwnF.wr (h : OwnF w0 F g D w) {S : List Nat} (hc : Chg S w w') (hS : ∀ x ∈ S, x ∈ F ∧ w0.heap.size ≤ x) : OwnF w0 F g D w' := by
  obtain ⟨M, E, h1, h2, h3, h4⟩ := h
  exact ⟨M, E, h1.chg hc (fun x hx => (h4 x (hS x hx).1).1) (fun x hx => (h4 x (hS x hx).1).2.1), h2, h3.trans (hc.below h3.size (fun x hx => (hS x hx).2)), fun x hx => ⟨(h4 x hx).1, (h4 x hx).2.1, Nat.lt_of_lt_of_le (h4 x hx).2.2 hc.size⟩⟩
theorem OwnF.dk {D' : St} {M E : List Nat} (hM : ∀ x ∈ M, w0.heap.size ≤ x) (hb : Below w0.heap.size w0 w) (hF : ∀ x ∈ F, x ∉ M ∧ x ∉ E ∧ x < w.heap.size) (hd : DkP w g M E D' w') : OwnF w0 F g D' w' ∧ Kept F w w' := by
  obtain ⟨M', E', k1, k2, k3, k4⟩ := hd
  refine ⟨⟨M', E', k1, fun x hx => ?_, hb.trans (k2.below hb.size hM), fun x hx => ⟨fun hm => ?_, fun hm => ?_, Nat.lt_of_lt_of_le (hF x hx).2.2 k2.size⟩⟩, fun x hx => k2.block x (hF x hx).2.2 (hF x hx).1⟩
  · rcases k3 x hx with h | h
    · exact hM x h
    · exact Nat.le_trans hb.size h
  · rcases k3 x hm with h | h
    · exact (hF x hx).1 h
    · have := (hF x hx).2.2; omega
  · rcases k4 x hm with h | h
    · exact (hF x hx).2.1 h
    · have := (hF x hx).2.2; omega
theorem ownF_write (h : OwnF w0 F g D w) (s : Int) (B : Option Addr) (n c : Nat) (l : List UInt8) (hn : l.length = n) (hr : RB w B l) (hnm : n ≤ 9223372036854775807) (hs : -9223372036854775808 ≤ s) (hs2 : s ≤ 9223372036854775807) (hp : D.p.length ≤ 10000) :
    Calls Try.prog 15 #[.pointer (some ⟨g, 0, none⟩), .int .i64 s, .slice B n c] w fun e w' => e = .returned (.int .i64 (writeE D s l)) ∧ OwnF w0 F g (writeD D s l) w' ∧ Kept F w w' := by
  obtain ⟨M, E, h1, h2, h3, h4⟩ := h
  exact (write_calls g M E D s B n c l w h1 hn hr hnm hs hs2 hp).mono fun _ _ ⟨a, b⟩ => ⟨a, OwnF.dk h2 h3 h4 b⟩
theorem ownF_crash (h : OwnF w0 F g D w) (Z : Option Addr) (zn zc : Nat) (sv : List Int) (hz : sv.length = zn) (hr : Rd w0 Z (sv.map (Value.int .i64))) :
    Calls Try.prog 21 #[.pointer (some ⟨g, 0, none⟩), .slice Z zn zc] w fun e w' => e = .returned (.tuple #[]) ∧ OwnF w0 F g (crashD D sv) w' ∧ Kept F w w' := by
  obtain ⟨M, E, h1, h2, h3, h4⟩ := h
  refine (crash_calls g M E D Z zn zc sv w h1 hz (Rd.below hr h3) (fun hsv b off e hm => ?_)).mono fun _ _ ⟨a, b⟩ => ⟨a, OwnF.dk h2 h3 h4 b⟩
  have := h2 b hm
  obtain ⟨b', off', e', hb', _⟩ := Rd.cells hr (by rw [List.length_map]; exact List.length_pos_iff.2 hsv)
  rw [e] at e'; cases e'; omega
theorem ownF_read (h : OwnF w0 F g D w) (s k : Int) (hs : -9223372036854775808 ≤ s) (hs2 : s ≤ 9223372036854775807) :
    Calls Try.prog 37 #[.pointer (some ⟨g, 0, none⟩), .int .i64 s, .int .i64 k] w fun e w' => ∃ X n c, e = .returned (.tuple #[.slice X n c, .int .i64 (readE D s k)]) ∧ n = (readL D s k).length ∧ w'.ownsRow w.heap.size 5 1 (.slice X n c) n ((readL D s k).map vb) ∧ Below w.heap.size w w' ∧ OwnF w0 F g D w' := by
  obtain ⟨M, E, h1, h2, h3, h4⟩ := h
  refine (read_calls g M E D s k w h1 hs hs2).mono ?_
  rintro e w' ⟨X, n, c, rfl, hn, ho, hb⟩
  exact ⟨X, n, c, rfl, hn, ho, hb, OwnF.below ⟨M, E, h1, h2, h3, h4⟩ hb⟩
end

theorem OwnF.grow {w0 w w' : World} {F F' : List Nat} {g : Nat} {D : St} (h : OwnF w0 F g D w) (hb : Below w.heap.size w w') (hF : ∀ x ∈ F', x ∈ F ∨ (w.heap.size ≤ x ∧ x < w'.heap.size)) : OwnF w0 F' g D w' := by
  obtain ⟨M, E, h1, h2, h3, h4⟩ := h
  refine ⟨M, E, h1.below hb, h2, h3.trans (hb.mono h3.size), fun x hx => ?_⟩
  rcases hF x hx with hx | hx
  · exact ⟨(h4 x hx).1, (h4 x hx).2.1, Nat.lt_of_lt_of_le (h4 x hx).2.2 hb.size⟩
  · exact ⟨fun hm => by have := h1.ml x hm; omega, fun hm => by have := h1.el x hm; omega, hx.2⟩

theorem sync_x {D : St} (h : D.x = true) : syncD D = D ∧ syncE D = 10 := by unfold syncD syncE; rw [if_pos h, if_pos h]; exact ⟨rfl, rfl⟩
theorem sync_0 {D : St} (h : D.x = false) (h0 : D.f = 0) : syncD D = { D with x := true } ∧ syncE D = 10 := by
  have hx : ¬ D.x = true := by simp [h]
  unfold syncD syncE; rw [if_neg hx, if_neg hx, if_pos h0, if_pos h0]; exact ⟨rfl, rfl⟩
theorem sync_ok {D : St} (h : D.x = false) (h0 : ¬ D.f = 0) : syncD D = { D with f := burnF D.f, b := D.all, p := [] } ∧ syncE D = 0 := by
  have hx : ¬ D.x = true := by simp [h]
  unfold syncD syncE; rw [if_neg hx, if_neg hx, if_neg h0, if_neg h0]; exact ⟨rfl, rfl⟩
theorem write_x {D : St} (s : Int) (l : List UInt8) (h : D.x = true) : writeD D s l = D ∧ writeE D s l = 10 := by unfold writeD writeE; rw [if_pos h, if_pos h]; exact ⟨rfl, rfl⟩
theorem write_len {D : St} (s : Int) (l : List UInt8) (h : D.x = false) (hl : l.length % 64 ≠ 0) : writeD D s l = D ∧ writeE D s l = 1 := by
  have hx : ¬ D.x = true := by simp [h]
  unfold writeD writeE; rw [if_neg hx, if_neg hx, if_pos hl, if_pos hl]; exact ⟨rfl, rfl⟩
theorem write_in {D : St} (s : Int) (l : List UInt8) (h : D.x = false) (hl : l.length % 64 = 0) (hi : inB D.n s (l.length / 64 : Nat) = false) : writeD D s l = D ∧ writeE D s l = 2 := by
  have hx : ¬ D.x = true := by simp [h]
  have hl' : ¬ l.length % 64 ≠ 0 := by simp [hl]
  unfold writeD writeE; rw [if_neg hx, if_neg hx, if_neg hl', if_neg hl', if_pos hi, if_pos hi]; exact ⟨rfl, rfl⟩
theorem write_0 {D : St} (s : Int) (l : List UInt8) (h : D.x = false) (hl : l.length % 64 = 0) (hi : inB D.n s (l.length / 64 : Nat) = true) (h0 : D.f = 0) : writeD D s l = { D with x := true } ∧ writeE D s l = 10 := by
  have hx : ¬ D.x = true := by simp [h]
  have hl' : ¬ l.length % 64 ≠ 0 := by simp [hl]
  have hi' : ¬ inB D.n s (l.length / 64 : Nat) = false := by rw [hi]; simp
  unfold writeD writeE; rw [if_neg hx, if_neg hx, if_neg hl', if_neg hl', if_neg hi', if_neg hi', if_pos h0, if_pos h0]; exact ⟨rfl, rfl⟩
theorem write_ok {D : St} (s : Int) (l : List UInt8) (h : D.x = false) (hl : l.length % 64 = 0) (hi : inB D.n s (l.length / 64 : Nat) = true) (h0 : ¬ D.f = 0) : writeD D s l = { D with f := burnF D.f, p := D.p ++ [⟨s.toNat, l⟩] } ∧ writeE D s l = 0 := by
  have hx : ¬ D.x = true := by simp [h]
  have hl' : ¬ l.length % 64 ≠ 0 := by simp [hl]
  have hi' : ¬ inB D.n s (l.length / 64 : Nat) = false := by rw [hi]; simp
  unfold writeD writeE; rw [if_neg hx, if_neg hx, if_neg hl', if_neg hl', if_neg hi', if_neg hi', if_neg h0, if_neg h0]; exact ⟨rfl, rfl⟩

theorem inB_full (n : Nat) : inB n 0 n = true := by unfold inB; simp
theorem readL_full (D : St) (h : D.ok) (h6 : D.n = 6) (hx : D.x = false) : readL D 0 6 = D.all := by
  have hi : inB D.n 0 6 = true := by rw [h6]; exact inB_full 6
  have := h.all
  unfold readL
  rw [hx, hi]
  simp only [Bool.false_eq_true, if_false]
  rw [if_neg (by simp), show 64 * (0 : Int).toNat = 0 from rfl, show 64 * (6 : Int).toNat = 384 from rfl, List.drop_zero, List.take_of_length_le (by rw [this, h6]; exact Nat.le_refl _)]
theorem readE_full (D : St) (h6 : D.n = 6) : readE D 0 6 = if D.x = true then 10 else 0 := by
  have hi : inB D.n 0 6 = true := by rw [h6]; exact inB_full 6
  unfold readE
  rw [hi]
  simp
end Dk
end Go.Proofs.Ytmdpmpfjldgalaa

/- The reference's disk in memory; the walks of refmeshref19: New, inside, burn, Write. -/
namespace Go.Proofs.Ytmdpmpfjldgalaa
open Go.RowKit
namespace Dk

theorem info_pc : (Try.prog.info? 97).map (fun i => (i.zero, i.size, i.bytes)) = some (some (.agg #[.int .i64 0, .slice none 0 0]), 2, 32) := by kernel_rfl
theorem size_dk : (Try.prog.info? 42).map (·.size) = some 4 := by kernel_rfl
theorem heap_set4 {w : World} {R : Nat} {a b c d : Value} {t : TypeId} (h : w.heap[R]? = some (.cells #[a, b, c, d] t (0, 0))) (x y z u : Value) :
    ((((w.setCell ⟨R, 0, none⟩ x).setCell ⟨R, 1, none⟩ y).setCell ⟨R, 2, none⟩ z).setCell ⟨R, 3, none⟩ u).heap[R]? = some (.cells #[x, y, z, u] t (0, 0)) :=
  heap_setCell_same _ _ _ _ _ _ (heap_setCell_same _ _ _ _ _ _ (heap_setCell_same _ _ _ _ _ _ (heap_setCell_same _ _ _ _ _ _ h)))
theorem chg_set4 (w : World) (R : Nat) (x y z u : Value) : Chg [R] w ((((w.setCell ⟨R, 0, none⟩ x).setCell ⟨R, 1, none⟩ y).setCell ⟨R, 2, none⟩ z).setCell ⟨R, 3, none⟩ u) :=
  ((((Chg.refl [R] w).setCell (p := ⟨R, 0, none⟩) (.inl (by simp)) x).setCell (p := ⟨R, 1, none⟩) (.inl (by simp)) y).setCell (p := ⟨R, 2, none⟩) (.inl (by simp)) z).setCell (p := ⟨R, 3, none⟩) (.inl (by simp)) u

/-- the reference's disk -/
structure IsK' (w : World) (N : List Nat) (D : St) (A : Option Addr) (ca : Nat) (X : Option Addr) (cx : Nat) (P : List Pm) : Prop where
  du : RB w A D.b
  pe : Rd w X (pcells P)
  pd : D.p = P.map (·.q)
  pr : ∀ m ∈ P, RB w m.a m.q.d ∧ m.q.d.length ≤ m.c ∧ m.c ≤ maxLen
  ok : D.ok
  c1 : 64 * D.n ≤ ca
  c2 : ca ≤ maxLen
  c3 : P.length ≤ cx
  c4 : cx ≤ maxLen
  na : ∀ b off, A = some ⟨b, off, none⟩ → b ∈ N
  nx : 0 < P.length → ∀ b off, X = some ⟨b, off, none⟩ → b ∈ N
  nm : ∀ m ∈ P, 0 < m.q.d.length → ∀ b off, m.a = some ⟨b, off, none⟩ → b ∈ N
  nl : ∀ x ∈ N, x < w.heap.size
def kval (D : St) (A : Option Addr) (ca : Nat) (X : Option Addr) (cx : Nat) (P : List Pm) : Value := .agg #[.slice A (64 * D.n) ca, .slice X P.length cx, .bool D.x, .int .i64 D.f]
def IsK (w : World) (N : List Nat) (v : Value) (D : St) : Prop := ∃ A ca X cx P, v = kval D A ca X cx P ∧ IsK' w N D A ca X cx P
section
variable {w w' : World} {N : List Nat} {D : St} {A X : Option Addr} {ca cx : Nat} {P : List Pm} {v : Value}
theorem pcells_pos (P : List Pm) (h : 0 < (pcells P).length) : 0 < P.length := by rw [pcells_len] at h; omega
theorem IsK'.kept (h : IsK' w N D A ca X cx P) (k : Kept N w w') (hl : w.heap.size ≤ w'.heap.size) : IsK' w' N D A ca X cx P :=
  ⟨k.rd h.du (fun _ => h.na), k.rd h.pe (fun hp => h.nx (pcells_pos P hp)), h.pd, fun m hm => ⟨k.rd (h.pr m hm).1 (fun hp => h.nm m hm (by simpa using hp)), (h.pr m hm).2⟩, h.ok, h.c1, h.c2, h.c3, h.c4, h.na, h.nx, h.nm, fun x hx => Nat.lt_of_lt_of_le (h.nl x hx) hl⟩
theorem IsK'.kept' (h : IsK' w N D A ca X cx P) (k : Kept N w w') : IsK' w' N D A ca X cx P :=
  ⟨k.rd h.du (fun _ => h.na), k.rd h.pe (fun hp => h.nx (pcells_pos P hp)), h.pd, fun m hm => ⟨k.rd (h.pr m hm).1 (fun hp => h.nm m hm (by simpa using hp)), (h.pr m hm).2⟩, h.ok, h.c1, h.c2, h.c3, h.c4, h.na, h.nx, h.nm, IsK_size k h.nl⟩
theorem IsK'.below (h : IsK' w N D A ca X cx P) (hb : Below w.heap.size w w') : IsK' w' N D A ca X cx P := h.kept (Kept.of_below h.nl hb) hb.size
theorem IsK.kept (h : IsK w N v D) (k : Kept N w w') (hl : w.heap.size ≤ w'.heap.size) : IsK w' N v D := by
  obtain ⟨A, ca, X, cx, P, hv, h⟩ := h
  exact ⟨A, ca, X, cx, P, hv, h.kept k hl⟩
theorem IsK.below (h : IsK w N v D) (hb : Below w.heap.size w w') : IsK w' N v D := by
  obtain ⟨A, ca, X, cx, P, hv, h⟩ := h
  exact ⟨A, ca, X, cx, P, hv, h.below hb⟩
theorem IsK.ok (h : IsK w N v D) : D.ok := by obtain ⟨_, _, _, _, _, _, h⟩ := h; exact h.ok
theorem IsK.nl (h : IsK w N v D) : ∀ x ∈ N, x < w.heap.size := by obtain ⟨_, _, _, _, _, _, h⟩ := h; exact h.nl
/-- the numbers of the head -/
theorem IsK'.nums (h : IsK' w N D A ca X cx P) (f : Int) (x : Bool) (hf : -1 ≤ f ∧ f ≤ 9223372036854775807) : IsK' w N { D with f := f, x := x } A ca X cx P :=
  ⟨h.du, h.pe, h.pd, h.pr, ⟨h.ok.n1, h.ok.n2, h.ok.b, h.ok.p, hf.1, hf.2⟩, h.c1, h.c2, h.c3, h.c4, h.na, h.nx, h.nm, h.nl⟩
end

/-- a new state of the reference -/
def KP (w : World) (N : List Nat) (D' : St) (mk : Value → Value) (e : Ending) (w' : World) : Prop :=
  ∃ v' N', e = .returned (mk v') ∧ IsK w' N' v' D' ∧ Below w.heap.size w w' ∧ ∀ x ∈ N', x ∈ N ∨ w.heap.size ≤ x

set_option maxRecDepth 100000 in
set_option maxHeartbeats 1000000 in
theorem rnew_calls (n : Nat) (w : World) (h1 : 1 ≤ n) (h2 : n ≤ 65536) : Calls Try.prog 17 #[.int .i64 (n : Int)] w (KP w [] (newD n) id) := by
  have hm64 : 64 * (n : Int) = ((64 * n : Nat) : Int) := by omega
  obtain ⟨N, HN⟩ : ∃ x, Hid (64 * n = x) := ⟨_, rfl⟩
  rw [HN.out] at hm64
  have hNl : N ≤ 4194304 := by have := HN.out; omega
  obtain ⟨i0, hi0, hz0, hz1, hz2⟩ := info_parts info_u8
  have hmk : ∀ u : World, (Instr.makeSlice 29 (.int .i64 (N : Int)) (.int .i64 (N : Int))).run Try.prog u = .ok (.slice (some ⟨u.heap.size, 0, none⟩) N N) (u.alloc (.cells (madeCells #[.int .u8 0] N) 5)) := fun u => by
    have h := run_make (P := Try.prog) u 29 5 i0 (.int .u8 0) Try.underlying29 hi0 hz0 .i64 .i64 N N (by omega) (Int.le_refl _) (by rw [hz2]; omega) (by omega)
    simpa [hz1, Value.cells] using h
  have HMC : Hid ((madeCells #[.int .u8 0] N).toList = (List.replicate N (0 : UInt8)).map vb) := made_bytes N
  generalize madeCells #[.int .u8 0] N = mc at *
  clear hi0 hz0 hz1 hz2
  go_enter Try.func17, Try.ntmps17
  go_wp2_with fail
  have hb2 := below2 w (.cells #[.slice (some ⟨w.heap.size + 1, 0, none⟩) N N, .slice none 0 0, .bool false, .int .i64 (-1)] 42) (.cells mc 5)
  have hA : ((w.alloc (.cells #[.slice (some ⟨w.heap.size + 1, 0, none⟩) N N, .slice none 0 0, .bool false, .int .i64 (-1)] 42)).alloc (.cells mc 5)).heap[w.heap.size]? = some (.cells #[.slice (some ⟨w.heap.size + 1, 0, none⟩) N N, .slice none 0 0, .bool false, .int .i64 (-1)] 42 (0, 0)) := (Below.heap_alloc _ _ _ (by simp)).trans (heap_alloc_new _ _)
  have hG : ((w.alloc (.cells #[.slice (some ⟨w.heap.size + 1, 0, none⟩) N N, .slice none 0 0, .bool false, .int .i64 (-1)] 42)).alloc (.cells mc 5)).heap[w.heap.size + 1]? = some (.cells mc 5 (0, 0)) := heap_alloc2_new _ _ _
  have hz : ((w.alloc (.cells #[.slice (some ⟨w.heap.size + 1, 0, none⟩) N N, .slice none 0 0, .bool false, .int .i64 (-1)] 42)).alloc (.cells mc 5)).heap.size = w.heap.size + 2 := by simp
  refine bodyPost_ret (results_cell_row rfl _ _ w.heap.size 42 _ (0, 0) _ rfl hA Try.underlying42 rfl size_dk) rfl ?_
  have hNn : 64 * (newD n).n = N := HN.out
  refine ⟨kval (newD n) (some ⟨w.heap.size + 1, 0, none⟩) N none 0 [], [w.heap.size + 1], ?_, ⟨_, _, _, _, _, rfl, ?_⟩, hb2, by simp⟩
  · show _ = Ending.returned (kval (newD n) (some ⟨w.heap.size + 1, 0, none⟩) N none 0 [])
    unfold kval; rw [hNn]; rfl
  · refine ⟨?_, Rd.nil, rfl, fun m hm => absurd hm (by simp), newD_ok n h1 h2, by rw [hNn]; exact Nat.le_refl _, by simp only [maxLen]; omega, Nat.le_refl _, by simp [maxLen], fun b off e => by cases e; simp, fun h => absurd h (by simp), fun m hm => absurd hm (by simp), fun x hx => ?_⟩
    · show Rd _ _ ((List.replicate (64 * n) (0 : UInt8)).map vb)
      rw [HN.out, ← HMC.out]
      exact Rd.mk fun i v hv => by rw [Nat.zero_add, cell_of_row _ _ _ _ _ _ hG]; simpa using hv
    · simp only [List.mem_singleton] at hx; omega
set_option maxRecDepth 100000 in
set_option maxHeartbeats 1000000 in
theorem rinside_calls (v : Value) (N0 : List Nat) (D : St) (s k : Int) (w : World) (h : IsK w N0 v D) (hs : -9223372036854775808 ≤ s) (hs2 : s ≤ 9223372036854775807) :
    Calls Try.prog 61 #[v, .int .i64 s, .int .i64 k] w fun e w' => e = .returned (.bool (inB D.n s k)) ∧ Below w.heap.size w w' := by
  obtain ⟨A, ca, X, cx, P, rfl, h⟩ := h
  have hn := h.ok.n2
  have hc1 := h.c1
  have hc2 := h.c2
  have hc3 := h.c3
  have hc4 := h.c4
  unfold maxLen at hc2 hc4
  have hq : ((64 * D.n : Nat) : Int) / 64 = (D.n : Int) := by omega
  have hb := inB D.n s k
  have HQ : Hid (∀ b, b = inB D.n s k → Ending.returned (.bool b) = .returned (.bool (inB D.n s k))) := by rintro b rfl; rfl
  generalize hbb : inB D.n s k = r at *
  have HB := Lib.hid hbb
  unfold inB at hbb
  clear h hb
  unfold kval
  obtain ⟨N, HN⟩ : ∃ x, Hid (64 * D.n = x) := ⟨_, rfl⟩
  rw [HN.out] at hq hc1 ⊢
  have hN9 : N ≤ 4194304 := by have := HN.out; omega
  generalize P.length = pl at *
  have HB1 := Lib.hid (below1 w (.cells #[.slice A N ca, .slice X pl cx, .bool D.x, .int .i64 D.f] 42))
  by_cases h1 : 0 ≤ s
  · have d1 : decide (0 ≤ s) = true := by simpa using h1
    by_cases h2 : 0 ≤ k
    · have d2 : decide (0 ≤ k) = true := by simpa using h2
      by_cases h3 : s ≤ D.n
      · have d3 : decide (s ≤ (D.n : Int)) = true := by simpa using h3
        rw [d1, d2, d3] at hbb
        have HB2 := Lib.hid hbb
        clear hbb
        go_enter Try.func61, Try.ntmps61
        go_wp2_with fail
        go_ret
        exact ⟨HQ.out _ (by rw [← HB2.out]; simp), HB1.out⟩
      · have d3 : decide (s ≤ (D.n : Int)) = false := by simpa using h3
        rw [d1, d2, d3] at hbb
        have HB2 := Lib.hid hbb
        clear hbb
        go_enter Try.func61, Try.ntmps61
        go_wp2_with fail
        go_ret
        exact ⟨HQ.out _ (by rw [← HB2.out]; simp), HB1.out⟩
    · have d2 : decide (0 ≤ k) = false := by simpa using h2
      rw [d1, d2] at hbb
      have HB2 := Lib.hid hbb
      clear hbb
      go_enter Try.func61, Try.ntmps61
      go_wp2_with fail
      go_ret
      exact ⟨HQ.out _ (by rw [← HB2.out]; simp), HB1.out⟩
  · have d1 : decide (0 ≤ s) = false := by simpa using h1
    rw [d1] at hbb
    have HB2 := Lib.hid hbb
    clear hbb
    go_enter Try.func61, Try.ntmps61
    go_wp2_with fail
    go_ret
    exact ⟨HQ.out _ (by rw [← HB2.out]; simp), HB1.out⟩
set_option maxRecDepth 100000 in
set_option maxHeartbeats 1000000 in
theorem rburn_calls (v : Value) (N0 : List Nat) (D : St) (w : World) (h : IsK w N0 v D) :
    Calls Try.prog 79 #[v] w (KP w N0 (burnD D) fun v' => .tuple #[v', .bool (!decide (D.f = 0))]) := by
  obtain ⟨A, ca, X, cx, P, rfl, h⟩ := h
  have hf1 := h.ok.f1
  have hf2 := h.ok.f2
  have HI := Lib.hid h
  clear h
  by_cases h0 : D.f = 0
  · have HD : Hid (burnD D = { D with f := D.f, x := true }) := by show _ = _; unfold burnD; rw [if_pos h0]
    have HE : Hid ((!decide (D.f = 0)) = false) := by show _ = _; rw [decide_eq_true h0]; rfl
    have HF : Hid (∀ w', Below w.heap.size w w' → KP w N0 (burnD D) (fun v' => .tuple #[v', .bool false]) (.returned (.tuple #[.agg #[.slice A (64 * D.n) ca, .slice X P.length cx, .bool true, .int .i64 D.f], .bool false])) w') := by
      intro w' hb
      rw [HD.out]
      exact ⟨kval { D with f := D.f, x := true } A ca X cx P, N0, rfl, ⟨A, ca, X, cx, P, rfl, (HI.out.below hb).nums D.f true ⟨hf1, hf2⟩⟩, hb, fun x hx => .inl hx⟩
    rw [HE.out]
    have q0 : (D.f == 0) = true := by simpa using h0
    unfold kval
    clear h0
    generalize 64 * D.n = N at *
    generalize P.length = pl at *
    generalize D.f = f at *
    generalize D.x = x at *
    go_enter Try.func79, Try.ntmps79
    go_wp2_with fail
    refine bodyPost_ret (results_cell_tmp rfl _ _ (w.heap.size + 1) 42 _ (0, 0) _ rfl (heap_alloc2_new _ _ _) Try.underlying42 rfl size_dk) rfl ?_
    exact HF.out _ (below2 _ _ _)
  · have HE : Hid ((!decide (D.f = 0)) = true) := by show _ = _; rw [decide_eq_false h0]; rfl
    have HF : Hid (∀ w' f', f' = burnF D.f → Below w.heap.size w w' → KP w N0 (burnD D) (fun v' => .tuple #[v', .bool true]) (.returned (.tuple #[.agg #[.slice A (64 * D.n) ca, .slice X P.length cx, .bool D.x, .int .i64 f'], .bool true])) w') := by
      intro w' f' hf hb
      have HD : burnD D = { D with f := f', x := D.x } := by unfold burnD; rw [if_neg h0, hf]
      rw [HD]
      exact ⟨kval { D with f := f', x := D.x } A ca X cx P, N0, rfl, ⟨A, ca, X, cx, P, rfl, (HI.out.below hb).nums f' D.x (by rw [hf]; exact burnF_fits hf1 hf2)⟩, hb, fun x hx => .inl hx⟩
    rw [HE.out]
    have q0 : (D.f == 0) = false := by simpa using h0
    unfold kval
    by_cases hp : 0 < D.f
    · have d1 : decide (0 < D.f) = true := by simpa using hp
      have HFF : Hid (D.f - 1 = burnF D.f) := by show _ = _; unfold burnF; rw [if_pos hp]
      clear h0
      generalize 64 * D.n = N at *
      generalize P.length = pl at *
      generalize D.x = x at *
      go_enter Try.func79, Try.ntmps79
      go_wp2_with fail
      refine bodyPost_ret (results_cell_tmp rfl _ _ (w.heap.size + 1) 42 _ (0, 0) _ rfl (heap_alloc2_new _ _ _) Try.underlying42 rfl size_dk) rfl ?_
      exact HF.out _ _ HFF.out (below2 _ _ _)
    · have d1 : decide (0 < D.f) = false := by simpa using hp
      have HFF : Hid (D.f = burnF D.f) := by show _ = _; unfold burnF; rw [if_neg hp]
      clear h0
      generalize 64 * D.n = N at *
      generalize P.length = pl at *
      generalize D.x = x at *
      go_enter Try.func79, Try.ntmps79
      go_wp2_with fail
      refine bodyPost_ret (results_cell_tmp rfl _ _ (w.heap.size + 1) 42 _ (0, 0) _ rfl (heap_alloc2_new _ _ _) Try.underlying42 rfl size_dk) rfl ?_
      exact HF.out _ _ HFF.out (below2 _ _ _)
end Dk
end Go.Proofs.Ytmdpmpfjldgalaa

/- The walk of refmeshref19.Write. -/
namespace Go.Proofs.Ytmdpmpfjldgalaa
open Go.RowKit
namespace Dk

theorem IsK'.push {w wf : World} {N : List Nat} {D : St} {A X X' Y : Option Addr} {ca cx cx' cy s B : Nat} {P : List Pm} {l : List UInt8} (h : IsK' w N D A ca X cx P) (hb : Below w.heap.size w wf) (hq : Pc.ok D.n ⟨s, l⟩)
    (hB : w.heap.size ≤ B) (hown : wf.ownsRow B 97 2 (.slice X' (P.length + 1) cx') (P.length + 1) (pcells P ++ [.int .i64 (s : Int), .slice Y l.length cy]))
    (hY : wf.ownsRow B 5 1 (.slice Y l.length cy) l.length (l.map vb)) :
    ∃ N', IsK' wf N' { D with p := D.p ++ [⟨s, l⟩] } A ca X' cx' (P ++ [⟨⟨s, l⟩, Y, cy⟩]) ∧ ∀ x ∈ N', x ∈ N ∨ w.heap.size ≤ x := by
  obtain ⟨_, _, e1, hx1, hx2, _, hrx⟩ := own_formS hown
  cases e1
  obtain ⟨_, _, e1, hy1, hy2, _, hry⟩ := own_form hY
  cases e1
  have hb' := h.below hb
  have hpl : (P ++ [(⟨⟨s, l⟩, Y, cy⟩ : Pm)]).length = P.length + 1 := by simp
  refine ⟨N ++ ((Value.slice X' (P.length + 1) cx').ownBlock.toList ++ (Value.slice Y l.length cy).ownBlock.toList), ⟨hb'.du, ?_, ?_, ?_, ?_, h.c1, h.c2, ?_, hx2, ?_, ?_, ?_, ?_⟩, ?_⟩
  · rw [pcells_snoc]; exact hrx
  · show D.p ++ [⟨s, l⟩] = _
    rw [h.pd]; simp
  · intro m hm
    rcases List.mem_append.1 hm with hm | hm
    · exact hb'.pr m hm
    · simp only [List.mem_singleton] at hm
      subst hm
      exact ⟨hry, hy1, hy2⟩
  · refine ⟨h.ok.n1, h.ok.n2, h.ok.b, fun q hq' => ?_, h.ok.f1, h.ok.f2⟩
    rcases List.mem_append.1 hq' with hq' | hq'
    · exact h.ok.p q hq'
    · simp only [List.mem_singleton] at hq'; subst hq'; exact hq
  · rw [hpl]; exact hx1
  · exact fun b off e => List.mem_append_left _ (h.na b off e)
  · intro _ b off e
    refine List.mem_append_right _ (List.mem_append_left _ ?_)
    rw [e]; simp [Value.ownBlock]
  · intro m hm hp b off e
    rcases List.mem_append.1 hm with hm | hm
    · exact List.mem_append_left _ (h.nm m hm hp b off e)
    · simp only [List.mem_singleton] at hm
      subst hm
      simp only at e
      refine List.mem_append_right _ (List.mem_append_right _ ?_)
      rw [e]; simp [Value.ownBlock]
  · intro x hx
    rcases List.mem_append.1 hx with hx | hx
    · exact hb'.nl x hx
    · rcases List.mem_append.1 hx with hx | hx
      · exact (hown.lt x (by simpa using hx)).2
      · exact (hY.lt x (by simpa using hx)).2
  · intro x hx
    rcases List.mem_append.1 hx with hx | hx
    · exact .inl hx
    · rcases List.mem_append.1 hx with hx | hx
      · exact .inr (Nat.le_trans hB (hown.lt x (by simpa using hx)).1)
      · exact .inr (Nat.le_trans hB (hY.lt x (by simpa using hx)).1)

set_option maxRecDepth 100000 in
set_option maxHeartbeats 4000000 in
theorem rwrite_calls (v : Value) (N0 : List Nat) (D : St) (s : Int) (B : Option Addr) (n c : Nat) (l : List UInt8) (w : World) (h : IsK w N0 v D) (hn : l.length = n) (hr : RB w B l) (hnm : n ≤ 9223372036854775807) (hs : -9223372036854775808 ≤ s) (hs2 : s ≤ 9223372036854775807) (hp : D.p.length ≤ 10000) :
    Calls Try.prog 69 #[v, .int .i64 s, .slice B n c] w (KP w N0 (writeD D s l) fun v' => .tuple #[v', .int .i64 (writeE D s l)]) := by
  have HK := Lib.hid h
  obtain ⟨A, ca, X, cx, P, rfl, h⟩ := h
  have HI := Lib.hid h
  have HN := Lib.hid hn
  have HR := Lib.hid hr
  have i0 : (0 : Int) ≤ (n : Int) := by omega
  have hq64 : (n : Int) / 64 = ((n / 64 : Nat) : Int) := by omega
  obtain ⟨nk, HNK⟩ : ∃ x, Hid (n / 64 = x) := ⟨_, rfl⟩
  rw [HNK.out] at hq64
  have hok := h.ok
  have HSAME : Hid (∀ er w', writeD D s l = D → writeE D s l = er → Below w.heap.size w w' → KP w N0 (writeD D s l) (fun v' => .tuple #[v', .int .i64 (writeE D s l)]) (.returned (.tuple #[.agg #[.slice A (64 * D.n) ca, .slice X P.length cx, .bool D.x, .int .i64 D.f], .int .i64 er])) w') := by
    intro er w' h1 h2 hb
    rw [h1, h2]
    exact ⟨kval D A ca X cx P, N0, rfl, HK.out.below hb, hb, fun x hx => .inl hx⟩
  have HIN := fun w' (hb : Below w.heap.size w w') => Lib.hid (rinside_calls _ N0 D s ((n / 64 : Nat) : Int) w' (HK.out.below hb) hs hs2)
  rw [HNK.out] at HIN
  have HBU := fun w' (hb : Below w.heap.size w w') => Lib.hid (rburn_calls _ N0 D w' (HK.out.below hb))
  unfold kval at HIN HBU ⊢
  obtain ⟨pl, HPL⟩ : ∃ x, Hid (P.length = x) := ⟨_, rfl⟩
  obtain ⟨N, HNN⟩ : ∃ x, Hid (64 * D.n = x) := ⟨_, rfl⟩
  rw [HPL.out, HNN.out] at HSAME
  rw [HPL.out, HNN.out] at HIN HBU ⊢
  have HB2 := Lib.hid (below2 w (.cells #[.slice A N ca, .slice X pl cx, .bool D.x, .int .i64 D.f] 42) (.cells #[.slice none 0 0, .slice none 0 0, .bool false, .int .i64 0] 42))
  have hk1 : ((w.alloc (.cells #[.slice A N ca, .slice X pl cx, .bool D.x, .int .i64 D.f] 42)).alloc (.cells #[.slice none 0 0, .slice none 0 0, .bool false, .int .i64 0] 42)).heap[w.heap.size]? = some (.cells #[.slice A N ca, .slice X pl cx, .bool D.x, .int .i64 D.f] 42) := (Below.heap_alloc _ _ _ (by simp)).trans (heap_alloc_new _ _)
  have hk2 : ((w.alloc (.cells #[.slice A N ca, .slice X pl cx, .bool D.x, .int .i64 D.f] 42)).alloc (.cells #[.slice none 0 0, .slice none 0 0, .bool false, .int .i64 0] 42)).heap[w.heap.size + 1]? = some (.cells #[.slice none 0 0, .slice none 0 0, .bool false, .int .i64 0] 42) := heap_alloc2_new _ _ _
  have HK1 := Lib.hid hk1
  have HK2 := Lib.hid hk2
  clear h hn hr hk1 hk2
  cases hx : D.x with
  | true =>
    obtain ⟨e1, e2⟩ := write_x s l hx
    have HF := Lib.hid (fun w' => HSAME.out 10 w' e1 e2)
    rw [hx] at HF HB2
    clear e1 e2 hx hok HIN HBU HSAME HK1 HK2
    go_enter Try.func69, Try.ntmps69
    go_wp2_with fail
    refine bodyPost_ret (results_cell_tmp rfl _ _ (w.heap.size + 1) 42 _ (0, 0) _ rfl (heap_alloc2_new _ _ _) Try.underlying42 rfl size_dk) rfl ?_
    exact HF.out _ (below2 _ _ _)
  | false =>
    rw [hx] at HB2 HK1 HK2 HSAME HIN HBU
    by_cases hm : n % 64 = 0
    · have q1 : ((n : Int) % 64 != 0) = false := by rw [bne_eq_false_iff_eq]; omega
      have hl0 : l.length % 64 = 0 := by rw [HN.out]; exact hm
      cases hi : inB D.n s (nk : Int) with
      | false =>
        have hi' : inB D.n s ((l.length / 64 : Nat) : Int) = false := by rw [HN.out, HNK.out]; exact hi
        obtain ⟨e1, e2⟩ := write_in s l hx hl0 hi'
        have HF := Lib.hid (fun w' => HSAME.out 2 w' e1 e2)
        rw [hi] at HIN
        clear e1 e2 hx hok HBU HSAME hl0 hi hi' hm
        go_enter Try.func69, Try.ntmps69
        go_wp2_with fail
        generalize (w.alloc (.cells #[.slice A N ca, .slice X pl cx, .bool false, .int .i64 D.f] 42)).alloc (.cells #[.slice none 0 0, .slice none 0 0, .bool false, .int .i64 0] 42) = w2 at *
        refine (HIN w2 HB2.out).out.mono ?_
        rintro e w3 ⟨rfl, hb3⟩
        have HK13 := Lib.hid ((hb3.block _ (Array.getElem?_eq_some_iff.1 HK1.out).1).trans HK1.out)
        have HK23 := Lib.hid ((hb3.block _ (Array.getElem?_eq_some_iff.1 HK2.out).1).trans HK2.out)
        have HB3 := Lib.hid (HB2.out.trans (hb3.mono HB2.out.size))
        have rc0 : w3.cell? ⟨w.heap.size, 0, none⟩ = some _ := (cell_of_row _ _ 0 _ _ _ HK13.out).trans rfl; have rf0 : w3.frozen? ⟨w.heap.size, 0, none⟩ = false := frozen_of_row _ _ _ _ _ HK13.out; have rc1 : w3.cell? ⟨w.heap.size, 1, none⟩ = some _ := (cell_of_row _ _ 1 _ _ _ HK13.out).trans rfl; have rf1 : w3.frozen? ⟨w.heap.size, 1, none⟩ = false := frozen_of_row _ _ _ _ _ HK13.out; have rc2 : w3.cell? ⟨w.heap.size, 2, none⟩ = some _ := (cell_of_row _ _ 2 _ _ _ HK13.out).trans rfl; have rf2 : w3.frozen? ⟨w.heap.size, 2, none⟩ = false := frozen_of_row _ _ _ _ _ HK13.out; have rc3 : w3.cell? ⟨w.heap.size, 3, none⟩ = some _ := (cell_of_row _ _ 3 _ _ _ HK13.out).trans rfl; have rf3 : w3.frozen? ⟨w.heap.size, 3, none⟩ = false := frozen_of_row _ _ _ _ _ HK13.out
        have zc0 : w3.cell? ⟨w.heap.size + 1, 0, none⟩ = some _ := (cell_of_row _ _ 0 _ _ _ HK23.out).trans rfl; have zf0 : w3.frozen? ⟨w.heap.size + 1, 0, none⟩ = false := frozen_of_row _ _ _ _ _ HK23.out; have zc1 : w3.cell? ⟨w.heap.size + 1, 1, none⟩ = some _ := (cell_of_row _ _ 1 _ _ _ HK23.out).trans rfl; have zf1 : w3.frozen? ⟨w.heap.size + 1, 1, none⟩ = false := frozen_of_row _ _ _ _ _ HK23.out; have zc2 : w3.cell? ⟨w.heap.size + 1, 2, none⟩ = some _ := (cell_of_row _ _ 2 _ _ _ HK23.out).trans rfl; have zf2 : w3.frozen? ⟨w.heap.size + 1, 2, none⟩ = false := frozen_of_row _ _ _ _ _ HK23.out; have zc3 : w3.cell? ⟨w.heap.size + 1, 3, none⟩ = some _ := (cell_of_row _ _ 3 _ _ _ HK23.out).trans rfl; have zf3 : w3.frozen? ⟨w.heap.size + 1, 3, none⟩ = false := frozen_of_row _ _ _ _ _ HK23.out
        clear hb3 HIN
        go_wp2_with fail
        have hz := heap_set4 HK23.out (.slice A N ca) (.slice X pl cx) (.bool false) (.int .i64 D.f)
        refine bodyPost_ret (results_cell_tmp rfl _ _ (w.heap.size + 1) 42 _ (0, 0) _ rfl hz Try.underlying42 rfl size_dk) rfl ?_
        exact HF.out _ (HB3.out.trans ((chg_set4 w3 (w.heap.size + 1) _ _ _ _).below HB3.out.size (by simp)))
      | true =>
        have hi' : inB D.n s ((l.length / 64 : Nat) : Int) = true := by rw [HN.out, HNK.out]; exact hi
        rw [hi] at HIN
        by_cases h0 : D.f = 0
        · obtain ⟨e1, e2⟩ := write_0 s l hx hl0 hi' h0
          have hbd : burnD D = { D with x := true } := by unfold burnD; rw [if_pos h0]
          have HF : Hid (∀ v' N' w', IsK w' N' v' (burnD D) → Below w.heap.size w w' → (∀ x ∈ N', x ∈ N0 ∨ w.heap.size ≤ x) → KP w N0 (writeD D s l) (fun v' => .tuple #[v', .int .i64 (writeE D s l)]) (.returned (.tuple #[v', .int .i64 10])) w') := by
            intro v' N' w' h1 h2 h3
            rw [e1, e2, ← hbd]
            exact ⟨v', N', rfl, h1, h2, h3⟩
          rw [decide_eq_true h0] at HBU
          clear e1 e2 hbd hx hok HSAME hl0 hi hi' hm h0
          generalize burnD D = D1 at *
          go_enter Try.func69, Try.ntmps69
          go_wp2_with fail
          generalize (w.alloc (.cells #[.slice A N ca, .slice X pl cx, .bool false, .int .i64 D.f] 42)).alloc (.cells #[.slice none 0 0, .slice none 0 0, .bool false, .int .i64 0] 42) = w2 at *
          refine (HIN w2 HB2.out).out.mono ?_
          rintro e w3 ⟨rfl, hb3⟩
          have HK13 := Lib.hid ((hb3.block _ (Array.getElem?_eq_some_iff.1 HK1.out).1).trans HK1.out)
          have HK23 := Lib.hid ((hb3.block _ (Array.getElem?_eq_some_iff.1 HK2.out).1).trans HK2.out)
          have HB3 := Lib.hid (HB2.out.trans (hb3.mono HB2.out.size))
          have rc0 : w3.cell? ⟨w.heap.size, 0, none⟩ = some _ := (cell_of_row _ _ 0 _ _ _ HK13.out).trans rfl; have rf0 : w3.frozen? ⟨w.heap.size, 0, none⟩ = false := frozen_of_row _ _ _ _ _ HK13.out; have rc1 : w3.cell? ⟨w.heap.size, 1, none⟩ = some _ := (cell_of_row _ _ 1 _ _ _ HK13.out).trans rfl; have rf1 : w3.frozen? ⟨w.heap.size, 1, none⟩ = false := frozen_of_row _ _ _ _ _ HK13.out; have rc2 : w3.cell? ⟨w.heap.size, 2, none⟩ = some _ := (cell_of_row _ _ 2 _ _ _ HK13.out).trans rfl; have rf2 : w3.frozen? ⟨w.heap.size, 2, none⟩ = false := frozen_of_row _ _ _ _ _ HK13.out; have rc3 : w3.cell? ⟨w.heap.size, 3, none⟩ = some _ := (cell_of_row _ _ 3 _ _ _ HK13.out).trans rfl; have rf3 : w3.frozen? ⟨w.heap.size, 3, none⟩ = false := frozen_of_row _ _ _ _ _ HK13.out
          clear hb3 HIN
          go_wp2_with fail
          refine (HBU w3 HB3.out).out.mono ?_
          rintro e w4 ⟨v4, N4, rfl, ⟨A4, ca4, X4, cx4, P4, rfl, h4⟩, hb4, hn4⟩
          have HI4 := Lib.hid h4
          have HN4 := Lib.hid (fun x hx => (hn4 x hx).imp id fun h => Nat.le_trans HB3.out.size h)
          have HK14 := Lib.hid ((hb4.block _ (Array.getElem?_eq_some_iff.1 HK13.out).1).trans HK13.out)
          have HK24 := Lib.hid ((hb4.block _ (Array.getElem?_eq_some_iff.1 HK23.out).1).trans HK23.out)
          have HB4 := Lib.hid (HB3.out.trans (hb4.mono HB3.out.size))
          unfold kval
          obtain ⟨pl4, HPL4⟩ : ∃ x, Hid (P4.length = x) := ⟨_, rfl⟩
          obtain ⟨N4', HNN4⟩ : ∃ x, Hid (64 * D1.n = x) := ⟨_, rfl⟩
          have HFI : Hid (∀ w', Chg [w.heap.size, w.heap.size + 1] w4 w' → KP w N0 (writeD D s l) (fun v' => .tuple #[v', .int .i64 (writeE D s l)]) (.returned (.tuple #[.agg #[.slice A4 N4' ca4, .slice X4 pl4 cx4, .bool D1.x, .int .i64 D1.f], .int .i64 10])) w') := by
            intro w' hc
            have hb := HB4.out.trans (hc.below HB4.out.size (by simp))
            have hk : Kept N4 w4 w' := fun x hx => hc.block x (HI4.out.nl x hx) (by
              rcases HN4.out x hx with h | h
              · have := HI.out.nl x h; simp; omega
              · have := hn4 x hx
                have h2 := (Array.getElem?_eq_some_iff.1 HK13.out).1
                have h3 := (Array.getElem?_eq_some_iff.1 HK23.out).1
                rcases this with h4 | h4
                · have := HI.out.nl x h4; simp; omega
                · simp; omega)
            have := HF.out (kval D1 A4 ca4 X4 cx4 P4) N4 w' ⟨A4, ca4, X4, cx4, P4, rfl, HI4.out.kept hk hc.size⟩ hb HN4.out
            unfold kval at this
            rw [HPL4.out, HNN4.out] at this
            exact this
          rw [HPL4.out, HNN4.out]
          clear h4 hb4 hn4 HBU
          clear rc0 rf0 rc1 rf1 rc2 rf2 rc3 rf3
          have rc0 : w4.cell? ⟨w.heap.size, 0, none⟩ = some _ := (cell_of_row _ _ 0 _ _ _ HK14.out).trans rfl; have rf0 : w4.frozen? ⟨w.heap.size, 0, none⟩ = false := frozen_of_row _ _ _ _ _ HK14.out; have rc1 : w4.cell? ⟨w.heap.size, 1, none⟩ = some _ := (cell_of_row _ _ 1 _ _ _ HK14.out).trans rfl; have rf1 : w4.frozen? ⟨w.heap.size, 1, none⟩ = false := frozen_of_row _ _ _ _ _ HK14.out; have rc2 : w4.cell? ⟨w.heap.size, 2, none⟩ = some _ := (cell_of_row _ _ 2 _ _ _ HK14.out).trans rfl; have rf2 : w4.frozen? ⟨w.heap.size, 2, none⟩ = false := frozen_of_row _ _ _ _ _ HK14.out; have rc3 : w4.cell? ⟨w.heap.size, 3, none⟩ = some _ := (cell_of_row _ _ 3 _ _ _ HK14.out).trans rfl; have rf3 : w4.frozen? ⟨w.heap.size, 3, none⟩ = false := frozen_of_row _ _ _ _ _ HK14.out
          have zc0 : w4.cell? ⟨w.heap.size + 1, 0, none⟩ = some _ := (cell_of_row _ _ 0 _ _ _ HK24.out).trans rfl; have zf0 : w4.frozen? ⟨w.heap.size + 1, 0, none⟩ = false := frozen_of_row _ _ _ _ _ HK24.out; have zc1 : w4.cell? ⟨w.heap.size + 1, 1, none⟩ = some _ := (cell_of_row _ _ 1 _ _ _ HK24.out).trans rfl; have zf1 : w4.frozen? ⟨w.heap.size + 1, 1, none⟩ = false := frozen_of_row _ _ _ _ _ HK24.out; have zc2 : w4.cell? ⟨w.heap.size + 1, 2, none⟩ = some _ := (cell_of_row _ _ 2 _ _ _ HK24.out).trans rfl; have zf2 : w4.frozen? ⟨w.heap.size + 1, 2, none⟩ = false := frozen_of_row _ _ _ _ _ HK24.out; have zc3 : w4.cell? ⟨w.heap.size + 1, 3, none⟩ = some _ := (cell_of_row _ _ 3 _ _ _ HK24.out).trans rfl; have zf3 : w4.frozen? ⟨w.heap.size + 1, 3, none⟩ = false := frozen_of_row _ _ _ _ _ HK24.out
          go_wp2_with fail
          have hz1 := heap_set4 HK14.out (.slice A4 N4' ca4) (.slice X4 pl4 cx4) (.bool D1.x) (.int .i64 D1.f)
          have hc1 := chg_set4 w4 w.heap.size (.slice A4 N4' ca4) (.slice X4 pl4 cx4) (.bool D1.x) (.int .i64 D1.f)
          have hz2 := heap_set4 (hc1.blk HK24.out (by simp)) (.slice A4 N4' ca4) (.slice X4 pl4 cx4) (.bool D1.x) (.int .i64 D1.f)
          have hc2 := chg_set4 ((((w4.setCell ⟨w.heap.size, 0, none⟩ (.slice A4 N4' ca4)).setCell ⟨w.heap.size, 1, none⟩ (.slice X4 pl4 cx4)).setCell ⟨w.heap.size, 2, none⟩ (.bool D1.x)).setCell ⟨w.heap.size, 3, none⟩ (.int .i64 D1.f)) (w.heap.size + 1) (.slice A4 N4' ca4) (.slice X4 pl4 cx4) (.bool D1.x) (.int .i64 D1.f)
          refine bodyPost_ret (results_cell_tmp rfl _ _ (w.heap.size + 1) 42 _ (0, 0) _ rfl hz2 Try.underlying42 rfl size_dk) rfl ?_
          exact HFI.out _ ((hc1.mono (by simp)).trans' (hc2.mono (by simp)))
        · obtain ⟨b1, b2, b3, b4⟩ := inB_of hi
          obtain ⟨si, rfl⟩ : ∃ si : Nat, s = si := ⟨s.toNat, by omega⟩
          obtain ⟨e1, e2⟩ := write_ok (si : Int) l hx hl0 hi' h0
          have hbd : burnD D = { D with f := burnF D.f } := by unfold burnD; rw [if_neg h0]
          have hn2 := hok.n2
          have hqo : Pc.ok D.n ⟨si, l⟩ := by
            refine ⟨?_, ?_⟩
            · show l.length = 64 * (l.length / 64); have := HN.out; omega
            · show si + l.length / 64 ≤ D.n; have := HN.out; have := HNK.out; omega
          have HQO : Hid (Pc.ok (burnD D).n ⟨si, l⟩) := by rw [hbd]; exact hqo
          have HF : Hid (∀ v' N' w', IsK w' N' v' { burnD D with p := (burnD D).p ++ [⟨si, l⟩] } → Below w.heap.size w w' → (∀ x ∈ N', x ∈ N0 ∨ w.heap.size ≤ x) → KP w N0 (writeD D si l) (fun v' => .tuple #[v', .int .i64 (writeE D si l)]) (.returned (.tuple #[v', .int .i64 0])) w') := by
            intro v' N' w' h1 h2 h3
            have : writeD D si l = { burnD D with p := (burnD D).p ++ [⟨si, l⟩] } := by rw [e1, hbd]; rfl
            rw [this, e2]
            exact ⟨v', N', rfl, h1, h2, h3⟩
          have HPB : Hid ((burnD D).p.length ≤ 10000) := by rw [hbd]; exact hp
          have hnm2 : n ≤ 4194304 := by have := HNK.out; omega
          rw [decide_eq_false h0] at HBU
          clear e1 e2 hbd hx hok HSAME hl0 hi hi' hm h0 hqo hp
          generalize burnD D = D1 at *
          go_enter Try.func69, Try.ntmps69
          go_wp2_with fail
          generalize (w.alloc (.cells #[.slice A N ca, .slice X pl cx, .bool false, .int .i64 D.f] 42)).alloc (.cells #[.slice none 0 0, .slice none 0 0, .bool false, .int .i64 0] 42) = w2 at *
          refine (HIN w2 HB2.out).out.mono ?_
          rintro e w3 ⟨rfl, hb3⟩
          have HK13 := Lib.hid ((hb3.block _ (Array.getElem?_eq_some_iff.1 HK1.out).1).trans HK1.out)
          have HK23 := Lib.hid ((hb3.block _ (Array.getElem?_eq_some_iff.1 HK2.out).1).trans HK2.out)
          have HB3 := Lib.hid (HB2.out.trans (hb3.mono HB2.out.size))
          have rc0 : w3.cell? ⟨w.heap.size, 0, none⟩ = some _ := (cell_of_row _ _ 0 _ _ _ HK13.out).trans rfl; have rf0 : w3.frozen? ⟨w.heap.size, 0, none⟩ = false := frozen_of_row _ _ _ _ _ HK13.out; have rc1 : w3.cell? ⟨w.heap.size, 1, none⟩ = some _ := (cell_of_row _ _ 1 _ _ _ HK13.out).trans rfl; have rf1 : w3.frozen? ⟨w.heap.size, 1, none⟩ = false := frozen_of_row _ _ _ _ _ HK13.out; have rc2 : w3.cell? ⟨w.heap.size, 2, none⟩ = some _ := (cell_of_row _ _ 2 _ _ _ HK13.out).trans rfl; have rf2 : w3.frozen? ⟨w.heap.size, 2, none⟩ = false := frozen_of_row _ _ _ _ _ HK13.out; have rc3 : w3.cell? ⟨w.heap.size, 3, none⟩ = some _ := (cell_of_row _ _ 3 _ _ _ HK13.out).trans rfl; have rf3 : w3.frozen? ⟨w.heap.size, 3, none⟩ = false := frozen_of_row _ _ _ _ _ HK13.out
          clear hb3 HIN
          go_wp2_with fail
          refine (HBU w3 HB3.out).out.mono ?_
          rintro e w4 ⟨v4, N4, rfl, ⟨A4, ca4, X4, cx4, P4, rfl, h4⟩, hb4, hn4⟩
          have HI4 := Lib.hid h4
          have HN4 := Lib.hid hn4
          have HK14 := Lib.hid ((hb4.block _ (Array.getElem?_eq_some_iff.1 HK13.out).1).trans HK13.out)
          have HK24 := Lib.hid ((hb4.block _ (Array.getElem?_eq_some_iff.1 HK23.out).1).trans HK23.out)
          have HB4 := Lib.hid (HB3.out.trans (hb4.mono HB3.out.size))
          unfold kval
          have hP4 : P4.length ≤ 10000 := by have h1 := h4.pd; have h2 := HPB.out; rw [h1] at h2; simpa using h2
          obtain ⟨pl4, HPL4⟩ : ∃ x, Hid (P4.length = x) := ⟨_, rfl⟩
          obtain ⟨N4', HNN4⟩ : ∃ x, Hid (64 * D1.n = x) := ⟨_, rfl⟩
          rw [HPL4.out] at hP4
          rw [HPL4.out, HNN4.out]
          clear h4 hb4 hn4 HBU
          clear rc0 rf0 rc1 rf1 rc2 rf2 rc3 rf3
          have rc0 : w4.cell? ⟨w.heap.size, 0, none⟩ = some _ := (cell_of_row _ _ 0 _ _ _ HK14.out).trans rfl; have rf0 : w4.frozen? ⟨w.heap.size, 0, none⟩ = false := frozen_of_row _ _ _ _ _ HK14.out; have rc1 : w4.cell? ⟨w.heap.size, 1, none⟩ = some _ := (cell_of_row _ _ 1 _ _ _ HK14.out).trans rfl; have rf1 : w4.frozen? ⟨w.heap.size, 1, none⟩ = false := frozen_of_row _ _ _ _ _ HK14.out; have rc2 : w4.cell? ⟨w.heap.size, 2, none⟩ = some _ := (cell_of_row _ _ 2 _ _ _ HK14.out).trans rfl; have rf2 : w4.frozen? ⟨w.heap.size, 2, none⟩ = false := frozen_of_row _ _ _ _ _ HK14.out; have rc3 : w4.cell? ⟨w.heap.size, 3, none⟩ = some _ := (cell_of_row _ _ 3 _ _ _ HK14.out).trans rfl; have rf3 : w4.frozen? ⟨w.heap.size, 3, none⟩ = false := frozen_of_row _ _ _ _ _ HK14.out
          have zc0 : w4.cell? ⟨w.heap.size + 1, 0, none⟩ = some _ := (cell_of_row _ _ 0 _ _ _ HK24.out).trans rfl; have zf0 : w4.frozen? ⟨w.heap.size + 1, 0, none⟩ = false := frozen_of_row _ _ _ _ _ HK24.out; have zc1 : w4.cell? ⟨w.heap.size + 1, 1, none⟩ = some _ := (cell_of_row _ _ 1 _ _ _ HK24.out).trans rfl; have zf1 : w4.frozen? ⟨w.heap.size + 1, 1, none⟩ = false := frozen_of_row _ _ _ _ _ HK24.out; have zc2 : w4.cell? ⟨w.heap.size + 1, 2, none⟩ = some _ := (cell_of_row _ _ 2 _ _ _ HK24.out).trans rfl; have zf2 : w4.frozen? ⟨w.heap.size + 1, 2, none⟩ = false := frozen_of_row _ _ _ _ _ HK24.out; have zc3 : w4.cell? ⟨w.heap.size + 1, 3, none⟩ = some _ := (cell_of_row _ _ 3 _ _ _ HK24.out).trans rfl; have zf3 : w4.frozen? ⟨w.heap.size + 1, 3, none⟩ = false := frozen_of_row _ _ _ _ _ HK24.out
          go_upto_region 10 with (fail)
          have hz1 := heap_set4 HK14.out (.slice A4 N4' ca4) (.slice X4 pl4 cx4) (.bool D1.x) (.int .i64 D1.f)
          have hc1 := chg_set4 w4 w.heap.size (.slice A4 N4' ca4) (.slice X4 pl4 cx4) (.bool D1.x) (.int .i64 D1.f)
          generalize (((w4.setCell ⟨w.heap.size, 0, none⟩ (.slice A4 N4' ca4)).setCell ⟨w.heap.size, 1, none⟩ (.slice X4 pl4 cx4)).setCell ⟨w.heap.size, 2, none⟩ (.bool D1.x)).setCell ⟨w.heap.size, 3, none⟩ (.int .i64 D1.f) = w5 at *
          have HK15 := Lib.hid hz1
          have HK25 := Lib.hid (hc1.blk HK24.out (by simp))
          have HB5 := Lib.hid (HB4.out.trans (hc1.below HB4.out.size (by simp)))
          have hs3 : w.heap.size + 2 ≤ w3.heap.size := (Array.getElem?_eq_some_iff.1 HK23.out).1
          have HNR : Hid (∀ x ∈ N4, x ≠ w.heap.size ∧ x ≠ w.heap.size + 1) := by
            intro x hx
            rcases HN4.out x hx with h | h
            · have := HI.out.nl x h; omega
            · omega
          have HI5 : Hid (IsK' w5 N4 D1 A4 ca4 X4 cx4 P4) := HI4.out.kept (fun x hx => hc1.block x (HI4.out.nl x hx) (by simp; exact (HNR.out x hx).1)) hc1.size
          have HR5 : Hid (RB w5 B l) := by
            by_cases hl : l = []
            · subst hl; exact RB.nil
            · refine hc1.rd (RB.below HR.out HB4.out) fun b off e hx => ?_
              obtain ⟨b', off', e', hb', _⟩ := RB.cells HR.out (List.length_pos_iff.2 hl)
              rw [e] at e'; cases e'
              simp only [List.mem_singleton] at hx; omega
          have hs5 : w.heap.size + 2 ≤ w5.heap.size := (Array.getElem?_eq_some_iff.1 HK25.out).1
          clear hz1 hc1
          clear rc0 rf0 rc1 rf1 rc2 rf2 rc3 rf3
          clear zc0 zf0 zc1 zf1 zc2 zf2 zc3 zf3
          have rc0 : w5.cell? ⟨w.heap.size, 0, none⟩ = some _ := (cell_of_row _ _ 0 _ _ _ HK15.out).trans rfl; have rf0 : w5.frozen? ⟨w.heap.size, 0, none⟩ = false := frozen_of_row _ _ _ _ _ HK15.out; have rc1 : w5.cell? ⟨w.heap.size, 1, none⟩ = some _ := (cell_of_row _ _ 1 _ _ _ HK15.out).trans rfl; have rf1 : w5.frozen? ⟨w.heap.size, 1, none⟩ = false := frozen_of_row _ _ _ _ _ HK15.out; have rc2 : w5.cell? ⟨w.heap.size, 2, none⟩ = some _ := (cell_of_row _ _ 2 _ _ _ HK15.out).trans rfl; have rf2 : w5.frozen? ⟨w.heap.size, 2, none⟩ = false := frozen_of_row _ _ _ _ _ HK15.out; have rc3 : w5.cell? ⟨w.heap.size, 3, none⟩ = some _ := (cell_of_row _ _ 3 _ _ _ HK15.out).trans rfl; have rf3 : w5.frozen? ⟨w.heap.size, 3, none⟩ = false := frozen_of_row _ _ _ _ _ HK15.out
          have HPE : Hid (Rd w5 X4 (pcells P4)) := HI5.out.pe
          have HPL2 : Hid ((pcells P4).length = pl4 * 2) := by show _ = _; rw [pcells_len, HPL4.out]
          have ra : ∀ o : Obj, (w5.alloc o).cell? ⟨w.heap.size, 1, none⟩ = some (.slice X4 pl4 cx4) := fun o => (World.cell?_alloc_lt w5 o ⟨w.heap.size, 1, none⟩ (block_lt_of_cell rc1)).trans rc1
          go_wp2_with (first | (at_builtin; refine wpList_appS _ rfl (.tmp 33) (.tmp 35) 40 rfl w5.heap.size 97 (.agg #[.int .i64 0, .slice none 0 0]) 2 32 Try.underlying40 info_pc rfl (by omega) (.slice (some ⟨w5.heap.size, 0, none⟩) 0 0) 0 [] rfl (World.ownsRow_made _ _ 0 (Nat.le_refl _) (by simp [maxLen]) rfl) X4 pl4 cx4 (pcells P4) rfl HPL2.out (Rd.alloc HPE.out _) (pcells_one _) (by simp only [maxLen]; omega) (by omega) (by simp) ?_; intro X6 cx6 w6 ho6 ha6; (rw [Nat.zero_add, List.nil_append] at ho6); have HO6 := Lib.hid ho6; have hb6 : Below w5.heap.size w5 w6 := (below1 w5 _).trans (ha6.belowS (World.ownsRow_made (size := 2) _ _ 0 (Nat.le_refl _) (by simp [maxLen]) rfl) (by simp)); have HB6 := Lib.hid hb6; clear ho6 ha6 hb6) | (at_builtin; refine wpList_apps _ rfl (.tmp 38) (.tmp 39) 29 rfl w6.heap.size 5 (.int .u8 0) 1 Try.underlying29 info_u8 rfl (.slice (some ⟨w6.heap.size, 0, none⟩) 0 0) 0 [] rfl (own_empty _ _ _ _ rfl (Nat.le_refl _)) B n c (l.map vb) rfl (by simp; exact HN.out) (Rd.alloc (RB.below HR5.out HB6.out) _) (vb_one _) (by simp only [maxLen]; omega) (by omega) (by simp) ?_; intro Y7 cy7 w7 ho7 ha7; (rw [Nat.zero_add, List.nil_append] at ho7); have HO7 := Lib.hid ho7; have hb7 : Below w6.heap.size w6 w7 := (below1 w6 _).trans (ha7.below (own_empty w6.heap.size _ _ _ rfl (Nat.le_refl _)) (by simp)); have HB7 := Lib.hid hb7; clear ho7 ha7 hb7) | (at_builtin; refine wpList_appS _ rfl (.tmp 36) (.tmp 42) 40 rfl w5.heap.size 97 (.agg #[.int .i64 0, .slice none 0 0]) 2 32 Try.underlying40 info_pc rfl (by omega) (.slice X6 pl4 cx6) pl4 (pcells P4) rfl (own_belowS HO6.out (HB7.out.trans ((below1 w7 _).mono HB7.out.size))) (some ⟨w7.heap.size, 0, none⟩) 1 1 [.int .i64 (si : Int), .slice Y7 n cy7] rfl rfl (Rd.new w7 [.int .i64 (si : Int), .slice Y7 n cy7] _ _) (by simp [Value.oneCell']) (by simp only [maxLen]; omega) (by omega) (Nat.le_trans HB6.out.size (Nat.le_trans HB7.out.size (by simp))) ?_; intro X8 cx8 w8 ho8 ha8; have HO8 := Lib.hid ho8; have HA8 := Lib.hid ha8; have hb58 := (HB6.out.trans (HB7.out.mono HB6.out.size)).trans ((below1 w7 (.cells #[.int .i64 (si : Int), .slice Y7 n cy7] 97)).mono (Nat.le_trans HB6.out.size HB7.out.size)); have hne : ∀ R, R < w5.heap.size → (Value.slice X6 pl4 cx6).ownBlock ≠ some R := fun R hR he => absurd (HO6.out.lt R he).1 (by omega); have HK18 := Lib.hid (ha8.old ((hb58.block _ (by omega)).trans HK15.out) (hne _ (by omega))); have HK28 := Lib.hid (ha8.old ((hb58.block _ (by omega)).trans HK25.out) (hne _ (by omega))); have HB58 := Lib.hid hb58; clear ho8 ha8 hb58 hne; have tc0 : w8.cell? ⟨w.heap.size, 0, none⟩ = some _ := (cell_of_row _ _ 0 _ _ _ HK18.out).trans rfl; have tf0 : w8.frozen? ⟨w.heap.size, 0, none⟩ = false := frozen_of_row _ _ _ _ _ HK18.out; have tc1 : w8.cell? ⟨w.heap.size, 1, none⟩ = some _ := (cell_of_row _ _ 1 _ _ _ HK18.out).trans rfl; have tf1 : w8.frozen? ⟨w.heap.size, 1, none⟩ = false := frozen_of_row _ _ _ _ _ HK18.out; have tc2 : w8.cell? ⟨w.heap.size, 2, none⟩ = some _ := (cell_of_row _ _ 2 _ _ _ HK18.out).trans rfl; have tf2 : w8.frozen? ⟨w.heap.size, 2, none⟩ = false := frozen_of_row _ _ _ _ _ HK18.out; have tc3 : w8.cell? ⟨w.heap.size, 3, none⟩ = some _ := (cell_of_row _ _ 3 _ _ _ HK18.out).trans rfl; have tf3 : w8.frozen? ⟨w.heap.size, 3, none⟩ = false := frozen_of_row _ _ _ _ _ HK18.out; have uc0 : w8.cell? ⟨w.heap.size + 1, 0, none⟩ = some _ := (cell_of_row _ _ 0 _ _ _ HK28.out).trans rfl; have uf0 : w8.frozen? ⟨w.heap.size + 1, 0, none⟩ = false := frozen_of_row _ _ _ _ _ HK28.out; have uc1 : w8.cell? ⟨w.heap.size + 1, 1, none⟩ = some _ := (cell_of_row _ _ 1 _ _ _ HK28.out).trans rfl; have uf1 : w8.frozen? ⟨w.heap.size + 1, 1, none⟩ = false := frozen_of_row _ _ _ _ _ HK28.out; have uc2 : w8.cell? ⟨w.heap.size + 1, 2, none⟩ = some _ := (cell_of_row _ _ 2 _ _ _ HK28.out).trans rfl; have uf2 : w8.frozen? ⟨w.heap.size + 1, 2, none⟩ = false := frozen_of_row _ _ _ _ _ HK28.out; have uc3 : w8.cell? ⟨w.heap.size + 1, 3, none⟩ = some _ := (cell_of_row _ _ 3 _ _ _ HK28.out).trans rfl; have uf3 : w8.frozen? ⟨w.heap.size + 1, 3, none⟩ = false := frozen_of_row _ _ _ _ _ HK28.out))
          have hcR : Chg [w.heap.size] w8 (w8.setCell ⟨w.heap.size, 1, none⟩ (.slice X8 (pl4 + 1) cx8)) := (Chg.refl [w.heap.size] w8).setCell (p := ⟨w.heap.size, 1, none⟩) (.inl (by simp)) _
          have hz2 := heap_set4 (hcR.blk HK28.out (by simp)) (.slice A4 N4' ca4) (.slice X8 (pl4 + 1) cx8) (.bool D1.x) (.int .i64 D1.f)
          have hc2 := chg_set4 (w8.setCell ⟨w.heap.size, 1, none⟩ (.slice X8 (pl4 + 1) cx8)) (w.heap.size + 1) (.slice A4 N4' ca4) (.slice X8 (pl4 + 1) cx8) (.bool D1.x) (.int .i64 D1.f)
          have hcf : Chg [w.heap.size, w.heap.size + 1] w8 _ := (hcR.mono (by simp)).trans' (hc2.mono (by simp))
          refine bodyPost_ret (results_cell_tmp rfl _ _ (w.heap.size + 1) 42 _ (0, 0) _ rfl hz2 Try.underlying42 rfl size_dk) rfl ?_
          have h1 := HPL4.out
          have h2 := HNN4.out
          have h3 := HN.out
          subst h1
          subst h2
          subst h3
          have hnx : ∀ b, (Value.slice Y7 l.length cy7).ownBlock = some b → ∀ x, (Value.slice X6 P4.length cx6).ownBlock = some x → b ≠ x := fun b hb x hx => by
            have e1 := (HO7.out.lt b hb).1
            have e2 := (HO6.out.lt x hx).2
            omega
          have hc78 : Chg (Value.slice X6 P4.length cx6).ownBlock.toList (w7.alloc (.cells #[.int .i64 (si : Int), .slice Y7 l.length cy7] 97)) w8 := HA8.out.chg (fun b hb => by simpa using hb)
          have hY8 : w8.ownsRow w5.heap.size 5 1 (.slice Y7 l.length cy7) l.length (l.map vb) :=
            hc78.own (own_below (own_base HO7.out HB6.out.size) (below1 w7 _)) (fun b hb hx => hnx b hb b (by simpa using hx) rfl)
          have hb8 : Below w5.heap.size w5 w8 := HB58.out.trans (hc78.below HB58.out.size (fun x hx => (HO6.out.lt x (by simpa using hx)).1))
          obtain ⟨N', hIK, hN'⟩ := HI5.out.push hb8 HQO.out (Nat.le_refl _) HO8.out hY8
          have hbf := hb8.size
          have hkept : Kept N' w8 _ := fun x hx => hcf.block x (hIK.nl x hx) (by
            rcases hN' x hx with h | h
            · have := HNR.out x h; simp; omega
            · simp; omega)
          have hN2 : ∀ x ∈ N', x ∈ N0 ∨ w.heap.size ≤ x := by
            intro x hx
            rcases hN' x hx with h | h
            · exact (HN4.out x h).imp id fun h => by have := HB3.out.size; omega
            · exact .inr (by omega)
          have h := HF.out (kval { D1 with p := D1.p ++ [⟨si, l⟩] } A4 ca4 X8 cx8 (P4 ++ [⟨⟨si, l⟩, Y7, cy7⟩])) N' _ ⟨_, _, _, _, _, rfl, hIK.kept hkept hcf.size⟩ ((HB5.out.trans (hb8.mono HB5.out.size)).trans (hcf.below (Nat.le_trans HB5.out.size hb8.size) (by simp))) hN2
          unfold kval at h
          rw [show (P4 ++ [(⟨⟨si, l⟩, Y7, cy7⟩ : Pm)]).length = P4.length + 1 by simp] at h
          exact h
    · obtain ⟨e1, e2⟩ := write_len s l hx (by rw [HN.out]; exact hm)
      have q1 : ((n : Int) % 64 != 0) = true := by rw [bne_iff_ne]; omega
      have HF := Lib.hid (fun w' => HSAME.out 1 w' e1 e2)
      clear e1 e2 hx hok HIN HBU HSAME HK1 HK2 hm
      go_enter Try.func69, Try.ntmps69
      go_wp2_with fail
      refine bodyPost_ret (results_cell_tmp rfl _ _ (w.heap.size + 1) 42 _ (0, 0) _ rfl (heap_alloc2_new _ _ _) Try.underlying42 rfl size_dk) rfl ?_
      exact HF.out _ (below2 _ _ _)
end Dk
end Go.Proofs.Ytmdpmpfjldgalaa

/- The walks of refmeshref19: Apply, Contents, Read. -/
namespace Go.Proofs.Ytmdpmpfjldgalaa
open Go.RowKit
namespace Dk

set_option maxRecDepth 100000 in
set_option maxHeartbeats 2000000 in
theorem rapply_calls (n : Nat) (A : Option Addr) (ca : Nat) (l : List UInt8) (m : Pm) (c : Nat) (w : World) (hr : RB w A l) (hl : l.length = 64 * n) (hn : n ≤ 65536) (hok : m.q.ok n) (hm : RB w m.a m.q.d) (hc : c ≤ 65536) :
    Calls Try.prog 57 #[.slice A (64 * n) ca, .agg #[.int .i64 (m.q.s : Int), .slice m.a m.q.d.length m.c], .int .i64 (c : Int)] w (NewL w (ap l m.q c)) := by
  have HLL := Lib.hid hl
  have HR := Lib.hid hr
  have HM := Lib.hid hm
  obtain ⟨ho1, ho2⟩ := hok
  obtain ⟨x, HX⟩ : ∃ x, Hid (x = m.q.d.take (64 * c)) := ⟨_, rfl⟩
  have HXG : Hid (∀ j (hj : j < x.length), m.q.d[j]? = some x[j]) := by
    intro j hj
    have h1 : x[j]? = some x[j] := List.getElem?_eq_getElem hj
    have h2 : j < 64 * c := by have := hj; rw [HX.out, List.length_take] at this; omega
    have h3 : x[j]? = m.q.d[j]? := by rw [HX.out, List.getElem?_take, if_pos h2]
    rw [← h3]; exact h1
  have hxl : x.length = min (64 * c) m.q.d.length := by rw [HX.out, List.length_take]
  have HAP : Hid (ap l m.q c = splice l (64 * m.q.s) x) := by show _ = _; rw [HX.out]; rfl
  obtain ⟨T, HT⟩ : ∃ T, Hid (x.length = T) := ⟨_, rfl⟩
  rw [HT.out] at hxl
  obtain ⟨so, hso⟩ : ∃ so : Nat, so = 64 * m.q.s := ⟨_, rfl⟩
  rw [← hso] at HAP
  obtain ⟨N, HNN⟩ : ∃ N, Hid (64 * n = N) := ⟨_, rfl⟩
  rw [HNN.out] at HLL ⊢
  have hN9 : N ≤ 4194304 := by have := HNN.out; omega
  have hsT : so + T ≤ N := by have := HNN.out; omega
  have HSL : Hid (∀ k, k ≤ T → (splice l so (x.take k)).length = N) := by
    intro k hk
    have : (x.take k).length = k := by rw [List.length_take, HT.out]; omega
    rw [splice_len _ _ _ (by rw [this, HLL.out]; omega), HLL.out]
  have hdl : m.q.d.length ≤ 4194304 := by have := HNN.out; omega
  clear hl hr hm ho1 ho2
  generalize m.q.d.length = dl at *
  generalize m.q.k = kk at *
  generalize m.q.s = ms at *
  generalize m.a = ma at *
  generalize m.c = mc at *
  have hc64 : 64 * (c : Int) = ((64 * c : Nat) : Int) := by omega
  obtain ⟨c64, HC64⟩ : ∃ z, Hid (64 * c = z) := ⟨_, rfl⟩
  rw [HC64.out] at hc64 hxl
  have hT1 : T ≤ dl := by omega
  have hT2 : T ≤ c64 := by omega
  have hT3 : dl ≤ T ∨ c64 ≤ T := by omega
  have hso6 : so ≤ 4194304 := by omega
  have hms : (64 * (ms : Int)) = (so : Int) := by omega
  have HMS := Lib.hid hms
  have hms2 : (ms : Int) ≤ 65536 := by omega
  clear hxl hso hms
  go_enter Try.func57, Try.ntmps57
  go_upto_region 1 with (fail)
  have hk1 := heap_alloc_new w (.cells #[.int .i64 (ms : Int), .slice ma dl mc] 97)
  have hb1 := below1 w (.cells #[.int .i64 (ms : Int), .slice ma dl mc] 97)
  generalize w.alloc (.cells #[.int .i64 (ms : Int), .slice ma dl mc] 97) = w1 at *
  have HK1 := Lib.hid hk1
  have HB1 := Lib.hid hb1
  have HR1 := Lib.hid (RB.below HR.out hb1)
  have hs1 : w.heap.size < w1.heap.size := (Array.getElem?_eq_some_iff.1 hk1).1
  clear hk1 hb1
  go_wp2_with (at_builtin; go_loud (refine wpList_apps _ rfl (.tmp 9) (.tmp 10) 29 rfl w1.heap.size 5 (.int .u8 0) 1 Try.underlying29 info_u8 rfl (.slice (some ⟨w1.heap.size, 0, none⟩) 0 0) 0 [] rfl (own_empty _ _ _ _ rfl (Nat.le_refl _)) A N ca (l.map vb) rfl (by simp; exact HLL.out) (Rd.alloc HR1.out _) (vb_one _) (by simp only [maxLen]; omega) (by omega) (by simp) ?_); intro Y cy w2 ho2 ha2; (rw [Nat.zero_add, List.nil_append] at ho2); have HO2 := Lib.hid ho2; have hb2 : Below w1.heap.size w1 w2 := (below1 w1 _).trans (ha2.below (own_empty w1.heap.size _ _ _ rfl (Nat.le_refl _)) (by simp)); have HB2 := Lib.hid hb2; clear ho2 ha2 hb2)
  have H2 : Hid (w2.ownsRow w1.heap.size 5 1 (.slice Y N cy) N ((splice l so (x.take 0)).map vb)) := by
    show World.ownsRow _ _ _ _ _ _ _
    rw [List.take_zero, splice_nil]; exact HO2.out
  clear HO2
  go_loopw [8] (fun i wr => ∃ k : Nat, k ≤ T ∧ i = .int .i64 k ∧ wr.ownsRow w1.heap.size 5 1 (.slice Y N cy) N ((splice l so (x.take k)).map vb) ∧ Below w1.heap.size w1 wr) (fun i _ => T - (intOf i).toNat)
  case atStart => exact ⟨0, by omega, rfl, H2.out, HB2.out⟩
  case round =>
    obtain ⟨k, hk, rfl, ho, hb⟩ := hrel
    have HO := Lib.hid ho
    have HB := Lib.hid hb
    have hKr : wr.heap[w.heap.size]? = some (.cells #[.int .i64 (ms : Int), .slice ma dl mc] 97 (0, 0)) := (hb.block _ hs1).trans HK1.out
    have HKR := Lib.hid hKr
    have p0 : wr.cell? ⟨w.heap.size, 0, none⟩ = some (.int .i64 (ms : Int)) := (cell_of_row _ _ 0 _ _ _ hKr).trans rfl
    have p1 : wr.cell? ⟨w.heap.size, 1, none⟩ = some (.slice ma dl mc) := (cell_of_row _ _ 1 _ _ _ hKr).trans rfl
    clear ho hb hKr
    have j0 : (0 : Int) ≤ (k : Int) := by omega
    by_cases hlt : k < T
    · have d1 : decide (k < dl) = true := by simp; omega
      have d2 : decide (k < c64) = true := by simp; omega
      have j1 : (k : Int) < (dl : Int) := by omega
      obtain ⟨ob, cap, e1, hob, hobl, hfz, hcell, hset⟩ := own_set0 HO.out (so + k) (by omega)
      cases e1
      have hxk : k < x.length := by have := HT.out; omega
      have hdk := HXG.out k hxk
      obtain ⟨bd, od, rfl, hcd⟩ := HM.out k (vb x[k]) (by rw [List.getElem?_map, hdk]; rfl)
      have hbdl : bd < w.heap.size := block_lt_of_cell hcd
      have hne : bd ∉ [ob] := by simp; omega
      have hneR : w.heap.size ∉ [ob] := by simp; omega
      have hcd1 : wr.cell? ⟨bd, od + k, none⟩ = some (vb x[k]) := ((HB1.out.trans (HB.out.mono (Nat.le_of_lt hs1))).cell (p := ⟨bd, od + k, none⟩) hbdl).trans hcd
      have y0 : ∀ w', Chg [ob] wr w' → w'.cell? ⟨w.heap.size, 0, none⟩ = some (.int .i64 (ms : Int)) := fun w' h => (h.cellAt HKR.out hneR).trans rfl
      have y1 : ∀ w', Chg [ob] wr w' → w'.cell? ⟨w.heap.size, 1, none⟩ = some (.slice (some ⟨bd, od, none⟩) dl mc) := fun w' h => (h.cellAt HKR.out hneR).trans rfl
      have y2 : ∀ w', Chg [ob] wr w' → w'.cell? ⟨bd, od + k, none⟩ = some (vb x[k]) := fun w' h => (World.cell?_of_block (a := ⟨bd, od + k, none⟩) (h.block bd (block_lt_of_cell hcd1) hne)).trans hcd1
      have hl2 : so + k < ((splice l so (x.take k)).map vb).length := by rw [List.length_map, HSL.out k hk]; omega
      rw [List.getElem?_eq_getElem hl2] at hcell
      obtain ⟨u, hu⟩ : ∃ u, ((splice l so (x.take k)).map vb)[so + k] = u := ⟨_, rfl⟩
      rw [hu] at hcell
      have HSET : Hid ((wr.setCell ⟨ob, so + k, none⟩ (vb x[k])).ownsRow w1.heap.size 5 1 (.slice (some ⟨ob, 0, none⟩) N cy) N ((splice l so (x.take (k + 1))).map vb)) := by
        have := hset (vb x[k])
        rw [← List.map_set, splice_set l so x k hxk (by rw [HT.out, HLL.out]; omega)] at this
        exact this
      have v1 : IntKind.i64.wrap (64 * (ms : Int)) = (so : Int) := by rw [HMS.out, IntKind.wrap_i64]; omega
      have v2 : IntKind.i64.wrap ((so : Int) + (k : Int)) = (so : Int) + (k : Int) := by rw [IntKind.wrap_i64]; omega
      have v3 : (0 : Int) ≤ (so : Int) + (k : Int) := by omega
      have v4 : (so : Int) + (k : Int) < (N : Int) := by omega
      have v5 : ((so : Int) + (k : Int)).toNat = so + k := by omega
      have HCS : Hid (Chg [ob] wr (wr.setCell ⟨ob, so + k, none⟩ (vb x[k]))) := (Chg.refl [ob] wr).setCell (p := ⟨ob, so + k, none⟩) (.inl (by simp)) _
      have HOB : Hid (w1.heap.size ≤ ob) := hob
      clear hset hu hcd hcd1 hdk hob
      generalize x[k] = xk at *
      go_wp2_with fail
      clear p0 p1
      go_region_held3 (fun w' => Chg [ob] wr w') (first | exact (Chg.refl _ _).drew | assumption | exact ((Chg.refl _ _).drew.setCell (p := ⟨ob, so + k, none⟩) (.inl (by simp)) _)) (fail)
      clear y0 y1 y2 hcell hfz v1 v2 v3 v4 v5
      have HB5 : Hid (Below w1.heap.size w1 (wr.setCell ⟨ob, so + k, none⟩ (vb xk)).drew) := (HB.out.trans (HCS.out.below HB.out.size (by simp; exact HOB.out))).drew
      have HO5 : Hid ((wr.setCell ⟨ob, so + k, none⟩ (vb xk)).drew.ownsRow w1.heap.size 5 1 (.slice (some ⟨ob, 0, none⟩) N cy) N ((splice l so (x.take (k + 1))).map vb)) := HSET.out
      go_wp2_with fail
      go_roundw
      case rel => exact ⟨k + 1, by omega, by go_num, HO5.out, HB5.out⟩
      case measure => simp [intOf]; omega
    · have HK : Hid (k = T) := by show _ = _; omega
      have HF : Hid (NewL w (ap l m.q c) (.returned (.slice Y N cy)) wr) := by
        have ho := HO.out
        rw [HK.out, ← HT.out, List.take_length, ← HAP.out] at ho
        have hl : (ap l m.q c).length = N := by have := ho.1; simpa using this
        exact ⟨Y, cy, by rw [hl], by rw [hl]; exact own_base ho HB1.out.size, HB1.out.trans (HB.out.mono HB1.out.size)⟩
      by_cases hq : k < dl
      · have d1 : decide (k < dl) = true := by simpa using hq
        have d2 : decide (k < c64) = false := by simp; omega
        go_wp2_with fail
        go_ret
        exact HF.out
      · have d1 : decide (k < dl) = false := by simpa using hq
        go_wp2_with fail
        go_ret
        exact HF.out
end Dk
end Go.Proofs.Ytmdpmpfjldgalaa

/- The walks of refmeshref19: Contents, Read. -/
namespace Go.Proofs.Ytmdpmpfjldgalaa
open Go.RowKit
namespace Dk

/-- the contents: a slice that is old or new -/
def ConP (w : World) (N0 : List Nat) (l : List UInt8) (e : Ending) (w' : World) : Prop :=
  ∃ Y cy, e = .returned (.slice Y l.length cy) ∧ RB w' Y l ∧ l.length ≤ cy ∧ cy ≤ maxLen ∧ Below w.heap.size w w' ∧ ∀ b off, Y = some ⟨b, off, none⟩ → (b ∈ N0 ∨ w.heap.size ≤ b) ∧ b < w'.heap.size

set_option maxRecDepth 100000 in
set_option maxHeartbeats 2000000 in
theorem rcontents_calls (v : Value) (N0 : List Nat) (D : St) (w : World) (h : IsK w N0 v D) : Calls Try.prog 62 #[v] w (ConP w N0 D.all) := by
  obtain ⟨A, ca, X, cx, P, rfl, h⟩ := h
  have HI := Lib.hid h
  have hok := h.ok
  have hn := hok.n2
  have hc1 := h.c1
  have hc2 := h.c2
  have hc3 := h.c3
  have hc4 := h.c4
  have HC2 := Lib.hid hc2
  unfold maxLen at hc2 hc4
  have HPP : Hid (D.all = setB D.b (P.map (·.q)) cAll P.length) := by show _ = _; unfold St.all; rw [h.pd]; simp
  have HAL := Lib.hid hok.all
  have HPO := Lib.hid hok.p
  have HPD := Lib.hid h.pd
  have HSL : Hid (∀ k, (setB D.b (P.map (·.q)) cAll k).length = 64 * D.n) := by
    intro k
    rw [← HPD.out]
    exact setB_len _ _ _ _ _ hok.b hok.p
  have H0 : Hid (setB D.b (P.map (·.q)) cAll 0 = D.b) := rfl
  clear h hok
  unfold kval
  obtain ⟨pl, HPL⟩ : ∃ x, Hid (P.length = x) := ⟨_, rfl⟩
  rw [HPL.out] at hc3 ⊢
  go_enter Try.func62, Try.ntmps62
  go_upto_region 1 with (fail)
  have hk1 := heap_alloc_new w (.cells #[.slice A (64 * D.n) ca, .slice X pl cx, .bool D.x, .int .i64 D.f] 42)
  have hb1 := below1 w (.cells #[.slice A (64 * D.n) ca, .slice X pl cx, .bool D.x, .int .i64 D.f] 42)
  generalize w.alloc (.cells #[.slice A (64 * D.n) ca, .slice X pl cx, .bool D.x, .int .i64 D.f] 42) = w1 at *
  have HK1 := Lib.hid hk1
  have HB1 := Lib.hid hb1
  have hs1 : w.heap.size < w1.heap.size := (Array.getElem?_eq_some_iff.1 hk1).1
  have y0 : w1.cell? ⟨w.heap.size, 0, none⟩ = some (.slice A (64 * D.n) ca) := (cell_of_row _ _ 0 _ _ _ hk1).trans rfl
  clear hk1 hb1
  go_wp2_with fail
  clear y0
  go_loopw [3, 4] (fun v i wr => ∃ (k : Nat) (Y : Option Addr) (cy : Nat), k ≤ pl ∧ i = .int .i64 k ∧ v = .slice Y (64 * D.n) cy ∧ RB wr Y (setB D.b (P.map (·.q)) cAll k) ∧ 64 * D.n ≤ cy ∧ cy ≤ maxLen ∧ Below w1.heap.size w1 wr ∧ ∀ b off, Y = some ⟨b, off, none⟩ → (b ∈ N0 ∨ w.heap.size ≤ b) ∧ b < wr.heap.size) (fun _ i _ => pl - (intOf i).toNat)
  case atStart => exact ⟨0, A, ca, by omega, rfl, rfl, by rw [H0.out]; exact RB.below HI.out.du HB1.out, hc1, HC2.out, Below.refl _ _, fun b off e => ⟨.inl (HI.out.na b off e), by have := HI.out.nl b (HI.out.na b off e); omega⟩⟩
  case round =>
    obtain ⟨k, Y, cy, hk, rfl, rfl, hrb, hcy, hcm, hb, hY⟩ := hrel
    have HRB := Lib.hid hrb
    have HCM := Lib.hid hcm
    have HB := Lib.hid hb
    have HY := Lib.hid hY
    have hKr : wr.heap[w.heap.size]? = some (.cells #[.slice A (64 * D.n) ca, .slice X pl cx, .bool D.x, .int .i64 D.f] 42 (0, 0)) := (hb.block _ hs1).trans HK1.out
    have HKR := Lib.hid hKr
    have hsr : w.heap.size < wr.heap.size := (Array.getElem?_eq_some_iff.1 hKr).1
    have hwr := HB1.out.trans (hb.mono HB1.out.size)
    have HWR := Lib.hid hwr
    have p1 : wr.cell? ⟨w.heap.size, 1, none⟩ = some (.slice X pl cx) := (cell_of_row _ _ 1 _ _ _ hKr).trans rfl
    clear hrb hb hY hKr hwr
    have j0 : (0 : Int) ≤ (k : Int) := by omega
    by_cases hlt : k < pl
    · have j1 : (k : Int) < (pl : Int) := by omega
      have hkP : k < P.length := by have := HPL.out; omega
      have HST := Lib.hid (setB_stepP D.b P cAll k hkP)
      have hRd := HI.out.pe
      obtain ⟨b2, o2, rfl, x0⟩ := hRd (k * 2) _ (pcells_get P k 0 hkP (by omega))
      obtain ⟨b2', o2', e', x1⟩ := hRd (k * 2 + 1) _ (pcells_get P k 1 hkP (by omega))
      cases e'
      rw [← Nat.add_assoc] at x1
      obtain ⟨hm1, hm2, _⟩ := HI.out.pr P[k] (List.getElem_mem hkP)
      have hqo : P[k].q.ok D.n := HPO.out _ (by rw [HPD.out]; exact List.mem_map.2 ⟨_, List.getElem_mem hkP, rfl⟩)
      obtain ⟨m, HM⟩ : ∃ x, Hid (P[k] = x) := ⟨P[k], rfl⟩
      rw [HM.out] at HST x0 x1 hm1 hm2 hqo
      have hb2l : b2 < w.heap.size := block_lt_of_cell x0
      have z0 : ∀ w', Below wr.heap.size wr w' → w'.cell? ⟨b2, o2 + k * 2, none⟩ = some (.int .i64 (m.q.s : Int)) := fun w' h => ((HWR.out.trans (h.mono HWR.out.size)).cell (p := ⟨b2, o2 + k * 2, none⟩) hb2l).trans x0
      have z1 : ∀ w', Below wr.heap.size wr w' → w'.cell? ⟨b2, o2 + k * 2 + 1, none⟩ = some (.slice m.a m.q.d.length m.c) := fun w' h => ((HWR.out.trans (h.mono HWR.out.size)).cell (p := ⟨b2, o2 + k * 2 + 1, none⟩) hb2l).trans x1
      have z2 : ∀ w', Below wr.heap.size wr w' → w'.cell? ⟨w.heap.size, 1, none⟩ = some (.slice (some ⟨b2, o2, none⟩) pl cx) := fun w' h => (h.cell (p := ⟨w.heap.size, 1, none⟩) hsr).trans p1
      have HAP : ∀ w', Below wr.heap.size wr w' → Hid (Calls Try.prog 57 #[.slice Y (64 * D.n) cy, .agg #[.int .i64 (m.q.s : Int), .slice m.a m.q.d.length m.c], .int .i64 (m.q.k : Int)] w' fun e w'' => NewL w' (setB D.b (P.map (·.q)) cAll (k + 1)) e w'' ∧ Below wr.heap.size wr w'') := fun w' hb' => by
        have h1 := rapply_calls D.n Y cy _ m m.q.k w' (RB.below HRB.out hb') (HSL.out k) hn hqo (RB.below hm1 (HWR.out.trans (hb'.mono HWR.out.size))) (by have := hqo.2; omega)
        rw [show ap (setB D.b (P.map (·.q)) cAll k) m.q m.q.k = setB D.b (P.map (·.q)) cAll (k + 1) from HST.out.symm] at h1
        refine h1.mono fun e w'' h => ⟨h, ?_⟩
        obtain ⟨_, _, _, _, hb⟩ := h
        exact hb'.trans (hb.mono hb'.size)
      have hq : (m.q.d.length : Int) / 64 = (m.q.k : Int) := by have := hqo.1; omega
      have hqt : Int.tdiv (m.q.d.length : Int) 64 = (m.q.k : Int) := by rw [Int.tdiv_eq_ediv_of_nonneg (by omega)]; exact hq
      have hqk : m.q.k ≤ 65536 := by have := hqo.2; omega
      have hqw : IntKind.i64.wrap (m.q.k : Int) = (m.q.k : Int) := by rw [IntKind.wrap_i64]; omega
      have hql : m.q.d.length ≤ 4194304 := by have := hqo.1; omega
      clear hm1 hm2 hqo x0 x1 hRd HST
      generalize m.q.d.length = dl at *
      generalize m.q.k = kk at *
      generalize m.q.s = ms at *
      generalize m.a = ma at *
      generalize m.c = mc at *
      go_wp2_with fail
      clear p1
      go_region_held3 (fun w' => Below wr.heap.size wr w') (first | exact below_drew _ | assumption) (first | (go_at_call 57; refine (HAP wr.drew (below_drew _)).out.mono ?_; rintro e w5 ⟨⟨Y5, c5, rfl, ho5, hb5⟩, hs5⟩))
      have hl5 := HSL.out (k + 1)
      rw [hl5] at ho5 ⊢
      obtain ⟨_, _, e5, hn5, hm5, _, hr5⟩ := own_form ho5
      cases e5
      have HR5 := Lib.hid hr5
      have HM5 := Lib.hid hm5
      have HB5 := Lib.hid (HB.out.trans (hs5.mono HB.out.size))
      have HO5 : Hid (∀ b off, Y5 = some ⟨b, off, none⟩ → (b ∈ N0 ∨ w.heap.size ≤ b) ∧ b < w5.heap.size) := by
        intro b off e
        subst e
        have := ho5.lt b rfl
        have h3 := HWR.out.size
        have h4 : wr.drew.heap.size = wr.heap.size := rfl
        exact ⟨.inr (by omega), this.2⟩
      clear ho5 hb5 hs5 hl5 hr5 hm5 z0 z1 z2 HAP hq hqt hqw
      go_wp2_with fail
      go_roundw
      case rel => exact ⟨k + 1, Y5, c5, by omega, by go_num, rfl, HR5.out, hn5, HM5.out, HB5.out, HO5.out⟩
      case measure => simp [intOf]; omega
    · have HK : Hid (k = P.length) := by show _ = _; have := HPL.out; omega
      have HF : Hid (ConP w N0 D.all (.returned (.slice Y (64 * D.n) cy)) wr) := by
        have hr := HRB.out
        rw [HK.out, ← HPP.out] at hr
        exact ⟨Y, cy, by rw [HAL.out], hr, by rw [HAL.out]; exact hcy, HCM.out, HWR.out, HY.out⟩
      go_wp2_with fail
      go_ret
      exact HF.out

/-- what the reference's Read leaves -/
def RReadP (N0 : List Nat) (D : St) (s k : Int) (w : World) (e : Ending) (w' : World) : Prop :=
  ∃ X n c, e = .returned (.tuple #[.slice X n c, .int .i64 (readE D s k)]) ∧ n = (readL D s k).length ∧ RB w' X (readL D s k) ∧ n ≤ c ∧ c ≤ maxLen ∧ Below w.heap.size w w' ∧ ∀ (S : List Nat) (w'' : World), (∀ x ∈ S, x ∉ N0 ∧ x < w.heap.size) → Chg S w' w'' → RB w'' X (readL D s k)
set_option maxRecDepth 100000 in
set_option maxHeartbeats 2000000 in
theorem rread_calls (v : Value) (N0 : List Nat) (D : St) (s k : Int) (w : World) (h : IsK w N0 v D) (hs : -9223372036854775808 ≤ s) (hs2 : s ≤ 9223372036854775807) :
    Calls Try.prog 46 #[v, .int .i64 s, .int .i64 k] w (RReadP N0 D s k w) := by
  have HK0 := Lib.hid h
  obtain ⟨A, ca, X, cx, P, rfl, h⟩ := h
  have hok := h.ok
  have hn := hok.n2
  have HAL := Lib.hid hok.all
  have hb1 := below1 w (.cells #[.slice A (64 * D.n) ca, .slice X P.length cx, .bool D.x, .int .i64 D.f] 42)
  have hk1 := heap_alloc_new w (.cells #[.slice A (64 * D.n) ca, .slice X P.length cx, .bool D.x, .int .i64 D.f] 42)
  have HIN := Lib.hid (rinside_calls _ N0 D s k _ (HK0.out.below hb1) hs hs2)
  have HCO := Lib.hid (fun w' (hb : Below w.heap.size w w') => rcontents_calls _ N0 D w' (HK0.out.below hb))
  have HB1 := Lib.hid hb1
  have HK1 := Lib.hid hk1
  clear h hok hb1 hk1
  unfold kval at HIN HCO ⊢
  obtain ⟨pl, HPL⟩ : ∃ x, Hid (P.length = x) := ⟨_, rfl⟩
  obtain ⟨N, HNN⟩ : ∃ x, Hid (64 * D.n = x) := ⟨_, rfl⟩
  rw [HPL.out, HNN.out] at HIN HB1 HK1
  rw [HPL.out, HNN.out] at HCO ⊢
  rw [HNN.out] at HAL
  have hN9 : N ≤ 4194304 := by have := HNN.out; omega
  cases hx : D.x with
  | true =>
    have HF : Hid (RReadP N0 D s k w (.returned (.tuple #[.slice none 0 0, .int .i64 10])) (w.alloc (.cells #[.slice A N ca, .slice X pl cx, .bool D.x, .int .i64 D.f] 42))) := by
      have e1 : readE D s k = 10 := by unfold readE; rw [hx]; rfl
      have e2 : readL D s k = [] := by unfold readL; rw [hx]; rfl
      unfold Hid RReadP
      rw [e1, e2]
      exact ⟨none, 0, 0, rfl, rfl, RB.nil, Nat.le_refl _, by simp [maxLen], HB1.out, fun _ _ _ _ => RB.nil⟩
    rw [hx] at HF
    clear hx HIN HCO HK1 HB1
    go_enter Try.func46, Try.ntmps46
    go_wp2_with fail
    go_ret2
    exact HF.out
  | false =>
    rw [hx] at HIN HB1 HK1 HCO
    cases hi : inB D.n s k with
    | false =>
      have HF : Hid (∀ w', Below w.heap.size w w' → RReadP N0 D s k w (.returned (.tuple #[.slice none 0 0, .int .i64 2])) w') := by
        intro w' hb
        have e1 : readE D s k = 2 := by unfold readE; rw [hx, hi]; rfl
        have e2 : readL D s k = [] := by unfold readL; rw [hx, hi]; rfl
        unfold RReadP
        rw [e1, e2]
        exact ⟨none, 0, 0, rfl, rfl, RB.nil, Nat.le_refl _, by simp [maxLen], hb, fun _ _ _ _ => RB.nil⟩
      rw [hi] at HIN
      clear hx hi HCO
      go_enter Try.func46, Try.ntmps46
      go_wp2_with fail
      refine HIN.out.mono ?_
      rintro e w2 ⟨rfl, hb2⟩
      have HB2 := Lib.hid (HB1.out.trans (hb2.mono HB1.out.size))
      clear hb2
      go_wp2_with fail
      go_ret2
      exact HF.out _ HB2.out
    | true =>
      obtain ⟨b1, b2, b3, b4⟩ := inB_of hi
      obtain ⟨si, rfl⟩ : ∃ si : Nat, s = si := ⟨s.toNat, by omega⟩
      obtain ⟨ki, rfl⟩ : ∃ ki : Nat, k = ki := ⟨k.toNat, by omega⟩
      obtain ⟨lo, hlo⟩ : ∃ lo : Nat, lo = 64 * si := ⟨_, rfl⟩
      obtain ⟨hi', hhi⟩ : ∃ hi : Nat, hi = 64 * (si + ki) := ⟨_, rfl⟩
      have el : 64 * (si : Int) = (lo : Int) := by omega
      have eh : 64 * ((si : Int) + (ki : Int)) = (hi' : Int) := by omega
      have hlh : lo ≤ hi' := by omega
      have hhN : hi' ≤ N := by have := HNN.out; omega
      have HRE : Hid (readE D si ki = 0) := by show _ = _; unfold readE; rw [hx, hi]; rfl
      have HRL : Hid (readL D si ki = (D.all.drop lo).take (hi' - lo)) := by
        show _ = _
        unfold readL
        rw [hx, hi]
        simp only [Bool.false_eq_true, if_false]
        rw [if_neg (by simp), hlo, hhi]
        congr 1
        omega
      have hl2 : ((D.all.drop lo).take (hi' - lo)).length = hi' - lo := by have := HAL.out; rw [List.length_take, List.length_drop]; omega
      have HL2 := Lib.hid hl2
      rw [hi] at HIN
      clear hx hi hlo hhi hl2 b3 b4
      go_enter Try.func46, Try.ntmps46
      go_wp2_with fail
      refine HIN.out.mono ?_
      rintro e w2 ⟨rfl, hb2⟩
      have HB2 := Lib.hid (HB1.out.trans (hb2.mono HB1.out.size))
      have hk2 : w2.heap[w.heap.size]? = _ := (hb2.block _ (Array.getElem?_eq_some_iff.1 HK1.out).1).trans HK1.out
      have HKB2 := Lib.hid hk2
      have c0 : w2.cell? ⟨w.heap.size, 0, none⟩ = some _ := (cell_of_row _ _ 0 _ _ _ hk2).trans rfl
      have c1 : w2.cell? ⟨w.heap.size, 1, none⟩ = some _ := (cell_of_row _ _ 1 _ _ _ hk2).trans rfl
      have c2 : w2.cell? ⟨w.heap.size, 2, none⟩ = some _ := (cell_of_row _ _ 2 _ _ _ hk2).trans rfl
      have c3 : w2.cell? ⟨w.heap.size, 3, none⟩ = some _ := (cell_of_row _ _ 3 _ _ _ hk2).trans rfl
      clear hb2 hk2
      go_wp2_with fail
      refine (HCO.out w2 HB2.out).mono ?_
      rintro e w3 ⟨Y, cy, rfl, hr3, hl3, hm3, hb3, hy3⟩
      have HY3 := Lib.hid hy3
      rw [HAL.out] at hl3 ⊢
      have HR3 := Lib.hid hr3
      have HM3 := Lib.hid hm3
      have HB3 := Lib.hid (HB2.out.trans (hb3.mono HB2.out.size))
      unfold maxLen at hm3
      have hcut : ∀ w', (Instr.slice 29 (.slice Y N cy) (some (.int .i64 (lo : Int))) (some (.int .i64 (hi' : Int))) none).run Try.prog w' = .ok (.slice (cutA Y lo cy) (hi' - lo) (cy - lo)) w' := fun w' => run_cut_lh Try.underlying29 (by kernel_rfl) size_u8 Y N cy lo hi' hlh (by omega) w'
      have HF : Hid (RReadP N0 D si ki w (.returned (.tuple #[.slice (cutA Y lo cy) (hi' - lo) (cy - lo), .int .i64 0])) w3) := by
        unfold Hid RReadP
        rw [HRE.out, HRL.out]
        refine ⟨_, _, _, rfl, HL2.out.symm, RB.take (RB.cut HR3.out lo cy (by rw [HAL.out]; exact hl3)) _, by omega, by unfold maxLen; omega, HB3.out, fun S w'' hS hc => RB.take (RB.cut (hc.rd HR3.out fun b off e hb => ?_) lo cy (by rw [HAL.out]; exact hl3)) _⟩
        have h1 := hS b hb
        have h2 := HB2.out.size
        rcases (HY3.out b off e).1 with h | h
        · exact h1.1 h
        · omega
      generalize cutA Y lo cy = Xc at *
      generalize hi' - lo = len at *
      generalize cy - lo = cc at *
      clear hr3 hb3 hy3 c0 c1 c2 c3
      go_wp2_with fail
      go_ret2
      exact HF.out
end Dk
end Go.Proofs.Ytmdpmpfjldgalaa
