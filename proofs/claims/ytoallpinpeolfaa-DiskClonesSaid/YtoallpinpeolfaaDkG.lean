/- The walks of disk.New, Disk.Write, Disk.Clone. -/
import Derived.Test.YtoallpinpeolfaaDkF
namespace Go.Proofs.Ytoallpinpeolfaa
open Go.RowKit
namespace Dk

theorem IsD'.push {w0 w1 w1' w2 : World} {g : Nat} {M E : List Nat} {D : St} {A X X' Y : Option Addr} {ca cx cx' cy s : Nat} {P : List Pm} {l : List UInt8} (h : IsD' w0 g M E D A ca X cx P)
    (hb1 : Below w0.heap.size w0 w1) (hY : w1.ownsRow w0.heap.size 5 1 (.slice Y l.length cy) l.length (l.map vb)) (hb2 : Below w1.heap.size w1 w1') (hq : Pc.ok D.n ⟨s, l⟩)
    (hown : w2.ownsRow 0 74 2 (.slice X' (P.length + 1) cx') (P.length + 1) (pcells P ++ [.int .i64 (s : Int), .slice Y l.length cy]))
    (happ : App w1' (.slice X P.length cx) w2 (.slice X' (P.length + 1) cx')) :
    DkP w0 g M E { D with p := D.p ++ [⟨s, l⟩] } (w2.setCell ⟨g, 1, none⟩ (.slice X' (P.length + 1) cx')) := by
  have hw : Below w0.heap.size w0 w1' := hb1.trans (hb2.mono hb1.size)
  obtain ⟨Sx, HSx⟩ : ∃ S, S = (Value.slice X P.length cx).ownBlock.toList := ⟨_, rfl⟩
  obtain ⟨Sn, HSn⟩ : ∃ S, S = (Value.slice X' (P.length + 1) cx').ownBlock.toList := ⟨_, rfl⟩
  obtain ⟨Sy, HSy⟩ : ∃ S, S = (Value.slice Y l.length cy).ownBlock.toList := ⟨_, rfl⟩
  have mSx : ∀ x, x ∈ Sx ↔ (Value.slice X P.length cx).ownBlock = some x := by intro x; rw [HSx]; simp
  have mSn : ∀ x, x ∈ Sn ↔ (Value.slice X' (P.length + 1) cx').ownBlock = some x := by intro x; rw [HSn]; simp
  have mSy : ∀ x, x ∈ Sy ↔ (Value.slice Y l.length cy).ownBlock = some x := by intro x; rw [HSy]; simp
  have ha : Chg Sx w1' w2 := happ.chg (fun b hb => (mSx b).2 hb)
  have hc2 : Chg Sx w0 w2 := (Chg.of_below hw Sx).trans' ha
  have hgS : g ∉ Sx := fun hx => h.pne g ((mSx g).1 hx) rfl
  have hcs : Chg [g] w2 (w2.setCell ⟨g, 1, none⟩ (.slice X' (P.length + 1) cx')) := (Chg.refl [g] w2).setCell (p := ⟨g, 1, none⟩) (.inl (by simp)) _
  have hSM : ∀ x ∈ Sx, x ∈ M := fun x hx => h.mx x ((mSx x).1 hx)
  have hcM : Chg M w0 (w2.setCell ⟨g, 1, none⟩ (.slice X' (P.length + 1) cx')) := (hc2.mono hSM).trans' (hcs.mono (by simp; exact h.mg))
  have hn : ∀ x ∈ Sn, x ∈ Sx ∨ w1'.heap.size ≤ x := by
    intro x hx
    have hx' := (mSn x).1 hx
    rcases happ.2 with e | ⟨y, e, hy⟩
    · rw [e] at hx'; exact .inl ((mSx x).2 hx')
    · rw [e] at hx'; injection hx' with hx'; subst hx'; exact .inr hy
  have hyl : ∀ x ∈ Sy, w0.heap.size ≤ x ∧ x < w1.heap.size := fun x hx => hY.lt x ((mSy x).1 hx)
  obtain ⟨_, _, e1, hyc, hym, _, hry⟩ := own_form hY
  cases e1
  have hgl := h.lt
  have hws := hw.size
  have hs2 := hb2.size
  have hnl : ∀ x ∈ Sn, x < w2.heap.size := fun x hx => (hown.lt x ((mSn x).1 hx)).2
  have hz2 : w2.heap.size = (w2.setCell ⟨g, 1, none⟩ (.slice X' (P.length + 1) cx')).heap.size := by simp [World.setCell]
  refine ⟨M ++ Sn, E ++ Sy, ⟨A, ca, X', cx', P ++ [⟨⟨s, l⟩, Y, cy⟩], ?_⟩, hcM, fun x hx => ?_, fun x hx => ?_⟩
  · refine ⟨?_, ?_, ?_, ?_, ?_, ?_, ?_, ?_, ?_, ?_, ?_, ?_⟩
    · rw [List.length_append]
      exact heap_setCell_same _ _ _ _ _ _ (hc2.blk h.hd hgS)
    · refine hcs.ownS (hc2.ownS h.du fun b hb hx => (h.dne b hb).2 b ((mSx b).1 hx) rfl) fun b hb hx => (h.dne b hb).1 (by simpa using hx)
    · rw [List.length_append, pcells_snoc]
      refine hcs.ownS hown fun b hb hx => ?_
      have hbn := (mSn b).2 hb
      simp only [List.mem_singleton] at hx
      subst hx
      rcases hn b hbn with h1 | h1
      · exact hgS h1
      · omega
    · show D.p ++ [⟨s, l⟩] = _
      rw [h.pd]; simp
    · intro m hm
      rcases List.mem_append.1 hm with hm | hm
      · obtain ⟨r1, r2, r3, r4⟩ := (h.pr.chg hc2 (fun x hx => h.me x (hSM x hx))).chg hcs (fun x hx => by simp only [List.mem_singleton] at hx; subst hx; exact h.me _ h.mg) m hm
        exact ⟨r1, r2, r3, fun b off e => List.mem_append_left _ (r4 b off e)⟩
      · simp only [List.mem_singleton] at hm
        subst hm
        have hyb : ∀ b off, Y = some ⟨b, off, none⟩ → b ∈ Sy := fun b off e => (mSy b).2 (by rw [e]; rfl)
        refine ⟨?_, hyc, hym, fun b off e => List.mem_append_right _ (hyb b off e)⟩
        refine hcs.rd (ha.rd (Rd.below hry hb2) fun b off e hx => ?_) fun b off e hx => ?_
        · have := (hyl b (hyb b off e)).1; have := h.ml b (hSM b hx); omega
        · simp only [List.mem_singleton] at hx
          have := (hyl b (hyb b off e)).1; omega
    · refine ⟨h.ok.n1, h.ok.n2, h.ok.b, fun q hq' => ?_, h.ok.f1, h.ok.f2⟩
      rcases List.mem_append.1 hq' with hq' | hq'
      · exact h.ok.p q hq'
      · simp only [List.mem_singleton] at hq'
        subst hq'; exact hq
    · exact List.mem_append_left _ h.mg
    · exact fun b hb => List.mem_append_left _ (h.ma b hb)
    · intro b hb
      rw [List.length_append] at hb
      exact List.mem_append_right _ ((mSn b).2 hb)
    · intro x hx hxE
      rcases List.mem_append.1 hx with hx | hx
      · rcases List.mem_append.1 hxE with hxE | hxE
        · exact h.me x hx hxE
        · have := (hyl x hxE).1; have := h.ml x hx; omega
      · rcases hn x hx with h1 | h1
        · rcases List.mem_append.1 hxE with hxE | hxE
          · exact h.me x (hSM x h1) hxE
          · have := (hyl x hxE).1; have := h.ml x (hSM x h1); omega
        · rcases List.mem_append.1 hxE with hxE | hxE
          · have := h.el x hxE; omega
          · have := (hyl x hxE).2; omega
    · intro x hx
      rw [← hz2]
      rcases List.mem_append.1 hx with hx | hx
      · have := h.ml x hx; have := hc2.size; omega
      · exact hnl x hx
    · intro x hx
      rw [← hz2]
      rcases List.mem_append.1 hx with hx | hx
      · have := h.el x hx; have := hc2.size; omega
      · have := (hyl x hx).2; have := ha.size; omega
  · rcases List.mem_append.1 hx with hx | hx
    · exact .inl hx
    · rcases hn x hx with h1 | h1
      · exact .inl (hSM x h1)
      · exact .inr (by omega)
  · rcases List.mem_append.1 hx with hx | hx
    · exact .inl hx
    · exact .inr (hyl x hx).1

/-- bytes do not lie in the disk's head -/
theorem IsD'.rb {w w' : World} {g : Nat} {M E : List Nat} {D : St} {A X B : Option Addr} {ca cx : Nat} {P : List Pm} {l : List UInt8} (h : IsD' w g M E D A ca X cx P) (hc : Chg [g] w w') (hr : RB w B l) : RB w' B l := fun i v hv => by
  obtain ⟨b, off, rfl, hcell⟩ := hr i v hv
  have hne : b ≠ g := by
    rintro rfl
    rw [cell_of_row _ _ _ _ _ _ h.hd] at hcell
    rw [List.getElem?_map] at hv
    obtain ⟨x, _, rfl⟩ := Option.map_eq_some_iff.1 hv
    match hq : off + i with
    | 0 => rw [hq] at hcell; cases hcell
    | 1 => rw [hq] at hcell; cases hcell
    | 2 => rw [hq] at hcell; cases hcell
    | 3 => rw [hq] at hcell; cases hcell
    | k + 4 => rw [hq] at hcell; simp at hcell
  exact ⟨b, off, rfl, (World.cell?_of_block (a := ⟨b, off + i, none⟩) (hc.block b (block_lt_of_cell hcell) (by simpa using hne))).trans hcell⟩

set_option maxRecDepth 100000 in
set_option maxHeartbeats 2000000 in
theorem write_calls (g : Nat) (M E : List Nat) (D : St) (s : Int) (B : Option Addr) (n c : Nat) (l : List UInt8) (w : World) (h : IsD w g M E D) (hn : l.length = n) (hr : RB w B l) (hnm : n ≤ 9223372036854775807) (hs : -9223372036854775808 ≤ s) (hs2 : s ≤ 9223372036854775807) (hp : D.p.length ≤ 10000) :
    Calls Try.prog 14 #[.pointer (some ⟨g, 0, none⟩), .int .i64 s, .slice B n c] w fun e w' => e = .returned (.int .i64 (writeE D s l)) ∧ DkP w g M E (writeD D s l) w' := by
  have HI := Lib.hid h
  have HBU := Lib.hid (burn_calls g M E D w h)
  have HIN := Lib.hid (inside_calls g M E D s ((n / 64 : Nat) : Int) w h hs hs2)
  obtain ⟨A, ca, X, cx, P, h'⟩ := h
  have c3 := h'.cell3
  have hok := h'.ok
  have HOK := Lib.hid hok
  have HN := Lib.hid hn
  have HR := Lib.hid hr
  have i0 : (0 : Int) ≤ (n : Int) := by omega
  have hq64 : (n : Int) / 64 = ((n / 64 : Nat) : Int) := by omega
  obtain ⟨nk, HNK⟩ : ∃ x, Hid (n / 64 = x) := ⟨_, rfl⟩
  rw [HNK.out] at HIN hq64
  clear hn hr
  have HI0 := Lib.hid h'
  clear h'
  cases hx : D.x with
  | true =>
    have HE : Hid (writeE D s l = 10 ∧ writeD D s l = D) := by constructor <;> simp [writeE, writeD, hx]
    rw [HE.out.1, HE.out.2]
    rw [hx] at c3
    clear hx hok
    go_enter Try.func14, Try.ntmps14
    go_wp2_with fail
    go_ret
    exact ⟨rfl, .refl HI.out⟩
  | false =>
    rw [hx] at c3
    by_cases hm : n % 64 = 0
    · have q1 : ((n : Int) % 64 != 0) = false := by rw [bne_eq_false_iff_eq]; omega
      cases hi : inB D.n s (nk : Int) with
      | false =>
        have HE : Hid (writeE D s l = 2 ∧ writeD D s l = D) := by
          have hi' : inB D.n s ((l.length / 64 : Nat) : Int) = false := by rw [HN.out, HNK.out]; exact hi
          constructor
          · unfold writeE; rw [if_neg (by simp [hx]), if_neg (by rw [HN.out]; omega), if_pos hi']
          · unfold writeD; rw [if_neg (by simp [hx]), if_neg (by rw [HN.out]; omega), if_pos hi']
        rw [HE.out.1, HE.out.2]
        rw [hi] at HIN
        clear hx hok hi hm
        go_enter Try.func14, Try.ntmps14
        go_wp2_with (go_at_call 32; refine HIN.out.mono ?_; rintro e w' ⟨rfl, rfl⟩)
        go_ret
        exact ⟨rfl, .refl HI.out⟩
      | true =>
        have hi' : inB D.n s ((l.length / 64 : Nat) : Int) = true := by rw [HN.out, HNK.out]; exact hi
        rw [hi] at HIN
        by_cases h0 : D.f = 0
        · have HE : Hid (writeE D s l = 10 ∧ writeD D s l = burnD D) := by
            constructor
            · unfold writeE; rw [if_neg (by simp [hx]), if_neg (by rw [HN.out]; omega), if_neg (by rw [hi']; simp), if_pos h0]
            · unfold writeD burnD; rw [if_neg (by simp [hx]), if_neg (by rw [HN.out]; omega), if_neg (by rw [hi']; simp), if_pos h0, if_pos h0]
          rw [HE.out.1, HE.out.2]
          rw [decide_eq_true h0] at HBU
          clear hx hok hi hi' hm h0
          go_enter Try.func14, Try.ntmps14
          go_wp2_with (first | (go_at_call 32; refine HIN.out.mono ?_; rintro e w' ⟨rfl, rfl⟩) | (go_at_call 33; refine HBU.out.mono ?_; rintro e w1 ⟨rfl, hi1, hc1⟩; have HI1 := Lib.hid hi1; have HC1 := Lib.hid hc1; clear hi1 hc1))
          go_ret
          exact ⟨rfl, M, E, HI1.out, HC1.out.mono (by simp; exact HI.out.mg), fun _ h => .inl h, fun _ h => .inl h⟩
        · obtain ⟨b1, b2, b3, b4⟩ := inB_of hi
          obtain ⟨si, rfl⟩ : ∃ si : Nat, s = si := ⟨s.toNat, by omega⟩
          have hbd : burnD D = { D with f := burnF D.f } := by unfold burnD; rw [if_neg h0]
          have hn2 := hok.n2
          have hqo : Pc.ok D.n ⟨si, l⟩ := by
            refine ⟨?_, ?_⟩
            · show l.length = 64 * (l.length / 64); have := HN.out; omega
            · show si + l.length / 64 ≤ D.n; have := HN.out; have := HNK.out; omega
          have HQO := Lib.hid hqo
          have HE : Hid (writeE D si l = 0 ∧ writeD D si l = { burnD D with p := (burnD D).p ++ [⟨si, l⟩] }) := by
            constructor
            · unfold writeE; rw [if_neg (by simp [hx]), if_neg (by rw [HN.out]; omega), if_neg (by rw [hi']; simp), if_neg h0]
            · unfold writeD; rw [if_neg (by simp [hx]), if_neg (by rw [HN.out]; omega), if_neg (by rw [hi']; simp), if_neg h0, hbd]; rfl
          have HBN : Hid ((burnD D).n = D.n ∧ (burnD D).p.length = D.p.length) := by rw [hbd]; exact ⟨rfl, rfl⟩
          rw [HE.out.1, HE.out.2]
          rw [decide_eq_false h0] at HBU
          have hnm2 : n ≤ 4194304 := by have := HNK.out; omega
          clear hx hok hi hi' hm h0 hqo hbd HE
          generalize burnD D = D1 at *
          go_enter Try.func14, Try.ntmps14
          go_wp2_with (first | (go_at_call 32; refine HIN.out.mono ?_; rintro e w' ⟨rfl, rfl⟩) | (go_at_call 33; refine HBU.out.mono ?_; rintro e w1 ⟨rfl, hi1, hc1⟩; have HI1 := Lib.hid hi1; have HC1 := Lib.hid hc1; clear hi1 hc1))
          obtain ⟨A1, ca1, X1, cx1, P1, hi1⟩ := HI1.out
          have HD1 := Lib.hid hi1
          have d1 := hi1.cell1
          have f1 := hi1.frz 1
          have hgl := hi1.lt
          have hP1 : P1.length ≤ 10000 := by have h1 := hi1.pd; have h2 := HBN.out.2; rw [h1] at h2; simp at h2; omega
          have HR1 : Hid (RB w1 B l) := HI0.out.rb HC1.out HR.out
          clear hi1 c3 HBU HIN
          obtain ⟨pl, HPL⟩ : ∃ x, Hid (P1.length = x) := ⟨_, rfl⟩
          rw [HPL.out] at d1 hP1
          have hpe1 : w1.ownsRow 0 74 2 (.slice X1 pl cx1) pl (pcells P1) := by rw [← HPL.out]; exact HD1.out.pe
          have HPE1 := Lib.hid hpe1
          have hhd1 : w1.heap[g]? = some (.cells #[.slice A1 (64 * D1.n) ca1, .slice X1 pl cx1, .int .i64 D1.f, .bool D1.x] 67 (0, 0)) := by rw [← HPL.out]; exact HD1.out.hd
          have HHD1 := Lib.hid hhd1
          have HPN : Hid ((Value.slice X1 pl cx1).ownBlock ≠ some g) := by rw [← HPL.out]; intro he; exact HD1.out.pne g he rfl
          have HCL : Hid (Calls Try.prog 34 #[.slice B n c] w1.drew fun e w' => ∃ Y cy, e = .returned (.slice Y n cy) ∧ w'.ownsRow w1.heap.size 5 1 (.slice Y n cy) n (l.map vb) ∧ Below w1.heap.size w1 w') := by
            refine (cloneB_calls B n c l w1.drew HN.out (RB.below HR1.out (below_drew _)) (by omega)).mono ?_
            rintro e w2 ⟨Y, cy, rfl, h1, h2⟩
            rw [HN.out] at h1 ⊢
            exact ⟨Y, cy, rfl, h1, (below_drew _).trans h2⟩
          clear hpe1 hhd1
          go_region_law (first | (refine step_appS _ (by rfl) _ _ 65 (by rfl) 0 74 (.agg #[.int .i64 0, .slice none 0 0]) 2 32 Try.underlying65 info_wr rfl (by omega) (.slice X1 pl cx1) pl (pcells P1) (by rfl) (own_belowS HPE1.out (HB2.out.trans ((below1 w2 _).mono HB2.out.size))) (some ⟨w2.heap.size, 0, none⟩) 1 1 [.int .i64 (si : Int), .slice Y n cy] (by rfl) rfl (Rd.new w2 [.int .i64 (si : Int), .slice Y n cy] _ _) (by simp [Value.oneCell']) (by simp only [maxLen]; omega) (by omega) (by simp) ?_; intro X3 cx3 w3 hown3 happ3; have hg3 := happ3.old (((HB2.out.trans ((below1 w2 _).mono HB2.out.size)).block g hgl).trans HHD1.out) HPN.out; have e3 : w3.cell? ⟨g, 1, none⟩ = some (.slice X1 pl cx1) := (cell_of_row _ _ 1 _ _ _ hg3).trans rfl; have f3 : w3.frozen? ⟨g, 1, none⟩ = false := frozen_of_row _ _ _ _ _ hg3; have HO3 := Lib.hid hown3; have HA3 := Lib.hid happ3; clear hown3 happ3 hg3) | (go_simp; go_at_call 34; refine HCL.out.mono ?_; rintro e w2 ⟨Y, cy, rfl, hy2, hb2⟩; have HY2 := Lib.hid hy2; have HB2 := Lib.hid hb2; have e2 : w2.cell? ⟨g, 1, none⟩ = some (.slice X1 pl cx1) := (hb2.cell (p := ⟨g, 1, none⟩) hgl).trans d1; have e2b : ∀ o : Obj, (w2.alloc o).cell? ⟨g, 1, none⟩ = some (.slice X1 pl cx1) := fun o => (World.cell?_alloc_lt w2 o ⟨g, 1, none⟩ (block_lt_of_cell e2)).trans e2; clear hy2 hb2))
          all_goals
            have HF : Hid (DkP w g M E { D1 with p := D1.p ++ [⟨si, l⟩] } (w3.setCell ⟨g, 1, none⟩ (.slice X3 (pl + 1) cx3))) := by
              have h1 := HPL.out
              have h2 := HN.out
              subst h1
              subst h2
              exact DkP.trans (HC1.out.mono (by simp; exact HI.out.mg)) (HD1.out.push HB2.out HY2.out (below1 w2 _) (by rw [HBN.out.1]; exact HQO.out) HO3.out HA3.out)
            clear e2 e2b e3 f3 HO3 HA3
            go_wp2_with fail
            go_ret
            exact ⟨rfl, HF.out⟩
    · have hm' : ¬ l.length % 64 = 0 := by have := HN.out; omega
      have HE : Hid (writeE D s l = 1 ∧ writeD D s l = D) := by
        constructor
        · unfold writeE; rw [if_neg (by simp [hx]), if_pos hm']
        · unfold writeD; rw [if_neg (by simp [hx]), if_pos hm']
      have q1 : ((n : Int) % 64 != 0) = true := by rw [bne_iff_ne]; omega
      rw [HE.out.1, HE.out.2]
      clear hx hok hm hm'
      go_enter Try.func14, Try.ntmps14
      go_wp2_with fail
      go_ret
      exact ⟨rfl, .refl HI.out⟩
theorem made_bytes (n : Nat) : (madeCells #[.int .u8 0] n).toList = (List.replicate n (0 : UInt8)).map vb := by
  rw [toList_madeCells_one]
  simp
/-- what New leaves -/
def NewP (z : Int) (w : World) (e : Ending) (w' : World) : Prop := (¬ (1 ≤ z ∧ z ≤ 65536) ∧ e = .returned (.tuple #[.pointer none, .int .i64 2]) ∧ w = w') ∨
    (1 ≤ z ∧ z ≤ 65536 ∧ ∃ g M, e = .returned (.tuple #[.pointer (some ⟨g, 0, none⟩), .int .i64 0]) ∧ IsD w' g M [] (newD z.toNat) ∧ (∀ x ∈ M, w.heap.size ≤ x) ∧ Below w.heap.size w w')
set_option maxRecDepth 100000 in
set_option maxHeartbeats 1000000 in
theorem new_calls (z : Int) (w : World) : Calls Try.prog 10 #[.int .i64 z] w (NewP z w) := by
  by_cases h1 : 1 ≤ z
  · have d1 : decide (z < 1) = false := by simp; omega
    by_cases h2 : z ≤ 65536
    · have d2 : decide (65536 < z) = false := by simp; omega
      obtain ⟨n, rfl⟩ : ∃ n : Nat, z = n := ⟨z.toNat, by omega⟩
      have hm64 : (n : Int) * 64 = ((64 * n : Nat) : Int) := by omega
      obtain ⟨N, HN⟩ : ∃ x, Hid (64 * n = x) := ⟨_, rfl⟩
      rw [HN.out] at hm64
      have hNl : N ≤ 4194304 := by have := HN.out; omega
      obtain ⟨i0, hi0, hz0, hz1, hz2⟩ := info_parts info_u8
      have hmk : ∀ u : World, (Instr.makeSlice 30 (.int .i64 (N : Int)) (.int .i64 (N : Int))).run Try.prog u = .ok (.slice (some ⟨u.heap.size, 0, none⟩) N N) (u.alloc (.cells (madeCells #[.int .u8 0] N) 5)) := fun u => by
        have h := run_make (P := Try.prog) u 30 5 i0 (.int .u8 0) Try.underlying30 hi0 hz0 .i64 .i64 N N (by omega) (Int.le_refl _) (by rw [hz2]; omega) (by omega)
        simpa [hz1, Value.cells] using h
      have HMC : Hid ((madeCells #[.int .u8 0] N).toList = (List.replicate N (0 : UInt8)).map vb) := made_bytes N
      generalize madeCells #[.int .u8 0] N = mc at *
      clear hi0 hz0 hz1 hz2
      go_enter Try.func10, Try.ntmps10
      go_wp2_with fail
      have hb2 := below2 w (.cells mc 5) (.cells #[.slice (some ⟨w.heap.size, 0, none⟩) N N, .slice none 0 0, .int .i64 (-1), .bool false] 67)
      have hA : ((w.alloc (.cells mc 5)).alloc (.cells #[.slice (some ⟨w.heap.size, 0, none⟩) N N, .slice none 0 0, .int .i64 (-1), .bool false] 67)).heap[w.heap.size]? = some (.cells mc 5 (0, 0)) := (Below.heap_alloc _ _ _ (by simp)).trans (heap_alloc_new _ _)
      have hG : ((w.alloc (.cells mc 5)).alloc (.cells #[.slice (some ⟨w.heap.size, 0, none⟩) N N, .slice none 0 0, .int .i64 (-1), .bool false] 67)).heap[w.heap.size + 1]? = some (.cells #[.slice (some ⟨w.heap.size, 0, none⟩) N N, .slice none 0 0, .int .i64 (-1), .bool false] 67 (0, 0)) := heap_alloc2_new _ _ _
      have hz : ((w.alloc (.cells mc 5)).alloc (.cells #[.slice (some ⟨w.heap.size, 0, none⟩) N N, .slice none 0 0, .int .i64 (-1), .bool false] 67)).heap.size = w.heap.size + 2 := by simp
      have hmcl : mc.size = N := by have := congrArg List.length HMC.out; simpa using this
      have HFF : Hid (∀ w', w'.heap[w.heap.size]? = some (.cells mc 5 (0, 0)) → w'.heap[w.heap.size + 1]? = some (.cells #[.slice (some ⟨w.heap.size, 0, none⟩) N N, .slice none 0 0, .int .i64 (-1), .bool false] 67 (0, 0)) → w'.heap.size = w.heap.size + 2 → Below w.heap.size w w' →
          NewP (n : Int) w (.returned (.tuple #[.pointer (some ⟨w.heap.size + 1, 0, none⟩), .int .i64 0])) w') := by
        intro w' k1 k2 k3 k4
        refine .inr ⟨h1, h2, w.heap.size + 1, [w.heap.size + 1, w.heap.size], rfl, ⟨some ⟨w.heap.size, 0, none⟩, N, none, 0, [], ?_⟩, by simp, k4⟩
        rw [Int.toNat_natCast]
        have hNn : 64 * (newD n).n = N := HN.out
        refine ⟨?_, ?_, ⟨rfl, .inl ⟨rfl, rfl⟩⟩, rfl, fun m hm => absurd hm (by simp), newD_ok n (by omega) (by omega), by simp, ?_, (fun b hb => by cases hb), by simp, ?_, by simp⟩
        · rw [hNn]; exact k2
        · rw [hNn]
          refine ⟨?_, .inr ⟨w.heap.size, N, mc, rfl, Nat.zero_le _, k1, Nat.le_refl _, by simp only [maxLen]; omega, by omega, ?_⟩⟩
          · show ((List.replicate (64 * n) (0 : UInt8)).map vb).length = _; simp; exact HN.out
          · rw [Nat.mul_one, List.take_of_length_le (by simp; omega), HMC.out]
            show _ = (List.replicate (64 * n) (0 : UInt8)).map vb
            rw [HN.out]
        · intro b hb
          have : w.heap.size = b := by simpa [Value.ownBlock] using hb
          simp [this]
        · intro x hx
          simp only [List.mem_cons, List.not_mem_nil, or_false] at hx
          omega
      have HF2 := Lib.hid (HFF.out _ hA hG hz hb2)
      clear hb2 hA hG hz hmk
      go_ret2
      exact HF2.out
    · have d2 : decide (65536 < z) = true := by simp; omega
      go_enter Try.func10, Try.ntmps10
      go_wp2_with fail
      go_ret2
      exact .inl ⟨by omega, rfl, rfl⟩
  · have d1 : decide (z < 1) = true := by simp; omega
    go_enter Try.func10, Try.ntmps10
    go_wp2_with fail
    go_ret2
    exact .inl ⟨by omega, rfl, rfl⟩
end Dk
end Go.Proofs.Ytoallpinpeolfaa
