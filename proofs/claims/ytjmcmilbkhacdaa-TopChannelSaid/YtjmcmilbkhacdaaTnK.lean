/- The walk of channel.accept. -/
import Derived.Test.YtjmcmilbkhacdaaTnJ
import Derived.Deep.DeepCutAuto
namespace Go.Proofs.Ytjmcmilbkhacdaa
open Go.RowKit Go.Shelf
open Wi Wr
namespace Tc
theorem enters_next : ∀ (args : Array Value) (w' : World), (callFunc 38 args).run Try.prog w' = .ok (.enter 38 args) w' := enters_of Try.func38 (by kernel_rfl) rfl
theorem u64_off {s : Nat} (h : s ≤ 1000000000) : IntKind.u64.wrap ((s : Nat) + 1024 : Int) = (s : Int) + 1024 := by
  simp [IntKind.wrap, IntKind.bits, IntKind.signed]; omega
/-- what came up: the values of r + 1 and so on were taken out -/
def Adv (E : Nat → Option Bs) (r : Nat) (out : List Bs) (r' : Nat) (E' : Nat → Option Bs) : Prop :=
  r' = r + out.length ∧ (∀ i (h : i < out.length), E (r + 1 + i) = some out[i]) ∧ ∀ s, E' s = if r < s ∧ s ≤ r' then none else E s
theorem Adv.start (E : Nat → Option Bs) (r : Nat) : Adv E r [] r E := ⟨rfl, fun i h => absurd h (by simp), fun s => by rw [if_neg (by omega)]⟩
theorem Adv.next {E E1 : Nat → Option Bs} {r r1 : Nat} {out : List Bs} {x : Bs} (h : Adv E r out r1 E1) (hx : E1 (r1 + 1) = some x) : Adv E r (out ++ [x]) (r1 + 1) (upd E1 (r1 + 1) none) := by
  obtain ⟨h1, h2, h3⟩ := h
  refine ⟨by simp; omega, fun i hi => ?_, fun s => ?_⟩
  · rw [List.length_append, List.length_singleton] at hi
    by_cases hl : i < out.length
    · rw [List.getElem_append_left hl]; exact h2 i hl
    · have hi2 : i = out.length := by omega
      subst hi2
      rw [List.getElem_append_right (Nat.le_refl _)]
      have h4 := h3 (r1 + 1)
      rw [if_neg (by omega), hx] at h4
      simp only [Nat.sub_self, List.getElem_cons_zero]
      rw [h4, h1]
      congr 1
      omega
  · simp only [upd]
    by_cases e : s = r1 + 1
    · rw [if_pos e, if_pos (by omega)]
    · rw [if_neg e, h3 s]
      by_cases h5 : r < s ∧ s ≤ r1
      · rw [if_pos h5, if_pos (by omega)]
      · rw [if_neg h5, if_neg (by omega)]
def Acc (E : Nat → Option Bs) (r s : Nat) (l : List UInt8) (r' : Nat) (E' : Nat → Option Bs) (out : List Bs) : Prop :=
  ((E s ≠ none ∨ s ≤ r) ∧ r' = r ∧ E' = E ∧ out = []) ∨ ((E s = none ∧ r < s) ∧ ∃ x, x.d = l ∧ Adv (upd E s (some x)) r out r' E' ∧ E' (r' + 1) = none)
def AccP (B g q r n : Nat) (E : Nat → Option Bs) (s : Nat) (l : List UInt8) (w : World) (e : Ending) (w' : World) : Prop :=
  ∃ r' E' out O cO n', e = .returned (.tuple #[.slice O (out : List Bs).length cO, .int .i64 0]) ∧ IsC B w' g q r' n' E' ∧ n' ≤ n + 1 ∧ IsBr B w' O out.length cO out ∧ (∀ b ∈ rowS O, w.heap.size ≤ b) ∧ Chg (cS g q) w w' ∧ Acc E r s l r' E' out
def lnOf : Value → Nat
  | .slice _ n _ => n
  | _ => 0
theorem Adv.le {E E1 : Nat → Option Bs} {r r1 L : Nat} {out : List Bs} (h : Adv E r out r1 E1) (hk : ∀ t x, E t = some x → t ≤ L) (hr : r ≤ L) : r1 ≤ L := by
  obtain ⟨h1, h2, _⟩ := h
  by_cases h0 : out.length = 0
  · omega
  · have := hk _ _ (h2 (out.length - 1) (by omega)); omega
/-- before a call of the closure -/
structure AccB (B g q r n L : Nat) (Eu : Nat → Option Bs) (w : World) (O : Option Addr) (cO : Nat) (out : List Bs) (r1 : Nat) (E1 : Nat → Option Bs) (wr : World) : Prop where
  br : IsBr B wr O out.length cO out
  nw : ∀ b ∈ rowS O, w.heap.size ≤ b
  ic : IsC B wr g q r1 n E1
  ch : Chg (cS g q) w wr
  k0 : wr.heap[w.heap.size]? = some (Obj.cells #[.pointer (some ⟨g, 0, none⟩)] 26 (0, 0))
  le : r1 ≤ L
  ad : Adv Eu r out r1 E1
/-- behind it -/
def AccV (B g q r n L : Nat) (Eu : Nat → Option Bs) (w : World) (o b ok : Value) (wr : World) : Prop :=
  ∃ out O cO r1 E1, o = .slice O (out : List Bs).length cO ∧ ((ok = .bool false ∧ E1 (r1 + 1) = none ∧ AccB B g q r n L Eu w O cO out r1 E1 wr) ∨
    (ok = .bool true ∧ ∃ x, b = bv x ∧ Pl B wr x.a x.d x.c ∧ out.length < L ∧ IsBr B wr O out.length cO out ∧ (∀ b ∈ rowS O, w.heap.size ≤ b) ∧ IsC B wr g q r1 n E1 ∧ Chg (cS g q) w wr ∧ wr.heap[w.heap.size]? = some (Obj.cells #[.pointer (some ⟨g, 0, none⟩)] 26 (0, 0)) ∧ r1 ≤ L ∧ Adv Eu r (out ++ [x]) r1 E1))
theorem AccV.next {B g q r n L : Nat} {Eu : Nat → Option Bs} {w : World} {O : Option Addr} {cO : Nat} {out : List Bs} {r1 : Nat} {E1 : Nat → Option Bs} {w1 w2 : World} {e : Ending} (h : AccB B g q r n L Eu w O cO out r1 E1 w1) (hB : B ≤ w.heap.size) (hgq : g < w.heap.size ∧ q < w.heap.size) (hk : ∀ t x, Eu t = some x → t ≤ L) (hp : NextP B g q r1 n E1 w1 e w2) :
    ∃ b ok, e = .returned (.tuple #[b, ok]) ∧ AccV B g q r n L Eu w (.slice O out.length cO) b ok w2 := by
  have hB1 := Nat.le_trans hB h.ch.size
  rcases hp with ⟨h1, rfl, hb⟩ | ⟨x, h1, rfl, hi, hc⟩
  · have hf := Fz.of_below hB1 hb
    have hc := Chg.of_below hb []
    exact ⟨_, _, rfl, out, O, cO, r1, E1, rfl, .inl ⟨rfl, h1, ⟨h.br.below hB1 hb, h.nw, h.ic.st hc (by simp) hf, h.ch.trans' (Chg.of_below hb _), hc.blk h.k0 (by simp), h.le, h.ad⟩⟩⟩
  · have hf := h.ic.nb.fz hB1 hc
    have had := h.ad.next h1
    have hle : r1 + 1 ≤ L := by
      have h4 := h.ad.2.2 (r1 + 1)
      rw [h1] at h4
      by_cases h5 : r < r1 + 1 ∧ r1 + 1 ≤ r1
      · omega
      · rw [if_neg h5] at h4; exact hk _ _ h4.symm
    have hol : out.length < L := by have := had.1; rw [List.length_append, List.length_singleton] at this; omega
    refine ⟨_, _, rfl, out, O, cO, r1 + 1, _, rfl, .inr ⟨rfl, x, rfl, (h.ic.mp.ok _ x h1).st hf, hol, h.br.st hc (fun y hy hm => ?_) hf, h.nw, hi, h.ch.trans' hc, hc.blk h.k0 (by simp [cS]; omega), hle, had⟩⟩
    have := h.nw y hm
    simp [cS] at hy
    omega
set_option maxRecDepth 100000 in
set_option maxHeartbeats 4000000 in
theorem accept_calls (B g q r n : Nat) (E : Nat → Option Bs) (s : Nat) (l : List UInt8) (a : Option Addr) (N ca L : Nat) (w : World) (h : IsC B w g q r n E) (hB : B ≤ w.heap.size) (hL : L ≤ 100000) (hr : r ≤ L) (hs : s ≤ L) (hsr : s ≤ r + 1024) (hk : ∀ t x, E t = some x → t ≤ L) (hn : n ≤ 100000000) (hN : l.length = N) (hl : RB w a l) (hm : N ≤ 1000000) :
    Calls Try.prog 32 #[.pointer (some ⟨g, 0, none⟩), .int .u64 (s : Int), .slice a N ca] w (AccP B g q r n E s l w) := by
  have HI := Lib.hid h
  have hb1 := below1 w (.cells #[.pointer (some ⟨g, 0, none⟩)] 26)
  have k0 := heap_alloc_new w (.cells #[.pointer (some ⟨g, 0, none⟩)] 26)
  have HI1 := Lib.hid (h.st (Chg.of_below hb1 []) (by simp) (Fz.of_below hB hb1))
  have HL := Lib.hid (RB.below hl hb1)
  have HB1 := Lib.hid hb1
  have HK0 := Lib.hid k0
  have HN := Lib.hid hN
  have HKY := Lib.hid hk
  have d0 : decide ((r : Int) + 1024 < (s : Int)) = false := by rw [decide_eq_false_iff_not]; omega
  have hs9 : s ≤ 1000000000 := by omega
  have HU1 : Hid (IntKind.u64.wrap (r : Int) = (r : Int)) := Lib.hid (u64_of (by omega))
  have HU2 : Hid (IntKind.u64.wrap ((r : Int) + 1024) = (r : Int) + 1024) := Lib.hid (u64_off (by omega))
  have HS1 : Hid (IntKind.i64.wrap (s : Int) = (s : Int)) := Lib.hid (by rw [IntWalk.i64_in _ (by omega)])
  have HS2 : Hid (wrap64 (s : Int) = (s : Int)) := Lib.hid (by unfold wrap64; omega)
  have e0 : ∀ w1 : World, w1.heap.size = w1.heap.size := fun _ => rfl
  clear h hb1 k0 hN hl hk e0
  go_enter Try.func32, Try.ntmps32
  go_upto_region 1 with (fail)
  generalize w.alloc _ = w1 at *
  have hb0l : w.heap.size < w1.heap.size := (Array.getElem?_eq_some_iff.1 HK0.out).1
  have hB1 : B ≤ w1.heap.size := by omega
  have b1 : w1.cell? ⟨w.heap.size, 0, none⟩ = some (.pointer (some ⟨g, 0, none⟩)) := (cell_of_row _ _ 0 _ _ _ HK0.out).trans rfl
  have c2 : w1.cell? ⟨g, 2, none⟩ = some (.int .i64 (r : Int)) := (cell_of_row _ _ 2 _ _ _ HI1.out.hd).trans rfl
  have c4 : w1.cell? ⟨g, 4, none⟩ = some (.map (some q)) := (cell_of_row _ _ 4 _ _ _ HI1.out.hd).trans rfl
  have hlk := HI1.out.mp.look s hs9
  by_cases hsk : E s ≠ none ∨ s ≤ r
  · have hd1 : decide ((s : Int) ≤ (r : Int)) = decide (s ≤ r) := by simp
    have HF : Hid (AccP B g q r n E s l w (.returned (.tuple #[.slice none 0 0, .int .i64 0])) w1) := Lib.hid ⟨r, E, [], none, 0, n, rfl, HI1.out, by omega, IsBr.nil _ _, (by simp [rowS, Value.ownBlock]), Chg.of_below HB1.out _, .inl ⟨hsk, rfl, rfl, rfl⟩⟩
    cases hE : E s with
    | some x =>
      rw [hE] at hlk
      have hlk : (Instr.lookup 43 (.map (some q)) (.int .i64 (s : Int)) true).run Try.prog w1 = .ok (.tuple #[bv x, .bool true]) w1 := hlk
      clear hd1 hE
      have hu1 := HU1.out
      have hu2 := HU2.out
      have hs1 := HS1.out
      have hs2 := HS2.out
      go_wp2_with fail
      go_ret2
      exact HF.out
    | none =>
      have hle : s ≤ r := by
        rcases hsk with h1 | h1
        · exact absurd hE h1
        · exact h1
      have hd2 : decide ((s : Int) ≤ (r : Int)) = true := by rw [decide_eq_true_eq]; omega
      rw [hE] at hlk
      have hlk : (Instr.lookup 43 (.map (some q)) (.int .i64 (s : Int)) true).run Try.prog w1 = .ok (.tuple #[.slice none 0 0, .bool false]) w1 := hlk
      clear hd1 hE
      have hu1 := HU1.out
      have hu2 := HU2.out
      have hs1 := HS1.out
      have hs2 := HS2.out
      go_wp2_with fail
      go_ret2
      exact HF.out
  · have hE : E s = none := by
      cases h1 : E s with
      | none => rfl
      | some x => exact absurd (.inl (by rw [h1]; simp)) hsk
    have hrs : r < s := by omega
    have HEN := Lib.hid hE
    have hd2 : decide ((s : Int) ≤ (r : Int)) = false := by rw [decide_eq_false_iff_not]; omega
    have hle : ¬ s ≤ r := by omega
    rw [hE] at hlk
    have hlk : (Instr.lookup 43 (.map (some q)) (.int .i64 (s : Int)) true).run Try.prog w1 = .ok (.tuple #[.slice none 0 0, .bool false]) w1 := hlk
    clear hE hsk
    have hu1 := HU1.out
    have hu2 := HU2.out
    have hs1 := HS1.out
    have hs2 := HS2.out
    go_upto_region 7 with (fail)
    clear hlk d0 hd2 hu1 hu2 hs1 hs2 hle
    have HCP : Hid (Calls Try.prog 21 #[.slice a N ca] w1.drew fun e w2 => ∃ x : Bs, x.d = l ∧ e = .returned (bv x) ∧ Pl B w2 x.a x.d x.c ∧ Below w1.heap.size w1 w2) := Lib.hid (by
      refine (bclone_calls B a N ca l w1.drew HN.out (HL.out.below (Below.refl _ _).drew) hm).mono ?_
      rintro e w2 ⟨X, cX, rfl, hp, hb⟩
      exact ⟨⟨l, X, cX⟩, rfl, rfl, hp, (Below.refl _ _).drew.trans hb⟩)
    have hg1 : g < w1.heap.size := block_lt_of_cell c4
    have hn9 : n < maxLen := by simp only [maxLen]; omega
    go_region_law (go_simp; go_at_call 21; (with_reducible refine HCP.out.mono ?_); rintro e w2 ⟨x, hx, rfl, hp2, hb2⟩; have HX := Lib.hid hx; have HP2 := Lib.hid hp2; have HB2 := Lib.hid hb2; have hbw2 := Nat.le_trans hB1 hb2.size; have e4 : w2.cell? ⟨g, 4, none⟩ = some (.map (some q)) := (hb2.cell (p := ⟨g, 4, none⟩) hg1).trans c4; have e0 : w2.cell? ⟨w.heap.size, 0, none⟩ = some (.pointer (some ⟨g, 0, none⟩)) := (hb2.cell (p := ⟨w.heap.size, 0, none⟩) hb0l).trans b1; obtain ⟨w3, hst, he3, hmt⟩ := IsE.put (w := w2) (HI1.out.mp.st (Chg.of_below hb2 []) (by simp) (Fz.of_below hB1 hb2)) hbw2 s hs9 hn9 x hp2; have HE3 := Lib.hid he3; have HM3 := Lib.hid hmt; clear hx hp2 hb2 he3 hmt)
    all_goals
      have hcq : Chg [q] w2 w3 := Chg.of_grown HM3.out.grown (fun y hy => by injection hy with hy; simp [hy])
      have HIC : Hid (IsC B w3 g q r (n + 1) (upd E s (some x))) := Lib.hid ⟨hcq.blk ((Chg.of_below HB2.out [q]).blk HI1.out.hd (by simp; exact HI1.out.ne)) (by simp; exact HI1.out.ne), HI1.out.gB, HE3.out⟩
      have HC3 : Hid (Chg (cS g q) w w3) := Lib.hid (((Chg.of_below HB1.out (cS g q)).trans' (Chg.of_below HB2.out _)).trans' (hcq.mono (by simp [cS])))
      have HK3 := Lib.hid (hcq.blk ((Chg.of_below HB2.out [q]).blk HK0.out (by simp; have := HI.out.mp.lt; omega)) (by simp; have := HI.out.mp.lt; omega))
      clear hst e4 e0 HE3 HM3 HP2 hcq
      go_upto_region 10 with (fail)
      clear b1 c2 c4 hlk HCP
      have HKE : Hid (∀ t y, upd E s (some x) t = some y → t ≤ L) := Lib.hid (fun t y hy => by
        unfold upd at hy
        by_cases e : t = s
        · omega
        · rw [if_neg e] at hy; exact HKY.out t y hy)
      have HNX := Lib.hid (next_calls B w.heap.size g q r (n + 1) (upd E s (some x)) w3 HK3.out HIC.out (Nat.le_trans hB HC3.out.size) (by omega))
      have hen := enters_next
      go_wp2_with fail
      refine HNX.out.mono ?_
      intro e w4 hp
      obtain ⟨vb0, vok0, rfl, hv⟩ := AccV.next (w := w) (L := L) ⟨IsBr.nil B w3, (by simp [rowS, Value.ownBlock]), HIC.out, HC3.out, HK3.out, hr, Adv.start _ r⟩ hB ⟨Nat.lt_of_lt_of_le (block_lt_of_cell (show w.cell? ⟨g, 4, none⟩ = some _ from (cell_of_row _ _ 4 _ _ _ HI.out.hd).trans rfl)) (Nat.le_refl _), HI.out.mp.lt⟩ HKE.out hp
      have HV := Lib.hid hv
      clear hp hv HNX HIC HC3 HK3
      go_wp2_with fail
      go_loopw [12, 13, 14] (fun o b ok wr => AccV B g q r (n + 1) L (upd E s (some x)) w o b ok wr) (fun o _ _ _ => L + 1 - lnOf o)
      case atStart => exact HV.out
      case round =>
        obtain ⟨out, O, cO, r1, E1, rfl, ⟨rfl, hE1, hA⟩ | ⟨rfl, y, rfl, hpy, hol, hbr, hnw, hic, hch, hk0, hle1, had⟩⟩ := hrel
        · have HFI : Hid (AccP B g q r n E s l w (.returned (.tuple #[.slice O out.length cO, .int .i64 0])) wr) := Lib.hid ⟨r1, E1, out, O, cO, n + 1, rfl, hA.ic, Nat.le_refl _, hA.br, hA.nw, hA.ch, .inr ⟨⟨HEN.out, hrs⟩, x, HX.out, hA.ad, hE1⟩⟩
          generalize out.length = ol at *
          clear hA hE1
          go_wp2_with fail
          go_ret2
          exact HFI.out
        · have HBR := Lib.hid hbr
          have HPY := Lib.hid hpy
          have HNW := Lib.hid hnw
          have HIC := Lib.hid hic
          have HCH := Lib.hid hch
          have HK0 := Lib.hid hk0
          have HAD := Lib.hid had
          have hBr := Nat.le_trans hB hch.size
          obtain ⟨ya, yl, yc, HYV⟩ : ∃ a l c, Hid (bv y = .slice a l c) := ⟨_, _, _, Lib.hid rfl⟩
          have hbo := below1 wr (.cells #[.slice ya yl yc] 32)
          have HOA := Lib.hid (own_belowS hbr.ow hbo)
          have HBO := Lib.hid hbo
          clear hbr hpy hnw hic hch hk0 had hbo
          obtain ⟨ol, HOL⟩ : ∃ y, Hid (out.length = y) := ⟨_, Lib.hid rfl⟩
          rw [HOL.out] at HBR HOA hol ⊢
          rw [HYV.out]
          go_upto_region 12 with (at_builtin; refine wpList_appS _ (by rfl) (.tmp 62) (.tmp 64) 28 (by rfl) B 32 (.slice none 0 0) 1 24 Try.underlying28 info_yy rfl (by omega) (.slice O ol cO) ol (out.map bv) (by rfl) HOA.out (some ⟨wr.heap.size, 0, none⟩) 1 1 [.slice ya yl yc] (by rfl) rfl (Rd.new wr [.slice ya yl yc] _ _) (by simp [Value.oneCell']) (by simp only [maxLen]; omega) (by omega) (Nat.le_trans hBr (by simp)) ?_; intro X5 c5 w5 hown5 happ5; have HO5 := Lib.hid hown5; have HP5 := Lib.hid happ5; clear hown5 happ5)
          have HPUSH := Lib.hid ((HBR.out.below hBr HBO.out).push (w' := w5) (x := y) (Nat.le_trans hBr HBO.out.size) (HPY.out.st (Fz.of_below hBr HBO.out)) (by rw [HYV.out]; exact HO5.out) HP5.out)
          have hc5 : Chg (rowS O) wr w5 := (Chg.of_below HBO.out _).trans' HPUSH.out.2.1
          have HAB : Hid (AccB B g q r (n + 1) L (upd E s (some x)) w X5 c5 (out ++ [y]) r1 E1 w5) := Lib.hid (by
            have hgl : g < w.heap.size := block_lt_of_cell (show w.cell? ⟨g, 4, none⟩ = some _ from (cell_of_row _ _ 4 _ _ _ HI.out.hd).trans rfl)
            have hql := HI.out.mp.lt
            have hlen : (out ++ [y]).length = ol + 1 := by rw [List.length_append, HOL.out]; rfl
            refine ⟨by rw [hlen]; exact HPUSH.out.1, fun b hb => ?_, HIC.out.st hc5 (fun z hz hm => ?_) (HBR.out.nb.fz hBr hc5), HCH.out.trans hc5 (fun z hz => .inr (HNW.out z hz)), hc5.blk HK0.out (fun hm => own_tyne HBR.out.ow HK0.out (by decide) ((mem_rowS _ _).1 hm)), hle1, HAD.out⟩
            · rcases HPUSH.out.2.2 b hb with h1 | h1
              · exact HNW.out b h1
              · have := HBO.out.size; have := HCH.out.size; omega
            · have := HNW.out z hz
              simp [cS] at hm
              omega)
          have HNX := Lib.hid (next_calls B w.heap.size g q r1 (n + 1) E1 w5 HAB.out.k0 HAB.out.ic (Nat.le_trans hB HAB.out.ch.size) (by omega))
          clear HPUSH HBR HIC HCH HK0 HAD HPY HO5 HP5 HOA HBO hc5
          go_wp2_with fail
          refine HNX.out.mono ?_
          intro e w6 hp
          obtain ⟨vb1, vok1, rfl, hv⟩ := AccV.next HAB.out hB ⟨Nat.lt_of_lt_of_le (block_lt_of_cell (show w.cell? ⟨g, 4, none⟩ = some _ from (cell_of_row _ _ 4 _ _ _ HI.out.hd).trans rfl)) (Nat.le_refl _), HI.out.mp.lt⟩ HKE.out hp
          rw [show (out ++ [y]).length = ol + 1 by rw [List.length_append, HOL.out]; rfl] at hv
          have HV1 := Lib.hid hv
          clear hp hv HNX
          go_wp2_with fail
          exact ⟨HV1.out, by simp only [lnOf]; omega⟩
end Tc
end Go.Proofs.Ytjmcmilbkhacdaa
