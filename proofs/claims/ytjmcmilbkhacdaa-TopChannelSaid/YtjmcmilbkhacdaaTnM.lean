/- The walk of channel.Datagrams. -/
import Derived.Test.YtjmcmilbkhacdaaTnL
import Derived.Deep.DeepCutAuto
namespace Go.Proofs.Ytjmcmilbkhacdaa
open Go.RowKit Go.Shelf
open Wi Wr
namespace Tc
/-- the datagrams of all kept payloads -/
def dgs (k : Nat) : List (List UInt8) → List (List UInt8)
  | [] => []
  | x :: t => datD (k + 1) x :: dgs (k + 1) t
theorem dgs_len : ∀ (l : List (List UInt8)) (k : Nat), (dgs k l).length = l.length
  | [], _ => rfl
  | _ :: t, k => by simp [dgs, dgs_len t]
theorem dgs_app : ∀ (l : List (List UInt8)) (k : Nat) (x : List UInt8), dgs k (l ++ [x]) = dgs k l ++ [datD (k + 1 + l.length) x]
  | [], k, x => by simp [dgs]
  | y :: t, k, x => by
    simp only [List.cons_append, dgs, dgs_app t (k + 1) x, List.length_cons]
    rw [show k + 1 + 1 + t.length = k + 1 + (t.length + 1) by omega]
theorem dgs_take {l : List (List UInt8)} {k i : Nat} (h : i < l.length) : dgs k (l.take (i + 1)) = dgs k (l.take i) ++ [datD (k + 1 + i) l[i]] := by
  rw [List.take_succ_eq_append_getElem h, dgs_app, List.length_take, Nat.min_eq_left (by omega)]
def DgP (B k : Nat) (ds : List (List UInt8)) (w : World) (e : Ending) (w' : World) : Prop :=
  ∃ outs O cO, e = .returned (.slice O ds.length cO) ∧ (outs : List Bs).map (·.d) = dgs k ds ∧ IsBr B w' O ds.length cO outs ∧ (∀ b ∈ rowS O, w.heap.size ≤ b) ∧ Below w.heap.size w w'
def DgL (B k : Nat) (ds : List (List UInt8)) (w : World) (i : Nat) (v : Value) (wr : World) : Prop :=
  ∃ outs O cO, v = .slice O i cO ∧ (outs : List Bs).map (·.d) = dgs k (ds.take i) ∧ IsBr B wr O i cO outs ∧ (∀ b ∈ rowS O, w.heap.size ≤ b) ∧ Below w.heap.size w wr
set_option maxRecDepth 100000 in
set_option maxHeartbeats 2000000 in
theorem datagrams_calls (B g n c : Nat) (A : Option Addr) (m : Value) (S k : Nat) (l : List Bs) (w : World) (h : IsA B w g A n c m S k l) (hB : B ≤ w.heap.size) (hk : k ≤ 100000000) (hn : n ≤ 100000) (hl : ∀ x ∈ l, x.d.length ≤ 1000) :
    Calls Try.prog 17 #[.pointer (some ⟨g, 0, none⟩)] w (DgP B k (l.map (·.d)) w) := by
  have HI := Lib.hid h
  have c3 : w.cell? ⟨g, 3, none⟩ = some (.slice A n c) := (cell_of_row _ _ 3 _ _ _ h.hd).trans rfl
  have c1 : w.cell? ⟨g, 1, none⟩ = some (.int .i64 (k : Int)) := (cell_of_row _ _ 1 _ _ _ h.hd).trans rfl
  have HLN : Hid (l.length = n) := Lib.hid h.br.hn
  have HLL := Lib.hid hl
  have hgl : g < w.heap.size := block_lt_of_cell c3
  clear h hl
  have HDN : Hid ((l.map (·.d)).length = n) := Lib.hid (by rw [List.length_map, HLN.out])
  obtain ⟨ds, HDS⟩ : ∃ y, Hid (l.map (·.d) = y) := ⟨_, Lib.hid rfl⟩
  rw [HDS.out] at HDN ⊢
  unfold DgP
  rw [HDN.out]
  go_enter Try.func17, Try.ntmps17
  go_wp2_with fail
  go_loopw [3, 11] (fun v i wr => ∃ j : Nat, j ≤ n ∧ i = .int .i64 (j : Int) ∧ DgL B k ds w j v wr) (fun _ i _ => n - (intOf i).toNat)
  case atStart => exact ⟨0, Nat.zero_le _, rfl, [], none, 0, rfl, rfl, IsBr.nil _ _, (by simp [rowS, Value.ownBlock]), Below.refl _ _⟩
  case round =>
    obtain ⟨j, hj, rfl, outs, O, cO, rfl, hds, hbr, hnw, hb⟩ := hrel
    have HD := Lib.hid hds
    have HBR := Lib.hid hbr
    have HNW := Lib.hid hnw
    have HB := Lib.hid hb
    have hsz := hb.size
    have cr1 := (hb.cell (p := ⟨g, 1, none⟩) hgl).trans c1
    clear hds hbr hnw hb
    by_cases hlt : j < n
    · have d1 : decide (j < n) = true := by simpa using hlt
      have hjl : j < l.length := by have := HLN.out; omega
      have hjd : j < ds.length := by have := HDN.out; omega
      obtain ⟨b, off, hA, hbl, hcell⟩ := Rd.cells HI.out.br.rd.2.2 (by simpa using (by omega : 0 < l.length))
      have hc := hcell j _ (by rw [List.getElem?_map, List.getElem?_eq_getElem hjl]; rfl)
      have hc' : wr.cell? ⟨b, off + j, none⟩ = some (bv l[j]) := (HB.out.cell hbl).trans hc
      have HTK : Hid (dgs k (ds.take (j + 1)) = dgs k (ds.take j) ++ [datD (k + 1 + j) l[j].d]) := Lib.hid (by
        rw [dgs_take hjd]
        have : ds[j] = l[j].d := by simp [← HDS.out]
        rw [this])
      have hlen := HLL.out l[j] (List.getElem_mem hjl)
      have hBr := Nat.le_trans hB hsz
      have HPR := Lib.hid ((HI.out.br.ok l[j] (List.getElem_mem hjl)).st (Fz.of_below hB HB.out)).rd
      have HS : Hid (k + 1 + j ≤ 1000000000) := Lib.hid (by omega)
      obtain ⟨s, HSS⟩ : ∃ y, Hid (k + 1 + j = y) := ⟨_, Lib.hid rfl⟩
      have HW1 : Hid (IntKind.i64.wrap ((k : Int) + 1) = ((k + 1 : Nat) : Int)) := Lib.hid (by rw [IntWalk.i64_in _ (by omega)]; omega)
      have HW1p : Hid (wrap64 ((k : Int) + 1) = ((k + 1 : Nat) : Int)) := Lib.hid (by unfold wrap64; omega)
      have HW2 : Hid (IntKind.i64.wrap (((k + 1 : Nat) : Int) + (j : Int)) = (s : Int)) := Lib.hid (by rw [IntWalk.i64_in _ (by omega)]; have := HSS.out; omega)
      have HW2p : Hid (wrap64 (((k + 1 : Nat) : Int) + (j : Int)) = (s : Int)) := Lib.hid (by have := HSS.out; unfold wrap64; omega)
      obtain ⟨k1, HK1⟩ : ∃ y, Hid (k + 1 = y) := ⟨_, Lib.hid rfl⟩
      rw [HK1.out] at HW1 HW1p HW2 HW2p
      rw [HSS.out] at HTK HS
      unfold bv at hc'
      generalize l[j].d = md at *
      generalize l[j].a = ma at *
      generalize l[j].c = mc at *
      obtain ⟨dl, HDL⟩ : ∃ x, Hid (md.length = x) := ⟨_, rfl⟩
      rw [HDL.out] at hc' hlen
      have HDC : Hid (Calls Try.prog 22 #[.int .i64 (s : Int), .slice ma dl mc] wr (MadeB B (datD s md) wr)) := Lib.hid (data_calls B s ma dl mc md wr HS.out HDL.out HPR.out (by omega))
      have i0 : (0 : Int) ≤ (j : Int) := by omega
      have i1 : (j : Int) < (n : Int) := by omega
      clear hcell hc
      subst hA
      have hw1 := HW1.out
      have hw1p := HW1p.out
      have hw2 := HW2.out
      have hw2p := HW2p.out
      go_upto_region 5 with (fail)
      go_wp2_with fail
      refine HDC.out.mono ?_
      rintro e w2 ⟨X, cX, rfl, hp2, hb2⟩
      have HP2 := Lib.hid hp2
      have HB2 := Lib.hid hb2
      have hB2 := Nat.le_trans hBr hb2.size
      have HBR2 := Lib.hid (HBR.out.below hBr hb2)
      clear hp2 hb2 hw1 hw1p hw2 hw2p hc' d1 HDC
      obtain ⟨q, HQ⟩ : ∃ y, Hid ((datD s md).length = y) := ⟨_, Lib.hid rfl⟩
      rw [HQ.out]
      have hbo := below1 w2 (.cells #[.slice X q cX] 32)
      have HOA := Lib.hid (own_belowS HBR2.out.ow hbo)
      have HBO := Lib.hid hbo
      clear hbo
      go_upto_region 6 with (at_builtin; refine wpList_appS _ (by rfl) (.tmp 16) (.tmp 26) 28 (by rfl) B 32 (.slice none 0 0) 1 24 Try.underlying28 info_yy rfl (by omega) (.slice O j cO) j (outs.map bv) (by rfl) HOA.out (some ⟨w2.heap.size, 0, none⟩) 1 1 [.slice X q cX] (by rfl) rfl (Rd.new w2 [.slice X q cX] _ _) (by simp [Value.oneCell']) (by simp only [maxLen]; omega) (by omega) (Nat.le_trans hB2 (by simp)) ?_; intro X5 c5 w5 hown5 happ5; have HO5 := Lib.hid hown5; have HP5 := Lib.hid happ5; clear hown5 happ5)
      have HPUSH := Lib.hid ((HBR2.out.below hB2 HBO.out).push (w' := w5) (x := ⟨datD s md, X, cX⟩) (Nat.le_trans hB2 HBO.out.size) (HP2.out.st (Fz.of_below hB2 HBO.out)) (by rw [show bv ⟨datD s md, X, cX⟩ = .slice X q cX by rw [← HQ.out]; rfl]; exact HO5.out) HP5.out)
      have HFI : Hid (DgL B k ds w (j + 1) (.slice X5 (j + 1) c5) w5) := Lib.hid (by
        refine ⟨_, X5, c5, rfl, ?_, HPUSH.out.1, fun b hb => ?_, ?_⟩
        · rw [List.map_append, HD.out, HTK.out]; rfl
        · rcases HPUSH.out.2.2 b hb with h1 | h1
          · exact HNW.out b h1
          · have := HBO.out.size; have := HB2.out.size; omega
        · have h1 := (HB.out.trans (HB2.out.mono hsz)).trans (HBO.out.mono (Nat.le_trans hsz HB2.out.size))
          exact h1.trans (HPUSH.out.2.1.below (Nat.le_trans (Nat.le_trans hsz HB2.out.size) HBO.out.size) (fun x hx => HNW.out x hx)))
      clear HPUSH HBR HBR2 HO5 HP5 HOA HBO HP2
      have hj1 : IntKind.i64.wrap ((j : Int) + 1) = ((j + 1 : Nat) : Int) := by rw [IntWalk.i64_in _ (by omega)]; omega
      obtain ⟨j1, HJ1⟩ : ∃ y, Hid (j + 1 = y) := ⟨_, Lib.hid rfl⟩
      rw [HJ1.out] at hj1 HFI
      have HJN : Hid (j1 ≤ n) := Lib.hid (by have := HJ1.out; omega)
      go_wp2_with fail
      have HJX := HJ1.out
      clear hj1
      exact ⟨⟨j1, HJN.out, rfl, by rw [HJX]; exact HFI.out⟩, by simp only [intOf, Int.toNat_natCast]; omega⟩
    · have hjn : j = n := by omega
      subst hjn
      have d1 : decide (j < j) = false := by simp
      have HF : Hid (∃ outs O' cO', Ending.returned (.slice O j cO) = .returned (.slice O' j cO') ∧ (outs : List Bs).map (·.d) = dgs k ds ∧ IsBr B wr O' j cO' outs ∧ (∀ b ∈ rowS O', w.heap.size ≤ b) ∧ Below w.heap.size w wr) := Lib.hid ⟨outs, O, cO, rfl, by rw [HD.out, List.take_of_length_le (by rw [HDN.out]; exact Nat.le_refl _)], HBR.out, HNW.out, HB.out⟩
      go_wp2_with fail
      go_ret
      exact HF.out
end Tc
end Go.Proofs.Ytjmcmilbkhacdaa
