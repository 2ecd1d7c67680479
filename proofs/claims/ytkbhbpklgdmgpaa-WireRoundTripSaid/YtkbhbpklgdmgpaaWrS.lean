/- Arguments of type []Item; the walk of the law WireAppends. -/
import Derived.Test.YtkbhbpklgdmgpaaWrR
namespace Go.Proofs.Ytkbhbpklgdmgpaa
open Go.ChangeShapes Go.WideShapes Go.ChangeAt Go.RowKit
namespace Wi
open Wr

theorem trod_fields {H : Type} {enc : TypeId × Value → H} {P : Program} {W : World} {b : Nat} {sp : Nat → Bool} {hd : Bool} {k : Nat} {t : TypeId} {cs : List Value} {x : DataW H × List MemPlace} {fs : List Field} (ht : P.underlying t = some (.struct fs.toArray)) (h : DataW.trod enc P W b sp hd k t cs = some x) :
    ∀ f ∈ fs, ∃ n y, DataW.trod enc P W b sp hd n f.type ((cs.drop f.offset).take (P.cellsOf f.type)) = some y := by
  intro f hf
  obtain ⟨xs, n, _, _, _, hl, hg⟩ := DataW.trod_struct ht h
  obtain ⟨i, hi, rfl⟩ := List.getElem_of_mem hf
  have h1 := hg i fs[i] (by simp)
  have hl' : xs.length = fs.length := by simpa using hl
  rw [List.getElem?_eq_getElem (by omega)] at h1
  exact ⟨n, _, h1⟩

theorem open_items {H : Type} {enc : TypeId × Value → H} {W : World} {b : Nat} {sp : Nat → Bool} {hd : Bool} {r : Reach} {b0 : Nat} {v : Value} {d : DataW H} {p : List MemPlace}
    (hv : Value.okWide Try.prog W r b0 28 v) (h : DataW.Trod enc Try.prog W b sp hd 28 v d p) :
    ∃ (A : Option Addr) (n cap : Nat) (cs : List It), v = .slice A n cap ∧ n ≤ cap ∧ cap ≤ maxLen ∧ cs.length = n ∧ RdI W A cs ∧ ∀ c ∈ cs, c.fits ∧ c.s.size ≤ maxLen := by
  obtain ⟨A, n, cap, rows, rfl, h1, h2, h3, h4, h5⟩ := open_elems Try.underlying28 7 (by kernel_rfl) (by decide) hv h
  have c1 : Try.prog.cellsOf 5 = 1 := by kernel_rfl
  have c2 : Try.prog.cellsOf 22 = 1 := by kernel_rfl
  have c3 : Try.prog.cellsOf 2 = 1 := by kernel_rfl
  have c4 : Try.prog.cellsOf 9 = 1 := by kernel_rfl
  have c5 : Try.prog.cellsOf 32 = 2 := by kernel_rfl
  have c6 : Try.prog.cellsOf 4 = 1 := by kernel_rfl
  have c7 : Try.prog.cellsOf 3 = 1 := by kernel_rfl
  obtain ⟨cs, rfl, hcs⟩ := rows_of (g := It.cells) (Q := fun c => c.fits ∧ c.s.size ≤ maxLen) rows (fun r hr => by
    obtain ⟨hl, k, y, ht⟩ := h5 r hr
    have hf := trod_fields Try.underlying34 ht
    match r, hl with
    | [u0, u1, u2, u3, u4, u5, u6], _ =>
      obtain ⟨_, _, t0⟩ := hf _ (.head _)
      obtain ⟨_, _, t1⟩ := hf _ (.tail _ (.head _))
      obtain ⟨_, _, t2⟩ := hf _ (.tail _ (.tail _ (.head _)))
      obtain ⟨_, _, t3⟩ := hf _ (.tail _ (.tail _ (.tail _ (.head _))))
      obtain ⟨_, _, t4⟩ := hf _ (.tail _ (.tail _ (.tail _ (.tail _ (.head _)))))
      obtain ⟨_, _, t5⟩ := hf _ (.tail _ (.tail _ (.tail _ (.tail _ (.tail _ (.head _))))))
      clear hf
      simp only [c1, c2, c3, c4, c5, c6, List.drop_zero, List.take_succ_cons, List.take_zero, List.drop_succ_cons] at t0 t1 t2 t3 t4 t5
      obtain ⟨n0, e0, _, w0⟩ := DataW.trod_int Try.underlying5 t0
      obtain ⟨n1, e1, _, w1⟩ := DataW.trod_int Try.underlying22 t1
      obtain ⟨n2, e2, _, w2⟩ := DataW.trod_int Try.underlying2 t2
      obtain ⟨s3, e3, _, w3⟩ := DataW.trod_string Try.underlying9 t3
      have hg := trod_fields Try.underlying32 t4
      obtain ⟨b5, e5, _⟩ := DataW.trod_bool Try.underlying4 t5
      obtain ⟨_, _, s0⟩ := hg _ (.head _)
      obtain ⟨_, _, s1⟩ := hg _ (.tail _ (.head _))
      clear hg
      simp only [c7, List.drop_zero, List.take_succ_cons, List.take_zero, List.drop_succ_cons] at s0 s1
      obtain ⟨m0, f0, _, _⟩ := DataW.trod_int Try.underlying3 s0
      obtain ⟨m1, f1, _, _⟩ := DataW.trod_int Try.underlying3 s1
      cases e0; cases e1; cases e2; cases e3; cases e5; cases f0; cases f1
      obtain ⟨x0, rfl⟩ := wf_u8 w0
      obtain ⟨x1, rfl⟩ := wf_u64 w1
      have hb := bounds_i64 w2
      exact ⟨⟨x0, x1, n2, s3, m0, m1, b5⟩, rfl, hb, w3⟩)
  exact ⟨A, n, cap, cs, rfl, h1, h2, by simpa using h3, h4, hcs⟩

theorem Ext.of_OB {w : World} {B k c : Nat} {X : Option Addr} {l : List UInt8} (h : OB w B (.slice X k c) l) (hk : k = l.length) : Ext w B (.slice X k c) l (.slice X k c) w := by
  subst hk
  exact ⟨X, c, rfl, h, App.refl _ _⟩
theorem sameB_self (l : List UInt8) : sameB l l = true := by simp [sameB]

def Tru (w : World) (e : Ending) (w' : World) : Prop := e = .returned (.bool true) ∧ Below w.heap.size w w'

set_option maxRecDepth 100000 in
set_option maxHeartbeats 2000000 in
theorem appends_law (w : World) (A : Option Addr) (n ca : Nat) (l : List UInt8) (hl : l.length = n) (_hnc : n ≤ ca) (hcm : ca ≤ maxLen) (hr : RB w A l)
    (C : Option Addr) (m cc : Nat) (cs : List It) (hn : cs.length = m) (hmc : m ≤ cc) (hcc : cc ≤ maxLen) (hri : RdI w C cs) (hf : ∀ c ∈ cs, c.fits ∧ c.s.size ≤ maxLen) :
    Calls Try.prog 4 #[.slice A n ca, .slice C m cc] w (Tru w) := by
  have HL := Lib.hid hl
  have HR := Lib.hid hr
  have HN := Lib.hid hn
  have HRI := Lib.hid hri
  have HF := Lib.hid hf
  have hcm' := hcm
  have hcc' := hcc
  unfold maxLen at hcm' hcc'
  clear hl hr hn hri hf
  cases hlg : longB cs with
  | true =>
    have HLG := Lib.hid hlg
    clear hlg
    go_enter Try.func4, Try.ntmps4
    go_wp2_with fail; refine (awake_calls w).mono ?_; rintro e w1 ⟨rfl, hb⟩; have B1 := Lib.hid hb; clear hb; go_wp2_with fail
    refine (long_calls C m cc cs w1 HN.out hmc hcc (HRI.out.below B1.out) (fun x hx => (HF.out x hx).2)).mono ?_
    rintro e w2 ⟨rfl, rfl⟩
    rw [HLG.out]
    go_wp2_with fail
    go_ret
    exact ⟨rfl, B1.out⟩
  | false =>
    have HLG := Lib.hid hlg
    have HSH := Lib.hid (longB_short hlg)
    have hm30 : m ≤ 30 := by have h1 := (longB_short hlg).1; have h2 := HN.out; omega
    clear hlg
    by_cases hb : 1000 < n
    · have d1 : decide ((1000 : Int) < (n : Int)) = true := by simp; omega
      go_enter Try.func4, Try.ntmps4
      go_wp2_with fail; refine (awake_calls w).mono ?_; rintro e w1 ⟨rfl, hb⟩; have B1 := Lib.hid hb; clear hb; go_wp2_with fail
      refine (long_calls C m cc cs w1 HN.out hmc hcc (HRI.out.below B1.out) (fun x hx => (HF.out x hx).2)).mono ?_
      rintro e w2 ⟨rfl, rfl⟩
      rw [HLG.out]
      go_wp2_with fail
      go_ret
      exact ⟨rfl, B1.out⟩
    · have d1 : decide ((1000 : Int) < (n : Int)) = false := by simp; omega
      have hn1000 : n ≤ 1000 := by omega
      go_enter Try.func4, Try.ntmps4
      go_wp2_with fail; refine (awake_calls w).mono ?_; rintro e w1 ⟨rfl, hb⟩; have B1 := Lib.hid hb; clear hb; go_wp2_with fail
      refine (long_calls C m cc cs w1 HN.out hmc hcc (HRI.out.below B1.out) (fun x hx => (HF.out x hx).2)).mono ?_
      rintro e w2 ⟨rfl, rfl⟩
      rw [HLG.out]
      go_wp2_with fail
      go_loopw [5] (fun i wr => ∃ k : Nat, k ≤ m ∧ i = .int .i64 k ∧ Below w.heap.size w wr) (fun i _ => m - (intOf i).toNat)
      case atStart => exact ⟨0, by omega, rfl, B1.out⟩
      case round =>
        obtain ⟨k, hk, rfl, hb⟩ := hrel
        have HB := Lib.hid hb
        have RL := Lib.hid (RB.below HR.out hb)
        have RC := Lib.hid (HRI.out.below hb)
        have hws := hb.size
        clear hb
        by_cases hlt : k < m
        · have hkl : k < cs.length := by rw [HN.out]; exact hlt
          obtain ⟨b, off, rfl, hbw, hc⟩ := RC.out.cells (by omega)
          have hfx := HF.out cs[k] (List.getElem_mem hkl)
          have hsx := HSH.out.2 cs[k] (List.getElem_mem hkl)
          have hck := hc k hkl
          generalize cs[k] = x at *
          have HC := Lib.hid hck
          clear hck hc
          obtain ⟨L, HLL⟩ : ∃ L, Hid (L = l ++ encIt x) := ⟨_, rfl⟩
          have HW : Hid (∀ X c q w', OB w' wr.heap.size (.slice X q c) l → q = l.length → Below wr.heap.size wr w' → Calls Try.prog 14 #[.slice X q c, x.val] w' (fun e w4 => ∃ X c q, e = .returned (.slice X q c) ∧ q = L.length ∧ RB w4 X L ∧ Below wr.heap.size wr w4)) := by
            intro X c q w' ho hq hs
            rw [HLL.out]
            refine (write_calls wr.heap.size _ l x w' (Ext.of_OB ho hq) (by have := HL.out; omega) hs.size hfx.1 (by omega)).mono ?_
            rintro e w4 ⟨v4, rfl, hx4⟩
            have hb4 := hs.trans (Ext.below (Ext.of_OB ho hq) hs.size hx4)
            obtain ⟨X4, c4, rfl, _, _, hr4⟩ := hx4.read
            exact ⟨X4, c4, _, rfl, rfl, hr4, hb4⟩
          have HM : Hid (∀ w', Below wr.heap.size wr w' → Calls Try.prog 15 #[.slice A n ca, x.val] w' (NewB w' L)) := by
            intro w' hb
            rw [HLL.out]
            exact model_calls A n ca l x w' HL.out (RB.below RL.out hb) (by omega) hfx.1 (by omega)
          obtain ⟨kd, xn, xi, xs, xm, xq, xb⟩ := x
          unfold It.val It.cells at HW HM
          simp only at HW HM
          have x0 : ∀ w', Below wr.heap.size wr w' → w'.cell? ⟨b, off + k * 7, none⟩ = some (vb kd) := fun w' h => (h.cell (p := ⟨b, off + k * 7, none⟩) hbw).trans (HC.out 0 _ (by omega) rfl)
          have x1 : ∀ w', Below wr.heap.size wr w' → w'.cell? ⟨b, off + k * 7 + 1, none⟩ = some (vw xn) := fun w' h => (h.cell (p := ⟨b, off + k * 7 + 1, none⟩) hbw).trans (HC.out 1 _ (by omega) rfl)
          have x2 : ∀ w', Below wr.heap.size wr w' → w'.cell? ⟨b, off + k * 7 + 2, none⟩ = some (.int .i64 xi) := fun w' h => (h.cell (p := ⟨b, off + k * 7 + 2, none⟩) hbw).trans (HC.out 2 _ (by omega) rfl)
          have x3 : ∀ w', Below wr.heap.size wr w' → w'.cell? ⟨b, off + k * 7 + 3, none⟩ = some (.string xs) := fun w' h => (h.cell (p := ⟨b, off + k * 7 + 3, none⟩) hbw).trans (HC.out 3 _ (by omega) rfl)
          have x4 : ∀ w', Below wr.heap.size wr w' → w'.cell? ⟨b, off + k * 7 + 4, none⟩ = some (.int .i64 xm) := fun w' h => (h.cell (p := ⟨b, off + k * 7 + 4, none⟩) hbw).trans (HC.out 4 _ (by omega) rfl)
          have x5 : ∀ w', Below wr.heap.size wr w' → w'.cell? ⟨b, off + k * 7 + 5, none⟩ = some (.int .i64 xq) := fun w' h => (h.cell (p := ⟨b, off + k * 7 + 5, none⟩) hbw).trans (HC.out 5 _ (by omega) rfl)
          have x6 : ∀ w', Below wr.heap.size wr w' → w'.cell? ⟨b, off + k * 7 + 6, none⟩ = some (.bool xb) := fun w' h => (h.cell (p := ⟨b, off + k * 7 + 6, none⟩) hbw).trans (HC.out 6 _ (by omega) rfl)
          have i0 : (0 : Int) ≤ (k : Int) := by omega
          have i1 : (k : Int) < (m : Int) := by omega
          clear hfx hsx
          go_wp2_with fail
          go_region_held3 (fun w' => Below wr.heap.size wr w') (first | exact (Below.refl _ _).drew | exact ((Below.refl _ _).drew.alloc (by simp) _) | assumption) (first | (refine st_app0 _ rfl (.tmp 21) (.tmp 22) rfl l rfl A n ca rfl HL.out (RB.below RL.out (Below.refl _ _).drew) (by omega) ?_; intro X1 c1 k1 w3 HK1 hk1 hk1' HO1 HB1 hs1; have hb3 : Below wr.heap.size wr w3 := (Below.refl _ _).drew.trans HB1.out) | (go_at_call 14; refine (HW.out _ _ _ _ (HO1.out.base (Nat.le_refl _)) HK1.out hb3).mono ?_; rintro e w4 ⟨X4, c4, k4, rfl, hk4, hr4, hb4⟩; have HK4 := Lib.hid hk4; have HR4 := Lib.hid hr4; clear hk4 hr4) | (go_at_call 15; refine (HM.out _ hb4).mono ?_; rintro e w5 ⟨X5, c5, k5, rfl, hk5, ho5, hb5⟩; have HO5 := Lib.hid ho5; have HK5 := Lib.hid hk5; have HB5 := Lib.hid hb5; have hb6 : Below wr.heap.size wr w5 := hb4.trans (hb5.mono hb4.size); clear hk5 ho5 hb5) | (go_at_call 12; refine (same_calls X4 X5 k4 k5 c4 c5 L L w5 HK4.out.symm HK5.out.symm (RB.below HR4.out HB5.out) HO5.out.rb.1).mono ?_; rw [sameB_self]; rintro e w6 ⟨rfl, rfl⟩))
          have HB6 := Lib.hid (HB.out.trans (hb6.mono hws))
          clear x0 x1 x2 x3 x4 x5 x6 hb3 hb4 hb6
          go_wp2_with fail
          go_roundw
          case rel => exact ⟨k + 1, by omega, by go_num, HB6.out⟩
          case measure => simp [intOf]; omega
        · have hkm : Hid (k = m) := by show _ = _; omega
          go_wp2_with fail
          go_ret
          exact ⟨rfl, HB.out⟩
end Wi
end Go.Proofs.Ytkbhbpklgdmgpaa
