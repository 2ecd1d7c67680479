/- The walk of channel.Receive. -/
import Derived.Test.YtjmcmilbkhacdaaTnM
namespace Go.Proofs.Ytjmcmilbkhacdaa
open Go.RowKit Go.Shelf
open Wi Wr
namespace Tc
/-- a datagram was taken by the receiver -/
def RecP (B g q r n : Nat) (E : Nat → Option Bs) (s : Nat) (l : List UInt8) (w : World) (e : Ending) (w' : World) : Prop := AccP B g q r n E s l w e w'
theorem AccP.from {B g q r n : Nat} {E : Nat → Option Bs} {s : Nat} {l : List UInt8} {w w1 w' : World} {e : Ending} (h : AccP B g q r n E s l w1 e w') (hb : Below w.heap.size w w1) : AccP B g q r n E s l w e w' := by
  obtain ⟨r', E', out, O, cO, n', h1, h2, h3, h4, h5, h6, h7⟩ := h
  exact ⟨r', E', out, O, cO, n', h1, h2, h3, h4, fun b hm => Nat.le_trans hb.size (h5 b hm), (Chg.of_below hb _).trans' h6, h7⟩
theorem uintR_dat (s : Nat) (p : List UInt8) (hs : s ≤ 1000000000) : uintR ⟨enc s ++ p, 0⟩ = (s, ⟨p, 0⟩) := by
  rw [uintR_some ⟨enc s ++ p, 0⟩ rfl (parse_enc s (by omega) p)]
  simp
set_option maxRecDepth 100000 in
set_option maxHeartbeats 4000000 in
theorem recv_data (B g q r n : Nat) (E : Nat → Option Bs) (s : Nat) (p : List UInt8) (a : Option Addr) (ca L : Nat) (w : World) (h : IsC B w g q r n E) (hB : B ≤ w.heap.size) (hL : L ≤ 100000) (hr : r ≤ L) (hs : s ≤ L) (hs0 : 0 < s) (hsr : s ≤ r + 1024) (hk : ∀ t x, E t = some x → t ≤ L) (hn : n ≤ 100000000) (hp : Pl B w a (datD s p) ca) (hm : p.length ≤ 1000) :
    Calls Try.prog 19 #[.pointer (some ⟨g, 0, none⟩), .slice a (datD s p).length ca] w (AccP B g q r n E s p w) := by
  have HI := Lib.hid h
  have HKY := Lib.hid hk
  have h9 := enc_le9 s
  have HRU : Hid (uintR ⟨enc s ++ p, 0⟩ = (s, ⟨p, 0⟩)) := Lib.hid (uintR_dat s p (by omega))
  have hlen : (datD s p).length = 1 + (enc s).length + p.length := by simp [datD]; omega
  have HRB := Lib.hid hp.rd
  have hle := hp.c1
  have HTL : Hid ((enc s ++ p).length = (datD s p).length - 1) := Lib.hid (by rw [hlen]; simp; omega)
  have HDR : Hid ((datD s p).drop ((datD s p).length - p.length) = p) := Lib.hid (by
    rw [hlen, show 1 + (enc s).length + p.length - p.length = (1 :: enc s).length by simp; omega, show datD s p = (1 :: enc s) ++ p from rfl, List.drop_left])
  have H1 := Lib.hid (RB.cut HRB.out 1 ca hle)
  have hd1 : (datD s p).drop 1 = enc s ++ p := rfl
  rw [hd1] at H1
  obtain ⟨b, off, rfl, hbl, hcell⟩ := RB.cells HRB.out (by rw [hlen]; omega)
  have hc0 : w.cell? ⟨b, off, none⟩ = some (.int .u8 1) := by
    have := hcell 0 (by rw [hlen]; omega)
    simpa [datD, vb] using this
  have HCU := Lib.hid (RB.cut HRB.out ((datD s p).length - p.length) ca hle)
  rw [HDR.out] at HCU
  have hcut1 : ∀ w', (Instr.slice 32 (.slice (some ⟨b, off, none⟩) (datD s p).length ca) (some (.int .i64 1)) none none).run Try.prog w' = .ok (.slice (cutA (some ⟨b, off, none⟩) 1 ca) ((datD s p).length - 1) (ca - 1)) w' := fun w' => run_cut_l Try.underlying32 (by kernel_rfl) size_u8 _ _ _ 1 (by rw [hlen]; omega) w'
  obtain ⟨N, HN⟩ : ∃ y, Hid ((datD s p).length = y) := ⟨_, Lib.hid rfl⟩
  have hN9 : N ≤ 1010 ∧ 0 < N ∧ p.length ≤ N := by rw [← HN.out, hlen]; omega
  rw [HN.out] at HTL HDR HCU hcut1 hle ⊢
  obtain ⟨pl, HPL⟩ : ∃ y, Hid (p.length = y) := ⟨_, Lib.hid rfl⟩
  rw [HPL.out] at HDR HCU hN9 hm
  obtain ⟨kk, HKK⟩ : ∃ y, Hid (N - pl = y) := ⟨_, Lib.hid rfl⟩
  rw [HKK.out] at HDR HCU
  have hkn : kk ≤ N ∧ N - kk = pl := by have := HKK.out; omega
  have hcut2 : ∀ w', (Instr.slice 32 (.slice (some ⟨b, off, none⟩) N ca) (some (.int .i64 (kk : Int))) none none).run Try.prog w' = .ok (.slice (cutA (some ⟨b, off, none⟩) kk ca) pl (ca - kk)) w' := fun w' => by
    have := run_cut_l (P := Try.prog) Try.underlying32 (by kernel_rfl) size_u8 (some ⟨b, off, none⟩) N ca kk hkn.1 w'
    rw [hkn.2] at this
    exact this
  have HW : Hid (IntKind.i64.wrap ((N : Int) - (pl : Int)) = (kk : Int)) := Lib.hid (by rw [IntWalk.i64_in _ (by omega)]; omega)
  have HW2 : Hid (wrap64 ((N : Int) - (pl : Int)) = (kk : Int)) := Lib.hid (by unfold wrap64; omega)
  have q0 : ((N : Int) == 0) = false := by rw [beq_eq_false_iff_ne]; omega
  have i0 : (0 : Int) < (N : Int) := by omega
  have d0 : decide (0 < s) = true := by rw [decide_eq_true_eq]; exact hs0
  have d0i : decide ((0 : Int) < (s : Int)) = true := by rw [decide_eq_true_eq]; omega
  have HR := Lib.hid (newReader_calls _ (N - 1) (ca - 1) _ w HTL.out H1.out (by omega))
  clear h hk hp hd1 h9 hlen hcell H1 HTL hkn HRB
  go_enter Try.func19, Try.ntmps19
  go_wp2_with fail
  refine HR.out.mono ?_
  rintro e w1 ⟨rg, rfl, hg, hgl, hb1⟩
  have HG := Lib.hid hg
  have B1 := Lib.hid hb1
  clear hg hb1 HR
  go_wp2_with fail
  refine (uint_calls rg _ w1 HG.out).mono ?_
  unfold UintPost
  rw [HRU.out]
  rintro e w2 ⟨rfl, hg2, hc2⟩
  have HG2 := Lib.hid hg2
  have B2 := Lib.hid (B1.out.trans (hc2.below B1.out.size (by simpa using hgl)))
  clear hg2 hc2 HG B1
  have HLC := Lib.hid (left_calls rg _ w2 HG2.out)
  have HDC := Lib.hid (done_calls rg _ w2 HG2.out)
  rw [HPL.out] at HLC
  have HB2 : Hid (B ≤ w2.heap.size) := Lib.hid (Nat.le_trans hB B2.out.size)
  have HAC : Hid (Calls Try.prog 32 #[.pointer (some ⟨g, 0, none⟩), .int .u64 (s : Int), .slice (cutA (some ⟨b, off, none⟩) kk ca) pl (ca - kk)] w2 (AccP B g q r n E s p w)) := Lib.hid ((accept_calls B g q r n E s p _ pl (ca - kk) L w2 (HI.out.st (Chg.of_below B2.out []) (by simp) (Fz.of_below hB B2.out)) HB2.out hL hr hs hsr HKY.out hn HPL.out (HCU.out.below B2.out) (by omega)).mono (fun e w' h => AccP.from h B2.out))
  have hc2 := (B2.out.cell (p := ⟨b, off, none⟩) hbl).trans hc0
  have hwx := HW.out
  have hwx2 := HW2.out
  by_cases hz : pl = 0
  · have hdn : doneR ⟨p, 0⟩ = 0 := by unfold doneR; rw [if_neg (by simp [HPL.out, hz])]
    rw [hdn] at HDC
    have q1 : ((pl : Int) == 0) = true := by rw [beq_iff_eq]; omega
    clear hdn hz
    go_wp2_with (first | (go_at_call 30; refine HLC.out.mono ?_; rintro e w3 ⟨rfl, rfl⟩) | (go_at_call 31; refine HDC.out.mono ?_; rintro e w3 ⟨rfl, rfl⟩))
    refine HAC.out.mono ?_
    intro e w3 hp
    obtain ⟨O, oN, cO, rfl⟩ : ∃ O oN cO, e = .returned (.tuple #[.slice O oN cO, .int .i64 0]) := by
      obtain ⟨_, _, _, _, _, _, he, _⟩ := hp
      exact ⟨_, _, _, he⟩
    have HP := Lib.hid hp
    clear hp HAC HLC HDC
    go_wp2_with fail
    go_ret2
    exact HP.out
  · have q1 : ((pl : Int) == 0) = false := by rw [beq_eq_false_iff_ne]; omega
    go_wp2_with (first | (go_at_call 30; refine HLC.out.mono ?_; rintro e w3 ⟨rfl, rfl⟩) | (go_at_call 31; refine HDC.out.mono ?_; rintro e w3 ⟨rfl, rfl⟩))
    refine HAC.out.mono ?_
    intro e w3 hp
    obtain ⟨O, oN, cO, rfl⟩ : ∃ O oN cO, e = .returned (.tuple #[.slice O oN cO, .int .i64 0]) := by
      obtain ⟨_, _, _, _, _, _, he, _⟩ := hp
      exact ⟨_, _, _, he⟩
    have HP := Lib.hid hp
    clear hp HAC HLC HDC
    go_wp2_with fail
    go_ret2
    exact HP.out
/-- an acknowledgement was taken -/
def RacP (B g : Nat) (A : Option Addr) (m : Value) (S k N : Nat) (l : List Bs) (w : World) (e : Ending) (w' : World) : Prop :=
  e = .returned (.tuple #[.slice none 0 0, .int .i64 0]) ∧ ∃ A' n' c', IsA B w' g A' n' c' m S (max k N) (l.drop (N - k)) ∧ Chg (aS g A) w w' ∧ ∀ b ∈ rowS A', b ∈ rowS A ∨ w.heap.size ≤ b
theorem uintR_ack (N : Nat) (hN : N ≤ 1000000000) : uintR ⟨enc N, 0⟩ = (N, ⟨[], 0⟩) := by
  have := uintR_dat N [] hN
  rwa [List.append_nil] at this
set_option maxRecDepth 100000 in
set_option maxHeartbeats 4000000 in
theorem recv_ack (B g n c : Nat) (A : Option Addr) (m : Value) (S k N : Nat) (l : List Bs) (a : Option Addr) (ca : Nat) (w : World) (h : IsA B w g A n c m S k l) (hB : B ≤ w.heap.size) (hS : S ≤ 100000000) (hn : n ≤ 100000) (hN : N ≤ S) (hk : k + n = S) (hp : Pl B w a (ackD N) ca) :
    Calls Try.prog 19 #[.pointer (some ⟨g, 0, none⟩), .slice a (ackD N).length ca] w (RacP B g A m S k N l w) := by
  have HI := Lib.hid h
  have h9 := enc_le9 N
  have HRU : Hid (uintR ⟨enc N, 0⟩ = (N, ⟨[], 0⟩)) := Lib.hid (uintR_ack N (by omega))
  have hlen : (ackD N).length = 1 + (enc N).length := by simp [ackD]; omega
  have HRB := Lib.hid hp.rd
  have hle := hp.c1
  have HTL : Hid ((enc N).length = (ackD N).length - 1) := Lib.hid (by rw [hlen]; omega)
  have H1 := Lib.hid (RB.cut HRB.out 1 ca hle)
  have hd1 : (ackD N).drop 1 = enc N := rfl
  rw [hd1] at H1
  obtain ⟨b, off, rfl, hbl, hcell⟩ := RB.cells HRB.out (by rw [hlen]; omega)
  have hc0 : w.cell? ⟨b, off, none⟩ = some (.int .u8 2) := by
    have := hcell 0 (by rw [hlen]; omega)
    simpa [ackD, vb] using this
  have hcut1 : ∀ w', (Instr.slice 32 (.slice (some ⟨b, off, none⟩) (ackD N).length ca) (some (.int .i64 1)) none none).run Try.prog w' = .ok (.slice (cutA (some ⟨b, off, none⟩) 1 ca) ((ackD N).length - 1) (ca - 1)) w' := fun w' => run_cut_l Try.underlying32 (by kernel_rfl) size_u8 _ _ _ 1 (by rw [hlen]; omega) w'
  obtain ⟨z, HN⟩ : ∃ y, Hid ((ackD N).length = y) := ⟨_, Lib.hid rfl⟩
  have hN9 : z ≤ 1010 ∧ 0 < z := by rw [← HN.out, hlen]; omega
  rw [HN.out] at HTL hcut1 hle ⊢
  have q0 : ((z : Int) == 0) = false := by rw [beq_eq_false_iff_ne]; omega
  have i0 : (0 : Int) < (z : Int) := by omega
  have HR := Lib.hid (newReader_calls _ (z - 1) (ca - 1) _ w HTL.out H1.out (by omega))
  clear h hp hd1 h9 hlen hcell H1 HTL HRB
  go_enter Try.func19, Try.ntmps19
  go_wp2_with fail
  refine HR.out.mono ?_
  rintro e w1 ⟨rg, rfl, hg, hgl, hb1⟩
  have HG := Lib.hid hg
  have B1 := Lib.hid hb1
  clear hg hb1 HR
  go_wp2_with fail
  refine (uint_calls rg _ w1 HG.out).mono ?_
  unfold UintPost
  rw [HRU.out]
  rintro e w2 ⟨rfl, hg2, hc2⟩
  have HG2 := Lib.hid hg2
  have B2 := Lib.hid (B1.out.trans (hc2.below B1.out.size (by simpa using hgl)))
  clear hg2 hc2 HG B1
  have HLC : Hid (Calls Try.prog 30 #[.pointer (some ⟨rg, 0, none⟩)] w2 fun e w' => e = .returned (.int .i64 0) ∧ w2 = w') := Lib.hid (left_calls rg _ w2 HG2.out)
  have HDC : Hid (Calls Try.prog 31 #[.pointer (some ⟨rg, 0, none⟩)] w2 fun e w' => e = .returned (.int .i64 0) ∧ w2 = w') := Lib.hid (done_calls rg _ w2 HG2.out)
  have HB2 : Hid (B ≤ w2.heap.size) := Lib.hid (Nat.le_trans hB B2.out.size)
  have HAC := Lib.hid (acknowledge_calls B g n c A m S k N l w2 (HI.out.st (Chg.of_below B2.out []) (by simp) (Fz.of_below hB B2.out)) HB2.out hS hn hN hk)
  have hc2 := (B2.out.cell (p := ⟨b, off, none⟩) hbl).trans hc0
  go_wp2_with (first | (go_at_call 30; refine HLC.out.mono ?_; rintro e w3 ⟨rfl, rfl⟩) | (go_at_call 31; refine HDC.out.mono ?_; rintro e w3 ⟨rfl, rfl⟩))
  refine HAC.out.mono ?_
  rintro e w3 ⟨rfl, A', n', c', h1, h2, h3⟩
  have HP : Hid (RacP B g A m S k N l w (.returned (.tuple #[.slice none 0 0, .int .i64 0])) w3) := Lib.hid ⟨rfl, A', n', c', h1, (Chg.of_below B2.out _).trans' h2, fun b hb => (h3 b hb).imp id (fun h => Nat.le_trans B2.out.size h)⟩
  clear h1 h2 h3 HAC HLC HDC
  go_wp2_with fail
  go_ret2
  exact HP.out
end Tc
end Go.Proofs.Ytjmcmilbkhacdaa
