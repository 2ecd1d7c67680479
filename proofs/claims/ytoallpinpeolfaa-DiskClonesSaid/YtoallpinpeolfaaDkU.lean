/- A disk of the call's own, beside blocks that it leaves alone. -/
import Derived.Test.YtoallpinpeolfaaDkG
namespace Go.Proofs.Ytoallpinpeolfaa
open Go.RowKit
namespace Dk

theorem _root_.Go.World.ownsRow.older {B B' sz n : Nat} {e : TypeId} {v : Value} {xs : List Value} {w : World} (h : w.ownsRow B e sz v n xs) (hb : B' ≤ B) : w.ownsRow B' e sz v n xs := by
  refine ⟨h.1, ?_⟩
  rcases h.2 with h | ⟨g, cap, cur, h1, h2, h3⟩
  · exact .inl h
  · exact .inr ⟨g, cap, cur, h1, Nat.le_trans hb h2, h3⟩

theorem DkP.of_below {w w' : World} {g : Nat} {M E : List Nat} {D : St} (h : IsD w g M E D) (hb : Below w.heap.size w w') : DkP w g M E D w' :=
  ⟨M, E, h.below hb, Chg.of_below hb M, fun _ h => .inl h, fun _ h => .inl h⟩
theorem DkP.of_g {w w' : World} {g : Nat} {M E : List Nat} {D : St} (h : IsD w' g M E D) (hg : g ∈ M) (hb : Chg [g] w w') : DkP w g M E D w' :=
  ⟨M, E, h, hb.mono (by simp; exact hg), fun _ h => .inl h, fun _ h => .inl h⟩

/-- a disk that was made since w0 -/
def Own (w0 : World) (g : Nat) (D : St) (w : World) : Prop := ∃ M E, IsD w g M E D ∧ (∀ x ∈ M, w0.heap.size ≤ x) ∧ Below w0.heap.size w0 w
theorem Own.b {w0 w : World} {g : Nat} {D : St} (h : Own w0 g D w) : Below w0.heap.size w0 w := by obtain ⟨_, _, _, _, h⟩ := h; exact h
theorem Own.ok {w0 w : World} {g : Nat} {D : St} (h : Own w0 g D w) : D.ok := by obtain ⟨_, _, h, _⟩ := h; exact h.ok
theorem Own.below {w0 w w' : World} {g : Nat} {D : St} (h : Own w0 g D w) (hb : Below w.heap.size w w') : Own w0 g D w' := by
  obtain ⟨M, E, h1, h2, h3⟩ := h
  exact ⟨M, E, h1.below hb, h2, h3.trans (hb.mono h3.size)⟩
theorem Own.dk {w0 w w' : World} {g : Nat} {D' : St} {M E : List Nat} (hM : ∀ x ∈ M, w0.heap.size ≤ x) (hb : Below w0.heap.size w0 w) (hd : DkP w g M E D' w') : Own w0 g D' w' := by
  obtain ⟨M', E', k1, k2, k3, _⟩ := hd
  refine ⟨M', E', k1, fun x hx => ?_, hb.trans (k2.below hb.size hM)⟩
  rcases k3 x hx with h | h
  · exact hM x h
  · exact Nat.le_trans hb.size h
theorem RB.of_own {w : World} {B n c : Nat} {X : Option Addr} {l : List UInt8} (h : w.ownsRow B 5 1 (.slice X n c) n (l.map vb)) : RB w X l := by
  obtain ⟨_, _, e1, _, _, _, hr⟩ := own_form h
  cases e1; exact hr

section
variable {w0 : World} {g : Nat} {D : St} {w : World}
theorem own_write (h : Own w0 g D w) (s : Int) (B : Option Addr) (n c : Nat) (l : List UInt8) (hn : l.length = n) (hr : RB w B l) (hnm : n ≤ 9223372036854775807) (hs : -9223372036854775808 ≤ s) (hs2 : s ≤ 9223372036854775807) (hp : D.p.length ≤ 10000) :
    Calls Try.prog 14 #[.pointer (some ⟨g, 0, none⟩), .int .i64 s, .slice B n c] w fun e w' => e = .returned (.int .i64 (writeE D s l)) ∧ Own w0 g (writeD D s l) w' := by
  obtain ⟨M, E, h1, h2, h3⟩ := h
  exact (write_calls g M E D s B n c l w h1 hn hr hnm hs hs2 hp).mono fun _ _ ⟨a, b⟩ => ⟨a, Own.dk h2 h3 b⟩
theorem own_read (h : Own w0 g D w) (s k : Int) (hs : -9223372036854775808 ≤ s) (hs2 : s ≤ 9223372036854775807) :
    Calls Try.prog 16 #[.pointer (some ⟨g, 0, none⟩), .int .i64 s, .int .i64 k] w fun e w' => ∃ X n c, e = .returned (.tuple #[.slice X n c, .int .i64 (readE D s k)]) ∧ n = (readL D s k).length ∧ RB w' X (readL D s k) ∧ n ≤ c ∧ Own w0 g D w' := by
  obtain ⟨M, E, h1, h2, h3⟩ := h
  refine (read_calls g M E D s k w h1 hs hs2).mono ?_
  rintro e w' ⟨X, n, c, rfl, hn, ho, hb⟩
  obtain ⟨_, _, e1, hnc, _, _, hr⟩ := own_form ho
  cases e1
  exact ⟨X, n, c, rfl, hn, hr, hnc, M, E, h1.below hb, h2, h3.trans (hb.mono h3.size)⟩
theorem own_crash (h : Own w0 g D w) (Z : Option Addr) (zn zc : Nat) (sv : List Int) (hz : sv.length = zn) (hr : Rd w0 Z (sv.map (Value.int .i64))) :
    Calls Try.prog 15 #[.pointer (some ⟨g, 0, none⟩), .slice Z zn zc] w fun e w' => e = .returned (.tuple #[]) ∧ Own w0 g (crashD D sv) w' := by
  obtain ⟨M, E, h1, h2, h3⟩ := h
  refine (crash_calls g M E D Z zn zc sv w h1 hz (Rd.below hr h3) (fun hsv b off e hm => ?_)).mono fun _ _ ⟨a, b⟩ => ⟨a, Own.dk h2 h3 b⟩
  have := h2 b hm
  obtain ⟨b', off', e', hb', _⟩ := Rd.cells hr (by rw [List.length_map]; exact List.length_pos_iff.2 hsv)
  rw [e] at e'; cases e'; omega
/-- Crash whose cells were made since, outside the disk -/
theorem own_crash_own (h : Own w0 g D w) (Z : Option Addr) (zn zc : Nat) (sv : List Int) (hz : sv.length = zn) (hr : Rd w Z (sv.map (Value.int .i64))) (hZ : ∀ M E, IsD w g M E D → ∀ b off, Z = some ⟨b, off, none⟩ → b ∉ M) :
    Calls Try.prog 15 #[.pointer (some ⟨g, 0, none⟩), .slice Z zn zc] w fun e w' => e = .returned (.tuple #[]) ∧ Own w0 g (crashD D sv) w' := by
  obtain ⟨M, E, h1, h2, h3⟩ := h
  exact (crash_calls g M E D Z zn zc sv w h1 hz hr (fun _ => hZ M E h1)).mono fun _ _ ⟨a, b⟩ => ⟨a, Own.dk h2 h3 b⟩
/-- Crash with a literal's cells -/
theorem own_crash_new (h : Own w0 g D w) (sv : List Int) (T : TypeId) :
    Calls Try.prog 15 #[.pointer (some ⟨g, 0, none⟩), .slice (some ⟨w.heap.size, 0, none⟩) sv.length sv.length] (w.alloc (.cells (sv.map (Value.int .i64)).toArray T)) fun e w' => e = .returned (.tuple #[]) ∧ Own w0 g (crashD D sv) w' := by
  obtain ⟨M, E, h1, h2, h3⟩ := h
  have hb := below1 w (.cells (sv.map (Value.int .i64)).toArray T)
  refine (crash_calls g M E D _ _ _ sv _ (h1.below hb) rfl (Rd.new w _ _ _) (fun _ b off e hm => ?_)).mono fun _ _ ⟨a, b⟩ => ⟨a, Own.dk h2 (h3.trans (hb.mono h3.size)) b⟩
  cases e
  have := h1.ml _ hm
  omega
theorem own_sync (h : Own w0 g D w) :
    Calls Try.prog 21 #[.pointer (some ⟨g, 0, none⟩)] w fun e w' => e = .returned (.int .i64 (syncE D)) ∧ Own w0 g (syncD D) w' := by
  obtain ⟨M, E, h1, h2, h3⟩ := h
  exact (sync_calls g M E D w h1).mono fun _ _ ⟨a, b⟩ => ⟨a, Own.dk h2 h3 b⟩
theorem own_fail (h : Own w0 g D w) (n : Int) (hn : n ≤ 9223372036854775807) :
    Calls Try.prog 22 #[.pointer (some ⟨g, 0, none⟩), .int .i64 n] w fun e w' => e = .returned (.tuple #[]) ∧ Own w0 g (failD D n) w' := by
  obtain ⟨M, E, h1, h2, h3⟩ := h
  exact (failAfter_calls g M E D n w h1 hn).mono fun _ _ ⟨a, b, c⟩ => ⟨a, Own.dk h2 h3 (DkP.of_g b h1.mg c)⟩
theorem own_pending (h : Own w0 g D w) : Calls Try.prog 24 #[.pointer (some ⟨g, 0, none⟩)] w fun e w' => e = .returned (.int .i64 (D.p.length : Int)) ∧ w = w' := by
  obtain ⟨M, E, h1, _, _⟩ := h
  exact pending_calls g M E D w h1
theorem own_failed (h : Own w0 g D w) : Calls Try.prog 23 #[.pointer (some ⟨g, 0, none⟩)] w fun e w' => e = .returned (.bool D.x) ∧ w = w' := by
  obtain ⟨M, E, h1, _, _⟩ := h
  exact failed_calls g M E D w h1
theorem own_new (z : Nat) (hz : 1 ≤ z) (hz2 : z ≤ 65536) (h0 : Below w0.heap.size w0 w) : Calls Try.prog 10 #[.int .i64 (z : Int)] w fun e w' => ∃ g, e = .returned (.tuple #[.pointer (some ⟨g, 0, none⟩), .int .i64 0]) ∧ Own w0 g (newD z) w' := by
  refine (new_calls (z : Int) w).mono ?_
  rintro e w' (⟨h1, _⟩ | ⟨_, _, g, M, rfl, h1, h2, h3⟩)
  · omega
  · rw [Int.toNat_natCast] at h1
    exact ⟨g, rfl, M, [], h1, fun x hx => Nat.le_trans h0.size (h2 x hx), h0.trans (h3.mono h0.size)⟩
end

theorem own_readB {w0 w : World} {g : Nat} {D : St} (h : Own w0 g D w) (s k : Int) (hs : -9223372036854775808 ≤ s) (hs2 : s ≤ 9223372036854775807) :
    Calls Try.prog 16 #[.pointer (some ⟨g, 0, none⟩), .int .i64 s, .int .i64 k] w fun e w' => ∃ X n c, e = .returned (.tuple #[.slice X n c, .int .i64 (readE D s k)]) ∧ n = (readL D s k).length ∧ w'.ownsRow w.heap.size 5 1 (.slice X n c) n ((readL D s k).map vb) ∧ Below w.heap.size w w' ∧ Own w0 g D w' := by
  obtain ⟨M, E, h1, h2, h3⟩ := h
  refine (read_calls g M E D s k w h1 hs hs2).mono ?_
  rintro e w' ⟨X, n, c, rfl, hn, ho, hb⟩
  exact ⟨X, n, c, rfl, hn, ho, hb, M, E, h1.below hb, h2, h3.trans (hb.mono h3.size)⟩
/-- a disk that was made since w0, and the blocks F are not its -/
def OwnF (w0 : World) (F : List Nat) (g : Nat) (D : St) (w : World) : Prop :=
  ∃ M E, IsD w g M E D ∧ (∀ x ∈ M, w0.heap.size ≤ x) ∧ Below w0.heap.size w0 w ∧ ∀ x ∈ F, x ∉ M ∧ x ∉ E ∧ x < w.heap.size
/-- the blocks F are as they were -/
def Kept (F : List Nat) (w w' : World) : Prop := ∀ x ∈ F, w'.heap[x]? = w.heap[x]?
theorem IsK_size {w w' : World} {F : List Nat} (h : Kept F w w') (hF : ∀ x ∈ F, x < w.heap.size) : ∀ x ∈ F, x < w'.heap.size := fun x hx => by
  have h1 := h x hx
  rw [Array.getElem?_eq_getElem (hF x hx)] at h1
  exact (Array.getElem?_eq_some_iff.1 h1).1
theorem Kept.trans {F : List Nat} {a b c : World} (h : Kept F a b) (k : Kept F b c) : Kept F a c := fun x hx => (k x hx).trans (h x hx)
theorem Kept.refl (F : List Nat) (w : World) : Kept F w w := fun _ _ => rfl
theorem Kept.of_below {F : List Nat} {w w' : World} (hF : ∀ x ∈ F, x < w.heap.size) (h : Below w.heap.size w w') : Kept F w w' := fun x hx => h.block x (hF x hx)
theorem Kept.rd {F : List Nat} {w w' : World} {A : Option Addr} {vs : List Value} (h : Kept F w w') (hr : Rd w A vs) (hA : 0 < vs.length → ∀ b off, A = some ⟨b, off, none⟩ → b ∈ F) : Rd w' A vs := fun i v hv => by
  obtain ⟨b, off, rfl, hc⟩ := hr i v hv
  have hpos : 0 < vs.length := Nat.lt_of_le_of_lt (Nat.zero_le i) (List.getElem?_eq_some_iff.1 hv).1
  exact ⟨b, off, rfl, (World.cell?_of_block (a := ⟨b, off + i, none⟩) (h b (hA hpos b off rfl))).trans hc⟩
section
variable {w0 w w' : World} {F : List Nat} {g : Nat} {D : St}
theorem OwnF.own (h : OwnF w0 F g D w) : Own w0 g D w := by obtain ⟨M, E, h1, h2, h3, _⟩ := h; exact ⟨M, E, h1, h2, h3⟩
theorem Own.ownF (h : Own w0 g D w) : OwnF w0 [] g D w := by obtain ⟨M, E, h1, h2, h3⟩ := h; exact ⟨M, E, h1, h2, h3, by simp⟩
theorem OwnF.b (h : OwnF w0 F g D w) : Below w0.heap.size w0 w := h.own.b
theorem OwnF.ok (h : OwnF w0 F g D w) : D.ok := h.own.ok
theorem OwnF.lt (h : OwnF w0 F g D w) : ∀ x ∈ F, x < w.heap.size := by obtain ⟨_, _, _, _, _, h⟩ := h; exact fun x hx => (h x hx).2.2
theorem OwnF.below (h : OwnF w0 F g D w) (hb : Below w.heap.size w w') : OwnF w0 F g D w' := by
  obtain ⟨M, E, h1, h2, h3, h4⟩ := h
  exact ⟨M, E, h1.below hb, h2, h3.trans (hb.mono h3.size), fun x hx => ⟨(h4 x hx).1, (h4 x hx).2.1, Nat.lt_of_lt_of_le (h4 x hx).2.2 hb.size⟩⟩
theorem OwnF.sub {F' : List Nat} (h : OwnF w0 F g D w) (hs : ∀ x ∈ F', x ∈ F) : OwnF w0 F' g D w := by
  obtain ⟨M, E, h1, h2, h3, h4⟩ := h
  exact ⟨M, E, h1, h2, h3, fun x hx => h4 x (hs x hx)⟩
/-- blocks that were made since are not the disk's -/
theorem OwnF.add (h : OwnF w0 F g D w) (hb : Below w.heap.size w w') (G : List Nat) (hG : ∀ x ∈ G, w.heap.size ≤ x ∧ x < w'.heap.size) : OwnF w0 (G ++ F) g D w' := by
  obtain ⟨M, E, h1, h2, h3, h4⟩ := h
  refine ⟨M, E, h1.below hb, h2, h3.trans (hb.mono h3.size), fun x hx => ?_⟩
  rcases List.mem_append.1 hx with hx | hx
  · have := hG x hx
    exact ⟨fun hm => by have := h1.ml x hm; omega, fun hm => by have := h1.el x hm; omega, this.2⟩
  · exact ⟨(h4 x hx).1, (h4 x hx).2.1, Nat.lt_of_lt_of_le (h4 x hx).2.2 hb.size⟩
/-- a block of F is written -/
theorem OwnF.wr (h : OwnF w0 F g D w) {S : List Nat} (hc : Chg S w w') (hS : ∀ x ∈ S, x ∈ F ∧ w0.heap.size ≤ x) : OwnF w0 F g D w' := by
  obtain ⟨M, E, h1, h2, h3, h4⟩ := h
  exact ⟨M, E, h1.chg hc (fun x hx => (h4 x (hS x hx).1).1) (fun x hx => (h4 x (hS x hx).1).2.1), h2, h3.trans (hc.below h3.size (fun x hx => (hS x hx).2)), fun x hx => ⟨(h4 x hx).1, (h4 x hx).2.1, Nat.lt_of_lt_of_le (h4 x hx).2.2 hc.size⟩⟩
theorem OwnF.dk {D' : St} {M E : List Nat} (hM : ∀ x ∈ M, w0.heap.size ≤ x) (hb : Below w0.heap.size w0 w) (hF : ∀ x ∈ F, x ∉ M ∧ x ∉ E ∧ x < w.heap.size) (hd : DkP w g M E D' w') : OwnF w0 F g D' w' ∧ Kept F w w' := by
  obtain ⟨M', E', k1, k2, k3, k4⟩ := hd
  refine ⟨⟨M', E', k1, fun x hx => ?_, hb.trans (k2.below hb.size hM), fun x hx => ⟨fun hm => ?_, fun hm => ?_, Nat.lt_of_lt_of_le (hF x hx).2.2 k2.size⟩⟩, fun x hx => k2.block x (hF x hx).2.2 (hF x hx).1⟩
  · rcases k3 x hx with h | h
    · exact hM x h
    · exact Nat.le_trans hb.size h
  · rcases k3 x hm with h | h
    · exact (hF x hx).1 h
    · have := (hF x hx).2.2; omega
  · rcases k4 x hm with h | h
    · exact (hF x hx).2.1 h
    · have := (hF x hx).2.2; omega
theorem ownF_write (h : OwnF w0 F g D w) (s : Int) (B : Option Addr) (n c : Nat) (l : List UInt8) (hn : l.length = n) (hr : RB w B l) (hnm : n ≤ 9223372036854775807) (hs : -9223372036854775808 ≤ s) (hs2 : s ≤ 9223372036854775807) (hp : D.p.length ≤ 10000) :
    Calls Try.prog 14 #[.pointer (some ⟨g, 0, none⟩), .int .i64 s, .slice B n c] w fun e w' => e = .returned (.int .i64 (writeE D s l)) ∧ OwnF w0 F g (writeD D s l) w' ∧ Kept F w w' := by
  obtain ⟨M, E, h1, h2, h3, h4⟩ := h
  exact (write_calls g M E D s B n c l w h1 hn hr hnm hs hs2 hp).mono fun _ _ ⟨a, b⟩ => ⟨a, OwnF.dk h2 h3 h4 b⟩
theorem ownF_crash (h : OwnF w0 F g D w) (Z : Option Addr) (zn zc : Nat) (sv : List Int) (hz : sv.length = zn) (hr : Rd w0 Z (sv.map (Value.int .i64))) :
    Calls Try.prog 15 #[.pointer (some ⟨g, 0, none⟩), .slice Z zn zc] w fun e w' => e = .returned (.tuple #[]) ∧ OwnF w0 F g (crashD D sv) w' ∧ Kept F w w' := by
  obtain ⟨M, E, h1, h2, h3, h4⟩ := h
  refine (crash_calls g M E D Z zn zc sv w h1 hz (Rd.below hr h3) (fun hsv b off e hm => ?_)).mono fun _ _ ⟨a, b⟩ => ⟨a, OwnF.dk h2 h3 h4 b⟩
  have := h2 b hm
  obtain ⟨b', off', e', hb', _⟩ := Rd.cells hr (by rw [List.length_map]; exact List.length_pos_iff.2 hsv)
  rw [e] at e'; cases e'; omega
theorem ownF_read (h : OwnF w0 F g D w) (s k : Int) (hs : -9223372036854775808 ≤ s) (hs2 : s ≤ 9223372036854775807) :
    Calls Try.prog 16 #[.pointer (some ⟨g, 0, none⟩), .int .i64 s, .int .i64 k] w fun e w' => ∃ X n c, e = .returned (.tuple #[.slice X n c, .int .i64 (readE D s k)]) ∧ n = (readL D s k).length ∧ w'.ownsRow w.heap.size 5 1 (.slice X n c) n ((readL D s k).map vb) ∧ Below w.heap.size w w' ∧ OwnF w0 F g D w' := by
  obtain ⟨M, E, h1, h2, h3, h4⟩ := h
  refine (read_calls g M E D s k w h1 hs hs2).mono ?_
  rintro e w' ⟨X, n, c, rfl, hn, ho, hb⟩
  exact ⟨X, n, c, rfl, hn, ho, hb, OwnF.below ⟨M, E, h1, h2, h3, h4⟩ hb⟩
end

theorem OwnF.grow {w0 w w' : World} {F F' : List Nat} {g : Nat} {D : St} (h : OwnF w0 F g D w) (hb : Below w.heap.size w w') (hF : ∀ x ∈ F', x ∈ F ∨ (w.heap.size ≤ x ∧ x < w'.heap.size)) : OwnF w0 F' g D w' := by
  obtain ⟨M, E, h1, h2, h3, h4⟩ := h
  refine ⟨M, E, h1.below hb, h2, h3.trans (hb.mono h3.size), fun x hx => ?_⟩
  rcases hF x hx with hx | hx
  · exact ⟨(h4 x hx).1, (h4 x hx).2.1, Nat.lt_of_lt_of_le (h4 x hx).2.2 hb.size⟩
  · exact ⟨fun hm => by have := h1.ml x hm; omega, fun hm => by have := h1.el x hm; omega, hx.2⟩

theorem sync_x {D : St} (h : D.x = true) : syncD D = D ∧ syncE D = 10 := by unfold syncD syncE; rw [if_pos h, if_pos h]; exact ⟨rfl, rfl⟩
theorem sync_0 {D : St} (h : D.x = false) (h0 : D.f = 0) : syncD D = { D with x := true } ∧ syncE D = 10 := by
  have hx : ¬ D.x = true := by simp [h]
  unfold syncD syncE; rw [if_neg hx, if_neg hx, if_pos h0, if_pos h0]; exact ⟨rfl, rfl⟩
theorem sync_ok {D : St} (h : D.x = false) (h0 : ¬ D.f = 0) : syncD D = { D with f := burnF D.f, b := D.all, p := [] } ∧ syncE D = 0 := by
  have hx : ¬ D.x = true := by simp [h]
  unfold syncD syncE; rw [if_neg hx, if_neg hx, if_neg h0, if_neg h0]; exact ⟨rfl, rfl⟩
theorem write_x {D : St} (s : Int) (l : List UInt8) (h : D.x = true) : writeD D s l = D ∧ writeE D s l = 10 := by unfold writeD writeE; rw [if_pos h, if_pos h]; exact ⟨rfl, rfl⟩
theorem write_len {D : St} (s : Int) (l : List UInt8) (h : D.x = false) (hl : l.length % 64 ≠ 0) : writeD D s l = D ∧ writeE D s l = 1 := by
  have hx : ¬ D.x = true := by simp [h]
  unfold writeD writeE; rw [if_neg hx, if_neg hx, if_pos hl, if_pos hl]; exact ⟨rfl, rfl⟩
theorem write_in {D : St} (s : Int) (l : List UInt8) (h : D.x = false) (hl : l.length % 64 = 0) (hi : inB D.n s (l.length / 64 : Nat) = false) : writeD D s l = D ∧ writeE D s l = 2 := by
  have hx : ¬ D.x = true := by simp [h]
  have hl' : ¬ l.length % 64 ≠ 0 := by simp [hl]
  unfold writeD writeE; rw [if_neg hx, if_neg hx, if_neg hl', if_neg hl', if_pos hi, if_pos hi]; exact ⟨rfl, rfl⟩
theorem write_0 {D : St} (s : Int) (l : List UInt8) (h : D.x = false) (hl : l.length % 64 = 0) (hi : inB D.n s (l.length / 64 : Nat) = true) (h0 : D.f = 0) : writeD D s l = { D with x := true } ∧ writeE D s l = 10 := by
  have hx : ¬ D.x = true := by simp [h]
  have hl' : ¬ l.length % 64 ≠ 0 := by simp [hl]
  have hi' : ¬ inB D.n s (l.length / 64 : Nat) = false := by rw [hi]; simp
  unfold writeD writeE; rw [if_neg hx, if_neg hx, if_neg hl', if_neg hl', if_neg hi', if_neg hi', if_pos h0, if_pos h0]; exact ⟨rfl, rfl⟩
theorem write_ok {D : St} (s : Int) (l : List UInt8) (h : D.x = false) (hl : l.length % 64 = 0) (hi : inB D.n s (l.length / 64 : Nat) = true) (h0 : ¬ D.f = 0) : writeD D s l = { D with f := burnF D.f, p := D.p ++ [⟨s.toNat, l⟩] } ∧ writeE D s l = 0 := by
  have hx : ¬ D.x = true := by simp [h]
  have hl' : ¬ l.length % 64 ≠ 0 := by simp [hl]
  have hi' : ¬ inB D.n s (l.length / 64 : Nat) = false := by rw [hi]; simp
  unfold writeD writeE; rw [if_neg hx, if_neg hx, if_neg hl', if_neg hl', if_neg hi', if_neg hi', if_neg h0, if_neg h0]; exact ⟨rfl, rfl⟩

theorem inB_full (n : Nat) : inB n 0 n = true := by unfold inB; simp
theorem readL_full (D : St) (h : D.ok) (h6 : D.n = 6) (hx : D.x = false) : readL D 0 6 = D.all := by
  have hi : inB D.n 0 6 = true := by rw [h6]; exact inB_full 6
  have := h.all
  unfold readL
  rw [hx, hi]
  simp only [Bool.false_eq_true, if_false]
  rw [if_neg (by simp), show 64 * (0 : Int).toNat = 0 from rfl, show 64 * (6 : Int).toNat = 384 from rfl, List.drop_zero, List.take_of_length_le (by rw [this, h6]; exact Nat.le_refl _)]
theorem readE_full (D : St) (h6 : D.n = 6) : readE D 0 6 = if D.x = true then 10 else 0 := by
  have hi : inB D.n 0 6 = true := by rw [h6]; exact inB_full 6
  unfold readE
  rw [hi]
  simp
end Dk
end Go.Proofs.Ytoallpinpeolfaa
