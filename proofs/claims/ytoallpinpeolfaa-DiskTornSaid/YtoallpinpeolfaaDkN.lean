/- A disk of the call's own beside blocks that it leaves alone; sectors. -/
import Derived.Test.YtoallpinpeolfaaDkM
namespace Go.Proofs.Ytoallpinpeolfaa
open Go.RowKit
namespace Dk

/-- a disk that was made since w0, and the blocks F are not its -/
def OwnF (w0 : World) (F : List Nat) (g : Nat) (D : St) (w : World) : Prop :=
  ∃ M E, IsD w g M E D ∧ (∀ x ∈ M, w0.heap.size ≤ x) ∧ Below w0.heap.size w0 w ∧ ∀ x ∈ F, x ∉ M ∧ x ∉ E ∧ x < w.heap.size
/-- the blocks F are as they were -/
def Kept (F : List Nat) (w w' : World) : Prop := ∀ x ∈ F, w'.heap[x]? = w.heap[x]?
theorem IsK_size {w w' : World} {F : List Nat} (h : Kept F w w') (hF : ∀ x ∈ F, x < w.heap.size) : ∀ x ∈ F, x < w'.heap.size := fun x hx => by
  have h1 := h x hx
  rw [Array.getElem?_eq_getElem (hF x hx)] at h1
  exact (Array.getElem?_eq_some_iff.1 h1).1
theorem Kept.trans {F : List Nat} {a b c : World} (h : Kept F a b) (k : Kept F b c) : Kept F a c := fun x hx => (k x hx).trans (h x hx)
theorem Kept.refl (F : List Nat) (w : World) : Kept F w w := fun _ _ => rfl
theorem Kept.of_below {F : List Nat} {w w' : World} (hF : ∀ x ∈ F, x < w.heap.size) (h : Below w.heap.size w w') : Kept F w w' := fun x hx => h.block x (hF x hx)
theorem Kept.rd {F : List Nat} {w w' : World} {A : Option Addr} {vs : List Value} (h : Kept F w w') (hr : Rd w A vs) (hA : 0 < vs.length → ∀ b off, A = some ⟨b, off, none⟩ → b ∈ F) : Rd w' A vs := fun i v hv => by
  obtain ⟨b, off, rfl, hc⟩ := hr i v hv
  have hpos : 0 < vs.length := Nat.lt_of_le_of_lt (Nat.zero_le i) (List.getElem?_eq_some_iff.1 hv).1
  exact ⟨b, off, rfl, (World.cell?_of_block (a := ⟨b, off + i, none⟩) (h b (hA hpos b off rfl))).trans hc⟩
section
variable {w0 w w' : World} {F : List Nat} {g : Nat} {D : St}
theorem OwnF.own (h : OwnF w0 F g D w) : Own w0 g D w := by obtain ⟨M, E, h1, h2, h3, _⟩ := h; exact ⟨M, E, h1, h2, h3⟩
theorem Own.ownF (h : Own w0 g D w) : OwnF w0 [] g D w := by obtain ⟨M, E, h1, h2, h3⟩ := h; exact ⟨M, E, h1, h2, h3, by simp⟩
theorem OwnF.b (h : OwnF w0 F g D w) : Below w0.heap.size w0 w := h.own.b
theorem OwnF.ok (h : OwnF w0 F g D w) : D.ok := h.own.ok
theorem OwnF.lt (h : OwnF w0 F g D w) : ∀ x ∈ F, x < w.heap.size := by obtain ⟨_, _, _, _, _, h⟩ := h; exact fun x hx => (h x hx).2.2
theorem OwnF.below (h : OwnF w0 F g D w) (hb : Below w.heap.size w w') : OwnF w0 F g D w' := by
  obtain ⟨M, E, h1, h2, h3, h4⟩ := h
  exact ⟨M, E, h1.below hb, h2, h3.trans (hb.mono h3.size), fun x hx => ⟨(h4 x hx).1, (h4 x hx).2.1, Nat.lt_of_lt_of_le (h4 x hx).2.2 hb.size⟩⟩
theorem OwnF.sub {F' : List Nat} (h : OwnF w0 F g D w) (hs : ∀ x ∈ F', x ∈ F) : OwnF w0 F' g D w := by
  obtain ⟨M, E, h1, h2, h3, h4⟩ := h
  exact ⟨M, E, h1, h2, h3, fun x hx => h4 x (hs x hx)⟩
/-- blocks that were made since are not the disk's -/
theorem OwnF.add (h : OwnF w0 F g D w) (hb : Below w.heap.size w w') (G : List Nat) (hG : ∀ x ∈ G, w.heap.size ≤ x ∧ x < w'.heap.size) : OwnF w0 (G ++ F) g D w' := by
  obtain ⟨M, E, h1, h2, h3, h4⟩ := h
  refine ⟨M, E, h1.below hb, h2, h3.trans (hb.mono h3.size), fun x hx => ?_⟩
  rcases List.mem_append.1 hx with hx | hx
  · have := hG x hx
    exact ⟨fun hm => by have := h1.ml x hm; omega, fun hm => by have := h1.el x hm; omega, this.2⟩
  · exact ⟨(h4 x hx).1, (h4 x hx).2.1, Nat.lt_of_lt_of_le (h4 x hx).2.2 hb.size⟩
/-- a block of F is written -/
theorem OwnF.wr (h : OwnF w0 F g D w) {S : List Nat} (hc : Chg S w w') (hS : ∀ x ∈ S, x ∈ F ∧ w0.heap.size ≤ x) : OwnF w0 F g D w' := by
  obtain ⟨M, E, h1, h2, h3, h4⟩ := h
  exact ⟨M, E, h1.chg hc (fun x hx => (h4 x (hS x hx).1).1) (fun x hx => (h4 x (hS x hx).1).2.1), h2, h3.trans (hc.below h3.size (fun x hx => (hS x hx).2)), fun x hx => ⟨(h4 x hx).1, (h4 x hx).2.1, Nat.lt_of_lt_of_le (h4 x hx).2.2 hc.size⟩⟩
theorem OwnF.dk {D' : St} {M E : List Nat} (hM : ∀ x ∈ M, w0.heap.size ≤ x) (hb : Below w0.heap.size w0 w) (hF : ∀ x ∈ F, x ∉ M ∧ x ∉ E ∧ x < w.heap.size) (hd : DkP w g M E D' w') : OwnF w0 F g D' w' ∧ Kept F w w' := by
  obtain ⟨M', E', k1, k2, k3, k4⟩ := hd
  refine ⟨⟨M', E', k1, fun x hx => ?_, hb.trans (k2.below hb.size hM), fun x hx => ⟨fun hm => ?_, fun hm => ?_, Nat.lt_of_lt_of_le (hF x hx).2.2 k2.size⟩⟩, fun x hx => k2.block x (hF x hx).2.2 (hF x hx).1⟩
  · rcases k3 x hx with h | h
    · exact hM x h
    · exact Nat.le_trans hb.size h
  · rcases k3 x hm with h | h
    · exact (hF x hx).1 h
    · have := (hF x hx).2.2; omega
  · rcases k4 x hm with h | h
    · exact (hF x hx).2.1 h
    · have := (hF x hx).2.2; omega
theorem ownF_write (h : OwnF w0 F g D w) (s : Int) (B : Option Addr) (n c : Nat) (l : List UInt8) (hn : l.length = n) (hr : RB w B l) (hnm : n ≤ 9223372036854775807) (hs : -9223372036854775808 ≤ s) (hs2 : s ≤ 9223372036854775807) (hp : D.p.length ≤ 10000) :
    Calls Try.prog 14 #[.pointer (some ⟨g, 0, none⟩), .int .i64 s, .slice B n c] w fun e w' => e = .returned (.int .i64 (writeE D s l)) ∧ OwnF w0 F g (writeD D s l) w' ∧ Kept F w w' := by
  obtain ⟨M, E, h1, h2, h3, h4⟩ := h
  exact (write_calls g M E D s B n c l w h1 hn hr hnm hs hs2 hp).mono fun _ _ ⟨a, b⟩ => ⟨a, OwnF.dk h2 h3 h4 b⟩
theorem ownF_crash (h : OwnF w0 F g D w) (Z : Option Addr) (zn zc : Nat) (sv : List Int) (hz : sv.length = zn) (hr : Rd w0 Z (sv.map (Value.int .i64))) :
    Calls Try.prog 15 #[.pointer (some ⟨g, 0, none⟩), .slice Z zn zc] w fun e w' => e = .returned (.tuple #[]) ∧ OwnF w0 F g (crashD D sv) w' ∧ Kept F w w' := by
  obtain ⟨M, E, h1, h2, h3, h4⟩ := h
  refine (crash_calls g M E D Z zn zc sv w h1 hz (Rd.below hr h3) (fun hsv b off e hm => ?_)).mono fun _ _ ⟨a, b⟩ => ⟨a, OwnF.dk h2 h3 h4 b⟩
  have := h2 b hm
  obtain ⟨b', off', e', hb', _⟩ := Rd.cells hr (by rw [List.length_map]; exact List.length_pos_iff.2 hsv)
  rw [e] at e'; cases e'; omega
theorem ownF_read (h : OwnF w0 F g D w) (s k : Int) (hs : -9223372036854775808 ≤ s) (hs2 : s ≤ 9223372036854775807) :
    Calls Try.prog 16 #[.pointer (some ⟨g, 0, none⟩), .int .i64 s, .int .i64 k] w fun e w' => ∃ X n c, e = .returned (.tuple #[.slice X n c, .int .i64 (readE D s k)]) ∧ n = (readL D s k).length ∧ w'.ownsRow w.heap.size 5 1 (.slice X n c) n ((readL D s k).map vb) ∧ Below w.heap.size w w' ∧ OwnF w0 F g D w' := by
  obtain ⟨M, E, h1, h2, h3, h4⟩ := h
  refine (read_calls g M E D s k w h1 hs hs2).mono ?_
  rintro e w' ⟨X, n, c, rfl, hn, ho, hb⟩
  exact ⟨X, n, c, rfl, hn, ho, hb, OwnF.below ⟨M, E, h1, h2, h3, h4⟩ hb⟩
end

/-! ### sectors -/
def sec (b : List UInt8) (k : Nat) : List UInt8 := (b.drop (64 * k)).take 64
theorem sec_len (b : List UInt8) (n k : Nat) (hb : b.length = 64 * n) (hk : k < n) : (sec b k).length = 64 := by unfold sec; rw [List.length_take, List.length_drop]; omega
theorem sec_get (b : List UInt8) (k j : Nat) (hj : j < 64) : (sec b k)[j]? = b[64 * k + j]? := by
  unfold sec; rw [List.getElem?_take, if_pos hj, List.getElem?_drop]
theorem sec_ext {a b : List UInt8} {k : Nat} (h : ∀ j, j < 64 → a[64 * k + j]? = b[64 * k + j]?) : sec a k = sec b k := by
  apply List.ext_getElem?
  intro j
  by_cases hj : j < 64
  · rw [sec_get _ _ _ hj, sec_get _ _ _ hj, h j hj]
  · have : ∀ l : List UInt8, (sec l k)[j]? = none := fun l => List.getElem?_eq_none (by unfold sec; rw [List.length_take]; omega)
    rw [this, this]
theorem sec_ap_out (n : Nat) (b : List UInt8) (q : Pc) (c k : Nat) (hb : b.length = 64 * n) (hq : q.ok n) (hc : c ≤ q.k) (hk : k < q.s ∨ q.s + c ≤ k) : sec (ap b q c) k = sec b k := by
  obtain ⟨h1, h2⟩ := hq
  refine sec_ext fun j hj => ?_
  unfold ap
  have hl : (q.d.take (64 * c)).length = 64 * c := by rw [List.length_take]; omega
  rw [splice_get _ _ _ (by rw [hl, hb]; omega), hl, if_neg (by omega)]
theorem sec_ap_in (n : Nat) (b : List UInt8) (q : Pc) (c k : Nat) (hb : b.length = 64 * n) (hq : q.ok n) (hc : c ≤ q.k) (h0 : q.s ≤ k) (hk : k < q.s + c) : sec (ap b q c) k = sec q.d (k - q.s) := by
  obtain ⟨h1, h2⟩ := hq
  have hl : (q.d.take (64 * c)).length = 64 * c := by rw [List.length_take]; omega
  apply List.ext_getElem?
  intro j
  by_cases hj : j < 64
  · rw [sec_get _ _ _ hj, sec_get _ _ _ hj]
    unfold ap
    rw [splice_get _ _ _ (by rw [hl, hb]; omega), hl, if_pos (by omega), List.getElem?_take, if_pos (by omega)]
    congr 1; omega
  · have : ∀ (l : List UInt8) (k : Nat), (sec l k)[j]? = none := fun l k => List.getElem?_eq_none (by unfold sec; rw [List.length_take]; omega)
    rw [this, this]
theorem sec_setB_out (n : Nat) (b : List UInt8) (p : List Pc) (c : Nat → Pc → Nat) (i k : Nat) (hb : b.length = 64 * n) (hp : ∀ q ∈ p, q.ok n) (hc : ∀ j q, c j q ≤ q.k) (hk : ∀ q ∈ p, k < q.s ∨ q.s + q.k ≤ k) : sec (setB b p c i) k = sec b k := by
  induction i with
  | zero => rfl
  | succ i ih =>
    by_cases h : i < p.length
    · have hm := List.getElem_mem h
      rw [setB_step _ _ _ _ h, sec_ap_out n _ _ _ _ (setB_len n b p c i hb hp) (hp _ hm) (hc _ _) ((hk _ hm).imp id fun h => by have := hc i p[i]; omega), ih]
    · show sec (match p[i]? with | none => setB b p c i | some q => ap (setB b p c i) q (c i q)) k = _
      rw [List.getElem?_eq_none (by omega)]; exact ih
theorem cSv_le (sv : List Int) (j : Nat) (q : Pc) : cSv sv j q ≤ q.k := clamp_le _ _
theorem all_nil (D : St) (h : D.p = []) : D.all = D.b := by unfold St.all; rw [h]; rfl

/-! ### the law DiskDurable -/
/-- every pending write lies in sectors that were written -/
def Cov (D : St) (wl : List Bool) : Prop := ∀ q ∈ D.p, ∀ k, q.s ≤ k → k < q.s + q.k → wl[k]? = some true
theorem cov_crash (D : St) (wl : List Bool) (sv : List Int) (h : D.ok) (hc : Cov D wl) (k : Nat) (hk : wl[k]? = some false) : sec (crashD D sv).all k = sec D.b k := by
  rw [all_nil _ rfl]
  refine sec_setB_out D.n _ _ _ _ _ h.b h.p (cSv_le sv) (fun q hq => ?_)
  by_cases h1 : k < q.s
  · exact .inl h1
  · by_cases h2 : q.s + q.k ≤ k
    · exact .inr h2
    · have := hc q hq k (by omega) (by omega)
      rw [hk] at this; cases this
/-- k sectors from s on are marked -/
def marks (wl : List Bool) (s : Nat) : Nat → List Bool
  | 0 => wl
  | k + 1 => (marks wl s k).set (s + k) true
theorem marks_len (wl : List Bool) (s k : Nat) : (marks wl s k).length = wl.length := by
  induction k with
  | zero => rfl
  | succ k ih => show ((marks wl s k).set _ _).length = _; rw [List.length_set, ih]
theorem marks_get (wl : List Bool) (s k : Nat) (hk : s + k ≤ wl.length) (i : Nat) : (marks wl s k)[i]? = if s ≤ i ∧ i < s + k then some true else wl[i]? := by
  induction k with
  | zero => rw [if_neg (by omega)]; rfl
  | succ k ih =>
    show ((marks wl s k).set (s + k) true)[i]? = _
    have hl := marks_len wl s k
    rw [List.getElem?_set, ih (by omega), hl]
    by_cases h1 : s + k = i
    · rw [if_pos h1, if_pos (by omega), if_pos (by omega)]
    · rw [if_neg h1]
      by_cases h2 : s ≤ i ∧ i < s + k
      · rw [if_pos h2, if_pos (by omega)]
      · rw [if_neg h2, if_neg (by omega)]
theorem cov_write (D : St) (wl : List Bool) (s : Int) (l : List UInt8) (h6 : D.n = 6) (hw : wl.length = 6) (hc : Cov D wl) (he : writeE D s l = 0) :
    ∃ si : Nat, s = si ∧ si + l.length / 64 ≤ 6 ∧ Cov (writeD D s l) (marks wl si (l.length / 64)) ∧ (writeD D s l).b = D.b := by
  by_cases hx : D.x = true
  · rw [(write_x s l hx).2] at he; cases he
  · have hx' : D.x = false := by simpa using hx
    by_cases hl : l.length % 64 = 0
    · cases hi : inB D.n s (l.length / 64 : Nat)
      · rw [(write_in s l hx' hl hi).2] at he; cases he
      · by_cases h0 : D.f = 0
        · rw [(write_0 s l hx' hl hi h0).2] at he; cases he
        · obtain ⟨b1, b2, b3, b4⟩ := inB_of hi
          refine ⟨s.toNat, by omega, by omega, ?_, by rw [(write_ok s l hx' hl hi h0).1]⟩
          rw [(write_ok s l hx' hl hi h0).1]
          intro q hq k hk1 hk2
          rw [marks_get _ _ _ (by rw [hw]; omega)]
          rcases List.mem_append.1 hq with hq | hq
          · split
            · rfl
            · exact hc q hq k hk1 hk2
          · simp only [List.mem_singleton] at hq
            subst hq
            rw [if_pos ⟨hk1, hk2⟩]
    · rw [(write_len s l hx' hl).2] at he; cases he
theorem cov_nowrite (D : St) (wl : List Bool) (s : Int) (l : List UInt8) (hc : Cov D wl) (he : writeE D s l ≠ 0) : Cov (writeD D s l) wl ∧ (writeD D s l).b = D.b ∧ (writeD D s l).p = D.p := by
  by_cases hx : D.x = true
  · rw [(write_x s l hx).1]; exact ⟨hc, rfl, rfl⟩
  · have hx' : D.x = false := by simpa using hx
    by_cases hl : l.length % 64 = 0
    · cases hi : inB D.n s (l.length / 64 : Nat)
      · rw [(write_in s l hx' hl hi).1]; exact ⟨hc, rfl, rfl⟩
      · by_cases h0 : D.f = 0
        · rw [(write_0 s l hx' hl hi h0).1]; exact ⟨hc, rfl, rfl⟩
        · rw [(write_ok s l hx' hl hi h0).2] at he; exact absurd rfl he
    · rw [(write_len s l hx' hl).1]; exact ⟨hc, rfl, rfl⟩
end Dk
end Go.Proofs.Ytoallpinpeolfaa
