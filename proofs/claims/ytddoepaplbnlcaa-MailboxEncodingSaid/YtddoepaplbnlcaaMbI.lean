/- The walk of slices.Insert of one message. -/
import Derived.Test.YtddoepaplbnlcaaMbH
import Derived.Shelf.Spec.SlicesInsert
import Derived.Deep.RegionLaw
import Derived.Lib.AppendZeros
import Derived.Lib.AppendZerosOnto
import Derived.Lib.Overlaps
namespace Go.Proofs.Ytddoepaplbnlcaa
open Go.RowKit Go.Shelf

section
variable {P : Program}
/-- copy into a row of the call's own, elements of several cells; the source may lie in the same row -/
theorem run_copyIn {w : World} {B n sz c g : Nat} {e : TypeId} {xs : List Value} (dT sT : TypeId) (hu : P.underlying dT = some (.slice e)) (hs : (P.info? e).map (·.size) = some sz) (hown : w.ownsRow B e sz (.slice (some ⟨g, 0, none⟩) n c) n xs)
    (k m dl dc : Nat) (src : Option Addr) (sl sc : Nat) (cs : List Value) (hmin : Nat.min sl dl = m) (hcl : cs.length = m * sz) (hr : Rd w src cs) (h1 : ∀ v ∈ cs, v.oneCell' = true) (hfit : k + m ≤ n) :
    ∃ w', (∀ ty, (Builtin.copy_ #[dT, sT] ty #[.slice (some ⟨g, k * sz, none⟩) dl dc, .slice src sl sc]).run P w = .ok (goInt m) w') ∧ w'.ownsRow B e sz (.slice (some ⟨g, 0, none⟩) n c) n (over xs (k * sz) cs) ∧ Wrote w w' (.slice (some ⟨g, 0, none⟩) n c) := by
  have hmul : k * sz + m * sz ≤ n * sz := by rw [← Nat.add_mul]; exact Nat.mul_le_mul_right _ hfit
  have hown0 := hown
  obtain ⟨h1x, h2⟩ := hown
  rcases h2 with ⟨h2, _⟩ | ⟨g', c', cur, he, hg, hh, hnc, hm, hcs, hx⟩
  · cases h2
  · injection he with e1 _ e3
    injection e1 with e1
    injection e1 with e1
    subst e1 e3
    obtain ⟨hown', hw'⟩ := own_over (n := n) (sz := sz) (xs := xs) hg hh hnc hm hcs hx (k * sz) cs (by rw [hcl]; exact hmul)
    by_cases hm0 : cs = []
    · subst hm0
      have hm0 : m = 0 ∨ sz = 0 := by
        have : m * sz = 0 := hcl.symm
        exact Nat.mul_eq_zero.1 this
      have hov : over xs (k * sz) [] = xs := by unfold over; simp
      rw [hov]
      by_cases hmz : m = 0
      · subst hmz
        exact ⟨w, fun ty => run_copy_noneS w dT sT ty e _ src dl dc sl sc hu hs hmin, hown0, ⟨rfl, rfl, rfl, rfl, fun _ _ => rfl⟩⟩
      · obtain rfl : sz = 0 := by rcases hm0 with h | h; exact absurd h hmz; exact h
        refine ⟨w, fun ty => ?_, hown0, ⟨rfl, rfl, rfl, rfl, fun _ _ => rfl⟩⟩
        obtain ⟨i, hi, hsz⟩ := Option.map_eq_some_iff.1 hs
        have hl : ∀ (x : Addr), (loadCells x 0).run P w = .ok #[] w := fun x => by simpa using run_loadCells_list (P := P) w x [] (by simp)
        cases src <;> simp [Builtin.copy_, run_underlying hu, Builtin.lenOf, Builtin.firstCells, sizeOf, typeInfo, hi, hsz, hmin, storeCells, hl]
    · obtain ⟨b, off, rfl, _, hc⟩ := Rd.cells hr (List.length_pos_iff.2 hm0)
      refine ⟨_, fun ty => run_copy_rowS w dT sT ty e g (k * sz) dl dc ⟨b, off, none⟩ sl sc cur e cs m hu hs hh hmin hcl (fun j v hj => by rw [addr_add]; exact hc j v hj) (by rw [hcl, hcs]; exact Nat.le_trans hmul (Nat.mul_le_mul_right _ hnc)) h1, hown', hw'⟩
theorem over_over (X Y D : List Value) (a b : Nat) (hab : b = a + Y.length) (hX : b + D.length = X.length) : over (over X b D) a Y = X.take a ++ Y ++ D := by
  unfold over
  have h1 : X.drop (b + D.length) = [] := List.drop_eq_nil_of_le (by omega)
  rw [h1, List.append_nil]
  have l1 : (X.take b).length = b := by simp; omega
  have e1 : (X.take b ++ D).take a = X.take a := by rw [List.take_append_of_le_length (by omega), List.take_take, Nat.min_eq_left (by omega)]
  have e2 : (X.take b ++ D).drop (a + Y.length) = D := by rw [← hab, List.drop_append_of_le_length (by omega), List.drop_eq_nil_of_le (by omega), List.nil_append]
  rw [e1, e2]
end
namespace Mb
theorem info_m : (Try.prog.info? 76).map (fun i => (i.zero, i.size, i.bytes)) = some (some (.agg #[.int .i64 0, .int .i64 0, .int .i64 0, .int .i64 0, .string ⟨#[]⟩, .slice none 0 0]), 6, 72) := by kernel_rfl
theorem size_m : (Try.prog.info? 76).map (·.size) = some 6 := by kernel_rfl
theorem elem_m : Try.prog.elem 72 = 76 := by kernel_rfl
theorem sizeOf_m (w : World) : (Go.sizeOf 76).run Try.prog w = .ok 6 w := by kernel_rfl
/-- what Insert leaves -/
def InsP (B : Nat) (v : Value) (xs : List Mm) (w : World) (e : Ending) (w' : World) : Prop := ∃ A c, e = .returned (.slice A xs.length c) ∧ w'.ownsRow B 76 6 (.slice A xs.length c) xs.length (cells6 xs) ∧ App w v w' (.slice A xs.length c)
/-- at the end -/
theorem insert_end (B n c vb : Nat) (A : Option Addr) (xs : List Mm) (y : Mm) (w : World) (ho : w.ownsRow B 76 6 (.slice A n c) n (cells6 xs)) (hv : w.heap[vb]? = some (.cells y.cells.toArray 76 (0, 0))) (hB : B ≤ w.heap.size) (hn : n ≤ 1000000) (hxl : xs.length = n) :
    Calls Try.prog 42 #[.slice A n c, .int .i64 n, .slice (some ⟨vb, 0, none⟩) 1 1] w (InsP B (.slice A n c) (xs ++ [y]) w) := by
  have hcut : ∀ w' : World, (Instr.slice 72 (.slice A n c) (some (.int .i64 n)) none none).run Try.prog w' = .ok (.slice (cutS A n c 6) (n - n) (c - n)) w' := fun w' => run_cutS_l Try.underlying72 elem_m size_m A n c n (Nat.le_refl _) w'
  have hr : Rd w (some ⟨vb, 0, none⟩) y.cells := Rd.mk fun i v hi => by rw [Nat.zero_add]; exact (cell_of_row _ _ i _ _ _ hv).trans (by simpa using hi)
  have h1 : ∀ u ∈ y.cells, u.oneCell' = true := fun u hu => cells6_one [y] u (by simpa [cells6] using hu)
  have HO := Lib.hid ho
  have HR := Lib.hid hr
  have H1 := Lib.hid h1
  have HN := Lib.hid hxl
  clear ho hr h1 hv hxl
  go_enter Try.func42, Try.ntmps42
  go_wp2_with (at_builtin; refine wpList_appS w (by rfl) _ _ 72 rfl B 76 (.agg #[.int .i64 0, .int .i64 0, .int .i64 0, .int .i64 0, .string ⟨#[]⟩, .slice none 0 0]) 6 72 Try.underlying72 info_m rfl (by omega) _ n (cells6 xs) (by rfl) HO.out _ 1 1 y.cells (by rfl) rfl HR.out H1.out (by unfold maxLen; omega) (by omega) hB ?_)
  intro X cap w' hown happ
  have HP : Hid (InsP B (.slice A n c) (xs ++ [y]) w (.returned (.slice X (n + 1) cap)) w') := by
    have e1 : (xs ++ [y]).length = n + 1 := by rw [List.length_append, HN.out]; rfl
    refine ⟨X, cap, by rw [e1], ?_, by rw [e1]; exact happ⟩
    rw [e1]
    have e2 : cells6 (xs ++ [y]) = cells6 xs ++ y.cells := by simp [cells6]
    rw [e2]; exact hown
  clear hown happ
  go_wp2_with fail
  go_ret
  exact HP.out
set_option maxRecDepth 100000 in
set_option maxHeartbeats 2000000 in
/-- there is room: in place -/
theorem insert_shift (B n c vb g i : Nat) (xs : List Mm) (y : Mm) (w : World) (ho : w.ownsRow B 76 6 (.slice (some ⟨g, 0, none⟩) n c) n (cells6 xs)) (hv : w.heap[vb]? = some (.cells y.cells.toArray 76 (0, 0))) (hne : vb ≠ g) (hn : n ≤ 1000000) (hxl : xs.length = n) (hi : i < n) (hroom : n + 1 ≤ c) :
    Calls Try.prog 42 #[.slice (some ⟨g, 0, none⟩) n c, .int .i64 i, .slice (some ⟨vb, 0, none⟩) 1 1] w (InsP B (.slice (some ⟨g, 0, none⟩) n c) (xs.take i ++ y :: xs.drop i) w) := by
  obtain ⟨_, _, he, hBg, _, hcm, hgl⟩ := own_some ho (by omega)
  cases he
  have hvl := (Array.getElem?_eq_some_iff.1 hv).1
  have hcm' := hcm
  unfold maxLen at hcm'
  have hxs6 : (cells6 xs).length = n * 6 := by rw [cells6_len, hxl]
  obtain ⟨ys, hyl, ho2⟩ := own_more ho rfl (n + 1) (by omega) hroom
  have hy1 : ys.length = 6 := by rw [hyl]; omega
  have ho2d : w.drew.ownsRow B 76 6 (.slice (some ⟨g, 0, none⟩) (n + 1) c) (n + 1) (cells6 xs ++ ys) := ho2
  -- the source of the first copy: the same row from i on
  have hsrc : Rd w.drew (some ⟨g, i * 6, none⟩) (cells6 (xs.drop i)) := by
    have he : cells6 (xs.drop i) = (cells6 xs).drop (i * 6) := (flat_drop Mm.len xs i (by omega)).symm
    rw [he]
    refine Rd.mk fun j v hj => ?_
    rw [List.getElem?_drop] at hj
    exact (own_cells ho (i * 6 + j) v hj).1
  have hdl : (cells6 (xs.drop i)).length = (n - i) * 6 := by rw [cells6_len, List.length_drop, hxl]
  obtain ⟨w1, hr1, ho3, hw1⟩ := run_copyIn (P := Try.prog) 72 72 Try.underlying72 size_m ho2d (i + 1) (n - i) (n - i) (c - (i + 1)) (some ⟨g, i * 6, none⟩) (n + 1 - i) (c - i) (cells6 (xs.drop i)) (by simp only [Nat.min_def]; split <;> omega) hdl hsrc (cells6_one _) (by omega)
  have hv1 : w1.heap[vb]? = some (.cells y.cells.toArray 76 (0, 0)) := (hw1.block vb (by simpa [Value.ownBlock] using hne)).trans hv
  have hry : Rd w1 (some ⟨vb, 0, none⟩) y.cells := Rd.mk fun j v hj => by rw [Nat.zero_add]; exact (cell_of_row _ _ j _ _ _ hv1).trans (by simpa using hj)
  have hy1c : ∀ u ∈ y.cells, u.oneCell' = true := fun u hu => cells6_one [y] u (by simpa [cells6] using hu)
  obtain ⟨w2, hr2, ho4, hw2⟩ := run_copyIn (P := Try.prog) 72 72 Try.underlying72 size_m ho3 i 1 (n + 1 - i) (c - i) (some ⟨vb, 0, none⟩) 1 1 y.cells (by simp only [Nat.min_def]; split <;> omega) rfl hry hy1c (by omega)
  rw [over_over _ _ _ _ _ (by show (i + 1) * 6 = i * 6 + 6; omega) (by rw [hdl, List.length_append, hxs6, hy1]; omega), List.take_append_of_le_length (by rw [hxs6]; omega), show (cells6 xs).take (i * 6) = cells6 (xs.take i) from flat_take Mm.len xs i (by omega)] at ho4
  have HP : Hid (InsP B (.slice (some ⟨g, 0, none⟩) n c) (xs.take i ++ y :: xs.drop i) w (.returned (.slice (some ⟨g, 0, none⟩) (n + 1) c)) w2) := by
    have e1 : (xs.take i ++ y :: xs.drop i).length = n + 1 := by simp; omega
    refine ⟨_, c, by rw [e1], ?_, ?_, .inl rfl⟩
    · rw [e1]
      have e2 : cells6 (xs.take i ++ y :: xs.drop i) = cells6 (xs.take i) ++ y.cells ++ cells6 (xs.drop i) := by simp [cells6]
      rw [e2]; exact ho4
    · exact ⟨hw2.os.trans hw1.os, hw2.tape.trans hw1.tape, hw2.output.trans hw1.output, by rw [hw2.size, hw1.size]; exact Nat.le_refl _, fun k hk hne => (hw2.block k hne).trans (hw1.block k hne)⟩
  have hc0 : ∀ w' : World, (Instr.slice 72 (.slice (some ⟨g, 0, none⟩) n c) (some (.int .i64 i)) none none).run Try.prog w' = .ok (.slice (some ⟨g, i * 6, none⟩) (n - i) (c - i)) w' := fun w' => by
    have h := run_cutS_l Try.underlying72 elem_m size_m (some ⟨g, 0, none⟩) n c i (by omega) w'
    rwa [cutS_some _ _ _ _ (by omega)] at h
  have hc1 : ∀ w' : World, (Instr.slice 72 (.slice (some ⟨g, 0, none⟩) n c) none (some (.int .i64 ((n : Int) + 1))) none).run Try.prog w' = .ok (.slice (some ⟨g, 0, none⟩) (n + 1) c) w' := fun w' => run_cutS_h Try.underlying72 elem_m (some ⟨g, 0, none⟩) n c (n + 1) hroom size_m w'
  have hc2 : ∀ w' : World, (Instr.slice 72 (.slice (some ⟨g, 0, none⟩) (n + 1) c) (some (.int .i64 ((i : Int) + 1))) none none).run Try.prog w' = .ok (.slice (some ⟨g, (i + 1) * 6, none⟩) (n - i) (c - (i + 1))) w' := fun w' => by
    have h := run_cutS_l Try.underlying72 elem_m size_m (some ⟨g, 0, none⟩) (n + 1) c (i + 1) (by omega) w'
    rwa [cutS_some _ _ _ _ (by omega), show n + 1 - (i + 1) = n - i by omega] at h
  have hc3 : ∀ w' : World, (Instr.slice 72 (.slice (some ⟨g, 0, none⟩) (n + 1) c) (some (.int .i64 i)) none none).run Try.prog w' = .ok (.slice (some ⟨g, i * 6, none⟩) (n + 1 - i) (c - i)) w' := fun w' => by
    have h := run_cutS_l Try.underlying72 elem_m size_m (some ⟨g, 0, none⟩) (n + 1) c i (by omega) w'
    rwa [cutS_some _ _ _ _ (by omega)] at h
  have hov : ∀ lb cb, (callFunc 70 #[.slice (some ⟨vb, 0, none⟩) 1 1, .slice (some ⟨g, (i + 1) * 6, none⟩) lb cb]).run Try.prog w = .ok (.value (.bool false)) w := fun lb cb => by
    rcases ho.2 with ⟨h2, _⟩ | ⟨g', c', cur, he, _, hh, _, _, hcs, _⟩
    · cases h2
    · cases he
      have hs1 : w.shape? vb = some (76, 6) := by simp [World.shape?, hv]; rfl
      have hs2 : w.shape? g = some (76, c * 6) := by simp [World.shape?, hh, hcs]
      rw [run_callFunc_extern Try.func70 (by kernel_rfl) (by kernel_rfl) (by kernel_rfl) (e := Extern.SlicesOverlaps.overlaps #[72, 72] #[4]) (by kernel_rfl),
        Lib.run_overlaps_apart w 72 4 76 Try.underlying72 6 sizeOf_m ⟨vb, 0, none⟩ ⟨g, (i + 1) * 6, none⟩ 1 1 lb cb hne _ _ _ _ hs1 hs2 (by omega) (frozen_of_row _ _ _ _ _ hv) (frozen_of_row _ _ _ _ _ hv)]
      rfl
  have hz2 : ((i : Int) == (n : Int)) = false := by rw [beq_eq_false_iff_ne]; omega
  have HR1 := Lib.hid hr1
  have HR2 := Lib.hid hr2
  have HNN := Lib.hid hxl
  clear ho ho2 ho2d ho3 ho4 hr1 hr2 hsrc hry hv hv1 hw1 hw2 hy1c hyl hy1 hdl hxs6 hxl hcm
  go_enter Try.func42, Try.ntmps42
  go_wp2_with (simp only [hov])
  have hwr : IntKind.i64.wrap ((i : Int) + 1) = (i : Int) + 1 := IntWalk.i64_in _ (by omega)
  go_region_law ((refine step_copy_runI (by rfl) _ _ 72 72 (by rfl) _ _ (by simp [Act.eval, Act.put]) (by simp [Act.eval, Act.put]) (HR1.out _) ?_))
  clear hwr
  go_wp2_with (refine wpList_copy_runI w1 (by rfl) _ _ 72 72 (by rfl) _ _ (by rfl) (by rfl) (HR2.out _) ?_)
  go_outline
  go_ret
  exact HP.out
theorem over_two (X Y D : List Value) (a b : Nat) (hab : b = a + Y.length) (hX : b + D.length = X.length) : over (over X a Y) b D = X.take a ++ Y ++ D := by
  unfold over
  have la : (X.take a).length = a := by simp; omega
  have h1 : (X.take a ++ Y ++ X.drop (a + Y.length)).take b = X.take a ++ Y := by rw [List.take_append_of_le_length (by simp; omega), List.take_of_length_le (by simp; omega)]
  have h2 : (X.take a ++ Y ++ X.drop (a + Y.length)).drop (b + D.length) = [] := List.drop_eq_nil_of_le (by simp; omega)
  rw [h1, h2, List.append_nil]
set_option maxRecDepth 100000 in
set_option maxHeartbeats 2000000 in
/-- no room: a new row -/
theorem insert_grow (B n c vb g i : Nat) (xs : List Mm) (y : Mm) (w : World) (ho : w.ownsRow B 76 6 (.slice (some ⟨g, 0, none⟩) n c) n (cells6 xs)) (hv : w.heap[vb]? = some (.cells y.cells.toArray 76 (0, 0))) (hB : B ≤ w.heap.size) (hn : n ≤ 1000000) (hxl : xs.length = n) (hi : i < n) (hroom : ¬ n + 1 ≤ c) :
    Calls Try.prog 42 #[.slice (some ⟨g, 0, none⟩) n c, .int .i64 i, .slice (some ⟨vb, 0, none⟩) 1 1] w (InsP B (.slice (some ⟨g, 0, none⟩) n c) (xs.take i ++ y :: xs.drop i) w) := by
  obtain ⟨_, _, he, hBg, hnc, hcm, hgl⟩ := own_some ho (by omega)
  cases he
  have hvl := (Array.getElem?_eq_some_iff.1 hv).1
  have hcm' := hcm
  unfold maxLen at hcm'
  have hxs6 : (cells6 xs).length = n * 6 := by rw [cells6_len, hxl]
  obtain ⟨i0, hi0, hz0, hz1, hz2⟩ := info_parts info_m
  have htl : (cells6 (xs.take i)).length = i * 6 := by rw [cells6_len, List.length_take, hxl, Nat.min_eq_left (by omega)]
  have hold : (Builtin.firstCells i0.size i (.slice (some ⟨g, 0, none⟩) i c)).run Try.prog w.drew = .ok (cells6 (xs.take i)).toArray w.drew := by
    refine run_firstCells_some w.drew i0.size i ⟨g, 0, none⟩ i c (cells6 (xs.take i)) (by rw [htl, hz1]) (fun j v hj => ?_)
    rw [addr_add, Nat.zero_add]
    have he : cells6 (xs.take i) = (cells6 xs).take (i * 6) := (flat_take Mm.len xs i (by omega)).symm
    rw [he, List.getElem?_take] at hj
    split at hj
    · exact (own_cells ho j v hj).1
    · cases hj
  have hrz : ∀ ty, (Builtin.append_ #[72, 3] ty #[.slice (some ⟨g, 0, none⟩) i c, .int .i64 ((n : Int) + 1 - (i : Int))]).run Try.prog w =
      .ok (.slice (some ⟨w.heap.size, 0, none⟩) (n + 1) (grownCap w (n + 1) c 76)) (w.drew.alloc (.cells ((cells6 (xs.take i)).toArray ++ Builtin.zeroCells (Value.agg #[.int .i64 0, .int .i64 0, .int .i64 0, .int .i64 0, .string ⟨#[]⟩, .slice none 0 0]).cells (n + 1 - i) ++ Builtin.zeroCells (Value.agg #[.int .i64 0, .int .i64 0, .int .i64 0, .int .i64 0, .string ⟨#[]⟩, .slice none 0 0]).cells (grownCap w (n + 1) c 76 - (n + 1))) 76)) := fun ty => by
    have h := Lib.run_append_grow_zeros (P := Try.prog) w 72 3 ty 76 i0 _ .i64 .i64 Try.underlying72 Try.underlying3 hi0 hz0 (some ⟨g, 0, none⟩) i c (cells6 (xs.take i)) hold (n + 1 - i) (by omega) (by rw [hz1]; omega) (by omega) (by omega)
      (by rw [hz2]; omega) (by rw [hz2, show i + (n + 1 - i) = n + 1 by omega]; exact growslice_fits (by omega) (by omega))
    rw [show i + (n + 1 - i) = n + 1 by omega] at h
    rw [show (n : Int) + 1 - (i : Int) = ((n + 1 - i : Nat) : Int) by omega]
    exact h
  have hGn : n + 1 ≤ grownCap w (n + 1) c 76 := grownCap_ge w _ _ _
  have hGm := grownCap_le_maxLen w (n + 1) c 76 (by unfold maxLen; omega)
  generalize grownCap w (n + 1) c 76 = G at *
  have hGm' := hGm
  unfold maxLen at hGm'
  obtain ⟨ROW, hROW⟩ : ∃ ROW : Array Value, ROW = (cells6 (xs.take i)).toArray ++ Builtin.zeroCells (Value.agg #[.int .i64 0, .int .i64 0, .int .i64 0, .int .i64 0, .string ⟨#[]⟩, .slice none 0 0]).cells (n + 1 - i) ++ Builtin.zeroCells (Value.agg #[.int .i64 0, .int .i64 0, .int .i64 0, .int .i64 0, .string ⟨#[]⟩, .slice none 0 0]).cells (G - (n + 1)) := ⟨_, rfl⟩
  rw [← hROW] at hrz
  have hzc : (Value.agg #[.int .i64 0, .int .i64 0, .int .i64 0, .int .i64 0, .string ⟨#[]⟩, .slice none 0 0]).cells.size = 6 := rfl
  have hRs : ROW.size = G * 6 := by
    rw [hROW, Array.size_append, Array.size_append, zeroCells_len, zeroCells_len, hzc, List.size_toArray, htl]; omega
  have hRt : ROW.toList.take (i * 6) = cells6 (xs.take i) := by
    rw [hROW, Array.toList_append, Array.toList_append, List.append_assoc, List.take_append_of_le_length (by rw [show (cells6 (xs.take i)).toArray.toList = cells6 (xs.take i) from rfl, htl]; exact Nat.le_refl _)]
    exact List.take_of_length_le (Nat.le_of_eq htl)
  obtain ⟨W1, hW1⟩ : ∃ W1, w.drew.alloc (.cells ROW 76) = W1 := ⟨_, rfl⟩
  rw [hW1] at hrz
  have hb1 : Below w.heap.size w W1 := by rw [← hW1]; exact (Below.refl _ _).drew.alloc (Nat.le_refl _) _
  have hN1 : W1.heap[w.heap.size]? = some (.cells ROW 76 (0, 0)) := by rw [← hW1]; exact heap_alloc_new w.drew _
  have ho1 : W1.ownsRow B 76 6 (.slice (some ⟨w.heap.size, 0, none⟩) (n + 1) G) (n + 1) (ROW.toList.take ((n + 1) * 6)) :=
    ⟨by rw [List.length_take, Array.length_toList, hRs]; omega, .inr ⟨w.heap.size, G, ROW, rfl, hB, hN1, hGn, hGm, hRs, rfl⟩⟩
  have hv1 : W1.heap[vb]? = some (.cells y.cells.toArray 76 (0, 0)) := (hb1.block vb hvl).trans hv
  have hry : Rd W1 (some ⟨vb, 0, none⟩) y.cells := Rd.mk fun j v hj => by rw [Nat.zero_add]; exact (cell_of_row _ _ j _ _ _ hv1).trans (by simpa using hj)
  have hy1c : ∀ u ∈ y.cells, u.oneCell' = true := fun u hu => cells6_one [y] u (by simpa [cells6] using hu)
  obtain ⟨W2, hr1, ho2, hw2⟩ := run_copyIn (P := Try.prog) 72 72 Try.underlying72 size_m ho1 i 1 (n + 1 - i) (G - i) (some ⟨vb, 0, none⟩) 1 1 y.cells (by simp only [Nat.min_def]; split <;> omega) rfl hry hy1c (by omega)
  have hdl : (cells6 (xs.drop i)).length = (n - i) * 6 := by rw [cells6_len, List.length_drop, hxl]
  have hsrc : Rd W2.drew (some ⟨g, i * 6, none⟩) (cells6 (xs.drop i)) := by
    have he : cells6 (xs.drop i) = (cells6 xs).drop (i * 6) := (flat_drop Mm.len xs i (by omega)).symm
    rw [he]
    refine Rd.mk fun j v hj => ?_
    rw [List.getElem?_drop] at hj
    have h0 := (own_cells ho (i * 6 + j) v hj).1
    exact (World.cell?_of_block (a := ⟨g, i * 6 + j, none⟩) ((hw2.block g (by simp only [Value.ownBlock]; intro e; injection e with e; omega)).trans (hb1.block g hgl))).trans h0
  obtain ⟨W3, hr2, ho3, hw3⟩ := run_copyIn (w := W2.drew) (P := Try.prog) 72 72 Try.underlying72 size_m ho2 (i + 1) (n - i) (n - i) (G - (i + 1)) (some ⟨g, i * 6, none⟩) (n - i) (c - i) (cells6 (xs.drop i)) (Nat.min_self _) hdl hsrc (cells6_one _) (by omega)
  rw [over_two _ _ _ _ _ (by show (i + 1) * 6 = i * 6 + 6; omega) (by rw [hdl, List.length_take, Array.length_toList, hRs]; omega), List.take_take, Nat.min_eq_left (by omega), hRt] at ho3
  have HP : Hid (InsP B (.slice (some ⟨g, 0, none⟩) n c) (xs.take i ++ y :: xs.drop i) w (.returned (.slice (some ⟨w.heap.size, 0, none⟩) (n + 1) G)) W3) := by
    have e1 : (xs.take i ++ y :: xs.drop i).length = n + 1 := by simp; omega
    refine ⟨_, G, by rw [e1], ?_, ?_, .inr ⟨_, rfl, Nat.le_refl _⟩⟩
    · rw [e1]
      have e2 : cells6 (xs.take i ++ y :: xs.drop i) = cells6 (xs.take i) ++ y.cells ++ cells6 (xs.drop i) := by simp [cells6]
      rw [e2]; exact ho3
    · have hne : ∀ k, k < w.heap.size → some k ≠ (Value.slice (some ⟨w.heap.size, 0, none⟩) (n + 1) G).ownBlock := fun k hk e => by simp only [Value.ownBlock] at e; injection e with e; omega
      exact ⟨hw3.os.trans (hw2.os.trans hb1.os), hw3.tape.trans (hw2.tape.trans hb1.tape), hw3.output.trans (hw2.output.trans hb1.output), by rw [hw3.size]; show _ ≤ W2.heap.size; rw [hw2.size]; exact hb1.size, fun k hk _ => (hw3.block k (hne k hk)).trans ((hw2.block k (hne k hk)).trans (hb1.block k hk))⟩
  have hc0 : ∀ w' : World, (Instr.slice 72 (.slice (some ⟨g, 0, none⟩) n c) (some (.int .i64 i)) none none).run Try.prog w' = .ok (.slice (some ⟨g, i * 6, none⟩) (n - i) (c - i)) w' := fun w' => by
    have h := run_cutS_l Try.underlying72 elem_m size_m (some ⟨g, 0, none⟩) n c i (by omega) w'
    rwa [cutS_some _ _ _ _ (by omega)] at h
  have hc1 : ∀ w' : World, (Instr.slice 72 (.slice (some ⟨g, 0, none⟩) n c) none (some (.int .i64 i)) none).run Try.prog w' = .ok (.slice (some ⟨g, 0, none⟩) i c) w' := fun w' => run_cutS_h Try.underlying72 elem_m (some ⟨g, 0, none⟩) n c i (by omega) size_m w'
  have hc2 : ∀ w' : World, (Instr.slice 72 (.slice (some ⟨w.heap.size, 0, none⟩) (n + 1) G) (some (.int .i64 ((i : Int) + 1))) none none).run Try.prog w' = .ok (.slice (some ⟨w.heap.size, (i + 1) * 6, none⟩) (n - i) (G - (i + 1))) w' := fun w' => by
    have h := run_cutS_l Try.underlying72 elem_m size_m (some ⟨w.heap.size, 0, none⟩) (n + 1) G (i + 1) (by omega) w'
    rwa [cutS_some _ _ _ _ (by omega), show n + 1 - (i + 1) = n - i by omega] at h
  have hc3 : ∀ w' : World, (Instr.slice 72 (.slice (some ⟨w.heap.size, 0, none⟩) (n + 1) G) (some (.int .i64 i)) none none).run Try.prog w' = .ok (.slice (some ⟨w.heap.size, i * 6, none⟩) (n + 1 - i) (G - i)) w' := fun w' => by
    have h := run_cutS_l Try.underlying72 elem_m size_m (some ⟨w.heap.size, 0, none⟩) (n + 1) G i (by omega) w'
    rwa [cutS_some _ _ _ _ (by omega)] at h
  have hz2 : ((i : Int) == (n : Int)) = false := by rw [beq_eq_false_iff_ne]; omega
  have hz3 : (c : Int) < (n : Int) + 1 := by omega
  have HR1 := Lib.hid hr1
  have HR2 := Lib.hid hr2
  have HRZ := Lib.hid hrz
  clear ho ho1 ho2 ho3 hr1 hr2 hrz hsrc hry hv hv1 hw2 hw3 hb1 hN1 hW1 hROW hRs hRt hzc hy1c hdl hxs6 hxl hcm hold hi0 hz0 hz1 htl hGm
  go_enter Try.func42, Try.ntmps42
  go_wp2_with (first | (at_builtin; refine Lib.wpList_append_run w (by rfl) _ _ _ _ (by rfl) _ _ (by rfl) (by rfl) _ _ (HRZ.out _) ?_) | (refine wpList_copy_runI W1 (by rfl) _ _ 72 72 (by rfl) _ _ (by rfl) (by rfl) (HR1.out _) ?_))
  have hwr : IntKind.i64.wrap ((i : Int) + 1) = (i : Int) + 1 := IntWalk.i64_in _ (by omega)
  go_region_law ((refine step_copy_runI (by rfl) _ _ 72 72 (by rfl) _ _ (by simp [Act.eval, Act.put]) (by simp [Act.eval, Act.put]) (HR2.out _) ?_))
  clear hwr
  go_wp2_with fail
  go_ret
  exact HP.out
/-- Insert of one message, everywhere -/
theorem insert_calls (B n c vb i : Nat) (A : Option Addr) (xs : List Mm) (y : Mm) (w : World) (ho : w.ownsRow B 76 6 (.slice A n c) n (cells6 xs)) (hv : w.heap[vb]? = some (.cells y.cells.toArray 76 (0, 0))) (hne : ∀ g off, A = some ⟨g, off, none⟩ → vb ≠ g) (hB : B ≤ w.heap.size) (hn : n ≤ 1000000) (hxl : xs.length = n) (hi : i ≤ n) :
    Calls Try.prog 42 #[.slice A n c, .int .i64 i, .slice (some ⟨vb, 0, none⟩) 1 1] w (InsP B (.slice A n c) (xs.take i ++ y :: xs.drop i) w) := by
  by_cases h : i = n
  · subst h
    have h2 := insert_end B i c vb A xs y w ho hv hB hn hxl
    rwa [List.take_of_length_le (Nat.le_of_eq hxl), List.drop_eq_nil_of_le (Nat.le_of_eq hxl)]
  · obtain ⟨g, c', he, _⟩ := own_some ho (by omega)
    cases he
    by_cases hroom : n + 1 ≤ c
    · exact insert_shift B n c vb g i xs y w ho hv (hne g 0 rfl) hn hxl (by omega) hroom
    · exact insert_grow B n c vb g i xs y w ho hv hB hn hxl (by omega) hroom
end Mb
end Go.Proofs.Ytddoepaplbnlcaa
