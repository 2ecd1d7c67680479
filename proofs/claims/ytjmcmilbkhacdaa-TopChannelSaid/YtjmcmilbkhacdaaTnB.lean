/- The walk of slices.Delete of one packet. -/
import Derived.Test.YtjmcmilbkhacdaaTnA
import Derived.Test.YtjmcmilbkhacdaaWrI
import Derived.IntWalk
import Derived.Shelf.Spec.SlicesInsert
import Derived.Deep.RegionLaw
namespace Go.Proofs.Ytjmcmilbkhacdaa
open Go.RowKit Go.Shelf

section
variable {P : Program}
/-- clear behind a row of the call's own -/
theorem run_clearTail {w : World} {B n sz c g : Nat} {e : TypeId} {xs : List Value} (t : TypeId) (z : Value) (ht : P.underlying t = some (.slice e)) (hv : ∀ w, (zeroValue e).run P w = .ok z w) (hz : z.cells.size = sz) (h1 : ∀ v ∈ z.cells.toList, v.oneCell' = true)
    (hown : w.ownsRow B e sz (.slice (some ⟨g, 0, none⟩) n c) n xs) (m : Nat) (hm : 0 < m) (hfit : n + m ≤ c) :
    ∃ w', (∀ ty cc, (Builtin.clear_ #[t] ty #[.slice (some ⟨g, n * sz, none⟩) m cc]).run P w = .ok (.tuple #[]) w') ∧ w'.ownsRow B e sz (.slice (some ⟨g, 0, none⟩) n c) n xs ∧ Wrote w w' (.slice (some ⟨g, 0, none⟩) n c) := by
  obtain ⟨ys, hyl, ho2⟩ := own_more hown rfl (n + m) (by omega) hfit
  have hxl := hown.1
  rcases ho2.2 with ⟨h2, _⟩ | ⟨g', c', cur, he, hg, hh, hnc, hcm, hcs, hx⟩
  · cases h2
  · injection he with e1 _ e3
    injection e1 with e1
    injection e1 with e1
    subst e1 e3
    have hmul : n * sz + m * sz ≤ c * sz := by rw [← Nat.add_mul]; exact Nat.mul_le_mul_right _ hfit
    obtain ⟨zs, hzl, _⟩ := run_clear_rowS (P := P) w t e 0 z g (n * sz) m 0 cur e ht hv hz h1 hh (by rw [hcs]; exact hmul) hm
    have hrun : ∀ ty cc, (Builtin.clear_ #[t] ty #[.slice (some ⟨g, n * sz, none⟩) m cc]).run P w = .ok (.tuple #[]) (w.setRow g (over cur.toList (n * sz) (Builtin.zeroCells z.cells m).toList).toArray) := fun ty cc => by
      have hl : (Builtin.zeroCells z.cells m).toList.length = m * sz := by simp [zeroCells_len, hz]
      have hst := run_storeCells_at P g (n * sz) e (Builtin.zeroCells z.cells m).toList 0 cur w hh (by rw [hl, hcs]; simpa using hmul) (zeroCells_one _ h1 m)
      simp only [Nat.add_zero] at hst
      obtain ⟨m, rfl⟩ : ∃ k, m = k + 1 := ⟨m - 1, by omega⟩
      unfold over
      simp [Builtin.clear_, run_underlying ht, hv, hst]
    have hl : (Builtin.zeroCells z.cells m).toList.length = m * sz := by simp [zeroCells_len, hz]
    obtain ⟨hown', hw'⟩ := own_over (n := n + m) (sz := sz) (xs := xs ++ ys) hg hh hnc hcm hcs hx (n * sz) (Builtin.zeroCells z.cells m).toList (by rw [hl, Nat.add_mul]; exact Nat.le_refl _)
    have ho3 := own_less hown' rfl n (by omega) (fun h => by omega)
    have he : (over (xs ++ ys) (n * sz) (Builtin.zeroCells z.cells m).toList).take (n * sz) = xs := by
      unfold over
      rw [List.append_assoc, List.take_append_of_le_length (by rw [List.length_take, List.length_append, hxl]; omega), List.take_take, Nat.min_self, List.take_append_of_le_length (by omega), List.take_of_length_le (by omega)]
    rw [he] at ho3
    exact ⟨_, hrun, ho3, ⟨hw'.os, hw'.tape, hw'.output, hw'.size, hw'.block⟩⟩
/-- append within the capacity -/
theorem run_append_in {w : World} {B n sz c g : Nat} {e : TypeId} {xs : List Value} (t : TypeId) (ht : P.underlying t = some (.slice e)) (i : TypeInfo) (hi : P.info? e = some i) (hs : i.size = sz) (hown : w.ownsRow B e sz (.slice (some ⟨g, 0, none⟩) n c) n xs)
    (A : Option Addr) (hA : A ≠ none) (m mc : Nat) (news : List Value) (hl : news.length = m * sz) (hr : Rd w A news) (h1 : ∀ u ∈ news, u.oneCell' = true) (hroom : n + m ≤ c) :
    ∃ w', (∀ ty, (Builtin.append_ #[t, t] ty #[.slice (some ⟨g, 0, none⟩) n c, .slice A m mc]).run P w = .ok (.slice (some ⟨g, 0, none⟩) (n + m) c) w') ∧ w'.ownsRow B e sz (.slice (some ⟨g, 0, none⟩) (n + m) c) (n + m) (xs ++ news) ∧ w.grownBy w' (some g) := by
  subst hs
  obtain ⟨ad, rfl⟩ := Option.ne_none_iff_exists'.1 hA
  have had : ∀ j u, news[j]? = some u → w.cell? (ad.add j) = some u := fun j u hj => by
    obtain ⟨b, off, e, hc⟩ := hr j u hj
    cases e
    rw [addr_add]; exact hc
  have hlen : (xs ++ news).length = (n + m) * i.size := by rw [List.length_append, hown.1, hl, Nat.add_mul]
  rcases hown.2 with ⟨h2, _⟩ | ⟨g', c', cur, he, hbg, hh, hnc', hcm2, hcs, hx⟩
  · cases h2
  · injection he with e1 _ e3
    injection e1 with e1
    injection e1 with e1
    subst e1 e3
    have hfit : n * i.size + news.length ≤ cur.size := by rw [hl, hcs, ← Nat.add_mul]; exact Nat.mul_le_mul_right _ hroom
    refine ⟨_, fun ty => run_append_room w t ty e i ht hi g n c cur hh ad m mc news hl had h1 hroom hfit, ⟨hlen, .inr ⟨g, c, _, rfl, hbg, setRow_heap w g cur _ e _ hh, hroom, hcm2, ?_, ?_⟩⟩, ⟨rfl, rfl, rfl, by simp, fun k _ hk => setRow_other w g k _ (fun e => hk (by simp [e]))⟩⟩
    · simp only [List.size_toArray, List.length_append, List.length_take, List.length_drop, Array.length_toList]
      omega
    · rw [hx, ← hlen]
      exact List.take_left
theorem wp_clear_run (w : World) {o : Oper} {a : Act} {K : Act → World → Prop} {Q : Exit → Act → World → Prop} (d : Operand) (t : TypeId)
    (ho : o.op = .call { callee := .builtin .clear, args := #[d], argTypes := #[t] }) (v : Value) (hd : a.eval d = v) {v' : Value} {w' : World}
    (hr : (Builtin.clear_ #[t] o.type #[v]).run P w = .ok v' w') (h : K (a.put o.dst v') w') : o.wp P a w K Q := by
  unfold Oper.wp execOp
  simp only [ho, resolve, invoke, builtin, Sem.run_bind, Sem.run_pure, Result.andThen_ok, List.map_toArray, List.map_cons, List.map_nil, hd, hr]
  exact h
theorem wpList_clear_run (w : World) {ops : Array Oper} {rest : List Oper} {o : Oper} {a : Act} {Q : Exit → Act → World → Prop} (hgd : o.guard = none) (d : Operand) (t : TypeId)
    (ho : o.op = .call { callee := .builtin .clear, args := #[d], argTypes := #[t] }) (v : Value) (hd : a.eval d = v) {v' : Value} {w' : World}
    (hr : (Builtin.clear_ #[t] o.type #[v]).run P w = .ok v' w') (h : wpList P ops Q rest (a.put o.dst v') w') : wpList P ops Q (o :: rest) a w :=
  wpList_plain hgd fun _ hK => wp_clear_run w d t ho v hd hr (hK _ _ h)
theorem step_append_run {ops : Array Oper} {o : Oper} {a : Act} {w : World} {K : Act → World → Prop} {Q : Exit → Act → World → Prop} {E : Prop}
    (hg : o.guard = none) (s x : Operand) (t : TypeId) (hop : o.op = Op.call { callee := Callee.builtin Builtin.append, args := #[s, x], argTypes := #[t, t] })
    (v u : Value) (hd : a.eval s = v) (hx : a.eval x = u) {v' : Value} {w' : World} (hr : (Builtin.append_ #[t, t] o.type #[v, u]).run P w = .ok v' w') (hK : K (a.put o.dst v') w') :
    if Region.wanted o (yielded ops a.tmps) = true then Oper.wp P o a w K Q else E := by
  have hw : Region.wanted o (yielded ops a.tmps) = true := by simp [Region.wanted, hg]
  rw [if_pos hw]
  unfold Oper.wp
  simp [execOp, hop, resolve, invoke, builtin, hd, hx, hr, Result.andThen]
  exact hK
end
namespace Tc
theorem info_p : (Try.prog.info? 50).map (fun i => (i.zero, i.size, i.bytes)) = some (some (.agg #[.int .i64 0, .int .i64 0, .int .i64 0, .slice none 0 0]), 4, 48) := by kernel_rfl
theorem size_p : (Try.prog.info? 50).map (·.size) = some 4 := by kernel_rfl
theorem elem_p : Try.prog.elem 40 = 50 := by kernel_rfl
def InsP (B : Nat) (v : Value) (xs : List Pk) (w : World) (e : Ending) (w' : World) : Prop := ∃ A c, e = .returned (.slice A xs.length c) ∧ w'.ownsRow B 50 4 (.slice A xs.length c) xs.length (cells4 xs) ∧ App w v w' (.slice A xs.length c)
def zP : Value := .agg #[.int .i64 0, .int .i64 0, .int .i64 0, .slice none 0 0]
theorem zero_p (w : World) : (zeroValue 50).run Try.prog w = .ok zP w := by kernel_rfl
theorem zP_one : ∀ v ∈ zP.cells.toList, v.oneCell' = true := by
  intro v hv
  simp only [zP, Value.cells, List.mem_cons, List.not_mem_nil, or_false] at hv
  rcases hv with rfl | rfl | rfl | rfl <;> rfl
set_option maxRecDepth 100000 in
set_option maxHeartbeats 2000000 in
theorem delete_calls (B n c g i : Nat) (xs : List Pk) (w : World) (ho : w.ownsRow B 50 4 (.slice (some ⟨g, 0, none⟩) n c) n (cells4 xs)) (hn : n ≤ 1000000) (hxl : xs.length = n) (hi : i < n) :
    Calls Try.prog 27 #[.slice (some ⟨g, 0, none⟩) n c, .int .i64 i, .int .i64 ((i : Int) + 1)] w (InsP B (.slice (some ⟨g, 0, none⟩) n c) (xs.take i ++ xs.drop (i + 1)) w) := by
  obtain ⟨_, _, he, hBg, hnc, hcm, hgl⟩ := own_some ho (by omega)
  cases he
  have hcm' := hcm
  unfold maxLen at hcm'
  have hxs4 : (cells4 xs).length = n * 4 := by rw [cells4_len, hxl]
  obtain ⟨i0, hi0, hz0, hz1, hz2⟩ := info_parts info_p
  have htk : (cells4 xs).take (i * 4) = cells4 (xs.take i) := flat_take Pk.len xs i (by omega)
  have ho1 := own_less ho rfl i (by omega) (fun h => by omega)
  rw [htk] at ho1
  have ho1d : w.drew.ownsRow B 50 4 (.slice (some ⟨g, 0, none⟩) i c) i (cells4 (xs.take i)) := ho1
  have hsrc : Rd w.drew (cutS (some ⟨g, 0, none⟩) (i + 1) c 4) (cells4 (xs.drop (i + 1))) := by
    by_cases hcc : c = i + 1
    · have : xs.drop (i + 1) = [] := List.drop_eq_nil_of_le (by omega)
      rw [this]; exact Rd.nil
    · rw [cutS_some _ _ _ _ (by omega)]
      have he : cells4 (xs.drop (i + 1)) = (cells4 xs).drop ((i + 1) * 4) := (flat_drop Pk.len xs (i + 1) (by omega)).symm
      rw [he]
      refine Rd.mk fun j v hj => ?_
      rw [List.getElem?_drop] at hj
      exact (own_cells ho ((i + 1) * 4 + j) v hj).1
  have hdl : (cells4 (xs.drop (i + 1))).length = (n - (i + 1)) * 4 := by rw [cells4_len, List.length_drop, hxl]
  obtain ⟨w1, hr1, ho2, hg2⟩ : ∃ w1, (∀ ty, (Builtin.append_ #[40, 40] ty #[.slice (some ⟨g, 0, none⟩) i c, .slice (cutS (some ⟨g, 0, none⟩) (i + 1) c 4) (n - (i + 1)) (c - (i + 1))]).run Try.prog w.drew = .ok (.slice (some ⟨g, 0, none⟩) (n - 1) c) w1) ∧
      w1.ownsRow B 50 4 (.slice (some ⟨g, 0, none⟩) (n - 1) c) (n - 1) (cells4 (xs.take i) ++ cells4 (xs.drop (i + 1))) ∧ w.drew.grownBy w1 (some g) := by
    have hne : cutS (some ⟨g, 0, none⟩) (i + 1) c 4 ≠ none := by
      unfold cutS; split <;> simp
    have h := run_append_in (P := Try.prog) 40 Try.underlying40 i0 hi0 hz1 ho1d _ hne (n - (i + 1)) (c - (i + 1)) _ hdl hsrc (cells4_one _) (by omega)
    rwa [show i + (n - (i + 1)) = n - 1 by omega] at h
  obtain ⟨w2, hr2, ho3, hw2⟩ := run_clearTail (P := Try.prog) 40 zP Try.underlying40 zero_p rfl zP_one ho2 1 (by omega) (by omega)
  have HP : Hid (InsP B (.slice (some ⟨g, 0, none⟩) n c) (xs.take i ++ xs.drop (i + 1)) w (.returned (.slice (some ⟨g, 0, none⟩) (n - 1) c)) w2) := by
    have e1 : (xs.take i ++ xs.drop (i + 1)).length = n - 1 := by simp; omega
    refine ⟨_, c, by rw [e1], ?_, ?_, .inl rfl⟩
    · rw [e1]
      have e2 : cells4 (xs.take i ++ xs.drop (i + 1)) = cells4 (xs.take i) ++ cells4 (xs.drop (i + 1)) := by simp [cells4]
      rw [e2]; exact ho3
    · exact ⟨hw2.os.trans hg2.os, hw2.tape.trans hg2.tape, hw2.output.trans hg2.output, by rw [hw2.size]; exact hg2.size, fun k hk hne => (hw2.block k hne).trans (hg2.block k hk hne)⟩
  have hc1 : ∀ w' : World, (Instr.slice 40 (.slice (some ⟨g, 0, none⟩) n c) none (some (.int .i64 i)) none).run Try.prog w' = .ok (.slice (some ⟨g, 0, none⟩) i c) w' := fun w' => run_cutS_h Try.underlying40 elem_p (some ⟨g, 0, none⟩) n c i (by omega) size_p w'
  have hc2 : ∀ w' : World, (Instr.slice 40 (.slice (some ⟨g, 0, none⟩) n c) (some (.int .i64 ((i : Int) + 1))) none none).run Try.prog w' = .ok (.slice (cutS (some ⟨g, 0, none⟩) (i + 1) c 4) (n - (i + 1)) (c - (i + 1))) w' := fun w' => run_cutS_l Try.underlying40 elem_p size_p (some ⟨g, 0, none⟩) n c (i + 1) (by omega) w'
  have hc3 : ∀ w' : World, (Instr.slice 40 (.slice (some ⟨g, 0, none⟩) (n - 1) c) (some (.int .i64 ((n - 1 : Nat) : Int))) (some (.int .i64 n)) none).run Try.prog w' = .ok (.slice (some ⟨g, (n - 1) * 4, none⟩) 1 (c - (n - 1))) w' := fun w' => by
    have h := run_cutS_lh Try.underlying40 elem_p size_p (some ⟨g, 0, none⟩) (n - 1) c (n - 1) n (by omega) (by omega) w'
    rwa [cutS_some _ _ _ _ (by omega), show n - (n - 1) = 1 by omega] at h
  have hz2 : ((i : Int) == (i : Int) + 1) = false := by rw [beq_eq_false_iff_ne]; omega
  have HR1 := Lib.hid hr1
  have HR2 := Lib.hid hr2
  obtain ⟨n1, hn1⟩ : ∃ n1, n1 = n - 1 := ⟨_, rfl⟩
  rw [← hn1] at HR1 HR2 hc3 HP
  have HN1 := Lib.hid hn1
  generalize hcu : cutS (some ⟨g, 0, none⟩) (i + 1) c 4 = CU at *
  clear ho ho1 ho1d ho2 ho3 hr1 hr2 hg2 hw2 hsrc hdl hxs4 htk hxl hcm hi0 hz0 hz1 hcu hn1
  go_enter Try.func27, Try.ntmps27
  go_wp2_with fail
  go_region_law ((refine step_append_run (by rfl) _ _ 40 (by rfl) _ _ (by simp [Act.eval, Act.put]) (by simp [Act.eval, Act.put]) (HR1.out _) ?_))
  go_wp2_with (refine wpList_clear_run w1 (by rfl) _ 40 (by rfl) _ (by rfl) (HR2.out _ _) ?_)
  go_ret
  exact HP.out
end Tc
end Go.Proofs.Ytjmcmilbkhacdaa
