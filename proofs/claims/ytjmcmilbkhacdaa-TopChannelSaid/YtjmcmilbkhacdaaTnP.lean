/- The plain law of the pair. -/
import Derived.Test.YtjmcmilbkhacdaaTnO
namespace Go.Proofs.Ytjmcmilbkhacdaa
open Go.RowKit Go.Shelf
open Wi Wr
namespace Tc
def sd (M : Ms) : List (List UInt8) := M.sl.map (·.d)
/-- a packet is payload s -/
def isD (S : List (List UInt8)) (s : Nat) (p : Pk) : Prop := p.t = 2 ∧ ∃ v, S[s - 1]? = some v ∧ p.d = datD s v
def OkP (S : List (List UInt8)) (r : Nat) (p : Pk) : Prop := (∃ s, 0 < s ∧ s ≤ S.length ∧ isD S s p) ∨ (p.t = 1 ∧ ∃ N, N ≤ r ∧ p.d = ackD N)
structure Inv (M : Ms) : Prop where
  hS : M.S = M.sl.length
  kr : M.k ≤ M.r
  rS : M.r ≤ M.S
  kl : M.l.map (·.d) = (sd M).drop M.k
  gl : M.gl.map (·.d) = (sd M).take M.r
  ea : ∀ s y, M.E s = some y → M.r + 1 < s ∧ s ≤ M.S ∧ (sd M)[s - 1]? = some y.d
  pk : ∀ p ∈ M.ps, OkP (sd M) M.r p
  ln : ∀ d ∈ sd M, d.length ≤ 40
/-- nothing is lost -/
structure FF (M : Ms) : Prop where
  f1 : ∀ s, M.r < s → s ≤ M.S → M.E s ≠ none ∨ ∃ p ∈ M.ps, isD (sd M) s p
  f2 : M.k < M.S → (∃ p ∈ M.ps, p.t = 2) ∨ ∃ p ∈ M.ps, p.t = 1 ∧ p.d = ackD M.S
def wt (p : Pk) : Nat := if p.t = 1 then 1 else 2
def mu (ps : List Pk) : Nat := (ps.map wt).sum
theorem wt_pos (p : Pk) : 1 ≤ wt p := by unfold wt; split <;> omega
theorem mu_app (ps qs : List Pk) : mu (ps ++ qs) = mu ps + mu qs := by simp [mu]
theorem mu_one (p : Pk) : mu [p] = wt p := by simp [mu]
def rm (ps : List Pk) (j : Nat) : List Pk := ps.take j ++ ps.drop (j + 1)
theorem mu_rm {ps : List Pk} {j : Nat} (h : j < ps.length) : mu (rm ps j) + wt ps[j] = mu ps := by
  have h1 : mu ps = mu (ps.take j ++ ps[j] :: ps.drop (j + 1)) := by rw [← List.drop_eq_getElem_cons h, List.take_append_drop]
  rw [h1, rm, mu_app, mu_app, show ps[j] :: ps.drop (j + 1) = [ps[j]] ++ ps.drop (j + 1) from rfl, mu_app, mu_one]
  omega
theorem mu_len (ps : List Pk) : ps.length ≤ mu ps := by
  induction ps with
  | nil => simp
  | cons p t ih => have := wt_pos p; rw [show p :: t = [p] ++ t from rfl, mu_app, mu_one]; simp; omega
theorem rm_mem {ps : List Pk} {j : Nat} {p : Pk} (h : p ∈ rm ps j) : p ∈ ps := (List.mem_append.1 h).elim List.mem_of_mem_take List.mem_of_mem_drop
theorem mem_rm {ps : List Pk} {j : Nat} (h : j < ps.length) {p : Pk} (hp : p ∈ ps) : p = ps[j] ∨ p ∈ rm ps j := by
  have h1 : p ∈ ps.take j ++ ps[j] :: ps.drop (j + 1) := by rw [← List.drop_eq_getElem_cons h, List.take_append_drop]; exact hp
  rcases List.mem_append.1 h1 with h2 | h2
  · exact .inr (List.mem_append_left _ h2)
  · rcases List.mem_cons.1 h2 with h2 | h2
    · exact .inl h2
    · exact .inr (List.mem_append_right _ h2)
theorem rm_len {ps : List Pk} {j : Nat} (h : j < ps.length) : (rm ps j).length + 1 = ps.length := by simp [rm]; omega
theorem ackD_inj {a b : Nat} (ha : a ≤ 1000000000) (hb : b ≤ 1000000000) (h : ackD a = ackD b) : a = b := by
  unfold ackD at h
  injection h with _ h
  exact enc_inj a b (by omega) (by omega) h
theorem sd_len (M : Ms) : (sd M).length = M.sl.length := by simp [sd]
section
variable {M : Ms}
theorem Inv.lk (h : Inv M) : M.l.length + M.k = M.S := by
  have h1 := congrArg List.length h.kl
  rw [List.length_map, List.length_drop, sd_len, ← h.hS] at h1
  have := h.kr; have := h.rS
  omega
/-- an acknowledgement arrives -/
theorem Inv.ack (h : Inv M) {j N : Nat} (hN : N ≤ M.r) (A1 : Option Addr) (n1 c1 : Nat) (l1 : Int) (A2 : Option Addr) (n2 c2 : Nat) :
    Inv { M with An := A1, nn := n1, cn := c1, last := l1, ps := rm M.ps j, Aa := A2, na := n2, ca := c2, S := M.S, k := max M.k N, l := M.l.drop (N - M.k) } where
  hS := h.hS
  kr := by have := h.kr; show max M.k N ≤ M.r; omega
  rS := h.rS
  kl := by
    show (M.l.drop (N - M.k)).map (·.d) = (sd M).drop (max M.k N)
    rw [List.map_drop, h.kl, List.drop_drop]
    congr 1
    omega
  gl := h.gl
  ea := h.ea
  pk := fun p hp => h.pk p (rm_mem hp)
  ln := h.ln
theorem FF.ack (h : FF M) (hi : Inv M) {j N : Nat} (hj : j < M.ps.length) (ht : M.ps[j].t = 1) (hd : M.ps[j].d = ackD N) (hN : N ≤ M.r) (hS : M.S ≤ 1000) (A1 : Option Addr) (n1 c1 : Nat) (l1 : Int) (A2 : Option Addr) (n2 c2 : Nat) :
    FF { M with An := A1, nn := n1, cn := c1, last := l1, ps := rm M.ps j, Aa := A2, na := n2, ca := c2, S := M.S, k := max M.k N, l := M.l.drop (N - M.k) } where
  f1 := fun s h1 h2 => by
    rcases h.f1 s h1 h2 with h3 | ⟨p, hp, hp2⟩
    · exact .inl h3
    · right
      rcases mem_rm hj hp with e | hp
      · rw [e, ] at hp2; have := hp2.1; omega
      · exact ⟨p, hp, hp2⟩
  f2 := fun hk => by
    have hk : max M.k N < M.S := hk
    rcases h.f2 (by omega) with ⟨p, hp, hp2⟩ | ⟨p, hp, hp2, hp3⟩
    · left
      rcases mem_rm hj hp with e | hp
      · rw [e] at hp2; omega
      · exact ⟨p, hp, hp2⟩
    · right
      rcases mem_rm hj hp with e | hp
      · rw [e, hd] at hp3
        have := hi.rS
        have := ackD_inj (by omega) (by omega) hp3
        omega
      · exact ⟨p, hp, hp2, hp3⟩
/-- what accept brings -/
theorem acc_facts (h : Inv M) {s : Nat} {v : List UInt8} (hs : s ≤ M.S) (hv : (sd M)[s - 1]? = some v) {r' : Nat} {E' : Nat → Option Bs} {out : List Bs} (ha : Acc M.E M.r s v r' E' out) :
    r' = M.r + out.length ∧ r' ≤ M.S ∧ (∀ i (hi : i < out.length), (sd M)[M.r + i]? = some out[i].d) ∧ (∀ t y, E' t = some y → r' + 1 < t ∧ t ≤ M.S ∧ (sd M)[t - 1]? = some y.d) ∧
      (∀ t, r' < t → M.E t ≠ none → E' t ≠ none) ∧ (r' < s → E' s ≠ none) := by
  rcases ha with ⟨h1, rfl, rfl, rfl⟩ | ⟨⟨h1, h2⟩, x, rfl, ⟨h3, h4, h5⟩, h6⟩
  · exact ⟨rfl, h.rS, fun i hi => absurd hi (by simp), h.ea, fun t _ h2 => h2, fun h2 => h1.resolve_right (by omega)⟩
  · have hu : ∀ t y, upd M.E s (some x) t = some y → M.r < t ∧ t ≤ M.S ∧ (sd M)[t - 1]? = some y.d := fun t y hy => by
      unfold upd at hy
      by_cases e : t = s
      · rw [if_pos e] at hy
        injection hy with hy
        rw [e, ← hy]
        exact ⟨h2, hs, hv⟩
      · rw [if_neg e] at hy
        obtain ⟨g1, g2⟩ := h.ea t y hy
        exact ⟨by omega, g2⟩
    refine ⟨h3, ?_, fun i hi => ?_, fun t y hy => ?_, fun t ht hn => ?_, fun ht => ?_⟩
    · by_cases h0 : out.length = 0
      · have := h.rS; omega
      · have := (hu _ _ (h4 (out.length - 1) (by omega))).2.1; omega
    · have := (hu _ _ (h4 i hi)).2.2
      rwa [show M.r + 1 + i - 1 = M.r + i by omega] at this
    · have h7 := h5 t
      rw [hy] at h7
      by_cases h8 : M.r < t ∧ t ≤ r'
      · rw [if_pos h8] at h7; cases h7
      · rw [if_neg h8] at h7
        obtain ⟨g1, g2⟩ := hu t y h7.symm
        refine ⟨?_, g2⟩
        have : t ≠ r' + 1 := fun e => by rw [e, h6] at hy; cases hy
        omega
    · rw [h5 t, if_neg (by omega)]
      unfold upd
      by_cases e : t = s
      · rw [if_pos e]; simp
      · rw [if_neg e]; exact hn
    · rw [h5 s, if_neg (by omega)]
      unfold upd
      rw [if_pos rfl]; simp
/-- a payload arrives -/
theorem Inv.dat (h : Inv M) {j s : Nat} {v : List UInt8} (hs : s ≤ M.S) (hv : (sd M)[s - 1]? = some v) {r' : Nat} {E' : Nat → Option Bs} {out : List Bs} (ha : Acc M.E M.r s v r' E' out) (A1 : Option Addr) (n1 c1 : Nat) (l1 : Int) (n' : Nat) (A2 : Option Addr) (n2 c2 : Nat) (num f : Int) (X : Option Addr) (cX : Nat) :
    Inv { M with An := A1, nn := n1, cn := c1, last := l1, ps := rm M.ps j ++ [⟨num, f, 1, ackD r', X, cX⟩], r := r', n := n', E := E', Ag := A2, ng := n2, cg := c2, gl := M.gl ++ out } := by
  obtain ⟨h1, h2, h3, h4, _⟩ := acc_facts h hs hv ha
  refine ⟨h.hS, by have := h.kr; show M.k ≤ r'; omega, h2, h.kl, ?_, h4, fun p hp => ?_, h.ln⟩
  · show (M.gl ++ out).map (·.d) = (sd M).take r'
    rw [List.map_append, h.gl, h1, List.take_add]
    congr 1
    apply List.ext_getElem?
    intro i
    rw [List.getElem?_take]
    by_cases hi : i < out.length
    · rw [if_pos hi, List.getElem?_drop, h3 i hi, List.getElem?_map, List.getElem?_eq_getElem hi]; rfl
    · rw [if_neg hi, List.getElem?_map, List.getElem?_eq_none (by omega)]; rfl
  · show OkP (sd M) r' p
    rcases List.mem_append.1 hp with hp | hp
    · rcases h.pk p (rm_mem hp) with h5 | ⟨h5, N, h6, h7⟩
      · exact .inl h5
      · exact .inr ⟨h5, N, by omega, h7⟩
    · rw [List.mem_singleton.1 hp]
      exact .inr ⟨rfl, r', Nat.le_refl _, rfl⟩
theorem FF.dat (h : FF M) (hi : Inv M) {j s : Nat} {v : List UInt8} (hj : j < M.ps.length) (hs : s ≤ M.S) (hS : M.S ≤ 1000) (hv : (sd M)[s - 1]? = some v) (hd : M.ps[j].d = datD s v) (hinj : ∀ s', s' ≤ 1000 → ∀ v', datD s v = datD s' v' → s = s') {r' : Nat} {E' : Nat → Option Bs} {out : List Bs} (ha : Acc M.E M.r s v r' E' out) (A1 : Option Addr) (n1 c1 : Nat) (l1 : Int) (n' : Nat) (A2 : Option Addr) (n2 c2 : Nat) (num f : Int) (X : Option Addr) (cX : Nat) :
    FF { M with An := A1, nn := n1, cn := c1, last := l1, ps := rm M.ps j ++ [⟨num, f, 1, ackD r', X, cX⟩], r := r', n := n', E := E', Ag := A2, ng := n2, cg := c2, gl := M.gl ++ out } := by
  obtain ⟨h1, h2, h3, h4, h5, h6⟩ := acc_facts hi hs hv ha
  have f1 : ∀ t, r' < t → t ≤ M.S → E' t ≠ none ∨ ∃ p ∈ rm M.ps j, isD (sd M) t p := fun t ht htS => by
    rcases h.f1 t (by omega) htS with h7 | ⟨p, hp, hp2⟩
    · exact .inl (h5 t ht h7)
    · rcases mem_rm hj hp with e | hp
      · left
        rw [e] at hp2
        obtain ⟨_, v', _, h9⟩ := hp2
        rw [hd] at h9
        have := hinj t (by omega) v' h9
        subst this
        exact h6 ht
      · exact .inr ⟨p, hp, hp2⟩
  refine ⟨fun t ht htS => ?_, fun hk => ?_⟩
  · rcases f1 t ht htS with h7 | ⟨p, hp, hp2⟩
    · exact .inl h7
    · exact .inr ⟨p, List.mem_append_left _ hp, hp2⟩
  · have hk : M.k < M.S := hk
    show (∃ p ∈ rm M.ps j ++ _, p.t = 2) ∨ ∃ p ∈ rm M.ps j ++ _, p.t = 1 ∧ p.d = ackD M.S
    by_cases hq : ∃ p ∈ rm M.ps j, p.t = 2
    · obtain ⟨p, hp, hp2⟩ := hq
      exact .inl ⟨p, List.mem_append_left _ hp, hp2⟩
    · right
      have hr : r' = M.S := by
        by_cases hlt : r' < M.S
        · rcases f1 (r' + 1) (by omega) (by omega) with h7 | ⟨p, hp, hp2⟩
          · cases he : E' (r' + 1) with
            | none => exact absurd he h7
            | some y => have := (h4 _ _ he).1; omega
          · exact absurd ⟨p, hp, hp2.1⟩ hq
        · omega
      exact ⟨_, List.mem_append_right _ (List.mem_singleton.2 rfl), rfl, by rw [hr]⟩
theorem datD_inj {s t : Nat} {v u : List UInt8} (hs : s ≤ 1000000000) (ht : t ≤ 1000000000) (h : datD s v = datD t u) : s = t := by
  unfold datD at h
  injection h with _ h
  have h1 := parse_enc s (by omega) v
  rw [h, parse_enc t (by omega) u] at h1
  injection h1 with h1
  injection h1 with h1 _
  exact h1.symm
theorem getElem?_mono {S : List (List UInt8)} {i : Nat} {v d : List UInt8} (h : S[i]? = some v) : (S ++ [d])[i]? = some v := by
  rw [List.getElem?_append_left (List.getElem?_eq_some_iff.1 h).1]; exact h
theorem OkP.app {S : List (List UInt8)} {r : Nat} {p : Pk} (h : OkP S r p) (d : List UInt8) : OkP (S ++ [d]) r p := by
  rcases h with ⟨s, h1, h2, h3, v, h4, h5⟩ | h
  · exact .inl ⟨s, h1, by simp; omega, h3, v, getElem?_mono h4, h5⟩
  · exact .inr h
/-- a payload is sent -/
theorem Inv.send (h : Inv M) {d : List UInt8} (hd : d.length ≤ 40) (A1 : Option Addr) (n1 c1 : Nat) (l1 : Int) (A2 : Option Addr) (n2 c2 : Nat) (x : Bs) (hx : x.d = d) (A3 : Option Addr) (n3 c3 : Nat) (y : Bs) (hy : y.d = d) (num f : Int) (X : Option Addr) (cX : Nat) :
    Inv { M with An := A1, nn := n1, cn := c1, last := l1, ps := M.ps ++ [⟨num, f, 2, datD (M.S + 1) d, X, cX⟩], Aa := A2, na := n2, ca := c2, S := M.S + 1, k := M.k, l := M.l ++ [x], As := A3, ns := n3, cs := c3, sl := M.sl ++ [y] } := by
  have hsd : (M.sl ++ [y]).map (·.d) = sd M ++ [d] := by simp [sd, hy]
  have hlen : (sd M).length = M.S := by rw [sd_len, h.hS]
  refine ⟨by show M.S + 1 = (M.sl ++ [y]).length; simp [h.hS], h.kr, by have := h.rS; show M.r ≤ M.S + 1; omega, ?_, ?_, fun s z hz => ?_, fun p hp => ?_, fun z hz => ?_⟩
  · show (M.l ++ [x]).map (·.d) = ((M.sl ++ [y]).map (·.d)).drop M.k
    have := h.kr; have := h.rS
    rw [hsd, List.drop_append_of_le_length (by omega), List.map_append, h.kl]
    simp [hx]
  · show M.gl.map (·.d) = ((M.sl ++ [y]).map (·.d)).take M.r
    have := h.rS
    rw [hsd, List.take_append_of_le_length (by omega), h.gl]
  · show M.r + 1 < s ∧ s ≤ M.S + 1 ∧ ((M.sl ++ [y]).map (·.d))[s - 1]? = some z.d
    obtain ⟨g1, g2, g3⟩ := h.ea s z hz
    rw [hsd]
    exact ⟨g1, by omega, getElem?_mono g3⟩
  · show OkP ((M.sl ++ [y]).map (·.d)) M.r p
    rw [hsd]
    rcases List.mem_append.1 hp with hp | hp
    · exact (h.pk p hp).app d
    · rw [List.mem_singleton.1 hp]
      refine .inl ⟨M.S + 1, by omega, by simp [hlen], rfl, d, ?_, rfl⟩
      rw [Nat.add_sub_cancel, List.getElem?_append_right (by omega), hlen]; simp
  · have hz : z ∈ (M.sl ++ [y]).map (·.d) := hz
    rw [hsd] at hz
    rcases List.mem_append.1 hz with hz | hz
    · exact h.ln z hz
    · rw [List.mem_singleton.1 hz]; exact hd
theorem FF.send (h : FF M) (hi : Inv M) {d : List UInt8} (A1 : Option Addr) (n1 c1 : Nat) (l1 : Int) (A2 : Option Addr) (n2 c2 : Nat) (x : Bs) (A3 : Option Addr) (n3 c3 : Nat) (y : Bs) (hy : y.d = d) (num f : Int) (X : Option Addr) (cX : Nat) :
    FF { M with An := A1, nn := n1, cn := c1, last := l1, ps := M.ps ++ [⟨num, f, 2, datD (M.S + 1) d, X, cX⟩], Aa := A2, na := n2, ca := c2, S := M.S + 1, k := M.k, l := M.l ++ [x], As := A3, ns := n3, cs := c3, sl := M.sl ++ [y] } := by
  have hsd : (M.sl ++ [y]).map (·.d) = sd M ++ [d] := by simp [sd, hy]
  have hlen : (sd M).length = M.S := by rw [sd_len, hi.hS]
  refine ⟨fun s h1 h2 => ?_, fun _ => .inl ⟨_, List.mem_append_right _ (List.mem_singleton.2 rfl), rfl⟩⟩
  show M.E s ≠ none ∨ ∃ p ∈ M.ps ++ _, isD ((M.sl ++ [y]).map (·.d)) s p
  rw [hsd]
  by_cases e : s = M.S + 1
  · refine .inr ⟨_, List.mem_append_right _ (List.mem_singleton.2 rfl), rfl, d, ?_, by rw [e]⟩
    rw [e, Nat.add_sub_cancel, List.getElem?_append_right (by omega), hlen]; simp
  · have h2 : s ≤ M.S + 1 := h2
    rcases h.f1 s h1 (by omega) with h3 | ⟨p, hp, hp2, v, hv, hp3⟩
    · exact .inl h3
    · exact .inr ⟨p, List.mem_append_left _ hp, hp2, v, getElem?_mono hv, hp3⟩
/-- the network holds other good packets -/
theorem Inv.net (h : Inv M) (A1 : Option Addr) (n1 c1 : Nat) (l1 : Int) {ps : List Pk} (hp : ∀ p ∈ ps, OkP (sd M) M.r p) : Inv { M with An := A1, nn := n1, cn := c1, last := l1, ps := ps } :=
  ⟨h.hS, h.kr, h.rS, h.kl, h.gl, h.ea, hp, h.ln⟩
/-- the end -/
theorem FF.done (h : FF M) (hi : Inv M) (hp : M.ps = []) : M.r = M.S ∧ M.k = M.S ∧ M.l = [] ∧ M.gl.length = M.S := by
  have hr : M.r = M.S := by
    have := hi.rS
    by_cases hlt : M.r < M.S
    · rcases h.f1 (M.r + 1) (by omega) (by omega) with h7 | ⟨p, hq, _⟩
      · cases he : M.E (M.r + 1) with
        | none => exact absurd he h7
        | some y => have := (hi.ea _ _ he).1; omega
      · rw [hp] at hq; cases hq
    · omega
  have hk : M.k = M.S := by
    have := hi.kr; have := hi.rS
    by_cases hlt : M.k < M.S
    · rcases h.f2 hlt with ⟨p, hq, _⟩ | ⟨p, hq, _⟩ <;> (rw [hp] at hq; cases hq)
    · omega
  have hl := hi.lk
  refine ⟨hr, hk, List.eq_nil_of_length_eq_zero (by omega), ?_⟩
  have h1 := congrArg List.length hi.gl
  rw [List.length_map, List.length_take, sd_len, ← hi.hS] at h1
  omega
/-- how many arrived -/
theorem Inv.gln (h : Inv M) : M.gl.length = M.r := by
  have h1 := congrArg List.length h.gl
  rw [List.length_map, List.length_take, sd_len, ← h.hS] at h1
  have := h.rS
  omega
/-- with no payload in flight all arrived -/
theorem FF.arr (h : FF M) (hi : Inv M) (hp : mu M.ps ≤ 1) : M.r = M.S := by
  have := hi.rS
  by_cases hlt : M.r < M.S
  · rcases h.f1 (M.r + 1) (by omega) (by omega) with h7 | ⟨p, hq, hq2, _⟩
    · cases he : M.E (M.r + 1) with
      | none => exact absurd he h7
      | some y => have := (hi.ea _ _ he).1; omega
    · exfalso
      obtain ⟨i, hi', rfl⟩ := List.getElem_of_mem hq
      have h1 := mu_rm hi'
      have h2 : wt M.ps[i] = 2 := by unfold wt; rw [if_neg (by rw [hq2]; decide)]
      omega
  · omega
end
end Tc
end Go.Proofs.Ytjmcmilbkhacdaa
