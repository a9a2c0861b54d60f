/-
  A plan with one rule more: what chapter 9 tells of it (plain), and its rules in memory.
-/
import Derived.Test.YtjbggogbnckllaaDoorAs
import Derived.Test.YtjbggogbnckllaaDoorAj
import Derived.Deep.Slices
namespace Go.Proofs.YtjbggogbnckllaaDoor
open Go.RowKit Go.Deep
set_option linter.unusedVariables false
set_option linter.unusedSimpArgs false
namespace Q
open Pl (Plan Prod)
def grow (p : Plan) (x : Prod) : Plan := ⟨p.terms, p.vars, p.rules ++ [x], p.levels, p.assocs, p.acts ++ [Rd.E]⟩
theorem grow_ok {p : Plan} (h : OK p) (x : Prod) (hr : p.rules.length ≤ 41) (h1 : p.terms.length ≤ x.left ∧ x.left ≤ p.terms.length + p.vars.length) (h2 : ∀ y ∈ x.right, 0 ≤ y ∧ y < ((p.terms.length + p.vars.length : Nat) : Int)) (h3 : x.right.length ≤ 1000) : OK (grow p x) := by
  refine ⟨h.n, h.nb, h.m, ?_, fun r hr => ?_, fun r hr => ?_, fun r hr => ?_⟩
  · show (p.rules ++ [x]).length ≤ 1000
    simp; omega
  · rcases List.mem_append.1 (show r ∈ p.rules ++ [x] from hr) with hr | hr
    · exact h.left r hr
    · rw [List.mem_singleton.1 hr]; exact h1
  · rcases List.mem_append.1 (show r ∈ p.rules ++ [x] from hr) with hr | hr
    · exact h.right r hr
    · rw [List.mem_singleton.1 hr]; exact h2
  · rcases List.mem_append.1 (show r ∈ p.rules ++ [x] from hr) with hr | hr
    · exact h.rl r hr
    · rw [List.mem_singleton.1 hr]; exact h3
theorem grow_cnt (p : Plan) (x : Prod) : cnt (grow p x) = cnt p := rfl
theorem grow_lens {p : Plan} {x : Prod} (hq : OK (grow p x)) (i : Nat) (hi : 0 ≤ (lens p).long i) : 0 ≤ (lens (grow p x)).long i ∧ (lens (grow p x)).long i ≤ (lens p).long i :=
  lens_le hq (sim_more (p := p) (q := grow p x) rfl (fun r hr => List.mem_append_left _ hr)) i trivial hi
theorem grow_come {p : Plan} {x : Prod} (h : OK p) (hq : OK (grow p x)) {i : Nat} (hc : come p i = true) : come (grow p x) i = true :=
  (come_rch hq i).2 (rch_mono (p := p) (q := grow p x) rfl (fun r hr => List.mem_append_left _ hr) ((come_rch h i).1 hc))
/-- What else a small grammar's plan is. -/
theorem plan_more {s : Pl.Sm} (hf : Pl.few s 20 8 = true) : 1 ≤ (Pl.plan s).vars.length ∧ (Pl.plan s).levels.length = (Pl.plan s).terms.length ∧ 1 ≤ (Pl.plan s).rules.length ∧ (Pl.plan s).acts.length = (Pl.plan s).rules.length := by
  obtain ⟨F, _⟩ := ofF (Pl.plan_of s hf)
  refine ⟨List.length_pos_of_mem F.start, ?_, by have := F.len; omega, ?_⟩
  · rw [F.levels, F.terms]; simp
  · rw [F.acts, F.len]; simp
end Q
theorem pdC_len : ∀ (l : List Pl.Prod) (ns : List Value), ns.length = l.length → (pdC l ns).length = l.length * 3
  | [], _, _ => by simp [pdC]
  | _ :: _, [], h => by simp at h
  | m :: l, n :: ns, h => by
    have e : pdC (m :: l) (n :: ns) = .int .i64 (m.left : Nat) :: n :: .int .i64 (m.level : Nat) :: pdC l ns := by simp [pdC]
    rw [e]
    simp only [List.length_cons]
    rw [pdC_len l ns (by simpa using h)]
    omega
/-- The rows of a plan's rules, cell by cell. -/
theorem ruV_cells {w : World} {ra : Option Addr} {l : List Pl.Prod} (h : RuV w ra l) (h0 : 0 < l.length) : ∃ b off ns, ra = some ⟨b, off, none⟩ ∧ ns.length = l.length ∧ (∀ j u, (pdC l ns)[j]? = some u → w.cell? ⟨b, off + j, none⟩ = some u) ∧ ∀ i (h : i < l.length) (h' : i < ns.length), ∃ na nc, ns[i] = .slice na l[i].right.length nc ∧ Ints w na l[i].right := by
  obtain ⟨b, off, _, _, rfl, _⟩ := h 0 h0
  obtain ⟨f, hf⟩ := choose_lt (n := l.length) (p := fun i (v : Value) => ∀ (hi : i < l.length), w.cell? ⟨b, off + i * 3, none⟩ = some (.int .i64 (l[i].left : Nat)) ∧ w.cell? ⟨b, off + i * 3 + 1, none⟩ = some v ∧ w.cell? ⟨b, off + i * 3 + 2, none⟩ = some (.int .i64 (l[i].level : Nat)) ∧ ∃ na nc, v = .slice na l[i].right.length nc ∧ Ints w na l[i].right) (fun i hi => by
    obtain ⟨b', off', na, nc, e, h1, h2, h3, h4⟩ := h i hi
    cases e
    exact ⟨_, fun _ => ⟨h1, h2, h3, na, nc, rfl, h4⟩⟩)
  refine ⟨b, off, (List.range l.length).map f, rfl, by simp, fun j u hj => ?_, fun i hi hi' => ?_⟩
  · have hjl : j < l.length * 3 := by
      have := (List.getElem?_eq_some_iff.1 hj).1
      rwa [pdC_len _ _ (by simp)] at this
    have hi : j / 3 < l.length := by omega
    obtain ⟨e0, e1, e2⟩ := pdC_at l ((List.range l.length).map f) (j / 3) hi (by simpa using hi)
    obtain ⟨h1, h2, h3, _⟩ := hf (j / 3) hi hi
    have hr : j = j / 3 * 3 ∨ j = j / 3 * 3 + 1 ∨ j = j / 3 * 3 + 2 := by omega
    simp only [List.getElem_map, List.getElem_range] at e1
    generalize j / 3 = i at *
    rcases hr with rfl | rfl | rfl
    · rw [e0] at hj; cases hj; exact h1
    · rw [e1] at hj; cases hj; exact h2
    · rw [e2] at hj; cases hj; exact h3
  · obtain ⟨_, _, _, h4⟩ := hf i hi hi
    simpa using h4
theorem ruV_back {w : World} {b off : Nat} {l : List Pl.Prod} {ns : List Value} (hn : ns.length = l.length) (hc : ∀ j u, (pdC l ns)[j]? = some u → w.cell? ⟨b, off + j, none⟩ = some u) (hi : ∀ i (h : i < l.length) (h' : i < ns.length), ∃ na nc, ns[i] = .slice na l[i].right.length nc ∧ Ints w na l[i].right) : RuV w (some ⟨b, off, none⟩) l := by
  intro i h
  obtain ⟨e0, e1, e2⟩ := pdC_at l ns i h (by omega)
  obtain ⟨na, nc, en, hx⟩ := hi i h (by omega)
  rw [en] at e1
  exact ⟨b, off, na, nc, rfl, hc _ _ e0, hc _ _ e1, hc _ _ e2, hx⟩
theorem pdC_one {l : List Pl.Prod} {ns : List Value} (hn : ns.length = l.length) (hi : ∀ i (h : i < l.length) (h' : i < ns.length), ∃ na nc w, ns[i] = .slice na l[i].right.length nc ∧ Ints w na l[i].right) : ∀ u ∈ pdC l ns, u.oneCell' = true := by
  intro u hu
  obtain ⟨q, hq, hu⟩ := List.mem_flatMap.1 hu
  obtain ⟨i, hz, e⟩ := List.getElem_of_mem hq
  have hil : i < l.length := by simp at hz; omega
  obtain ⟨na, nc, _, en, _⟩ := hi i hil (by omega)
  rw [List.getElem_zip] at e
  rw [← e] at hu
  simp only [List.mem_cons, List.not_mem_nil, or_false] at hu
  rcases hu with rfl | rfl | rfl
  · rfl
  · rw [en]; rfl
  · rfl
theorem owns_setB {w : World} {b B i size n : Nat} {e : TypeId} {v : Value} {xs : List Value} (ho : w.ownsRow B e size v n xs) (hb : b < B) (u : Value) : (w.setCell ⟨b, i, none⟩ u).ownsRow B e size v n xs := by
  obtain ⟨h1, h2⟩ := ho
  refine ⟨h1, ?_⟩
  rcases h2 with h2 | ⟨g, cap, cur, hv, hbg, hg, h3⟩
  · exact .inl h2
  · exact .inr ⟨g, cap, cur, hv, hbg, (Below.heap_setCell _ _ _ _ (by show g ≠ b; omega)).trans hg, h3⟩
theorem row_setB {w : World} {b b' i : Nat} {o : Obj} (h : w.heap[b]? = some o) (hb : b ≠ b') (u : Value) : (w.setCell ⟨b', i, none⟩ u).heap[b]? = some o :=
  (Below.heap_setCell _ _ _ _ (by show b ≠ b'; exact hb)).trans h
theorem below_setB {w w' : World} {B b i : Nat} (h : Below B w w') (hb : B ≤ b) (u : Value) : Below B w (w'.setCell ⟨b, i, none⟩ u) := h.setCell hb _
end Go.Proofs.YtjbggogbnckllaaDoor
