/-
  A small grammar with one rule more, in memory.
-/
import Derived.Test.YtjbggogbnckllaaDoorSmD
import Derived.Test.YtjbggogbnckllaaDoorLp
import Derived.Deep.Slices
namespace Go.Proofs.YtjbggogbnckllaaDoor
open Go.RowKit Go.Deep
set_option linter.unusedVariables false
set_option linter.unusedSimpArgs false
theorem rlC_len : ∀ (l : List Rd.Rul) (ns : List Value), ns.length = l.length → (rlC l ns).length = l.length * 4
  | [], _, _ => by simp [rlC]
  | _ :: _, [], h => by simp at h
  | m :: l, n :: ns, h => by
    have e : rlC (m :: l) (n :: ns) = .string m.left :: n :: .string m.prec :: .string m.action :: rlC l ns := by simp [rlC]
    rw [e]
    simp only [List.length_cons]
    rw [rlC_len l ns (by simpa using h)]
    omega
theorem rlV_cells {w : World} {ra : Option Addr} {l : List Rd.Rul} (h : RlV w ra l) (h0 : 0 < l.length) : ∃ b off ns, ra = some ⟨b, off, none⟩ ∧ ns.length = l.length ∧ (∀ j u, (rlC l ns)[j]? = some u → w.cell? ⟨b, off + j, none⟩ = some u) ∧ ∀ i (h : i < l.length) (h' : i < ns.length), ∃ na nc, ns[i] = .slice na l[i].right.length nc ∧ Strs w na l[i].right := by
  obtain ⟨b, off, _, _, rfl, _⟩ := h 0 h0
  obtain ⟨f, hf⟩ := choose_lt (n := l.length) (p := fun i (v : Value) => ∀ (hi : i < l.length), w.cell? ⟨b, off + i * 4, none⟩ = some (.string l[i].left) ∧ w.cell? ⟨b, off + i * 4 + 1, none⟩ = some v ∧ w.cell? ⟨b, off + i * 4 + 2, none⟩ = some (.string l[i].prec) ∧ w.cell? ⟨b, off + i * 4 + 3, none⟩ = some (.string l[i].action) ∧ ∃ na nc, v = .slice na l[i].right.length nc ∧ Strs w na l[i].right) (fun i hi => by
    obtain ⟨b', off', na, nc, e, h1, h2, h3, h4, h5⟩ := h i hi
    cases e
    exact ⟨_, fun _ => ⟨h1, h2, h3, h4, na, nc, rfl, h5⟩⟩)
  refine ⟨b, off, (List.range l.length).map f, rfl, by simp, fun j u hj => ?_, fun i hi hi' => ?_⟩
  · have hjl : j < l.length * 4 := by
      have := (List.getElem?_eq_some_iff.1 hj).1
      rwa [rlC_len _ _ (by simp)] at this
    have hi : j / 4 < l.length := by omega
    obtain ⟨e0, e1, e2, e3⟩ := rlC_at l ((List.range l.length).map f) (j / 4) hi (by simpa using hi)
    obtain ⟨h1, h2, h3, h4, _⟩ := hf (j / 4) hi hi
    have hr : j = j / 4 * 4 ∨ j = j / 4 * 4 + 1 ∨ j = j / 4 * 4 + 2 ∨ j = j / 4 * 4 + 3 := by omega
    simp only [List.getElem_map, List.getElem_range] at e1
    generalize j / 4 = i at *
    rcases hr with rfl | rfl | rfl | rfl
    · rw [e0] at hj; cases hj; exact h1
    · rw [e1] at hj; cases hj; exact h2
    · rw [e2] at hj; cases hj; exact h3
    · rw [e3] at hj; cases hj; exact h4
  · obtain ⟨_, _, _, _, h4⟩ := hf i hi hi
    simpa using h4
theorem rlV_back {w : World} {b off : Nat} {l : List Rd.Rul} {ns : List Value} (hn : ns.length = l.length) (hc : ∀ j u, (rlC l ns)[j]? = some u → w.cell? ⟨b, off + j, none⟩ = some u) (hi : ∀ i (h : i < l.length) (h' : i < ns.length), ∃ na nc, ns[i] = .slice na l[i].right.length nc ∧ Strs w na l[i].right) : RlV w (some ⟨b, off, none⟩) l := by
  intro i h
  obtain ⟨e0, e1, e2, e3⟩ := rlC_at l ns i h (by omega)
  obtain ⟨na, nc, en, hx⟩ := hi i h (by omega)
  rw [en] at e1
  exact ⟨b, off, na, nc, rfl, hc _ _ e0, hc _ _ e1, hc _ _ e2, hc _ _ e3, hx⟩
theorem rlC_one {l : List Rd.Rul} {ns : List Value} (hn : ns.length = l.length) (hi : ∀ i (h : i < l.length) (h' : i < ns.length), ∃ na nc, ns[i] = .slice na l[i].right.length nc) : ∀ u ∈ rlC l ns, u.oneCell' = true := by
  intro u hu
  obtain ⟨q, hq, hu⟩ := List.mem_flatMap.1 hu
  obtain ⟨i, hz, e⟩ := List.getElem_of_mem hq
  have hil : i < l.length := by simp at hz; omega
  obtain ⟨na, nc, en⟩ := hi i hil (by omega)
  rw [List.getElem_zip] at e
  rw [← e] at hu
  simp only [List.mem_cons, List.not_mem_nil, or_false] at hu
  rcases hu with rfl | rfl | rfl | rfl
  · rfl
  · rw [en]; rfl
  · rfl
  · rfl
theorem loose_sz (s : Pl.Sm) : GrSz (Pl.loose s) := ⟨(grammar_sz s).t, (grammar_sz s).s, (grammar_sz s).l⟩
/-- Where the rules are one more. -/
theorem rlV_more {w' : World} {g : Nat} {l : List Rd.Rul} {ns : List Value} {x : Rd.Rul} {v : Value} {na : Option Addr} {nc cap m : Nat} {B : Nat} (hn : ns.length = l.length) (hm : m = l.length) (ho : w'.ownsRow B 77 4 (.slice (some ⟨g, 0, none⟩) (m + 1) cap) (m + 1) (rlC l ns ++ [.string x.left, v, .string x.prec, .string x.action]))
    (hi : ∀ i (h : i < l.length) (h' : i < ns.length), ∃ na nc, ns[i] = .slice na l[i].right.length nc ∧ Strs w' na l[i].right) (hv : v = .slice na x.right.length nc) (hx : Strs w' na x.right) : RlV w' (some ⟨g, 0, none⟩) (l ++ [x]) := by
  rw [← rlC_snoc _ _ _ _ hn] at ho
  refine rlV_back (ns := ns ++ [v]) (by simp [hn]) (fun j u hj => ?_) (fun i h h' => ?_)
  · have := ho.cells (g := g) rfl j u hj
    rw [addr_add] at this
    simpa using this
  · by_cases e : i < l.length
    · rw [List.getElem_append_left (by omega), List.getElem_append_left e]
      exact hi i e (by omega)
    · obtain rfl : i = l.length := by simp at h; omega
      refine ⟨na, nc, ?_, ?_⟩
      · simp [← hn, hv]
      · simpa using hx
end Go.Proofs.YtjbggogbnckllaaDoor
