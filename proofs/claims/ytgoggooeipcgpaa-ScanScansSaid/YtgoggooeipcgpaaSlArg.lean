/-
  An argument that is a slice of patterns, opened.
-/
import Derived.Test.YtgoggooeipcgpaaScanK
import Derived.Deep.Slices
import Derived.Deep.Strs
import Derived.SizedLaws
namespace Go.Proofs.Ytgoggooeipcgpaa
open Go.RowKit Go.Deep Go.ChangeShapes Go.WideShapes
set_option linter.unusedVariables false

theorem sl_open {H : Type} {enc : TypeId × Value → H} {W : World} {fuel : Nat} {cs : List Value} {x : DataW H × List MemPlace}
    (h : DataW.trod enc Try.prog W 0 (fun _ => true) true fuel 35 cs = some x) :
    ∃ a T cap, cs = [.slice a T.length cap] ∧ SlP W a T ∧ OkP T ∧ (T = [] ∨ ∃ el sp, x.1 = .slice el sp ∧ el.length = T.length) := by
  rcases open_slice Try.underlying35 h with ⟨rfl, rfl⟩ | ⟨a, len, cap, m, n, D, PL, rfl, hb, hl, hm, hmm, rfl, hx⟩
  · exact ⟨none, [], 0, rfl, fun i hi => absurd hi (by simp), fun p hp => absurd hp (by simp), .inl rfl⟩
  have hc : Try.prog.cellsOf 23 = 3 := by kernel_rfl
  simp only [if_true] at hmm
  have each : ∀ i, ∃ p : Pl.Pt, i < len → (W.cell? ((a.add (i * 3)).add 0) = some (.string p.t) ∧ W.cell? ((a.add (i * 3)).add 1) = some (.string p.s) ∧ W.cell? ((a.add (i * 3)).add 2) = some (.bool p.m)) ∧ p.t.size ≤ maxLen ∧ p.s.size ≤ maxLen := by
    intro i
    by_cases hi : i < len
    · obtain ⟨cs', h1, h2⟩ := hx i (by omega)
      rw [hc] at h1
      obtain ⟨_, hlen, hcell⟩ := World.cells?_some h1
      obtain ⟨y0, y1, y2, k, rfl', hcl, g0, g1, g2⟩ := trod_struct3 Try.underlying23 h2
      match cs', hlen with
      | [v0, v1, v2], _ =>
        have e0 := hcell 0 (by omega)
        have e1 := hcell 1 (by omega)
        have e2 := hcell 2 (by omega)
        obtain ⟨t, q0, _, ht⟩ := DataW.trod_string Try.underlying9 g0
        obtain ⟨s, q1, _, hs⟩ := DataW.trod_string Try.underlying9 g1
        obtain ⟨b, q2, _⟩ := DataW.trod_bool Try.underlying4 g2
        have c9 : Try.prog.cellsOf 9 = 1 := by kernel_rfl
        have c4 : Try.prog.cellsOf 4 = 1 := by kernel_rfl
        simp [c9, c4] at q0 q1 q2
        simp at e0 e1 e2
        subst q0 q1 q2
        exact ⟨⟨t, s, b⟩, fun _ => ⟨⟨e0, e1, e2⟩, ht, hs⟩⟩
    · exact ⟨⟨⟨#[]⟩, ⟨#[]⟩, false⟩, fun h => absurd h hi⟩
  have hf := fun i => (each i).choose_spec
  generalize hF : (fun i => (each i).choose) = f
  have hf' : ∀ i, i < len → (W.cell? ((a.add (i * 3)).add 0) = some (.string (f i).t) ∧ W.cell? ((a.add (i * 3)).add 1) = some (.string (f i).s) ∧ W.cell? ((a.add (i * 3)).add 2) = some (.bool (f i).m)) ∧ (f i).t.size ≤ maxLen ∧ (f i).s.size ≤ maxLen := by
    intro i hi
    have := hf i hi
    rw [← hF]
    exact this
  clear hf hF each
  refine ⟨some a, (List.range len).map f, cap, by simp, ?_, ?_, ?_⟩
  · intro i hi
    simp only [List.length_map, List.length_range] at hi
    have hs : a.spot = none := by
      have := (hf' 0 (by omega)).1.1
      simp [Addr.add] at this
      unfold World.cell? at this
      split at this
      · split at this
        · simp at this
        · rename_i h; simpa using h
      · simp at this
    obtain ⟨b, off, sp⟩ := a
    simp only at hs
    subst hs
    refine ⟨b, off, rfl, ?_⟩
    obtain ⟨⟨g0, g1, g2⟩, _⟩ := hf' i hi
    have k : ∀ j, ((⟨b, off, none⟩ : Addr).add (i * 3)).add j = ⟨b, off + i * 3 + j, none⟩ := by
      intro j
      unfold Addr.add
      split <;> split <;> simp_all
    rw [k] at g0 g1 g2
    simp only [List.getElem_map, List.getElem_range]
    exact ⟨by simpa using g0, g1, g2⟩
  · intro p hp
    obtain ⟨i, hi, rfl⟩ := List.mem_map.1 hp
    exact (hf' i (List.mem_range.1 hi)).2
  · exact .inr ⟨_, _, rfl, by simp⟩

/-- What an argument's room is good for. -/
theorem sl_room {H : Type} {ts : List TypeId} {ds : List (DataW H)} {j : Nat} {T : List Pl.Pt} {d : DataW H} (h : (DataW.weightsEach Try.prog ts ds).all (· ≤ reachBytes) = true) (ht : ts[j]? = some 35) (hd : ds[j]? = some d)
    (hT : T = [] ∨ ∃ el sp, d = .slice el sp ∧ el.length = T.length) : T.length * 40 ≤ 140737488355328 := by
  rcases hT with rfl | ⟨el, sp, rfl, he⟩
  · simp
  · have := sized_slice h ht hd Try.underlying35
    have hb : Try.prog.bytesOf 23 = 40 := by kernel_rfl
    rw [hb] at this
    unfold reachBytes at this
    omega
end Go.Proofs.Ytgoggooeipcgpaa
