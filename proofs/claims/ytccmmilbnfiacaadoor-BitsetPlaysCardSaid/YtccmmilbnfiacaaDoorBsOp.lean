/-
  A slice of steps: as it lies, and as an argument.
-/
import Derived.Test.YtccmmilbnfiacaaDoorBsO
import Derived.Test.YtccmmilbnfiacaaDoorBsArg
import Derived.Deep.Slices
import Derived.Deep.Strs
namespace Go.Proofs.YtccmmilbnfiacaaDoor
open Go.RowKit Go.Deep Go.ChangeShapes Go.WideShapes
set_option linter.unusedVariables false

/-- A slice that reads as a list of steps. -/
def Ops (w : World) (a : Option Addr) (l : List (Int × Int)) : Prop := ∀ i (h : i < l.length), ∃ b off, a = some ⟨b, off, none⟩ ∧
  w.cell? ⟨b, off + i * 2, none⟩ = some (.int .i64 l[i].1) ∧ w.cell? ⟨b, off + i * 2 + 1, none⟩ = some (.int .i64 l[i].2)
theorem Ops.below {w w1 : World} {a : Option Addr} {l : List (Int × Int)} (h : Ops w a l) (hb : Below w.heap.size w w1) : Ops w1 a l := by
  intro i hi
  obtain ⟨b, off, rfl, h1, h2⟩ := h i hi
  have hlt : b < w.heap.size := World.block_lt_of_cell? w _ h1
  have q := (bcell hb).1
  exact ⟨b, off, rfl, (q _ _ hlt).trans h1, (q _ _ hlt).trans h2⟩

theorem ops_open {H : Type} {enc : TypeId × Value → H} {W : World} {fuel : Nat} {cs : List Value} {x : DataW H × List MemPlace}
    (h : DataW.trod enc Tryd.prog W 0 (fun _ => true) true fuel 42 cs = some x) :
    ∃ a l cap, cs = [.slice a l.length cap] ∧ Ops W a l ∧ l.length ≤ maxLen := by
  rcases open_slice Tryd.underlying42 h with ⟨rfl, rfl⟩ | ⟨a, len, cap, m, n, D, PL, rfl, hb, hl, hm, hmm, rfl, hx⟩
  · exact ⟨none, [], 0, rfl, fun i hi => absurd hi (by simp), by simp⟩
  have hc : Tryd.prog.cellsOf 47 = 2 := by kernel_rfl
  simp only [if_true] at hmm
  have each : ∀ i, ∃ p : Int × Int, i < len → (W.cell? ((a.add (i * 2)).add 0) = some (.int .i64 p.1) ∧ W.cell? ((a.add (i * 2)).add 1) = some (.int .i64 p.2)) := by
    intro i
    by_cases hi : i < len
    · obtain ⟨cs', h1, h2⟩ := hx i (by omega)
      rw [hc] at h1
      obtain ⟨_, hlen, hcell⟩ := World.cells?_some h1
      obtain ⟨y0, y1, k, rfl', hcl, g0, g1⟩ := trod_struct2 Tryd.underlying47 h2
      match cs', hlen with
      | [v0, v1], _ =>
        have e0 := hcell 0 (by omega)
        have e1 := hcell 1 (by omega)
        obtain ⟨i0, q0, _, _⟩ := DataW.trod_int Tryd.underlying3 g0
        obtain ⟨i1, q1, _, _⟩ := DataW.trod_int Tryd.underlying3 g1
        have c3 : Tryd.prog.cellsOf 3 = 1 := by kernel_rfl
        simp [c3] at q0 q1
        simp at e0 e1
        subst q0 q1
        exact ⟨⟨i0, i1⟩, fun _ => ⟨e0, e1⟩⟩
    · exact ⟨⟨0, 0⟩, fun h => absurd h hi⟩
  have hf := fun i => (each i).choose_spec
  generalize hF : (fun i => (each i).choose) = f
  have hf' : ∀ i, i < len → (W.cell? ((a.add (i * 2)).add 0) = some (.int .i64 (f i).1) ∧ W.cell? ((a.add (i * 2)).add 1) = some (.int .i64 (f i).2)) := by
    intro i hi
    have := hf i hi
    rw [← hF]
    exact this
  clear hf hF each
  refine ⟨some a, (List.range len).map f, cap, by simp, ?_, by simp; omega⟩
  intro i hi
  simp only [List.length_map, List.length_range] at hi
  have hs : a.spot = none := by
    have := (hf' 0 (by omega)).1
    simp [Addr.add] at this
    unfold World.cell? at this
    split at this
    · split at this
      · simp at this
      · rename_i h; simpa using h
    · simp at this
  obtain ⟨b, off, sp⟩ := a
  simp only at hs
  subst hs
  refine ⟨b, off, rfl, ?_⟩
  obtain ⟨g0, g1⟩ := hf' i hi
  have k : ∀ j, ((⟨b, off, none⟩ : Addr).add (i * 2)).add j = ⟨b, off + i * 2 + j, none⟩ := by
    intro j
    unfold Addr.add
    split <;> split <;> simp_all
  rw [k] at g0 g1
  simp only [List.getElem_map, List.getElem_range]
  exact ⟨by simpa using g0, g1⟩
end Go.Proofs.YtccmmilbnfiacaaDoor
