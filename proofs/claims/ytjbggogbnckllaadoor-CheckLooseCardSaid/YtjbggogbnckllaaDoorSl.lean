/-
  Parts of slices of numbers.
-/
import Derived.Test.YtjbggogbnckllaaDoorAo
namespace Go.Proofs.YtjbggogbnckllaaDoor
open Go.RowKit
set_option linter.unusedVariables false
set_option linter.unusedSimpArgs false
theorem arr_slice (g n m c : Nat) (h : n ≤ c) (w : World) : Sem.run Tryd.prog (Instr.sliceAt 30 (.slice (some ⟨g, 0, none⟩) m c) none (some (.int .i64 (n : Int))) none) w = .ok (.slice (some ⟨g, 0, none⟩) n c) w := by
  have he : Tryd.prog.elem 30 = 3 := by kernel_rfl
  obtain ⟨i, z, hi, hz, hsz, _⟩ := elt_int.hi
  rw [run_sliceAt_slice w 30 _ _ _ _ (by rw [he]; exact elt_int.ht), run_slice_h w 30 _ _ _ (by rw [he]; exact elt_int.ht) .i64 _ (by omega) (by omega), he]
  simp [sizeOf, typeInfo, hi, hsz, Result.andThen, sliced, Addr.add]
theorem int_slice (b off n k c : Nat) (h : k ≤ n) (w : World) : Sem.run Tryd.prog (Instr.sliceAt 30 (.slice (some ⟨b, off, none⟩) n c) (some (.int .i64 (k : Int))) none none) w = .ok (.slice (some ⟨b, if c = k then off else off + k, none⟩) (n - k) (c - k)) w := by
  have he : Tryd.prog.elem 30 = 3 := by kernel_rfl
  obtain ⟨i, z, hi, hz, hsz, _⟩ := elt_int.hi
  rw [run_sliceAt_slice w 30 _ _ _ _ (by rw [he]; exact elt_int.ht), run_slice_l w 30 _ _ _ (by rw [he]; exact elt_int.ht) .i64 _ (by omega) (by omega), he]
  by_cases hc : c = k
  · simp [sizeOf, typeInfo, hi, hsz, Result.andThen, sliced, hc]
  · simp [sizeOf, typeInfo, hi, hsz, Result.andThen, sliced, hc, Addr.add]
theorem Arr.take {w : World} {g n m : Nat} {f : Nat → Int} (h : Arr w g n f) (hm : m ≤ n) : Arr w g m f := by
  obtain ⟨cs, e, h1, h2⟩ := h
  exact ⟨cs, e, by omega, fun i hi => h2 i (by omega)⟩
theorem Ints.dropped {w : World} {b off c k : Nat} {l : List Int} (h : Ints w (some ⟨b, off, none⟩) l) (hc : l.length ≤ c) (hk : k ≤ l.length) : Ints w (some ⟨b, if c = k then off else off + k, none⟩) (l.drop k) := by
  intro i hi
  have hi' : k + i < l.length := by simp at hi; omega
  obtain ⟨b', off', e, hcell⟩ := h (k + i) hi'
  cases e
  refine ⟨b, _, rfl, ?_⟩
  rw [if_neg (by omega), List.getElem_drop, Nat.add_assoc]
  exact hcell
end Go.Proofs.YtjbggogbnckllaaDoor
