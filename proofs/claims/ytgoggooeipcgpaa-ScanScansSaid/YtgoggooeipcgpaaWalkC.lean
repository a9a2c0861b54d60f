/-
  Walks: pattern.of, pattern.Len and the reference's Len.
-/
import Derived.Test.YtgoggooeipcgpaaWalkB
namespace Go.Proofs.Ytgoggooeipcgpaa
open Go.RowKit
set_option linter.unusedVariables false

theorem noneA_size : noneA.size = 256 := by simp [noneA]

theorem setA_take (s : ByteArray) (k : Nat) (h : k < s.size) : (setA (s.data.toList.take k)).setIfInBounds s[k].toNat (.bool true) = setA (s.data.toList.take (k + 1)) := by
  rw [List.take_succ_eq_append_getElem (by simpa using h), ← setA_snoc]
  rfl

set_option maxHeartbeats 400000 in
theorem of_any (s : ByteArray) (w : World) (hs : s.size ≤ maxLen) :
    Calls Try.prog 36 #[.string s] w fun e w' => e = .returned (.agg (setA s.data.toList)) ∧ Below w.heap.size w w' := by
  unfold maxLen at hs
  go_enter Try.func36, Try.ntmps36
  go_wp2_with (first | (with_reducible refine list_alloc_row rfl 64 rfl noneA zero64 ?_) | (refine list_bytes rfl 9 50 5 _ rfl s rfl Try.underlying9 Try.underlying50 Try.underlying5 ?_; intro cap w1 hb hsz hcell))
  have hb0 : w1.heap[w.heap.size]? = some (.cells noneA 64 (0, 0)) := by
    rw [hb.block _ (by simp; omega), Below.heap_alloc _ _ _ (by simp)]
    exact heap_alloc_new _ _
  have hb1 : w1.heap[w.heap.size + 1]? = some (.cells noneA 64 (0, 0)) := by
    rw [hb.block _ (by simp)]
    have := heap_alloc_new (w.alloc (.cells noneA 64)) (.cells noneA 64)
    simpa using this
  have hB : Below w.heap.size w w1 := (((Below.refl _ _).alloc (Nat.le_refl _) _).alloc (by simp) _).trans (hb.mono (by simp; omega))
  simp only [World.size_alloc] at hcell hsz
  clear hb
  go_loopw [9] (fun i wr => ∃ k : Nat, k ≤ s.size ∧ i = .int .i64 k ∧ wr.heap[w.heap.size]? = some (.cells noneA 64 (0, 0)) ∧
      wr.heap[w.heap.size + 1]? = some (.cells (setA (s.data.toList.take k)) 64 (0, 0)) ∧
      (∀ j (hj : j < s.size), wr.cell? ⟨w.heap.size + 1 + 1, j, none⟩ = some (.int .u8 (s[j].toNat : Int))) ∧ Below w.heap.size w wr) (fun i _ => s.size - (intOf i).toNat)
  case atStart => exact ⟨0, Nat.zero_le _, rfl, hb0, by rw [hb1]; simp [setA_nil], hcell, hB⟩
  case round =>
    obtain ⟨k, hk, rfl, g0, g1, gc, gB⟩ := hrel
    clear hb0 hb1 hB hcell
    by_cases hlt : k < s.size
    · have hck := gc k hlt
      have hst : wr.cell? ⟨w.heap.size + 1, s[k].toNat, none⟩ = some (.bool (Pl.has (s.data.toList.take k) (s[k].toNat : Nat))) := by
        rw [cell_of_row _ _ _ _ _ _ g1]; exact setA_get _ _ s[k].toNat_lt
      have hfr : wr.frozen? ⟨w.heap.size + 1, s[k].toNat, none⟩ = false := frozen_of_row _ _ _ _ _ g1
      have hlt256 : (s[k].toNat : Int) < 256 := by have := s[k].toNat_lt; omega
      have hsn := Lib.hid (setA_take s k hlt)
      go_wp2
      go_roundw
      case rel =>
        refine ⟨k + 1, by omega, by go_num, ?_, ?_, ?_, gB.setCell (by simp) _⟩
        · rw [heap_setCell_other _ _ _ _ (by simp)]; exact g0
        · rw [heap_setCell_same _ _ _ _ _ _ g1, hsn.out]
        · intro j hj
          rw [World.cell?_of_block (heap_setCell_other _ _ _ _ (by simp))]
          exact gc j hj
      case measure => simp [intOf]; omega
    · obtain rfl : k = s.size := by omega
      have hfull : s.data.toList.take s.size = s.data.toList := List.take_of_length_le (by simp)
      rw [hfull] at g1
      clear hfull hlt gc
      go_wp2_with (first | (refine wpList_load_row rfl 64 _ rfl (w.heap.size + 1) rfl 64 _ (0, 0) (.array 256 4) g1 Try.underlying64 rfl ?_ ?_; (rw [size64, setA_size])) | (refine list_store_row rfl 64 _ _ rfl w.heap.size rfl _ rfl noneA 64 g0 (by rw [setA_size, noneA_size]) (by rw [size64, setA_size]) (setA_one _) ?_))
      exact bodyPost_ret (results_cell_row rfl _ _ w.heap.size 64 (setA s.data.toList) (0, 0) (.array 256 4) rfl (setRow_heap _ _ _ _ _ _ g0) Try.underlying64 rfl (by rw [size64, setA_size])) rfl
        ⟨rfl, gB.trans ⟨rfl, rfl, rfl, by simp, fun i hi => setRow_other _ _ _ _ (by omega)⟩⟩
end Go.Proofs.Ytgoggooeipcgpaa
