/-
  Walks: pattern.Is, the reference's Is; pattern.both, pattern.Meets, the reference's Meets.
-/
import Derived.Test.YtgoggooeipcgpaaWalkE
namespace Go.Proofs.Ytgoggooeipcgpaa
open Go.RowKit
set_option linter.unusedVariables false

theorem beq_cast (a b : Nat) : ((a : Int) == (b : Int)) = (a == b) := by rw [Bool.eq_iff_iff, beq_iff_eq, beq_iff_eq]; exact Int.natCast_inj

theorem is_val (t s x : ByteArray) (m : Bool) (h : x.toList.isEmpty = false) : Pl.is t.data.toList s.data.toList m x.data.toList = (Pl.len t.data.toList s.data.toList m x.data.toList 0 == x.size) := by
  rw [ByteArray.toList_eq] at h
  unfold Pl.is
  rw [h, Pl.len_zero]
  rfl

theorem is_empty (t s x : ByteArray) (m : Bool) (h : x.toList.isEmpty = true) : Pl.is t.data.toList s.data.toList m x.data.toList = false := by
  rw [ByteArray.toList_eq] at h
  unfold Pl.is
  rw [h]
  rfl

set_option maxHeartbeats 400000 in
theorem is_any (t s x : ByteArray) (m : Bool) (w : World) (ht : t.size ≤ maxLen) (hs : s.size ≤ maxLen) (hx : x.size ≤ maxLen) :
    Calls Try.prog 18 #[.agg #[.string t, .string s, .bool m], .string x] w fun e w' => e = .returned (.bool (Pl.is t.data.toList s.data.toList m x.data.toList)) ∧ Below w.heap.size w w' := by
  cases he : x.toList.isEmpty with
  | true =>
    have hv := Lib.hid (is_empty t s x m he)
    go_enter Try.func18, Try.ntmps18
    go_wp2_with fail
    go_ret
    exact ⟨ret_bool hv.out.symm, (Below.refl _ _).alloc (Nat.le_refl _) _⟩
  | false =>
    have hv := Lib.hid (is_val t s x m he)
    have hl := len_any t s x m 0
    generalize Pl.len t.data.toList s.data.toList m x.data.toList 0 = n at hv hl
    go_enter Try.func18, Try.ntmps18
    go_wp2_with fail
    refine (hl _ ht hs hx).mono ?_
    rintro e w1 ⟨rfl, hb⟩
    clear hl
    go_wp2_with fail
    go_ret
    exact ⟨ret_bool ((beq_cast _ _).trans hv.out.symm), ((Below.refl _ _).alloc (Nat.le_refl _) _).trans (hb.mono (by simp))⟩

set_option maxHeartbeats 400000 in
theorem ris_any (t s x : ByteArray) (m : Bool) (w : World) (ht : t.size ≤ maxLen) (hs : s.size ≤ maxLen) (hx : x.size ≤ maxLen) :
    Calls Try.prog 19 #[.agg #[.string t, .string s, .bool m], .string x] w fun e w' => e = .returned (.bool (Pl.is t.data.toList s.data.toList m x.data.toList)) ∧ Below w.heap.size w w' := by
  have hv : Hid (Pl.is t.data.toList s.data.toList m x.data.toList = (decide (0 < Pl.len t.data.toList s.data.toList m x.data.toList 0) && (Pl.len t.data.toList s.data.toList m x.data.toList 0 == x.size))) := by
    cases he : x.toList.isEmpty with
    | true =>
      have := is_empty t s x m he
      have h0 : x.data.toList = [] := by rw [ByteArray.toList_eq] at he; simpa using he
      refine Lib.hid ?_
      rw [this, h0, Pl.len_zero, Pl.lenc_nil]
      rfl
    | false =>
      refine Lib.hid ?_
      rw [is_val t s x m he]
      cases hd : decide (0 < Pl.len t.data.toList s.data.toList m x.data.toList 0)
      · rw [ByteArray.toList_eq] at he
        have h0 : 0 < x.data.toList.length := List.length_pos_iff.2 (by intro e; rw [e] at he; cases he)
        have e : x.data.toList.length = x.size := rfl
        simp at hd
        rw [hd]
        simp
        omega
      · simp
  have hl := rlen_any t s x m 0
  generalize Pl.len t.data.toList s.data.toList m x.data.toList 0 = n at hv hl
  cases hd : decide (0 < n) with
  | true =>
    rw [hd] at hv
    go_enter Try.func19, Try.ntmps19
    go_wp2_with fail
    refine (hl _ ht hs hx).mono ?_
    rintro e w1 ⟨rfl, hb⟩
    clear hl
    go_wp2_with fail
    go_ret
    exact ⟨ret_bool ((beq_cast _ _).trans ((Bool.true_and _).symm.trans hv.out.symm)), ((Below.refl _ _).alloc (Nat.le_refl _) _).trans (hb.mono (by simp))⟩
  | false =>
    rw [hd] at hv
    go_enter Try.func19, Try.ntmps19
    go_wp2_with fail
    refine (hl _ ht hs hx).mono ?_
    rintro e w1 ⟨rfl, hb⟩
    clear hl
    go_wp2_with fail
    go_ret
    exact ⟨ret_bool hv.out.symm, ((Below.refl _ _).alloc (Nat.le_refl _) _).trans (hb.mono (by simp))⟩

/-- what two sets have both. -/
def bothA (a b : Pl.B) (n : Nat) : Array Value := (Array.range 256).map fun c => .bool (decide (c < n) && (Pl.has a (c : Nat) && Pl.has b (c : Nat)))

theorem bothA_size (a b : Pl.B) (n : Nat) : (bothA a b n).size = 256 := by simp [bothA]
theorem bothA_zero (a b : Pl.B) : bothA a b 0 = noneA := by
  apply Array.ext
  · simp [bothA, noneA]
  · intro i h1 h2; simp [bothA, noneA]
theorem bothA_get (a b : Pl.B) (n c : Nat) (h : c < 256) : (bothA a b n)[c]? = some (.bool (decide (c < n) && (Pl.has a (c : Nat) && Pl.has b (c : Nat)))) := by
  simp [bothA, h]
theorem bothA_one (a b : Pl.B) (n : Nat) : ∀ v ∈ (bothA a b n).toList, v.oneCell' = true := by
  intro v hv
  simp [bothA] at hv
  obtain ⟨c, _, rfl⟩ := hv
  rfl
theorem bothA_snoc (a b : Pl.B) (n : Nat) (h : n < 256) : (bothA a b n).setIfInBounds n (.bool (Pl.has a (n : Nat) && Pl.has b (n : Nat))) = bothA a b (n + 1) := by
  apply Array.ext
  · simp [bothA]
  · intro i h1 h2
    simp [bothA] at h1
    rw [Array.getElem_setIfInBounds]
    by_cases he : n = i
    · subst he; simp [bothA]
    · have : (decide (i < n + 1)) = decide (i < n) := by simp; omega
      simp [bothA, he, this]
    · simpa [bothA] using h1
theorem bothA_none (a b : Pl.B) : bothA a b 256 = noneA ↔ a.any (Pl.mem b) = false := by
  constructor
  · intro h
    rw [Bool.eq_false_iff]
    intro hh
    obtain ⟨c, hc, hm⟩ := List.any_eq_true.1 hh
    have h1 := bothA_get a b 256 c.toNat c.toNat_lt
    have hlt := c.toNat_lt
    rw [h, Pl.has_toNat, Pl.has_toNat, hm, Pl.mem_iff.2 hc] at h1
    simp [noneA, hlt] at h1
  · intro h
    apply Array.ext
    · simp [bothA, noneA]
    · intro i h1 h2
      simp [bothA] at h1
      simp only [bothA, noneA, Array.getElem_map, Array.getElem_range, Array.getElem_replicate]
      have hi : (i : Int) = ((UInt8.ofNat i).toNat : Int) := by simp; omega
      rw [hi, Pl.has_toNat, Pl.has_toNat]
      congr 1
      cases h3 : Pl.mem a (UInt8.ofNat i)
      · simp
      · cases h4 : Pl.mem b (UInt8.ofNat i)
        · simp
        · have : a.any (Pl.mem b) = true := List.any_eq_true.2 ⟨_, Pl.mem_iff.1 h3, h4⟩
          rw [this] at h; cases h

set_option maxRecDepth 100000 in
set_option maxHeartbeats 400000 in
theorem both_any (a b : Pl.B) (w : World) :
    Calls Try.prog 38 #[.agg (setA a), .agg (setA b)] w fun e w' => e = .returned (.agg (bothA a b 256)) ∧ Below w.heap.size w w' := by
  go_enter Try.func38, Try.ntmps38
  go_wp2_with (first | (with_reducible refine list_alloc_row rfl 64 rfl noneA zero64 ?_))
  obtain ⟨W, hW⟩ : ∃ W, W = (((w.alloc (.cells (setA a) 64)).alloc (.cells (setA b) 64)).alloc (.cells noneA 64)).alloc (.cells noneA 64) := ⟨_, rfl⟩
  rw [← hW]
  have f0 : W.heap[w.heap.size]? = some (.cells (setA a) 64 (0, 0)) := by
    rw [hW, Below.heap_alloc _ _ _ (by simp; omega), Below.heap_alloc _ _ _ (by simp; omega), Below.heap_alloc _ _ _ (by simp)]
    exact heap_alloc_new _ _
  have f1 : W.heap[w.heap.size + 1]? = some (.cells (setA b) 64 (0, 0)) := by
    rw [hW, Below.heap_alloc _ _ _ (by simp), Below.heap_alloc _ _ _ (by simp)]
    exact heap_alloc2_new _ _ _
  have f2 : W.heap[w.heap.size + 1 + 1]? = some (.cells noneA 64 (0, 0)) := by
    rw [hW, Below.heap_alloc _ _ _ (by simp)]
    have := heap_alloc2_new (w.alloc (.cells (setA a) 64)) (.cells (setA b) 64) (.cells noneA 64)
    rwa [World.size_alloc] at this
  have f3 : W.heap[w.heap.size + 1 + 1 + 1]? = some (.cells noneA 64 (0, 0)) := by
    rw [hW]
    have := heap_alloc2_new ((w.alloc (.cells (setA a) 64)).alloc (.cells (setA b) 64)) (.cells noneA 64) (.cells noneA 64)
    rwa [World.size_alloc, World.size_alloc] at this
  have hB : Below w.heap.size w W := by
    rw [hW]
    exact ((((Below.refl _ _).alloc (Nat.le_refl _) _).alloc (by simp) _).alloc (by simp; omega) _).alloc (by simp; omega) _
  clear hW
  go_loopw [7] (fun i wr => ∃ k : Nat, i = .int .i64 k ∧ k ≤ 256 ∧ wr.heap[w.heap.size]? = some (.cells (setA a) 64 (0, 0)) ∧ wr.heap[w.heap.size + 1]? = some (.cells (setA b) 64 (0, 0)) ∧
      wr.heap[w.heap.size + 1 + 1]? = some (.cells noneA 64 (0, 0)) ∧ wr.heap[w.heap.size + 1 + 1 + 1]? = some (.cells (bothA a b k) 64 (0, 0)) ∧ Below w.heap.size w wr) (fun i _ => 256 - (intOf i).toNat)
  case atStart => exact ⟨0, rfl, by omega, f0, f1, f2, by rw [f3, bothA_zero], hB⟩
  case round =>
    obtain ⟨k, rfl, hk, g0, g1, g2, g3, gB⟩ := hrel
    clear f0 f1 f2 f3 hB
    by_cases hlt : k < 256
    · have ca : wr.cell? ⟨w.heap.size, k, none⟩ = some (.bool (Pl.has a (k : Nat))) := by rw [cell_of_row _ _ _ _ _ _ g0]; exact setA_get _ _ hlt
      have cb : wr.cell? ⟨w.heap.size + 1, k, none⟩ = some (.bool (Pl.has b (k : Nat))) := by rw [cell_of_row _ _ _ _ _ _ g1]; exact setA_get _ _ hlt
      have cd : wr.cell? ⟨w.heap.size + 1 + 1 + 1, k, none⟩ = some (.bool (decide (k < k) && (Pl.has a (k : Nat) && Pl.has b (k : Nat)))) := by rw [cell_of_row _ _ _ _ _ _ g3]; exact bothA_get _ _ _ _ hlt
      have cf : wr.frozen? ⟨w.heap.size + 1 + 1 + 1, k, none⟩ = false := frozen_of_row _ _ _ _ _ g3
      have hsn := Lib.hid (bothA_snoc a b k hlt)
      have hki : (k : Int) < 256 := by omega
      generalize Pl.has b (k : Nat) = hb' at cb cd hsn
      cases ha : Pl.has a (k : Nat) with
      | true =>
        rw [ha] at ca cd hsn
        clear ha
        go_wp2
        go_roundw
        case rel =>
          refine ⟨k + 1, by go_num, by omega, ?_, ?_, ?_, ?_, gB.setCell (by simp; omega) _⟩
          · rw [heap_setCell_other _ _ _ _ (by simp; omega)]; exact g0
          · rw [heap_setCell_other _ _ _ _ (by simp)]; exact g1
          · rw [heap_setCell_other _ _ _ _ (by simp)]; exact g2
          · rw [heap_setCell_same _ _ _ _ _ _ g3, ← hsn.out]; rfl
        case measure => simp [intOf]; omega
      | false =>
        rw [ha] at ca cd hsn
        clear ha
        go_wp2
        go_roundw
        case rel =>
          refine ⟨k + 1, by go_num, by omega, ?_, ?_, ?_, ?_, gB.setCell (by simp; omega) _⟩
          · rw [heap_setCell_other _ _ _ _ (by simp; omega)]; exact g0
          · rw [heap_setCell_other _ _ _ _ (by simp)]; exact g1
          · rw [heap_setCell_other _ _ _ _ (by simp)]; exact g2
          · rw [heap_setCell_same _ _ _ _ _ _ g3, ← hsn.out]; rfl
        case measure => simp [intOf]; omega
    · obtain rfl : k = 256 := by omega
      clear hlt
      go_wp2_with (first | (refine wpList_load_row rfl 64 _ rfl (w.heap.size + 1 + 1 + 1) rfl 64 _ (0, 0) (.array 256 4) g3 Try.underlying64 rfl ?_ ?_; (rw [size64, bothA_size])) | (refine list_store_row rfl 64 _ _ rfl (w.heap.size + 1 + 1) rfl _ rfl noneA 64 g2 (by rw [bothA_size, noneA_size]) (by rw [size64, bothA_size]) (bothA_one _ _ _) ?_))
      exact bodyPost_ret (results_cell_row rfl _ _ (w.heap.size + 1 + 1) 64 (bothA a b 256) (0, 0) (.array 256 4) rfl (setRow_heap _ _ _ _ _ _ g2) Try.underlying64 rfl (by rw [size64, bothA_size])) rfl
        ⟨rfl, gB.trans ⟨rfl, rfl, rfl, by simp, fun i hi => setRow_other _ _ _ _ (by omega)⟩⟩
end Go.Proofs.Ytgoggooeipcgpaa
