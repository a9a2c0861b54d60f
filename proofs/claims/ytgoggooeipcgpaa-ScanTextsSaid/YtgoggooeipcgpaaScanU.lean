/-
  The walk of the law ScanTexts: it answers true, and turns nothing that was there.
-/
import Derived.Test.YtgoggooeipcgpaaScanT
namespace Go.Proofs.Ytgoggooeipcgpaa
open Go.RowKit
set_option linter.unusedVariables false

set_option maxRecDepth 100000 in
set_option maxHeartbeats 1600000 in
theorem texts_law (s : ByteArray) (t f u : Int) (w : World) (hs : s.size ≤ maxLen) :
    Calls Try.prog 13 #[.string s, .agg #[.int .i64 t, .int .i64 f, .int .i64 u]] w fun e w' => e = .returned (.bool true) ∧ Below w.heap.size w w' := by
  have hB := (Below.refl w.heap.size w).alloc (Nat.le_refl _) (.cells #[.int .i64 t, .int .i64 f, .int .i64 u] 48)
  have hz : w.heap.size < (w.alloc (.cells #[.int .i64 t, .int .i64 f, .int .i64 u] 48)).heap.size := by simp
  have hR := heap_alloc_new w (.cells #[.int .i64 t, .int .i64 f, .int .i64 u] 48)
  go_enter Try.func13, Try.ntmps13
  go_wp2_with fail
  generalize (w.alloc (.cells #[.int .i64 t, .int .i64 f, .int .i64 u] 48)) = W at hB hz hR ⊢
  refine (awake17_any _).mono ?_
  rintro e v0 ⟨rfl, hb⟩
  have L0 := Lib.hid (hB.trans (hb.mono (by omega)))
  have R0 := (hb.block _ hz).trans hR
  have hz0 : w.heap.size < v0.heap.size := Nat.lt_of_lt_of_le hz hb.size
  clear hB hb hz hR
  have c0 := cell_of_row _ _ 0 _ _ _ R0
  have c1 := cell_of_row _ _ 1 _ _ _ R0
  have c2 := cell_of_row _ _ 2 _ _ _ R0
  simp at c0 c1 c2
  have HR := Lib.hid R0
  clear R0
  by_cases h100 : s.size ≤ 100
  case neg =>
    have h1' : decide (100 < (s.size : Int)) = true := by simp; omega
    go_wp2_with fail
    go_ret
    exact ⟨rfl, L0.out⟩
  have h1' : decide (100 < (s.size : Int)) = false := by simp; omega
  have hT := text_any s t f u v0 hs
  by_cases hp : f < 0 ∨ u < f ∨ (s.size : Int) < u
  case pos =>
    rw [if_pos hp] at hT
    have HP := Lib.hid hp
    clear hp
    go_wp2_with fail
    refine hT.mono ?_
    rintro e v1 ⟨rfl, hb⟩
    have R1 := (hb.block _ hz0).trans HR.out
    have L1 := Lib.hid (L0.out.trans (hb.mono (by omega)))
    clear c0 c1 c2 hb
    have c0 := cell_of_row _ _ 0 _ _ _ R1
    have c1 := cell_of_row _ _ 1 _ _ _ R1
    have c2 := cell_of_row _ _ 2 _ _ _ R1
    simp at c0 c1 c2
    clear R1
    go_wp2_with fail
    all_goals first
      | (go_ret; exact ⟨rfl, L1.out⟩)
      | (exfalso; have := HP.out; omega)
  rw [if_neg hp] at hT
  have hf : 0 ≤ f := by omega
  have hu : 0 ≤ u := by omega
  obtain ⟨a, rfl⟩ := Int.eq_ofNat_of_zero_le hf
  obtain ⟨b, rfl⟩ := Int.eq_ofNat_of_zero_le hu
  have hab : a ≤ b := by omega
  have hbs : b ≤ s.size := by omega
  clear hp hf hu
  simp only [Int.toNat_natCast] at hT
  have hsz : (s.extract a b).size = b - a := by rw [ByteArray.size_extract]; omega
  have hbyte : ∀ k, k < b - a → (s.extract a b).data.toList[k]? = s.data.toList[a + k]? := by
    intro k hk
    rw [Lib.extract_data, List.getElem?_take_of_lt hk, List.getElem?_drop]
  generalize s.extract a b = X at hT hsz hbyte
  have HY := Lib.hid hbyte
  clear hbyte
  have d1 : decide (b < a) = false := by simp; omega
  have d2 : decide (s.size < b) = false := by simp; omega
  have d3 : (((b - a : Nat) : Int) != (b : Int) - (a : Int)) = false := by simp; omega
  have d4 : decide ((a : Int) < 0) = false := by simp
  go_wp2_with fail
  refine hT.mono ?_
  rintro e v1 ⟨rfl, hb⟩
  have R1 := (hb.block _ hz0).trans HR.out
  have L1 := Lib.hid (L0.out.trans (hb.mono (by omega)))
  have hz1 : w.heap.size < v1.heap.size := Nat.lt_of_lt_of_le hz0 hb.size
  clear c0 c1 c2 hb
  have c0 := cell_of_row _ _ 0 _ _ _ R1
  have c1 := cell_of_row _ _ 1 _ _ _ R1
  have c2 := cell_of_row _ _ 2 _ _ _ R1
  simp at c0 c1 c2
  have R1 := Lib.hid R1
  go_wp2_with fail
  go_loopw [7] (fun i wr => ∃ k : Nat, i = .int .i64 k ∧ k ≤ b - a ∧ Hid (Below w.heap.size w wr) ∧ Hid (wr.heap[w.heap.size]? = some (.cells #[.int .i64 t, .int .i64 (a : Nat), .int .i64 (b : Nat)] 48 (0, 0))) ∧ w.heap.size < wr.heap.size) (fun i _ => b - a - (intOf i).toNat)
  case atStart => exact ⟨0, rfl, by omega, L1, R1, hz1⟩
  case round =>
    clear c0 c1 c2 L1 R1 hz1
    obtain ⟨k, rfl, hk, L1, R1, hz1⟩ := hrel
    by_cases hlt : k < b - a
    · have c1 := cell_of_row _ _ 1 _ _ _ R1.out
      simp at c1
      have f1 := fun z : Wd (w.heap.size + 1) wr => ((bcell z.ok).1 _ _ (by omega)).trans c1
      have i1 : k < X.size := by omega
      have i2 : a + k < s.size := by omega
      have hb : X[k] = s[a + k] := by
        have := HY.out k hlt
        rw [List.getElem?_eq_getElem (by simpa using i1), List.getElem?_eq_getElem (by simpa using i2)] at this
        injection this
      have i3 : (0 : Int) ≤ (a : Int) + (k : Int) := by omega
      have i4 : (a : Int) + (k : Int) < (s.size : Int) := by omega
      clear c1
      go_wp2_with fail
      refine region_cls (w.heap.size + 1) (by kernel_rfl) (by kernel_rfl) ?_
      repeat (go_big_quiet_step (fail))
      refine wpQuiet_nil ?_
      intro z
      have L2 : Hid (Below w.heap.size w z.w) := Lib.hid (L1.out.trans (z.ok.mono (by omega)))
      have R2 := Lib.hid ((z.ok.block _ (by omega)).trans R1.out)
      have hz2 : w.heap.size < z.w.heap.size := Nat.lt_of_lt_of_le hz1 z.ok.size
      go_wp2_with fail
      go_roundw
      case rel => exact ⟨k + 1, by go_num, by omega, L2, R2, hz2⟩
      case measure => simp [intOf]; omega
    · obtain rfl : k = b - a := by omega
      clear hlt
      go_wp2_with fail
      go_ret
      exact ⟨rfl, L1.out⟩
end Go.Proofs.Ytgoggooeipcgpaa
