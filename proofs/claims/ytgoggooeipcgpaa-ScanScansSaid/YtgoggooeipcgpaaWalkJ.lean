/-
  Walks: the examples of chapter 16 (tronagelaw16.awake): true.
-/
import Derived.Test.YtgoggooeipcgpaaWalkI
namespace Go.Proofs.Ytgoggooeipcgpaa
open Go.RowKit
set_option linter.unusedVariables false

theorem aw_c0 (w : World) : Calls Try.prog 16 #[.agg #[.string ⟨#[]⟩, .string ⟨#[48, 49, 50, 51, 52, 53, 54, 55, 56, 57]⟩, .bool true], .string ⟨#[49, 50, 97]⟩, .int .i64 0] w fun e w' => e = .returned (.int .i64 2) ∧ Below w.heap.size w w' := by
  have h := len_any ⟨#[]⟩ ⟨#[48, 49, 50, 51, 52, 53, 54, 55, 56, 57]⟩ ⟨#[49, 50, 97]⟩ true 0 w (by show _ ≤ maxLen; unfold maxLen; decide) (by show _ ≤ maxLen; unfold maxLen; decide) (by show _ ≤ maxLen; unfold maxLen; decide)
  rw [show Pl.len (ByteArray.mk #[]).data.toList (ByteArray.mk #[48, 49, 50, 51, 52, 53, 54, 55, 56, 57]).data.toList true (ByteArray.mk #[49, 50, 97]).data.toList 0 = 2 from by decide +kernel] at h
  exact h

theorem aw_c1 (w : World) : Calls Try.prog 16 #[.agg #[.string ⟨#[]⟩, .string ⟨#[48, 49, 50, 51, 52, 53, 54, 55, 56, 57]⟩, .bool true], .string ⟨#[49, 50, 97]⟩, .int .i64 1] w fun e w' => e = .returned (.int .i64 1) ∧ Below w.heap.size w w' := by
  have h := len_any ⟨#[]⟩ ⟨#[48, 49, 50, 51, 52, 53, 54, 55, 56, 57]⟩ ⟨#[49, 50, 97]⟩ true 1 w (by show _ ≤ maxLen; unfold maxLen; decide) (by show _ ≤ maxLen; unfold maxLen; decide) (by show _ ≤ maxLen; unfold maxLen; decide)
  rw [show Pl.len (ByteArray.mk #[]).data.toList (ByteArray.mk #[48, 49, 50, 51, 52, 53, 54, 55, 56, 57]).data.toList true (ByteArray.mk #[49, 50, 97]).data.toList 1 = 1 from by decide +kernel] at h
  exact h

theorem aw_c2 (w : World) : Calls Try.prog 16 #[.agg #[.string ⟨#[]⟩, .string ⟨#[48, 49, 50, 51, 52, 53, 54, 55, 56, 57]⟩, .bool true], .string ⟨#[49, 50, 97]⟩, .int .i64 2] w fun e w' => e = .returned (.int .i64 0) ∧ Below w.heap.size w w' := by
  have h := len_any ⟨#[]⟩ ⟨#[48, 49, 50, 51, 52, 53, 54, 55, 56, 57]⟩ ⟨#[49, 50, 97]⟩ true 2 w (by show _ ≤ maxLen; unfold maxLen; decide) (by show _ ≤ maxLen; unfold maxLen; decide) (by show _ ≤ maxLen; unfold maxLen; decide)
  rw [show Pl.len (ByteArray.mk #[]).data.toList (ByteArray.mk #[48, 49, 50, 51, 52, 53, 54, 55, 56, 57]).data.toList true (ByteArray.mk #[49, 50, 97]).data.toList 2 = 0 from by decide +kernel] at h
  exact h

theorem aw_c3 (w : World) : Calls Try.prog 20 #[.agg #[.string ⟨#[105, 102]⟩, .string ⟨#[]⟩, .bool false], .agg #[.string ⟨#[]⟩, .string ⟨#[97, 98, 99, 100, 101, 102, 103, 104, 105, 106, 107, 108, 109, 110, 111, 112, 113, 114, 115, 116, 117, 118, 119, 120, 121, 122]⟩, .bool true]] w fun e w' => e = .returned (.bool true) ∧ Below w.heap.size w w' := by
  have h := meets_any ⟨#[105, 102]⟩ ⟨#[]⟩ ⟨#[]⟩ ⟨#[97, 98, 99, 100, 101, 102, 103, 104, 105, 106, 107, 108, 109, 110, 111, 112, 113, 114, 115, 116, 117, 118, 119, 120, 121, 122]⟩ false true w (by show _ ≤ maxLen; unfold maxLen; decide) (by show _ ≤ maxLen; unfold maxLen; decide) (by show _ ≤ maxLen; unfold maxLen; decide) (by show _ ≤ maxLen; unfold maxLen; decide)
  rw [show Pl.meets (ByteArray.mk #[105, 102]).data.toList (ByteArray.mk #[]).data.toList false (ByteArray.mk #[]).data.toList (ByteArray.mk #[97, 98, 99, 100, 101, 102, 103, 104, 105, 106, 107, 108, 109, 110, 111, 112, 113, 114, 115, 116, 117, 118, 119, 120, 121, 122]).data.toList true = true from by decide +kernel] at h
  exact h

theorem aw_c4 (w : World) : Calls Try.prog 20 #[.agg #[.string ⟨#[105, 32, 102]⟩, .string ⟨#[]⟩, .bool false], .agg #[.string ⟨#[]⟩, .string ⟨#[97, 98, 99, 100, 101, 102, 103, 104, 105, 106, 107, 108, 109, 110, 111, 112, 113, 114, 115, 116, 117, 118, 119, 120, 121, 122]⟩, .bool true]] w fun e w' => e = .returned (.bool false) ∧ Below w.heap.size w w' := by
  have h := meets_any ⟨#[105, 32, 102]⟩ ⟨#[]⟩ ⟨#[]⟩ ⟨#[97, 98, 99, 100, 101, 102, 103, 104, 105, 106, 107, 108, 109, 110, 111, 112, 113, 114, 115, 116, 117, 118, 119, 120, 121, 122]⟩ false true w (by show _ ≤ maxLen; unfold maxLen; decide) (by show _ ≤ maxLen; unfold maxLen; decide) (by show _ ≤ maxLen; unfold maxLen; decide) (by show _ ≤ maxLen; unfold maxLen; decide)
  rw [show Pl.meets (ByteArray.mk #[105, 32, 102]).data.toList (ByteArray.mk #[]).data.toList false (ByteArray.mk #[]).data.toList (ByteArray.mk #[97, 98, 99, 100, 101, 102, 103, 104, 105, 106, 107, 108, 109, 110, 111, 112, 113, 114, 115, 116, 117, 118, 119, 120, 121, 122]).data.toList true = false from by decide +kernel] at h
  exact h

theorem aw_c5 (w : World) : Calls Try.prog 22 #[.agg #[.string ⟨#[]⟩, .string ⟨#[48, 49, 50, 51, 52, 53, 54, 55, 56, 57]⟩, .bool true]] w fun e w' => e = .returned (.string ⟨#[48]⟩) ∧ Below w.heap.size w w' := by
  have h := example_any ⟨#[]⟩ ⟨#[48, 49, 50, 51, 52, 53, 54, 55, 56, 57]⟩ true w (by show _ ≤ maxLen; unfold maxLen; decide)
  rw [show Pl.ex (ByteArray.mk #[]).data.toList (ByteArray.mk #[48, 49, 50, 51, 52, 53, 54, 55, 56, 57]).data.toList = [48] from by decide +kernel] at h
  exact h

set_option maxRecDepth 100000 in
set_option maxHeartbeats 1600000 in
theorem awake_any (w : World) : Calls Try.prog 14 #[] w fun e w' => e = .returned (.bool true) ∧ Below w.heap.size w w' := by
  go_enter Try.func14, Try.ntmps14
  go_wp2_with fail
  have B0 : Hid (Boxed2 ((w.alloc (.cells #[.string ⟨#[]⟩, .string ⟨#[48, 49, 50, 51, 52, 53, 54, 55, 56, 57]⟩, .bool true] 23)).alloc (.cells #[.string ⟨#[]⟩, .string ⟨#[97, 98, 99, 100, 101, 102, 103, 104, 105, 106, 107, 108, 109, 110, 111, 112, 113, 114, 115, 116, 117, 118, 119, 120, 121, 122]⟩, .bool true] 23)) w.heap.size ⟨#[]⟩ ⟨#[48, 49, 50, 51, 52, 53, 54, 55, 56, 57]⟩ true ⟨#[]⟩ ⟨#[97, 98, 99, 100, 101, 102, 103, 104, 105, 106, 107, 108, 109, 110, 111, 112, 113, 114, 115, 116, 117, 118, 119, 120, 121, 122]⟩ true) := by
    refine Lib.hid ⟨?_, ?_, ?_, ?_, ?_, ?_⟩ <;> go_simp
  have L0 : Hid (Below w.heap.size w ((w.alloc (.cells #[.string ⟨#[]⟩, .string ⟨#[48, 49, 50, 51, 52, 53, 54, 55, 56, 57]⟩, .bool true] 23)).alloc (.cells #[.string ⟨#[]⟩, .string ⟨#[97, 98, 99, 100, 101, 102, 103, 104, 105, 106, 107, 108, 109, 110, 111, 112, 113, 114, 115, 116, 117, 118, 119, 120, 121, 122]⟩, .bool true] 23))) := Lib.hid (((Below.refl _ _).alloc (Nat.le_refl _) _).alloc (by simp) _)
  have hz0 : w.heap.size + 2 ≤ ((w.alloc (.cells #[.string ⟨#[]⟩, .string ⟨#[48, 49, 50, 51, 52, 53, 54, 55, 56, 57]⟩, .bool true] 23)).alloc (.cells #[.string ⟨#[]⟩, .string ⟨#[97, 98, 99, 100, 101, 102, 103, 104, 105, 106, 107, 108, 109, 110, 111, 112, 113, 114, 115, 116, 117, 118, 119, 120, 121, 122]⟩, .bool true] 23)).heap.size := by simp
  generalize (w.alloc (.cells #[.string ⟨#[]⟩, .string ⟨#[48, 49, 50, 51, 52, 53, 54, 55, 56, 57]⟩, .bool true] 23)).alloc (.cells #[.string ⟨#[]⟩, .string ⟨#[97, 98, 99, 100, 101, 102, 103, 104, 105, 106, 107, 108, 109, 110, 111, 112, 113, 114, 115, 116, 117, 118, 119, 120, 121, 122]⟩, .bool true] 23) = W at B0 L0 hz0 ⊢
  obtain ⟨c0, c1, c2, d0, d1, d2⟩ := B0.out
  refine (aw_c0 _).mono ?_
  rintro e w1 ⟨rfl, hb⟩
  have B1 := Lib.hid (B0.out.below hb hz0)
  have L1 := Lib.hid (L0.out.trans (hb.mono (by omega)))
  have hz1 : w.heap.size + 2 ≤ w1.heap.size := Nat.le_trans hz0 hb.size
  clear c0 c1 c2 d0 d1 d2 hb
  obtain ⟨c0, c1, c2, d0, d1, d2⟩ := B1.out
  go_wp2_with fail
  refine (aw_c1 _).mono ?_
  rintro e w2 ⟨rfl, hb⟩
  have B2 := Lib.hid (B1.out.below hb hz1)
  have L2 := Lib.hid (L1.out.trans (hb.mono (by omega)))
  have hz2 : w.heap.size + 2 ≤ w2.heap.size := Nat.le_trans hz1 hb.size
  clear c0 c1 c2 d0 d1 d2 hb
  obtain ⟨c0, c1, c2, d0, d1, d2⟩ := B2.out
  go_wp2_with fail
  refine (aw_c2 _).mono ?_
  rintro e w3 ⟨rfl, hb⟩
  have B3 := Lib.hid (B2.out.below hb hz2)
  have L3 := Lib.hid (L2.out.trans (hb.mono (by omega)))
  have hz3 : w.heap.size + 2 ≤ w3.heap.size := Nat.le_trans hz2 hb.size
  clear c0 c1 c2 d0 d1 d2 hb
  obtain ⟨c0, c1, c2, d0, d1, d2⟩ := B3.out
  go_wp2_with fail
  refine (aw_c3 _).mono ?_
  rintro e w4 ⟨rfl, hb⟩
  have B4 := Lib.hid (B3.out.below hb hz3)
  have L4 := Lib.hid (L3.out.trans (hb.mono (by omega)))
  have hz4 : w.heap.size + 2 ≤ w4.heap.size := Nat.le_trans hz3 hb.size
  clear c0 c1 c2 d0 d1 d2 hb
  obtain ⟨c0, c1, c2, d0, d1, d2⟩ := B4.out
  go_wp2_with fail
  refine (aw_c4 _).mono ?_
  rintro e w5 ⟨rfl, hb⟩
  have B5 := Lib.hid (B4.out.below hb hz4)
  have L5 := Lib.hid (L4.out.trans (hb.mono (by omega)))
  have hz5 : w.heap.size + 2 ≤ w5.heap.size := Nat.le_trans hz4 hb.size
  clear c0 c1 c2 d0 d1 d2 hb
  obtain ⟨c0, c1, c2, d0, d1, d2⟩ := B5.out
  go_wp2_with fail
  refine (aw_c5 _).mono ?_
  rintro e w6 ⟨rfl, hb⟩
  have B6 := Lib.hid (B5.out.below hb hz5)
  have L6 := Lib.hid (L5.out.trans (hb.mono (by omega)))
  have hz6 : w.heap.size + 2 ≤ w6.heap.size := Nat.le_trans hz5 hb.size
  clear c0 c1 c2 d0 d1 d2 hb
  obtain ⟨c0, c1, c2, d0, d1, d2⟩ := B6.out
  go_wp2_with fail
  go_ret
  exact ⟨rfl, L6.out⟩
end Go.Proofs.Ytgoggooeipcgpaa
