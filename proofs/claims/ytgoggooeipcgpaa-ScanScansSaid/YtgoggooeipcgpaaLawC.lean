/-
  The walk of the law PatternExample: it answers true, and turns nothing that was there.
-/
import Derived.Test.YtgoggooeipcgpaaLawB
namespace Go.Proofs.Ytgoggooeipcgpaa
open Go.RowKit
set_option linter.unusedVariables false

theorem few_of {t s : ByteArray} (h : fewB t s = true) : t.size ≤ 40 ∧ s.size ≤ 300 := by simpa [fewB] using h

theorem ex_size {t s : ByteArray} (h : t.size ≤ 40) : (Pl.ex t.data.toList s.data.toList).length ≤ 40 := by
  have h8 : t.data.toList.length = t.size := rfl
  unfold Pl.ex
  split
  · split <;> simp
  · omega

set_option maxRecDepth 100000 in
set_option maxHeartbeats 1600000 in
theorem example_law (t s x : ByteArray) (m : Bool) (w : World) (ht : t.size ≤ maxLen) (hs : s.size ≤ maxLen) (hx : x.size ≤ maxLen) :
    Calls Try.prog 5 #[.agg #[.string t, .string s, .bool m], .string x] w fun e w' => e = .returned (.bool true) ∧ Below w.heap.size w w' := by
  go_enter Try.func5, Try.ntmps5
  go_wp2_with fail
  have B0 : Hid (Boxed1 (w.alloc (.cells #[.string t, .string s, .bool m] 23)) w.heap.size t s m) := by
    refine Lib.hid ⟨?_, ?_, ?_⟩ <;> go_simp
  have L0 : Hid (Below w.heap.size w (w.alloc (.cells #[.string t, .string s, .bool m] 23))) := Lib.hid (((Below.refl _ _).alloc (Nat.le_refl _) _))
  have hz0 : w.heap.size + 1 ≤ (w.alloc (.cells #[.string t, .string s, .bool m] 23)).heap.size := by simp
  generalize (w.alloc (.cells #[.string t, .string s, .bool m] 23)) = W at B0 L0 hz0 ⊢
  obtain ⟨c0, c1, c2⟩ := B0.out
  refine (awake_any _).mono ?_
  rintro e w1 ⟨rfl, hb⟩
  have B1 := Lib.hid (B0.out.below hb hz0)
  have L1 := Lib.hid (L0.out.trans (hb.mono (by omega)))
  have hz1 : w.heap.size + 1 ≤ w1.heap.size := Nat.le_trans hz0 hb.size
  clear c0 c1 c2 hb
  obtain ⟨c0, c1, c2⟩ := B1.out
  go_wp2_with fail
  refine (few_any t s m _ ht hs).mono ?_
  rintro e w2 ⟨rfl, hb⟩
  have B2 := Lib.hid (B1.out.below hb hz1)
  have L2 := Lib.hid (L1.out.trans (hb.mono (by omega)))
  have hz2 : w.heap.size + 1 ≤ w2.heap.size := Nat.le_trans hz1 hb.size
  clear c0 c1 c2 hb
  obtain ⟨c0, c1, c2⟩ := B2.out
  cases hf : fewB t s with
  | false =>
    go_wp2_with fail
    go_ret
    exact ⟨rfl, L2.out⟩
  | true =>
  obtain ⟨hf1, hf2⟩ := few_of hf
  clear hf
  by_cases h100 : x.size ≤ 100
  case neg =>
    have h1' : decide (100 < (x.size : Int)) = true := by simp; omega
    go_wp2_with fail
    go_ret
    exact ⟨rfl, L2.out⟩
  have h1' : decide (100 < (x.size : Int)) = false := by simp; omega
  go_wp2_with fail
  refine (example_any t s m _ hs).mono ?_
  rintro e w3 ⟨rfl, hb⟩
  have B3 := Lib.hid (B2.out.below hb hz2)
  have L3 := Lib.hid (L2.out.trans (hb.mono (by omega)))
  have hz3 : w.heap.size + 1 ≤ w3.heap.size := Nat.le_trans hz2 hb.size
  clear c0 c1 c2 hb
  obtain ⟨c0, c1, c2⟩ := B3.out
  have hcE := ex_size (t := t) (s := s) hf1
  by_cases hex : Pl.ex t.data.toList s.data.toList = []
  case pos =>
    rw [hex]
    obtain ⟨hte, hse⟩ := Pl.ex_nil.1 hex
    have hI := fun w => is_any t s x m w ht hs hx
    have hM := fun w => meets_any t s t s m m w ht hs ht hs
    rw [hte, Pl.is_none hse] at hI
    rw [Pl.meets_none hex] at hM
    have HI := Lib.hid hI
    have HM := Lib.hid hM
    clear hI hM hex hte hse
    have h5 : (ByteArray.mk #[]).toList.isEmpty = true := by rw [ByteArray.toList_eq]; rfl
    have h7 : (⟨([] : List UInt8).toArray⟩ : ByteArray) = ⟨#[]⟩ := rfl
    rw [h7]
    go_wp2_with fail
    refine (HI.out _).mono ?_
    rintro e w4 ⟨rfl, hb⟩
    have B4 := Lib.hid (B3.out.below hb hz3)
    have L4 := Lib.hid (L3.out.trans (hb.mono (by omega)))
    have hz4 : w.heap.size + 1 ≤ w4.heap.size := Nat.le_trans hz3 hb.size
    clear c0 c1 c2 hb
    obtain ⟨c0, c1, c2⟩ := B4.out
    go_wp2_with fail
    refine (HM.out _).mono ?_
    rintro e w5 ⟨rfl, hb⟩
    have B5 := Lib.hid (B4.out.below hb hz4)
    have L5 := Lib.hid (L4.out.trans (hb.mono (by omega)))
    have hz5 : w.heap.size + 1 ≤ w5.heap.size := Nat.le_trans hz4 hb.size
    clear c0 c1 c2 hb
    obtain ⟨c0, c1, c2⟩ := B5.out
    go_wp2_with fail
    go_ret
    exact ⟨rfl, L5.out⟩
  obtain ⟨E, hE⟩ : ∃ E : ByteArray, E = ⟨(Pl.ex t.data.toList s.data.toList).toArray⟩ := ⟨_, rfl⟩
  have hEl : E.data.toList = Pl.ex t.data.toList s.data.toList := by rw [hE]
  have hEs : E.size ≤ 40 := by have h8 : E.data.toList.length = E.size := rfl; rw [← h8, hEl]; exact hcE
  have hEm : E.size ≤ maxLen := by unfold maxLen; omega
  have hEx : (E ++ x).size ≤ maxLen := by rw [ByteArray.size_append]; unfold maxLen; omega
  have h5 : E.toList.isEmpty = false := by rw [ByteArray.toList_eq, hEl]; cases hh : Pl.ex t.data.toList s.data.toList <;> simp_all
  have hI := fun w => is_any t s E m w ht hs hEm
  have hM := fun w => meets_any t s t s m m w ht hs ht hs
  have hL := fun w => len_any t s (E ++ x) m 0 w ht hs hEx
  rw [hEl, Pl.ex_is hex] at hI
  rw [Pl.meets_self hex] at hM
  have hge : E.size ≤ Pl.len t.data.toList s.data.toList m (E ++ x).data.toList 0 := by
    have h8 : E.data.toList.length = E.size := rfl
    have := Pl.ex_len (m := m) hex x.data.toList
    rw [Pl.len_zero, ByteArray.data_append, Array.toList_append, hEl, ← h8, hEl]
    exact this
  generalize Pl.len t.data.toList s.data.toList m (E ++ x).data.toList 0 = n at hL hge
  have hge' : decide (E.size ≤ n) = true := by simpa using hge
  have HI := Lib.hid hI
  have HM := Lib.hid hM
  have HL := Lib.hid hL
  rw [← hE]
  clear hI hM hL hE hEl hcE hex hge
  have hadd : E.size + x.size ≤ 9223372036854775807 := by omega
  go_wp2_with fail
  refine (HI.out _).mono ?_
  rintro e w4 ⟨rfl, hb⟩
  have B4 := Lib.hid (B3.out.below hb hz3)
  have L4 := Lib.hid (L3.out.trans (hb.mono (by omega)))
  have hz4 : w.heap.size + 1 ≤ w4.heap.size := Nat.le_trans hz3 hb.size
  clear c0 c1 c2 hb
  obtain ⟨c0, c1, c2⟩ := B4.out
  go_wp2_with fail
  refine (HM.out _).mono ?_
  rintro e w5 ⟨rfl, hb⟩
  have B5 := Lib.hid (B4.out.below hb hz4)
  have L5 := Lib.hid (L4.out.trans (hb.mono (by omega)))
  have hz5 : w.heap.size + 1 ≤ w5.heap.size := Nat.le_trans hz4 hb.size
  clear c0 c1 c2 hb
  obtain ⟨c0, c1, c2⟩ := B5.out
  go_wp2_with fail
  refine (HL.out _).mono ?_
  rintro e w6 ⟨rfl, hb⟩
  have B6 := Lib.hid (B5.out.below hb hz5)
  have L6 := Lib.hid (L5.out.trans (hb.mono (by omega)))
  have hz6 : w.heap.size + 1 ≤ w6.heap.size := Nat.le_trans hz5 hb.size
  clear c0 c1 c2 hb
  obtain ⟨c0, c1, c2⟩ := B6.out
  go_wp2_with fail
  go_ret
  exact ⟨rfl, L6.out⟩

end Go.Proofs.Ytgoggooeipcgpaa
