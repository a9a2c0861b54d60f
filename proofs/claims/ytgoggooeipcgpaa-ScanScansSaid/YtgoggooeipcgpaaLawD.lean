/-
  The walk of the law PatternMeets: it answers true, and turns nothing that was there.
-/
import Derived.Test.YtgoggooeipcgpaaLawC
namespace Go.Proofs.Ytgoggooeipcgpaa
open Go.RowKit
set_option linter.unusedVariables false

set_option maxRecDepth 100000 in
set_option maxHeartbeats 1600000 in
theorem meets_law (t s t' s' x : ByteArray) (m m' : Bool) (w : World) (ht : t.size ≤ maxLen) (hs : s.size ≤ maxLen) (ht' : t'.size ≤ maxLen) (hs' : s'.size ≤ maxLen) (hx : x.size ≤ maxLen) :
    Calls Try.prog 6 #[.agg #[.string t, .string s, .bool m], .agg #[.string t', .string s', .bool m'], .string x] w fun e w' => e = .returned (.bool true) ∧ Below w.heap.size w w' := by
  go_enter Try.func6, Try.ntmps6
  go_wp2_with fail
  have B0 : Hid (Boxed2 ((w.alloc (.cells #[.string t, .string s, .bool m] 23)).alloc (.cells #[.string t', .string s', .bool m'] 23)) w.heap.size t s m t' s' m') := by
    refine Lib.hid ⟨?_, ?_, ?_, ?_, ?_, ?_⟩ <;> go_simp
  have L0 : Hid (Below w.heap.size w ((w.alloc (.cells #[.string t, .string s, .bool m] 23)).alloc (.cells #[.string t', .string s', .bool m'] 23))) := Lib.hid ((((Below.refl _ _).alloc (Nat.le_refl _) _).alloc (by simp) _))
  have hz0 : w.heap.size + 2 ≤ ((w.alloc (.cells #[.string t, .string s, .bool m] 23)).alloc (.cells #[.string t', .string s', .bool m'] 23)).heap.size := by simp
  generalize ((w.alloc (.cells #[.string t, .string s, .bool m] 23)).alloc (.cells #[.string t', .string s', .bool m'] 23)) = W at B0 L0 hz0 ⊢
  obtain ⟨c0, c1, c2, d0, d1, d2⟩ := B0.out
  refine (awake_any _).mono ?_
  rintro e w1 ⟨rfl, hb⟩
  have B1 := Lib.hid (B0.out.below hb hz0)
  have L1 := Lib.hid (L0.out.trans (hb.mono (by omega)))
  have hz1 : w.heap.size + 2 ≤ w1.heap.size := Nat.le_trans hz0 hb.size
  clear c0 c1 c2 d0 d1 d2 hb
  obtain ⟨c0, c1, c2, d0, d1, d2⟩ := B1.out
  go_wp2_with fail
  refine (few_any t s m _ ht hs).mono ?_
  rintro e w2 ⟨rfl, hb⟩
  have B2 := Lib.hid (B1.out.below hb hz1)
  have L2 := Lib.hid (L1.out.trans (hb.mono (by omega)))
  have hz2 : w.heap.size + 2 ≤ w2.heap.size := Nat.le_trans hz1 hb.size
  clear c0 c1 c2 d0 d1 d2 hb
  obtain ⟨c0, c1, c2, d0, d1, d2⟩ := B2.out
  go_wp2_with fail
  refine (few_any t' s' m' _ ht' hs').mono ?_
  rintro e w3 ⟨rfl, hb⟩
  have B3 := Lib.hid (B2.out.below hb hz2)
  have L3 := Lib.hid (L2.out.trans (hb.mono (by omega)))
  have hz3 : w.heap.size + 2 ≤ w3.heap.size := Nat.le_trans hz2 hb.size
  clear c0 c1 c2 d0 d1 d2 hb
  obtain ⟨c0, c1, c2, d0, d1, d2⟩ := B3.out
  cases hf : fewB t s with
  | false =>
    clear hf
    go_wp2_with fail
    go_ret
    exact ⟨rfl, L3.out⟩
  | true =>
  obtain ⟨hf1, hf2⟩ := few_of hf
  clear hf
  cases hf : fewB t' s' with
  | false =>
    clear hf
    go_wp2_with fail
    go_ret
    exact ⟨rfl, L3.out⟩
  | true =>
  obtain ⟨hf3, hf4⟩ := few_of hf
  clear hf
  by_cases h100 : x.size ≤ 100
  case neg =>
    have h1' : decide (100 < (x.size : Int)) = true := by simp; omega
    go_wp2_with fail
    go_ret
    exact ⟨rfl, L3.out⟩
  have h1' : decide (100 < (x.size : Int)) = false := by simp; omega
  have hM := fun w => meets_any t s t' s' m m' w ht hs ht' hs'
  have hM' := fun w => meets_any t' s' t s m' m w ht' hs' ht hs
  rw [Pl.meets_comm] at hM'
  have hX := fun w => is_any t s x m w ht hs hx
  have hY := fun w => is_any t' s' x m' w ht' hs' hx
  obtain ⟨E, hE⟩ : ∃ E : ByteArray, E = ⟨(Pl.ex t.data.toList s.data.toList).toArray⟩ := ⟨_, rfl⟩
  obtain ⟨G, hG⟩ : ∃ G : ByteArray, G = ⟨(Pl.ex t'.data.toList s'.data.toList).toArray⟩ := ⟨_, rfl⟩
  have hEm : E.size ≤ maxLen := by have h8 : E.data.toList.length = E.size := rfl; have h9 := ex_size (s := s) hf1; rw [← h8, hE]; exact Nat.le_trans h9 (by unfold maxLen; omega)
  have hGm : G.size ≤ maxLen := by have h8 : G.data.toList.length = G.size := rfl; have h9 := ex_size (s := s') hf3; rw [← h8, hG]; exact Nat.le_trans h9 (by unfold maxLen; omega)
  have hE1 := fun w => is_any t s E m w ht hs hEm
  have hE2 := fun w => is_any t' s' E m' w ht' hs' hEm
  have hG1 := fun w => is_any t s G m w ht hs hGm
  have hG2 := fun w => is_any t' s' G m' w ht' hs' hGm
  have hex := fun w => example_any t s m w hs
  have hex' := fun w => example_any t' s' m' w hs'
  rw [← hE] at hex
  rw [← hG] at hex'
  have kX := Pl.meets_of_is (t := t.data.toList) (s := s.data.toList) (t' := t'.data.toList) (s' := s'.data.toList) (x := x.data.toList) (m := m) (m' := m')
  have kE := Pl.meets_of_is (t := t.data.toList) (s := s.data.toList) (t' := t'.data.toList) (s' := s'.data.toList) (x := E.data.toList) (m := m) (m' := m')
  have kG := Pl.meets_of_is (t := t.data.toList) (s := s.data.toList) (t' := t'.data.toList) (s' := s'.data.toList) (x := G.data.toList) (m := m) (m' := m')
  generalize Pl.meets t.data.toList s.data.toList m t'.data.toList s'.data.toList m' = M at hM hM' kX kE kG
  generalize Pl.is t.data.toList s.data.toList m x.data.toList = rx at hX kX
  generalize Pl.is t'.data.toList s'.data.toList m' x.data.toList = ry at hY kX
  generalize Pl.is t.data.toList s.data.toList m E.data.toList = r1 at hE1 kE
  generalize Pl.is t'.data.toList s'.data.toList m' E.data.toList = r2 at hE2 kE
  generalize Pl.is t.data.toList s.data.toList m G.data.toList = r3 at hG1 kG
  generalize Pl.is t'.data.toList s'.data.toList m' G.data.toList = r4 at hG2 kG
  clear hE hG
  have QM := Lib.hid hM
  clear hM
  have QM' := Lib.hid hM'
  clear hM'
  have QX := Lib.hid hX
  clear hX
  have QY := Lib.hid hY
  clear hY
  have QE1 := Lib.hid hE1
  clear hE1
  have QE2 := Lib.hid hE2
  clear hE2
  have QG1 := Lib.hid hG1
  clear hG1
  have QG2 := Lib.hid hG2
  clear hG2
  have Qex := Lib.hid hex
  clear hex
  have Qex' := Lib.hid hex'
  clear hex'
  have ZX := Lib.hid kX
  clear kX
  have ZE := Lib.hid kE
  clear kE
  have ZG := Lib.hid kG
  clear kG
  go_wp2_with fail
  refine (QM.out _).mono ?_
  rintro e w4 ⟨rfl, hb⟩
  have B4 := Lib.hid (B3.out.below hb hz3)
  have L4 := Lib.hid (L3.out.trans (hb.mono (by omega)))
  have hz4 : w.heap.size + 2 ≤ w4.heap.size := Nat.le_trans hz3 hb.size
  clear c0 c1 c2 d0 d1 d2 hb
  obtain ⟨c0, c1, c2, d0, d1, d2⟩ := B4.out
  go_wp2_with fail
  refine (QX.out _).mono ?_
  rintro e w5 ⟨rfl, hb⟩
  have B5 := Lib.hid (B4.out.below hb hz4)
  have L5 := Lib.hid (L4.out.trans (hb.mono (by omega)))
  have hz5 : w.heap.size + 2 ≤ w5.heap.size := Nat.le_trans hz4 hb.size
  clear c0 c1 c2 d0 d1 d2 hb
  obtain ⟨c0, c1, c2, d0, d1, d2⟩ := B5.out
  go_wp2_with fail
  refine (QY.out _).mono ?_
  rintro e w6 ⟨rfl, hb⟩
  have B6 := Lib.hid (B5.out.below hb hz5)
  have L6 := Lib.hid (L5.out.trans (hb.mono (by omega)))
  have hz6 : w.heap.size + 2 ≤ w6.heap.size := Nat.le_trans hz5 hb.size
  clear c0 c1 c2 d0 d1 d2 hb
  obtain ⟨c0, c1, c2, d0, d1, d2⟩ := B6.out
  go_upto_region 9 with (fail)
  go_cut [48] (fun v wx => v = .bool false ∧ Hid (Boxed2 wx w.heap.size t s m t' s' m') ∧ Hid (Below w.heap.size w wx) ∧ w.heap.size + 2 ≤ wx.heap.size)
  case first =>
    clear c0 c1 c2 d0 d1 d2
    cases rx <;> cases ry <;> (try (obtain rfl : M = true := ZX.out rfl rfl)) <;> (try cases M) <;> (go_wp2_with fail; go_meet; exact ⟨rfl, B6, L6, hz6⟩)
  case rest =>
    obtain ⟨rfl, B7, L7, hz7⟩ := hcut
    clear c0 c1 c2 d0 d1 d2
    obtain ⟨c0, c1, c2, d0, d1, d2⟩ := B7.out
    go_wp2_with fail
    refine (Qex.out _).mono ?_
    rintro e w8 ⟨rfl, hb⟩
    have B8 := Lib.hid (B7.out.below hb hz7)
    have L8 := Lib.hid (L7.out.trans (hb.mono (by omega)))
    have hz8 : w.heap.size + 2 ≤ w8.heap.size := Nat.le_trans hz7 hb.size
    clear c0 c1 c2 d0 d1 d2 hb
    obtain ⟨c0, c1, c2, d0, d1, d2⟩ := B8.out
    go_wp2_with fail
    refine (Qex'.out _).mono ?_
    rintro e w9 ⟨rfl, hb⟩
    have B9 := Lib.hid (B8.out.below hb hz8)
    have L9 := Lib.hid (L8.out.trans (hb.mono (by omega)))
    have hz9 : w.heap.size + 2 ≤ w9.heap.size := Nat.le_trans hz8 hb.size
    clear c0 c1 c2 d0 d1 d2 hb
    obtain ⟨c0, c1, c2, d0, d1, d2⟩ := B9.out
    go_upto_region 13 with (fail)
    go_cut [78] (fun v wx => v = .bool false ∧ Hid (Boxed2 wx w.heap.size t s m t' s' m') ∧ Hid (Below w.heap.size w wx) ∧ w.heap.size + 2 ≤ wx.heap.size)
    case first =>
      cases r1 with
      | true =>
        cases r3 with
        | true =>
          cases r2 <;> (try (obtain rfl : M = true := ZE.out rfl rfl))
          all_goals
            cases r4 <;> (try (obtain rfl : M = true := ZG.out rfl rfl))
            all_goals
              (try cases M)
              all_goals
                go_wp2_with fail
                refine (QE1.out _).mono ?_
                rintro e w10 ⟨rfl, hb⟩
                have B10 := Lib.hid (B9.out.below hb hz9)
                have L10 := Lib.hid (L9.out.trans (hb.mono (by omega)))
                have hz10 : w.heap.size + 2 ≤ w10.heap.size := Nat.le_trans hz9 hb.size
                clear c0 c1 c2 d0 d1 d2 hb
                obtain ⟨c0, c1, c2, d0, d1, d2⟩ := B10.out
                go_wp2_with fail
                refine (QE2.out _).mono ?_
                rintro e w11 ⟨rfl, hb⟩
                have B11 := Lib.hid (B10.out.below hb hz10)
                have L11 := Lib.hid (L10.out.trans (hb.mono (by omega)))
                have hz11 : w.heap.size + 2 ≤ w11.heap.size := Nat.le_trans hz10 hb.size
                clear c0 c1 c2 d0 d1 d2 hb
                obtain ⟨c0, c1, c2, d0, d1, d2⟩ := B11.out
                go_wp2_with fail
                refine (QG1.out _).mono ?_
                rintro e w12 ⟨rfl, hb⟩
                have B12 := Lib.hid (B11.out.below hb hz11)
                have L12 := Lib.hid (L11.out.trans (hb.mono (by omega)))
                have hz12 : w.heap.size + 2 ≤ w12.heap.size := Nat.le_trans hz11 hb.size
                clear c0 c1 c2 d0 d1 d2 hb
                obtain ⟨c0, c1, c2, d0, d1, d2⟩ := B12.out
                go_wp2_with fail
                refine (QG2.out _).mono ?_
                rintro e w13 ⟨rfl, hb⟩
                have B13 := Lib.hid (B12.out.below hb hz12)
                have L13 := Lib.hid (L12.out.trans (hb.mono (by omega)))
                have hz13 : w.heap.size + 2 ≤ w13.heap.size := Nat.le_trans hz12 hb.size
                clear c0 c1 c2 d0 d1 d2 hb
                obtain ⟨c0, c1, c2, d0, d1, d2⟩ := B13.out
                go_wp2_with fail
                go_meet
                exact ⟨rfl, B13, L13, hz13⟩
        | false =>
          cases r2 <;> (try (obtain rfl : M = true := ZE.out rfl rfl))
          all_goals
            (try cases M)
            all_goals
              go_wp2_with fail
              refine (QE1.out _).mono ?_
              rintro e w10 ⟨rfl, hb⟩
              have B10 := Lib.hid (B9.out.below hb hz9)
              have L10 := Lib.hid (L9.out.trans (hb.mono (by omega)))
              have hz10 : w.heap.size + 2 ≤ w10.heap.size := Nat.le_trans hz9 hb.size
              clear c0 c1 c2 d0 d1 d2 hb
              obtain ⟨c0, c1, c2, d0, d1, d2⟩ := B10.out
              go_wp2_with fail
              refine (QE2.out _).mono ?_
              rintro e w11 ⟨rfl, hb⟩
              have B11 := Lib.hid (B10.out.below hb hz10)
              have L11 := Lib.hid (L10.out.trans (hb.mono (by omega)))
              have hz11 : w.heap.size + 2 ≤ w11.heap.size := Nat.le_trans hz10 hb.size
              clear c0 c1 c2 d0 d1 d2 hb
              obtain ⟨c0, c1, c2, d0, d1, d2⟩ := B11.out
              go_wp2_with fail
              refine (QG1.out _).mono ?_
              rintro e w12 ⟨rfl, hb⟩
              have B12 := Lib.hid (B11.out.below hb hz11)
              have L12 := Lib.hid (L11.out.trans (hb.mono (by omega)))
              have hz12 : w.heap.size + 2 ≤ w12.heap.size := Nat.le_trans hz11 hb.size
              clear c0 c1 c2 d0 d1 d2 hb
              obtain ⟨c0, c1, c2, d0, d1, d2⟩ := B12.out
              go_wp2_with fail
              go_meet
              exact ⟨rfl, B12, L12, hz12⟩
      | false =>
        cases r3 with
        | true =>
          all_goals
            cases r4 <;> (try (obtain rfl : M = true := ZG.out rfl rfl))
            all_goals
              (try cases M)
              all_goals
                go_wp2_with fail
                refine (QE1.out _).mono ?_
                rintro e w10 ⟨rfl, hb⟩
                have B10 := Lib.hid (B9.out.below hb hz9)
                have L10 := Lib.hid (L9.out.trans (hb.mono (by omega)))
                have hz10 : w.heap.size + 2 ≤ w10.heap.size := Nat.le_trans hz9 hb.size
                clear c0 c1 c2 d0 d1 d2 hb
                obtain ⟨c0, c1, c2, d0, d1, d2⟩ := B10.out
                go_wp2_with fail
                refine (QG1.out _).mono ?_
                rintro e w11 ⟨rfl, hb⟩
                have B11 := Lib.hid (B10.out.below hb hz10)
                have L11 := Lib.hid (L10.out.trans (hb.mono (by omega)))
                have hz11 : w.heap.size + 2 ≤ w11.heap.size := Nat.le_trans hz10 hb.size
                clear c0 c1 c2 d0 d1 d2 hb
                obtain ⟨c0, c1, c2, d0, d1, d2⟩ := B11.out
                go_wp2_with fail
                refine (QG2.out _).mono ?_
                rintro e w12 ⟨rfl, hb⟩
                have B12 := Lib.hid (B11.out.below hb hz11)
                have L12 := Lib.hid (L11.out.trans (hb.mono (by omega)))
                have hz12 : w.heap.size + 2 ≤ w12.heap.size := Nat.le_trans hz11 hb.size
                clear c0 c1 c2 d0 d1 d2 hb
                obtain ⟨c0, c1, c2, d0, d1, d2⟩ := B12.out
                go_wp2_with fail
                go_meet
                exact ⟨rfl, B12, L12, hz12⟩
        | false =>
          all_goals
            (try cases M)
            all_goals
              go_wp2_with fail
              refine (QE1.out _).mono ?_
              rintro e w10 ⟨rfl, hb⟩
              have B10 := Lib.hid (B9.out.below hb hz9)
              have L10 := Lib.hid (L9.out.trans (hb.mono (by omega)))
              have hz10 : w.heap.size + 2 ≤ w10.heap.size := Nat.le_trans hz9 hb.size
              clear c0 c1 c2 d0 d1 d2 hb
              obtain ⟨c0, c1, c2, d0, d1, d2⟩ := B10.out
              go_wp2_with fail
              refine (QG1.out _).mono ?_
              rintro e w11 ⟨rfl, hb⟩
              have B11 := Lib.hid (B10.out.below hb hz10)
              have L11 := Lib.hid (L10.out.trans (hb.mono (by omega)))
              have hz11 : w.heap.size + 2 ≤ w11.heap.size := Nat.le_trans hz10 hb.size
              clear c0 c1 c2 d0 d1 d2 hb
              obtain ⟨c0, c1, c2, d0, d1, d2⟩ := B11.out
              go_wp2_with fail
              go_meet
              exact ⟨rfl, B11, L11, hz11⟩
    case rest =>
      obtain ⟨rfl, B19, L19, hz19⟩ := hcut
      clear c0 c1 c2 d0 d1 d2
      obtain ⟨c0, c1, c2, d0, d1, d2⟩ := B19.out
      go_wp2_with fail
      refine (QM'.out _).mono ?_
      rintro e w20 ⟨rfl, hb⟩
      have B20 := Lib.hid (B19.out.below hb hz19)
      have L20 := Lib.hid (L19.out.trans (hb.mono (by omega)))
      have hz20 : w.heap.size + 2 ≤ w20.heap.size := Nat.le_trans hz19 hb.size
      clear c0 c1 c2 d0 d1 d2 hb
      obtain ⟨c0, c1, c2, d0, d1, d2⟩ := B20.out
      go_wp2_with fail
      go_ret
      exact ⟨rfl, L20.out⟩

end Go.Proofs.Ytgoggooeipcgpaa
