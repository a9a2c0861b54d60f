/-
  The law BitsetMeets: the walk.
-/
import Derived.Test.YtccmmilbnfiacaaDoorBsA
import Derived.Test.YtccmmilbnfiacaaDoorBsM2
namespace Go.Proofs.YtccmmilbnfiacaaDoor
open Go.RowKit
set_option linter.unusedVariables false

/-- Both have a number below k; each number below k is in both or in none. -/
def bothK (X Y k : Nat) : Bool := (List.range k).any fun j => X.testBit j && Y.testBit j
def sameK (X Y k : Nat) : Bool := (List.range k).all fun j => X.testBit j == Y.testBit j
theorem has_nat (X k : Nat) : Bs.has X (k : Int) = X.testBit k := by simp [Bs.has]
theorem bothK_succ (X Y k : Nat) : bothK X Y (k + 1) = (bothK X Y k || (Bs.has X (k : Int) && Bs.has Y (k : Int))) := by
  rw [has_nat, has_nat]; simp [bothK, List.range_succ]
theorem sameK_succ (X Y k : Nat) : sameK X Y (k + 1) = (sameK X Y k && (Bs.has X (k : Int) == Bs.has Y (k : Int))) := by
  rw [has_nat, has_nat]; simp [sameK, List.range_succ]
theorem bothK_all {n m X Y : Nat} (hX : X < 2 ^ n) (hY : Y < 2 ^ m) : bothK X Y (max n m) = meetB X Y := by
  rw [Bool.eq_iff_iff]
  unfold bothK meetB
  rw [List.any_eq_true]
  constructor
  · rintro ⟨j, _, hj⟩
    have : X &&& Y ≠ 0 := by
      intro e
      have := congrArg (fun Z => Z.testBit j) e
      simp only [Nat.testBit_and, Nat.zero_testBit] at this
      rw [this] at hj; cases hj
    simp [this]
  · intro h
    have h : X &&& Y ≠ 0 := by simpa using h
    have : ∃ j, (X &&& Y).testBit j = true := by
      apply Classical.byContradiction
      intro hc
      apply h
      apply Nat.eq_of_testBit_eq
      intro j
      rw [Nat.zero_testBit]
      cases e : (X &&& Y).testBit j
      · rfl
      · exact absurd ⟨j, e⟩ hc
    obtain ⟨j, hj⟩ := this
    rw [Nat.testBit_and] at hj
    refine ⟨j, ?_, hj⟩
    rw [List.mem_range]
    rcases Nat.lt_or_ge j (max n m) with h1 | h1
    · exact h1
    · rw [Bs.bit_of_lt hX (by omega)] at hj; cases hj
theorem sameK_all {n m X Y : Nat} (hX : X < 2 ^ n) (hY : Y < 2 ^ m) : sameK X Y (max n m) = sameB X Y := by
  rw [Bool.eq_iff_iff]
  unfold sameK sameB
  rw [List.all_eq_true, decide_eq_true_eq]
  constructor
  · intro h
    apply Nat.eq_of_testBit_eq
    intro j
    rcases Nat.lt_or_ge j (max n m) with h1 | h1
    · simpa using h j (List.mem_range.2 h1)
    · rw [Bs.bit_of_lt hX (by omega), Bs.bit_of_lt hY (by omega)]
  · rintro rfl; simp
theorem meetB_comm (X Y : Nat) : meetB Y X = meetB X Y := by unfold meetB; rw [Nat.and_comm]

set_option maxRecDepth 100000 in
set_option maxHeartbeats 6400000 in
theorem meets_law (n k : Int) (a a2 : Option Addr) (l l2 : List Int) (c c2 : Nat) (w : World) (hT : Tab w) (hl : Ints w a l) (hn : l.length ≤ maxLen) (hl2 : Ints w a2 l2) (hn2 : l2.length ≤ maxLen) :
    Calls Tryd.prog 5 #[.int .i64 n, .int .i64 k, .slice a l.length c, .slice a2 l2.length c2] w fun e w' => e = .returned (.bool true) ∧ Below w.heap.size w w' := by
  have hT0 := hT.lt
  have T_0 := Lib.hid hT
  clear hT
  unfold maxLen at hn hn2
  have A_0 := Lib.hid hl
  clear hl
  have B_0 := Lib.hid hl2
  clear hl2
  go_enter Tryd.func5, Tryd.ntmps5
  have L_0 := Lib.hid (Below.refl w.heap.size w)
  go_wp2_with fail
  refine (awake03_any w T_0.out).mono ?_
  rintro e v1 ⟨rfl, hB⟩
  have T_1 := Lib.hid (T_0.out.below hB)
  have A_1 := Lib.hid (A_0.out.below hB)
  have B_1 := Lib.hid (B_0.out.below hB)
  have L_1 := Lib.hid (L_0.out.trans (hB.mono L_0.out.size))
  clear T_0 A_0 B_0 L_0
  have zz1 := L_1.out.size
  have zq1 : w.heap.size ≤ v1.heap.size := hB.size
  clear hB
  by_cases h100 : 100 < l.length
  · have hd : decide (100 < (l.length : Int)) = true := by simp; omega
    go_wp2_with fail
    go_ret
    exact ⟨rfl, L_1.out⟩
  have hd : decide (100 < (l.length : Int)) = false := by simp; omega
  have hd2 : decide (100 < l.length) = false := by simp; omega
  by_cases h100' : 100 < l2.length
  · have hd3 : decide (100 < (l2.length : Int)) = true := by simp; omega
    go_wp2_with fail
    go_ret
    exact ⟨rfl, L_1.out⟩
  have hd3 : decide (100 < (l2.length : Int)) = false := by simp; omega
  have hd4 : decide (100 < l2.length) = false := by simp; omega
  go_wp2_with fail
  refine (of_any n a l c v1 A_1.out (by unfold maxLen; omega)).mono ?_
  rintro e v2 ⟨ps, bs, rfl, hps, hbs, hs, hB⟩
  have T_2 := Lib.hid (T_1.out.below hB)
  have A_2 := Lib.hid (A_1.out.below hB)
  have B_2 := Lib.hid (B_1.out.below hB)
  have L_2 := Lib.hid (L_1.out.trans (hB.mono L_1.out.size))
  clear T_1 A_1 B_1 L_1
  have zz2 := L_2.out.size
  have zq2 : v1.heap.size ≤ v2.heap.size := hB.size
  have Ss_2 := Lib.hid hs
  have lps := Ss_2.out.plt
  have lbs := Ss_2.out.blt
  have zs := Ss_2.out.le
  clear hs hB
  clear A_2
  clear hd hd2
  go_wp2_with fail
  refine (of_any k a2 l2 c2 v2 B_2.out (by unfold maxLen; omega)).mono ?_
  rintro e v3 ⟨pt, bt, rfl, hpt, hbt, hs, hB⟩
  have T_3 := Lib.hid (T_2.out.below hB)
  have B_3 := Lib.hid (B_2.out.below hB)
  have L_3 := Lib.hid (L_2.out.trans (hB.mono L_2.out.size))
  have Ss_3 := Lib.hid (Ss_2.out.below hB)
  clear T_2 B_2 L_2 Ss_2
  have zz3 := L_3.out.size
  have zq3 : v2.heap.size ≤ v3.heap.size := hB.size
  have St_3 := Lib.hid hs
  have lpt := St_3.out.plt
  have lbt := St_3.out.blt
  have zt := St_3.out.le
  clear hs hB
  clear B_3
  clear hd3 hd4
  go_wp2_with fail
  obtain ⟨N, hN⟩ : ∃ N, N = Bs.wid n := ⟨_, rfl⟩
  obtain ⟨M, hM⟩ : ∃ M, M = Bs.wid k := ⟨_, rfl⟩
  obtain ⟨X, hX⟩ : ∃ X, X = Bs.of (Bs.wid n) l := ⟨_, rfl⟩
  obtain ⟨Y, hY⟩ : ∃ Y, Y = Bs.of (Bs.wid k) l2 := ⟨_, rfl⟩
  rw [← hX, ← hN] at Ss_3
  rw [← hY, ← hM] at St_3
  rw [← hN] at zs
  rw [← hM] at zt
  clear hX hY hN hM
  have hb := Lib.hid (bothK_all Ss_3.out.lt St_3.out.lt)
  have hsm := Lib.hid (sameK_all Ss_3.out.lt St_3.out.lt)
  go_loop [12, 13, 14] (fun u v i => ∃ j : Nat, i = .int .i64 j ∧ j ≤ max N M ∧ u = .bool (bothK X Y j) ∧ v = .bool (sameK X Y j)) (fun _ _ i => 1001 - (intOf i).toNat)
  case atStart => exact ⟨0, rfl, Nat.zero_le _, rfl, rfl⟩
  case round =>
    obtain ⟨j, rfl, hj, rfl, rfl⟩ := hrel
    by_cases hlt : j < max N M
    · have hd : decide ((j : Int) < max (N : Int) (M : Int)) = true := by simp; omega
      have h1 := has_any ps bs N X j v3 Ss_3.out
      have h2 := has_any pt bt M Y j v3 St_3.out
      have hw1 := width_any ps bs N X v3 Ss_3.out
      have hw2 := width_any pt bt M Y v3 St_3.out
      have b1 := Lib.hid (bothK_succ X Y j)
      have b2 := Lib.hid (sameK_succ X Y j)
      cases hx : Bs.has X (j : Int) <;> cases hy : Bs.has Y (j : Int) <;> cases hu : bothK X Y j <;> cases hv : sameK X Y j
      all_goals
        rw [hx] at h1
        rw [hy] at h2
        have b3 : Hid (bothK X Y (j + 1) = _) := Lib.hid (b1.out.trans (by rw [hx, hy, hu]))
        have b4 : Hid (sameK X Y (j + 1) = _) := Lib.hid (b2.out.trans (by rw [hx, hy, hv]))
        clear b1 b2 hx hy hu hv
        go_wp2_with fail
        refine hw1.mono ?_
        rintro e w' ⟨rfl, rfl⟩
        go_wp2_with fail
        refine hw2.mono ?_
        rintro e w' ⟨rfl, rfl⟩
        go_wp2_with fail
        refine h1.mono ?_
        rintro e w' ⟨rfl, rfl⟩
        go_wp2_with fail
        refine h2.mono ?_
        rintro e w' ⟨rfl, rfl⟩
        clear hw1 hw2 h1 h2
        go_wp2_with fail
        go_round
        case rel => exact ⟨j + 1, by go_num, by omega, by rw [b3.out]; rfl, by rw [b4.out]; rfl⟩
        case measure => simp [intOf]; omega
    · obtain rfl : j = max N M := by omega
      have hd : decide (((max N M : Nat) : Int) < max (N : Int) (M : Int)) = false := by simp; omega
      have hw1 := width_any ps bs N X v3 Ss_3.out
      have hw2 := width_any pt bt M Y v3 St_3.out
      rw [hb.out, hsm.out]
      clear hb hsm
      go_wp2_with fail
      refine hw1.mono ?_
      rintro e w' ⟨rfl, rfl⟩
      go_wp2_with fail
      refine hw2.mono ?_
      rintro e w' ⟨rfl, rfl⟩
      clear hw1 hw2
      go_wp2_with fail
      clear hd
      refine (meets_any ps bs _ _ pt bt _ _ v3 Ss_3.out St_3.out).mono ?_
      rintro e v4 ⟨rfl, hB⟩
      have T_4 := Lib.hid (T_3.out.below hB)
      have L_4 := Lib.hid (L_3.out.trans (hB.mono L_3.out.size))
      have Ss_4 := Lib.hid (Ss_3.out.below hB)
      have St_4 := Lib.hid (St_3.out.below hB)
      clear T_3 L_3 Ss_3 St_3
      have zz4 := L_4.out.size
      have zq4 : v3.heap.size ≤ v4.heap.size := hB.size
      clear hB
      have eqs : ∀ x : Bool, (x == x) = true := fun x => by simp
      go_wp2_with fail
      refine (meets_any pt bt _ _ ps bs _ _ v4 St_4.out Ss_4.out).mono ?_
      rintro e v5 ⟨rfl, hB⟩
      have T_5 := Lib.hid (T_4.out.below hB)
      have L_5 := Lib.hid (L_4.out.trans (hB.mono L_4.out.size))
      have Ss_5 := Lib.hid (Ss_4.out.below hB)
      have St_5 := Lib.hid (St_4.out.below hB)
      clear T_4 L_4 Ss_4 St_4
      have zz5 := L_5.out.size
      have zq5 : v4.heap.size ≤ v5.heap.size := hB.size
      clear hB
      rw [meetB_comm]
      go_wp2_with fail
      refine (same_any ps bs _ _ pt bt _ _ v5 Ss_5.out St_5.out T_5.out).mono ?_
      rintro e v6 ⟨rfl, hB⟩
      have T_6 := Lib.hid (T_5.out.below hB)
      have L_6 := Lib.hid (L_5.out.trans (hB.mono L_5.out.size))
      have Ss_6 := Lib.hid (Ss_5.out.below hB)
      have St_6 := Lib.hid (St_5.out.below hB)
      clear T_5 L_5 Ss_5 St_5
      have zz6 := L_6.out.size
      have zq6 : v5.heap.size ≤ v6.heap.size := hB.size
      clear hB
      go_wp2_with fail
      go_ret
      exact ⟨rfl, L_6.out⟩
end Go.Proofs.YtccmmilbnfiacaaDoor
