/-
  The law BitsetUnion: the walk.
-/
import Derived.Test.YtccmmilbnfiacaaDoorBsA
import Derived.Test.YtccmmilbnfiacaaDoorBsM2
import Derived.Test.YtccmmilbnfiacaaDoorBsN
namespace Go.Proofs.YtccmmilbnfiacaaDoor
open Go.RowKit
set_option linter.unusedVariables false

theorem lst_sub {X U n : Nat} (h : ∀ j, X.testBit j = true → U.testBit j = true) : (Bs.lst n X).Sublist (Bs.lst n U) := by
  have e : Bs.lst n X = (Bs.lst n U).filter X.testBit := by
    unfold Bs.lst
    rw [List.filter_filter]
    apply List.filter_congr
    intro j _
    cases hx : X.testBit j
    · simp
    · simp [h j hx]
  rw [e]
  exact List.filter_sublist
theorem grew_len {n X m Y : Nat} (hX : X < 2 ^ n) : unB n X m Y = decide ((Bs.lst n X).length < (Bs.lst n (un n X m Y)).length) := by
  have hs := lst_sub (n := n) (U := un n X m Y) (fun j hj => adds_sup n X _ hj)
  have hle := hs.length_le
  unfold unB gr
  show (!decide (un n X m Y = X)) = _
  rw [← decide_not, decide_eq_decide]
  constructor
  · intro hne
    rcases Nat.lt_or_ge (Bs.lst n X).length (Bs.lst n (un n X m Y)).length with h | h
    · exact h
    · exfalso
      apply hne
      have he := hs.eq_of_length (by omega)
      have := lst_inj hX (un_lt m Y hX)
      rw [he] at this
      simp [eqI] at this
      exact this.symm
  · intro h e
    rw [e] at h
    omega
theorem un_again {n X m Y : Nat} (hY : Y < 2 ^ m) : unB n (un n X m Y) m Y = false := by
  unfold unB gr
  show (!decide (un n (un n X m Y) m Y = un n X m Y)) = false
  have : un n (un n X m Y) m Y = un n X m Y := by
    apply Nat.eq_of_testBit_eq
    intro j
    rw [un_bit hY, un_bit hY]
    cases X.testBit j <;> cases decide (j < n) <;> cases Y.testBit j <;> rfl
  simp [this]
theorem un_twice {n X m Y : Nat} (hY : Y < 2 ^ m) : un n (un n X m Y) m Y = un n X m Y := by
  apply Nat.eq_of_testBit_eq
  intro j
  rw [un_bit hY, un_bit hY]
  cases X.testBit j <;> cases decide (j < n) <;> cases Y.testBit j <;> rfl
theorem un_has {n X Y : Nat} (hY : Y < 2 ^ n) (i : Int) : Bs.has (un n X n Y) i = (Bs.has X i || Bs.has Y i) := by
  unfold Bs.has
  rw [un_bit hY]
  by_cases h : i.toNat < n
  · simp only [h, decide_true, Bool.true_and]
    cases decide (0 ≤ i) <;> simp
  · have : Y.testBit i.toNat = false := Bs.bit_of_lt hY (by omega)
    rw [this]; simp

set_option maxRecDepth 100000 in
set_option maxHeartbeats 6400000 in
theorem union_law (n : Int) (a a2 : Option Addr) (l l2 : List Int) (c c2 : Nat) (x : Int) (w : World) (hT : Tab w) (hl : Ints w a l) (hn : l.length ≤ maxLen) (hl2 : Ints w a2 l2) (hn2 : l2.length ≤ maxLen) :
    Calls Tryd.prog 6 #[.int .i64 n, .slice a l.length c, .slice a2 l2.length c2, .int .i64 x] w fun e w' => e = .returned (.bool true) ∧ Below w.heap.size w w' := by
  have hT0 := hT.lt
  have T_0 := Lib.hid hT
  clear hT
  unfold maxLen at hn hn2
  have A_0 := Lib.hid hl
  clear hl
  have B_0 := Lib.hid hl2
  clear hl2
  go_enter Tryd.func6, Tryd.ntmps6
  have L_0 := Lib.hid (Below.refl w.heap.size w)
  go_wp2_with fail
  refine (awake03_any w T_0.out).mono ?_
  rintro e v1 ⟨rfl, hB⟩
  have T_1 := Lib.hid (T_0.out.below hB)
  have A_1 := Lib.hid (A_0.out.below hB)
  have B_1 := Lib.hid (B_0.out.below hB)
  have L_1 := Lib.hid (L_0.out.trans (hB.mono L_0.out.size))
  clear T_0 A_0 B_0 L_0
  have zz1 := L_1.out.size
  have zq1 : w.heap.size ≤ v1.heap.size := hB.size
  clear hB
  by_cases h100 : 100 < l.length
  · have hd : decide (100 < (l.length : Int)) = true := by simp; omega
    go_wp2_with fail
    go_ret
    exact ⟨rfl, L_1.out⟩
  have hd : decide (100 < (l.length : Int)) = false := by simp; omega
  have hd2 : decide (100 < l.length) = false := by simp; omega
  by_cases h100' : 100 < l2.length
  · have hd3 : decide (100 < (l2.length : Int)) = true := by simp; omega
    go_wp2_with fail
    go_ret
    exact ⟨rfl, L_1.out⟩
  have hd3 : decide (100 < (l2.length : Int)) = false := by simp; omega
  have hd4 : decide (100 < l2.length) = false := by simp; omega
  go_wp2_with fail
  refine (of_any n a l c v1 A_1.out (by unfold maxLen; omega)).mono ?_
  rintro e v2 ⟨ps, bs, rfl, hps, hbs, hs, hB⟩
  have T_2 := Lib.hid (T_1.out.below hB)
  have A_2 := Lib.hid (A_1.out.below hB)
  have B_2 := Lib.hid (B_1.out.below hB)
  have L_2 := Lib.hid (L_1.out.trans (hB.mono L_1.out.size))
  clear T_1 A_1 B_1 L_1
  have zz2 := L_2.out.size
  have zq2 : v1.heap.size ≤ v2.heap.size := hB.size
  have Ss_2 := Lib.hid hs
  have lps := Ss_2.out.plt
  have lbs := Ss_2.out.blt
  have zs := Ss_2.out.le
  clear hs hB
  clear A_2
  clear hd hd2
  go_wp2_with fail
  refine (of_any n a2 l2 c2 v2 B_2.out (by unfold maxLen; omega)).mono ?_
  rintro e v3 ⟨pt, bt, rfl, hpt, hbt, hs, hB⟩
  have T_3 := Lib.hid (T_2.out.below hB)
  have B_3 := Lib.hid (B_2.out.below hB)
  have L_3 := Lib.hid (L_2.out.trans (hB.mono L_2.out.size))
  have Ss_3 := Lib.hid (Ss_2.out.below hB)
  clear T_2 B_2 L_2 Ss_2
  have zz3 := L_3.out.size
  have zq3 : v2.heap.size ≤ v3.heap.size := hB.size
  have St_3 := Lib.hid hs
  have lpt := St_3.out.plt
  have lbt := St_3.out.blt
  have zt := St_3.out.le
  clear hs hB
  clear B_3
  clear hd3 hd4
  go_wp2_with fail
  obtain ⟨N, hN⟩ : ∃ N, N = Bs.wid n := ⟨_, rfl⟩
  obtain ⟨X, hX⟩ : ∃ X, X = Bs.of (Bs.wid n) l := ⟨_, rfl⟩
  obtain ⟨Y, hY⟩ : ∃ Y, Y = Bs.of (Bs.wid n) l2 := ⟨_, rfl⟩
  rw [← hX, ← hN] at Ss_3
  rw [← hY, ← hN] at St_3
  rw [← hN] at zs zt
  clear hX hY hN
  have q1 := Lib.hid (grew_len (m := N) (Y := Y) Ss_3.out.lt)
  have q2 := Lib.hid (un_again (n := N) (X := X) St_3.out.lt)
  have q3 := Lib.hid (un_twice (n := N) (X := X) St_3.out.lt)
  have q4 := Lib.hid (un_has (X := X) St_3.out.lt x)
  have m1 := Bs.lst_len N X
  have m2 := Bs.lst_len N (un N X N Y)
  refine (has_any ps bs N X x v3 Ss_3.out).mono ?_
  rintro e v4 ⟨rfl, rfl⟩
  go_wp2_with fail
  refine (has_any pt bt N Y x v3 St_3.out).mono ?_
  rintro e v4 ⟨rfl, rfl⟩
  go_wp2_with fail
  refine (len_any ps bs N X v3 Ss_3.out).mono ?_
  rintro e v4 ⟨rfl, rfl⟩
  go_wp2_with fail
  refine (union_any ps bs N X pt bt N Y v3 Ss_3.out St_3.out T_3.out (by omega)).mono ?_
  rintro e v4 ⟨rfl, hs, hu⟩
  have es := Lib.hid hs
  clear hs
  have T_4 := Lib.hid (T_3.out.upd hu (by omega))
  have L_4 := Lib.hid (L_3.out.trans (hu.below (by omega) L_3.out.size))
  have St_4 := Lib.hid (St_3.out.upd hu (by omega) (by omega))
  clear T_3 L_3 St_3
  have zz4 := L_4.out.size
  have zq4 : v3.heap.size ≤ v4.heap.size := hu.size
  clear Ss_3
  have Ss_4 := es
  clear es hu
  go_wp2_with fail
  refine (union_any ps bs N _ pt bt N Y v4 Ss_4.out St_4.out T_4.out (by omega)).mono ?_
  rintro e v5 ⟨rfl, hs, hu⟩
  have es := Lib.hid hs
  clear hs
  have T_5 := Lib.hid (T_4.out.upd hu (by omega))
  have L_5 := Lib.hid (L_4.out.trans (hu.below (by omega) L_4.out.size))
  have St_5 := Lib.hid (St_4.out.upd hu (by omega) (by omega))
  clear T_4 L_4 St_4
  have zz5 := L_5.out.size
  have zq5 : v4.heap.size ≤ v5.heap.size := hu.size
  clear Ss_4
  have Ss_5 := es
  clear es hu
  have z3 := q3.out
  have z2 := q2.out
  simp only [z3] at Ss_5
  simp only [z2]
  clear z2 z3 q2 q3
  obtain ⟨U, hU⟩ : ∃ U, U = un N X N Y := ⟨_, rfl⟩
  obtain ⟨G, hG⟩ : ∃ G, G = unB N X N Y := ⟨_, rfl⟩
  rw [← hU] at Ss_5 q1 q4 m2
  rw [← hG] at q1 ⊢
  clear hU hG
  have r1 := has_any ps bs N U x v5 Ss_5.out
  have r2 := has_any pt bt N Y x v5 St_5.out
  have r3 := len_any ps bs N U v5 Ss_5.out
  rw [q4.out] at r1
  obtain ⟨k1, hk1⟩ : ∃ k1, k1 = (Bs.lst N X).length := ⟨_, rfl⟩
  obtain ⟨k2, hk2⟩ : ∃ k2, k2 = (Bs.lst N U).length := ⟨_, rfl⟩
  rw [← hk1] at q1 m1 ⊢
  rw [← hk2] at q1 m2 r3
  clear hk1 hk2 q4
  have q5 := q1.out
  cases hx : Bs.has X x <;> cases hy : Bs.has Y x <;> cases hg : G
  all_goals
    rw [hx, hy] at r1
    rw [hy] at r2
    rw [hg] at q5
    have q6 : decide ((k1 : Int) < (k2 : Int)) = _ := (show decide ((k1 : Int) < (k2 : Int)) = decide (k1 < k2) by rw [decide_eq_decide]; omega).trans q5.symm
    have q7 := q5.symm
    simp only [Bool.or_true, Bool.or_false] at r1
    clear q5 hx hy hg q1
    go_wp2_with fail
    refine r1.mono ?_
    rintro e w' ⟨rfl, rfl⟩
    go_wp2_with fail
    refine r3.mono ?_
    rintro e w' ⟨rfl, rfl⟩
    go_wp2_with fail
    refine r2.mono ?_
    rintro e w' ⟨rfl, rfl⟩
    go_wp2_with fail
    go_ret
    exact ⟨rfl, L_5.out⟩
end Go.Proofs.YtccmmilbnfiacaaDoor
