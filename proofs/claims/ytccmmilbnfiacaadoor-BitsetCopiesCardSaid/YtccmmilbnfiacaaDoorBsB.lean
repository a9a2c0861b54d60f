/-
  The law BitsetCopies: the walk.
-/
import Derived.Test.YtccmmilbnfiacaaDoorBsA
namespace Go.Proofs.YtccmmilbnfiacaaDoor
open Go.RowKit
set_option linter.unusedVariables false

theorem natI_max (n X : Nat) (h : n ≤ 1000) : (natI (Bs.lst n X)).length ≤ maxLen := by
  have := Bs.lst_len n X
  unfold maxLen natI
  rw [List.length_map]
  omega

set_option maxRecDepth 100000 in
set_option maxHeartbeats 6400000 in
theorem copies_any (n : Int) (a : Option Addr) (l : List Int) (c : Nat) (x y : Int) (w : World) (hT : Tab w) (hl : Ints w a l) (hn : l.length ≤ maxLen) :
    Calls Tryd.prog 4 #[.int .i64 n, .slice a l.length c, .int .i64 x, .int .i64 y] w fun e w' => e = .returned (.bool true) ∧ Below w.heap.size w w' := by
  have hT0 := hT.lt
  have T_0 := Lib.hid hT
  clear hT
  unfold maxLen at hn
  have A_0 := Lib.hid hl
  clear hl
  go_enter Tryd.func4, Tryd.ntmps4
  have L_0 := Lib.hid (Below.refl w.heap.size w)
  go_wp2_with fail
  refine (awake03_any w T_0.out).mono ?_
  rintro e v1 ⟨rfl, hB⟩
  have T_1 := Lib.hid (T_0.out.below hB)
  have A_1 := Lib.hid (A_0.out.below hB)
  have L_1 := Lib.hid (L_0.out.trans (hB.mono L_0.out.size))
  clear T_0 A_0 L_0
  have zz1 := L_1.out.size
  have zq1 : w.heap.size ≤ v1.heap.size := hB.size
  clear hB
  by_cases h100 : 100 < l.length
  · have hd : decide (100 < (l.length : Int)) = true := by simp; omega
    go_wp2_with fail
    go_ret
    exact ⟨rfl, L_1.out⟩
  have hd : decide (100 < (l.length : Int)) = false := by simp; omega
  have hd2 : decide (100 < l.length) = false := by simp; omega
  go_wp2_with fail
  refine (of_any n a l c v1 A_1.out (by unfold maxLen; omega)).mono ?_
  rintro e v2 ⟨ps, bs, rfl, hps, hbs, hs, hB⟩
  have T_2 := Lib.hid (T_1.out.below hB)
  have A_2 := Lib.hid (A_1.out.below hB)
  have L_2 := Lib.hid (L_1.out.trans (hB.mono L_1.out.size))
  clear T_1 A_1 L_1
  have zz2 := L_2.out.size
  have zq2 : v1.heap.size ≤ v2.heap.size := hB.size
  have Ss_2 := Lib.hid hs
  have lps := Ss_2.out.plt
  have lbs := Ss_2.out.blt
  have zs := Ss_2.out.le
  clear hs hB
  clear A_2
  clear hd hd2
  go_wp2_with fail
  refine (list_any ps bs _ _ v2 Ss_2.out T_2.out).mono ?_
  rintro e v3 ⟨aK, cK, rfl, hK, hl, hB⟩
  have T_3 := Lib.hid (T_2.out.below hB)
  have L_3 := Lib.hid (L_2.out.trans (hB.mono L_2.out.size))
  have Ss_3 := Lib.hid (Ss_2.out.below hB)
  clear T_2 L_2 Ss_2
  have zz3 := L_3.out.size
  have zq3 : v2.heap.size ≤ v3.heap.size := hB.size
  have K_3 := Lib.hid hl
  clear hB hl
  go_wp2_with fail
  refine (copy_any ps bs _ _ v3 Ss_3.out).mono ?_
  rintro e v4 ⟨pc, bc, rfl, hpc, hbc, hs, hB⟩
  have T_4 := Lib.hid (T_3.out.below hB)
  have L_4 := Lib.hid (L_3.out.trans (hB.mono L_3.out.size))
  have Ss_4 := Lib.hid (Ss_3.out.below hB)
  have K_4 := Lib.hid (K_3.out.below hB)
  clear T_3 L_3 Ss_3 K_3
  have zz4 := L_4.out.size
  have zq4 : v3.heap.size ≤ v4.heap.size := hB.size
  have Sc_4 := Lib.hid hs
  have lpc := Sc_4.out.plt
  have lbc := Sc_4.out.blt
  have zc := Sc_4.out.le
  clear hs hB
  go_wp2_with fail
  refine (add_any pc bc _ _ x v4 Sc_4.out).mono ?_
  rintro e v5 ⟨rfl, hs, hu⟩
  have es := Lib.hid hs
  clear hs
  have T_5 := Lib.hid (T_4.out.upd hu (by omega))
  have L_5 := Lib.hid (L_4.out.trans (hu.below (by omega) L_4.out.size))
  have Ss_5 := Lib.hid (Ss_4.out.upd hu (by omega) (by omega))
  have K_5 := Lib.hid (K_4.out.upd hu (fun g o s e => by have := hK g o s e; omega))
  clear T_4 L_4 Ss_4 K_4
  have zz5 := L_5.out.size
  have zq5 : v4.heap.size ≤ v5.heap.size := hu.size
  clear Sc_4
  have Sc_5 := es
  clear es hu
  go_wp2_with fail
  refine (drop_any pc bc _ _ y v5 Sc_5.out).mono ?_
  rintro e v6 ⟨rfl, hs, hu⟩
  have es := Lib.hid hs
  clear hs
  have T_6 := Lib.hid (T_5.out.upd hu (by omega))
  have L_6 := Lib.hid (L_5.out.trans (hu.below (by omega) L_5.out.size))
  have Ss_6 := Lib.hid (Ss_5.out.upd hu (by omega) (by omega))
  have K_6 := Lib.hid (K_5.out.upd hu (fun g o s e => by have := hK g o s e; omega))
  clear T_5 L_5 Ss_5 K_5
  have zz6 := L_6.out.size
  have zq6 : v5.heap.size ≤ v6.heap.size := hu.size
  clear Sc_5
  have Sc_6 := es
  clear es hu
  go_wp2_with fail
  refine (list_any ps bs _ _ v6 Ss_6.out T_6.out).mono ?_
  rintro e v7 ⟨aM, cM, rfl, hM, hl, hB⟩
  have T_7 := Lib.hid (T_6.out.below hB)
  have L_7 := Lib.hid (L_6.out.trans (hB.mono L_6.out.size))
  have Ss_7 := Lib.hid (Ss_6.out.below hB)
  have K_7 := Lib.hid (K_6.out.below hB)
  have Sc_7 := Lib.hid (Sc_6.out.below hB)
  clear T_6 L_6 Ss_6 K_6 Sc_6
  have zz7 := L_7.out.size
  have zq7 : v6.heap.size ≤ v7.heap.size := hB.size
  have M_7 := Lib.hid hl
  clear hB hl
  go_wp2_with fail
  refine (copy_any ps bs _ _ v7 Ss_7.out).mono ?_
  rintro e v8 ⟨pd, bd, rfl, hpd, hbd, hs, hB⟩
  have T_8 := Lib.hid (T_7.out.below hB)
  have L_8 := Lib.hid (L_7.out.trans (hB.mono L_7.out.size))
  have Ss_8 := Lib.hid (Ss_7.out.below hB)
  have K_8 := Lib.hid (K_7.out.below hB)
  have Sc_8 := Lib.hid (Sc_7.out.below hB)
  have M_8 := Lib.hid (M_7.out.below hB)
  clear T_7 L_7 Ss_7 K_7 Sc_7 M_7
  have zz8 := L_8.out.size
  have zq8 : v7.heap.size ≤ v8.heap.size := hB.size
  have Sd_8 := Lib.hid hs
  have lpd := Sd_8.out.plt
  have lbd := Sd_8.out.blt
  have zd := Sd_8.out.le
  clear hs hB
  go_wp2_with fail
  refine (drop_any ps bs _ _ x v8 Ss_8.out).mono ?_
  rintro e v9 ⟨rfl, hs, hu⟩
  have es := Lib.hid hs
  clear hs
  have T_9 := Lib.hid (T_8.out.upd hu (by omega))
  have L_9 := Lib.hid (L_8.out.trans (hu.below (by omega) L_8.out.size))
  have K_9 := Lib.hid (K_8.out.upd hu (fun g o s e => by have := hK g o s e; omega))
  have Sc_9 := Lib.hid (Sc_8.out.upd hu (by omega) (by omega))
  have M_9 := Lib.hid (M_8.out.upd hu (fun g o s e => by have := hM g o s e; omega))
  have Sd_9 := Lib.hid (Sd_8.out.upd hu (by omega) (by omega))
  clear T_8 L_8 K_8 Sc_8 M_8 Sd_8
  have zz9 := L_9.out.size
  have zq9 : v8.heap.size ≤ v9.heap.size := hu.size
  clear Ss_8
  have Ss_9 := es
  clear es hu
  go_wp2_with fail
  refine (add_any ps bs _ _ y v9 Ss_9.out).mono ?_
  rintro e v10 ⟨rfl, hs, hu⟩
  have es := Lib.hid hs
  clear hs
  have T_10 := Lib.hid (T_9.out.upd hu (by omega))
  have L_10 := Lib.hid (L_9.out.trans (hu.below (by omega) L_9.out.size))
  have K_10 := Lib.hid (K_9.out.upd hu (fun g o s e => by have := hK g o s e; omega))
  have Sc_10 := Lib.hid (Sc_9.out.upd hu (by omega) (by omega))
  have M_10 := Lib.hid (M_9.out.upd hu (fun g o s e => by have := hM g o s e; omega))
  have Sd_10 := Lib.hid (Sd_9.out.upd hu (by omega) (by omega))
  clear T_9 L_9 K_9 Sc_9 M_9 Sd_9
  have zz10 := L_10.out.size
  have zq10 : v9.heap.size ≤ v10.heap.size := hu.size
  clear Ss_9
  have Ss_10 := es
  clear es hu
  go_wp2_with fail
  refine (ints_any _ _ _ _ _ _ v10 K_10.out M_10.out (natI_max _ _ (by omega)) (natI_max _ _ (by omega))).mono ?_
  rintro e v11 ⟨rfl, hB⟩
  have T_11 := Lib.hid (T_10.out.below hB)
  have L_11 := Lib.hid (L_10.out.trans (hB.mono L_10.out.size))
  have K_11 := Lib.hid (K_10.out.below hB)
  have Sc_11 := Lib.hid (Sc_10.out.below hB)
  have M_11 := Lib.hid (M_10.out.below hB)
  have Sd_11 := Lib.hid (Sd_10.out.below hB)
  have Ss_11 := Lib.hid (Ss_10.out.below hB)
  clear T_10 L_10 K_10 Sc_10 M_10 Sd_10 Ss_10
  have zz11 := L_11.out.size
  have zq11 : v10.heap.size ≤ v11.heap.size := hB.size
  clear hB
  have e1 : ∀ l, eqI l l = true := fun l => by simp [eqI]
  simp only [e1]
  go_wp2_with fail
  refine (list_any pd bd _ _ v11 Sd_11.out T_11.out).mono ?_
  rintro e v12 ⟨aN, cN, rfl, hN, hl, hB⟩
  have T_12 := Lib.hid (T_11.out.below hB)
  have L_12 := Lib.hid (L_11.out.trans (hB.mono L_11.out.size))
  have K_12 := Lib.hid (K_11.out.below hB)
  have Sc_12 := Lib.hid (Sc_11.out.below hB)
  have M_12 := Lib.hid (M_11.out.below hB)
  have Sd_12 := Lib.hid (Sd_11.out.below hB)
  have Ss_12 := Lib.hid (Ss_11.out.below hB)
  clear T_11 L_11 K_11 Sc_11 M_11 Sd_11 Ss_11
  have zz12 := L_12.out.size
  have zq12 : v11.heap.size ≤ v12.heap.size := hB.size
  have N_12 := Lib.hid hl
  clear hB hl
  go_wp2_with fail
  refine (ints_any _ _ _ _ _ _ v12 K_12.out N_12.out (natI_max _ _ (by omega)) (natI_max _ _ (by omega))).mono ?_
  rintro e v13 ⟨rfl, hB⟩
  have T_13 := Lib.hid (T_12.out.below hB)
  have L_13 := Lib.hid (L_12.out.trans (hB.mono L_12.out.size))
  have K_13 := Lib.hid (K_12.out.below hB)
  have Sc_13 := Lib.hid (Sc_12.out.below hB)
  have M_13 := Lib.hid (M_12.out.below hB)
  have Sd_13 := Lib.hid (Sd_12.out.below hB)
  have Ss_13 := Lib.hid (Ss_12.out.below hB)
  have N_13 := Lib.hid (N_12.out.below hB)
  clear T_12 L_12 K_12 Sc_12 M_12 Sd_12 Ss_12 N_12
  have zz13 := L_13.out.size
  have zq13 : v12.heap.size ≤ v13.heap.size := hB.size
  clear hB
  simp only [e1]
  clear e1
  go_wp2_with fail
  refine (width_any pc bc _ _ v13 Sc_13.out).mono ?_
  rintro e v14 ⟨rfl, rfl⟩
  go_wp2_with fail
  refine (width_any ps bs _ _ v13 Ss_13.out).mono ?_
  rintro e v14 ⟨rfl, rfl⟩
  go_wp2_with fail
  go_ret
  exact ⟨rfl, L_13.out⟩
end Go.Proofs.YtccmmilbnfiacaaDoor
