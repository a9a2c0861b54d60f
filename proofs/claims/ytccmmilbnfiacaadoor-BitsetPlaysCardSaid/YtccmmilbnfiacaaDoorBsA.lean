/-
  Walks: the chapter's examples are as they should be.
-/
import Derived.Test.YtccmmilbnfiacaaDoorBsV
import Derived.Deep.MidRow
namespace Go.Proofs.YtccmmilbnfiacaaDoor
open Go.RowKit
set_option linter.unusedVariables false

/-- A block of numbers, just made, is a slice of them. -/
theorem ints_new {w : World} {g : Nat} {t : TypeId} {l : List Int} {vs : Array Value} (h : w.heap[g]? = some (.cells vs t (0, 0))) (hv : vs = (l.map (Value.int .i64)).toArray) : Ints w (some ⟨g, 0, none⟩) l := by
  intro i hi
  refine ⟨g, 0, rfl, ?_⟩
  subst hv
  simp [World.cell?, h, hi]

theorem ex1 : Bs.lst 70 (Bs.of (Bs.wid 70) [3, 69, 70, 3]) = [3, 69] := by decide +kernel
theorem ex2 : addB 70 (Bs.of (Bs.wid 70) [3, 69, 70, 3]) 3 = false := by decide +kernel
theorem ex3 : Bs.has (addX 70 (Bs.of (Bs.wid 70) [3, 69, 70, 3]) 3) 69 = true := by decide +kernel
theorem ex4 : unB 5 (Bs.of (Bs.wid 5) [1]) 9 (Bs.of (Bs.wid 9) [1, 7]) = false := by decide +kernel

set_option maxRecDepth 100000 in
set_option maxHeartbeats 3200000 in
theorem awake03_any (w : World) (hT : Tab w) : Calls Tryd.prog 9 #[] w fun e w' => e = .returned (.bool true) ∧ Below w.heap.size w w' := by
  have hT0 := hT.lt
  go_enter Tryd.func9, Tryd.ntmps9
  have T_0 := Lib.hid hT
  clear hT
  have L_0 := Lib.hid (Below.refl w.heap.size w)
  go_wp2_with fail
  have hbx := (Below.refl w.heap.size w).alloc (Nat.le_refl _) (.cells #[.int .i64 3, .int .i64 69, .int .i64 70, .int .i64 3] 3)
  have hnx := heap_alloc_new w (.cells #[.int .i64 3, .int .i64 69, .int .i64 70, .int .i64 3] 3)
  have hsx : w.heap.size < (w.alloc (.cells #[.int .i64 3, .int .i64 69, .int .i64 70, .int .i64 3] 3)).heap.size := by simp
  have T_1 := Lib.hid (T_0.out.below hbx)
  have L_1 := Lib.hid (L_0.out.trans (hbx.mono L_0.out.size))
  clear T_0 L_0
  have zz1 := L_1.out.size
  generalize (w.alloc (.cells #[.int .i64 3, .int .i64 69, .int .i64 70, .int .i64 3] 3)) = v1 at hbx hnx hsx T_1 L_1 ⊢
  have zq1 := Nat.le_of_lt hsx
  have As := Lib.hid (ints_new (l := [3, 69, 70, 3]) hnx rfl)
  have hgs : w.heap.size < v1.heap.size := hsx
  clear hbx hnx hsx
  refine (of_any 70 (some ⟨w.heap.size, 0, none⟩) [3, 69, 70, 3] 4 v1 As.out (by decide)).mono ?_
  rintro e v2 ⟨ps, bs, rfl, hps, hbs, hs, hB⟩
  have T_2 := Lib.hid (T_1.out.below hB)
  have L_2 := Lib.hid (L_1.out.trans (hB.mono L_1.out.size))
  clear T_1 L_1
  have zz2 := L_2.out.size
  have zq2 : v1.heap.size ≤ v2.heap.size := hB.size
  have Ss_2 := Lib.hid hs
  have lps := Ss_2.out.plt
  have lbs := Ss_2.out.blt
  clear hs hB As
  go_wp2_with fail
  have hbx := (Below.refl v2.heap.size v2).alloc (Nat.le_refl _) (.cells #[.int .i64 1] 3)
  have hnx := heap_alloc_new v2 (.cells #[.int .i64 1] 3)
  have hsx : v2.heap.size < (v2.alloc (.cells #[.int .i64 1] 3)).heap.size := by simp
  have T_3 := Lib.hid (T_2.out.below hbx)
  have L_3 := Lib.hid (L_2.out.trans (hbx.mono L_2.out.size))
  have Ss_3 := Lib.hid (Ss_2.out.below hbx)
  clear T_2 L_2 Ss_2
  have zz3 := L_3.out.size
  generalize (v2.alloc (.cells #[.int .i64 1] 3)) = v3 at hbx hnx hsx T_3 L_3 Ss_3 ⊢
  have zq3 := Nat.le_of_lt hsx
  have At := Lib.hid (ints_new (l := [1]) hnx rfl)
  have hgt : v2.heap.size < v3.heap.size := hsx
  clear hbx hnx hsx
  refine (of_any 5 (some ⟨v2.heap.size, 0, none⟩) [1] 1 v3 At.out (by decide)).mono ?_
  rintro e v4 ⟨pt, bt, rfl, hpt, hbt, hs, hB⟩
  have T_4 := Lib.hid (T_3.out.below hB)
  have L_4 := Lib.hid (L_3.out.trans (hB.mono L_3.out.size))
  have Ss_4 := Lib.hid (Ss_3.out.below hB)
  clear T_3 L_3 Ss_3
  have zz4 := L_4.out.size
  have zq4 : v3.heap.size ≤ v4.heap.size := hB.size
  have St_4 := Lib.hid hs
  have lpt := St_4.out.plt
  have lbt := St_4.out.blt
  clear hs hB At
  go_wp2_with fail
  have hbx := (Below.refl v4.heap.size v4).alloc (Nat.le_refl _) (.cells #[.int .i64 1, .int .i64 7] 3)
  have hnx := heap_alloc_new v4 (.cells #[.int .i64 1, .int .i64 7] 3)
  have hsx : v4.heap.size < (v4.alloc (.cells #[.int .i64 1, .int .i64 7] 3)).heap.size := by simp
  have T_5 := Lib.hid (T_4.out.below hbx)
  have L_5 := Lib.hid (L_4.out.trans (hbx.mono L_4.out.size))
  have Ss_5 := Lib.hid (Ss_4.out.below hbx)
  have St_5 := Lib.hid (St_4.out.below hbx)
  clear T_4 L_4 Ss_4 St_4
  have zz5 := L_5.out.size
  generalize (v4.alloc (.cells #[.int .i64 1, .int .i64 7] 3)) = v5 at hbx hnx hsx T_5 L_5 Ss_5 St_5 ⊢
  have zq5 := Nat.le_of_lt hsx
  have Au := Lib.hid (ints_new (l := [1, 7]) hnx rfl)
  have hgu : v4.heap.size < v5.heap.size := hsx
  clear hbx hnx hsx
  refine (of_any 9 (some ⟨v4.heap.size, 0, none⟩) [1, 7] 2 v5 Au.out (by decide)).mono ?_
  rintro e v6 ⟨pu, bu, rfl, hpu, hbu, hs, hB⟩
  have T_6 := Lib.hid (T_5.out.below hB)
  have L_6 := Lib.hid (L_5.out.trans (hB.mono L_5.out.size))
  have Ss_6 := Lib.hid (Ss_5.out.below hB)
  have St_6 := Lib.hid (St_5.out.below hB)
  clear T_5 L_5 Ss_5 St_5
  have zz6 := L_6.out.size
  have zq6 : v5.heap.size ≤ v6.heap.size := hB.size
  have Su_6 := Lib.hid hs
  have lpu := Su_6.out.plt
  have lbu := Su_6.out.blt
  clear hs hB Au
  go_wp2_with fail
  refine (list_any ps bs _ _ v6 Ss_6.out T_6.out).mono ?_
  rintro e v7 ⟨la, lc, rfl, hla, hl, hB⟩
  have T_7 := Lib.hid (T_6.out.below hB)
  have L_7 := Lib.hid (L_6.out.trans (hB.mono L_6.out.size))
  have Ss_7 := Lib.hid (Ss_6.out.below hB)
  have St_7 := Lib.hid (St_6.out.below hB)
  have Su_7 := Lib.hid (Su_6.out.below hB)
  clear T_6 L_6 Ss_6 St_6 Su_6
  have zz7 := L_7.out.size
  have zq7 : v6.heap.size ≤ v7.heap.size := hB.size
  have K_7 := Lib.hid hl
  clear hB hl
  have hlen : natI (Bs.lst (Bs.wid 70) (Bs.of (Bs.wid 70) [3, 69, 70, 3])) = [3, 69] := congrArg natI ex1
  simp only [hlen, List.length_cons, List.length_nil]
  clear hlen
  go_wp2_with fail
  refine (add_any ps bs _ _ 3 v7 Ss_7.out).mono ?_
  rintro e v8 ⟨rfl, hs, hu⟩
  have es := Lib.hid hs
  clear hs
  have T_8 := Lib.hid (T_7.out.upd hu (by omega))
  have L_8 := Lib.hid (L_7.out.trans (hu.below (by omega) L_7.out.size))
  have St_8 := Lib.hid (St_7.out.upd hu (by omega) (by omega))
  have Su_8 := Lib.hid (Su_7.out.upd hu (by omega) (by omega))
  have K_8 := Lib.hid (K_7.out.upd hu (fun g o s e => by have := hla g o s e; omega))
  clear T_7 L_7 St_7 Su_7 K_7
  have zz8 := L_8.out.size
  have zq8 : v7.heap.size ≤ v8.heap.size := hu.size
  clear Ss_7
  have Ss_8 := es
  clear es hu
  have e2 : addB (Bs.wid 70) (Bs.of (Bs.wid 70) [3, 69, 70, 3]) 3 = false := ex2
  simp only [e2]
  clear e2
  go_wp2_with fail
  refine (drop_any ps bs _ _ 69 v8 Ss_8.out).mono ?_
  rintro e v9 ⟨rfl, hs, hu⟩
  have T_9 := Lib.hid (T_8.out.upd hu (by omega))
  have L_9 := Lib.hid (L_8.out.trans (hu.below (by omega) L_8.out.size))
  have St_9 := Lib.hid (St_8.out.upd hu (by omega) (by omega))
  have Su_9 := Lib.hid (Su_8.out.upd hu (by omega) (by omega))
  have K_9 := Lib.hid (K_8.out.upd hu (fun g o s e => by have := hla g o s e; omega))
  clear T_8 L_8 St_8 Su_8 K_8
  have zz9 := L_9.out.size
  have zq9 : v8.heap.size ≤ v9.heap.size := hu.size
  clear Ss_8 hs hu
  have e3 : Bs.has (addX (Bs.wid 70) (Bs.of (Bs.wid 70) [3, 69, 70, 3]) 3) 69 = true := ex3
  simp only [e3]
  clear e3
  go_wp2_with fail
  refine (union_any pt bt _ _ pu bu _ _ v9 St_9.out Su_9.out T_9.out (by omega)).mono ?_
  rintro e v10 ⟨rfl, hs, hu⟩
  have T_10 := Lib.hid (T_9.out.upd hu (by omega))
  have L_10 := Lib.hid (L_9.out.trans (hu.below (by omega) L_9.out.size))
  have K_10 := Lib.hid (K_9.out.upd hu (fun g o s e => by have := hla g o s e; omega))
  clear T_9 L_9 K_9
  have zz10 := L_10.out.size
  have zq10 : v9.heap.size ≤ v10.heap.size := hu.size
  clear hs hu
  have e4 : unB (Bs.wid 5) (Bs.of (Bs.wid 5) [1]) (Bs.wid 9) (Bs.of (Bs.wid 9) [1, 7]) = false := ex4
  simp only [e4]
  clear e4
  go_wp2_with fail
  have hbx := (Below.refl v10.heap.size v10).alloc (Nat.le_refl _) (.cells #[.int .i64 3, .int .i64 69] 3)
  have hnx := heap_alloc_new v10 (.cells #[.int .i64 3, .int .i64 69] 3)
  have hsx : v10.heap.size < (v10.alloc (.cells #[.int .i64 3, .int .i64 69] 3)).heap.size := by simp
  have T_11 := Lib.hid (T_10.out.below hbx)
  have L_11 := Lib.hid (L_10.out.trans (hbx.mono L_10.out.size))
  have K_11 := Lib.hid (K_10.out.below hbx)
  clear T_10 L_10 K_10
  have zz11 := L_11.out.size
  generalize (v10.alloc (.cells #[.int .i64 3, .int .i64 69] 3)) = v11 at hbx hnx hsx T_11 L_11 K_11 ⊢
  have zq11 := Nat.le_of_lt hsx
  have A2 := Lib.hid (ints_new (l := [3, 69]) hnx rfl)
  clear hbx hnx hsx
  have e5 : natI (Bs.lst (Bs.wid 70) (Bs.of (Bs.wid 70) [3, 69, 70, 3])) = [3, 69] := congrArg natI ex1
  have K2 : Hid (Ints v11 la [3, 69]) := by rw [← e5]; exact K_11
  clear e5
  refine (ints_any la (some ⟨v10.heap.size, 0, none⟩) [3, 69] [3, 69] lc 2 v11 K2.out A2.out (by decide) (by decide)).mono ?_
  rintro e v12 ⟨rfl, hB⟩
  have T_12 := Lib.hid (T_11.out.below hB)
  have L_12 := Lib.hid (L_11.out.trans (hB.mono L_11.out.size))
  have K_12 := Lib.hid (K_11.out.below hB)
  clear T_11 L_11 K_11
  have zz12 := L_12.out.size
  have zq12 : v11.heap.size ≤ v12.heap.size := hB.size
  clear hB A2 K2
  have e6 : eqI [3, 69] [3, 69] = true := by decide
  simp only [e6]
  clear e6
  go_wp2_with fail
  go_ret
  exact ⟨rfl, L_12.out⟩
end Go.Proofs.YtccmmilbnfiacaaDoor
