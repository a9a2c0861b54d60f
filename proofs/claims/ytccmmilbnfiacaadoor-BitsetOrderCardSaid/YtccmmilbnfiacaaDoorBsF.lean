/-
  The law BitsetOrder: the walk.
-/
import Derived.Test.YtccmmilbnfiacaaDoorBsA
import Derived.Test.YtccmmilbnfiacaaDoorBsM2
import Derived.Test.YtccmmilbnfiacaaDoorBsN
import Derived.Deep.RegionLaw
import Derived.Test.YtccmmilbnfiacaaDoorBsR
namespace Go.Proofs.YtccmmilbnfiacaaDoor
open Go.RowKit
set_option linter.unusedVariables false

/-- Numbers from k on, backwards, each twice. -/
def tw (l : List Int) (k : Nat) : List Int := (l.drop k).reverse.flatMap fun x => [x, x]
theorem tw_end (l : List Int) : tw l l.length = [] := by simp [tw]
theorem tw_step {l : List Int} {j : Nat} (h : j < l.length) : tw l j = tw l (j + 1) ++ [l[j], l[j]] := by
  unfold tw
  rw [List.drop_eq_getElem_cons h, List.reverse_cons, List.flatMap_append]
  rfl
theorem tw_len (l : List Int) (k : Nat) : (tw l k).length = 2 * (l.length - k) := by
  have : ∀ m : List Int, (m.flatMap fun x => [x, x]).length = 2 * m.length := by
    intro m
    induction m with
    | nil => rfl
    | cons x m ih => rw [List.flatMap_cons, List.length_append, ih, List.length_cons, List.length_cons, List.length_cons, List.length_nil]; omega
  unfold tw
  rw [this]; simp
theorem tw_of (n : Nat) (l : List Int) : Bs.of n (tw l 0) = Bs.of n l := by
  apply Nat.eq_of_testBit_eq
  intro j
  rw [Bs.of_bit, Bs.of_bit]
  congr 1
  rw [Bool.eq_iff_iff, List.contains_iff_mem, List.contains_iff_mem]
  simp [tw]
theorem lst_lt {n X i : Nat} (h : i < (natI (Bs.lst n X)).length) : 0 ≤ (natI (Bs.lst n X))[i] ∧ (natI (Bs.lst n X))[i] < n := by
  have hi : i < (Bs.lst n X).length := by simpa [natI] using h
  have : (Bs.lst n X)[i] ∈ Bs.lst n X := List.getElem_mem hi
  rw [Bs.mem_lst] at this
  simp [natI]
  exact this.1
theorem lst_up {n X i : Nat} (h : i + 1 < (natI (Bs.lst n X)).length) : (natI (Bs.lst n X))[i]'(by omega) < (natI (Bs.lst n X))[i + 1] := by
  have hi : i + 1 < (Bs.lst n X).length := by simpa [natI] using h
  have := List.pairwise_iff_getElem.1 (lst_sorted n X) i (i + 1) (by omega) hi (by omega)
  simp [natI]
  exact this
theorem lst_in {n i : Nat} {l : List Int} (h : i < (natI (Bs.lst n (Bs.of n l))).length) : inI l (natI (Bs.lst n (Bs.of n l)))[i] = true := by
  have hi : i < (Bs.lst n (Bs.of n l)).length := by simpa [natI] using h
  have hm : (Bs.lst n (Bs.of n l))[i] ∈ Bs.lst n (Bs.of n l) := List.getElem_mem hi
  rw [Bs.mem_lst, Bs.of_bit] at hm
  have := hm.2
  simp only [Bool.and_eq_true] at this
  unfold inI
  simpa [natI] using this.2
theorem wid_up (n : Int) (i : Int) (h0 : 0 ≤ i) (h : i < Bs.wid n) : i < n := by unfold Bs.wid at h; omega
theorem two_cells {w : World} {g : Nat} {t : TypeId} {x y : Value} (h : w.heap[g]? = some (.cells #[x, y] t (0, 0))) : ∀ j u, [x, y][j]? = some u → w.cell? ((⟨g, 0, none⟩ : Addr).add j) = some u := by
  intro j u hj
  rw [Addr.add_lit]
  match j, hj with
  | 0, hj => simp at hj; subst hj; simp [World.cell?, h]
  | 1, hj => simp at hj; subst hj; simp [World.cell?, h]
  | j + 2, hj => simp at hj

theorem step_append_own {P : Program} {w : World} {ops : Array Oper} {o : Oper} {a : Act} {K : Act → World → Prop} {Q : Exit → Act → World → Prop} {F : Prop} (hgd : o.guard = none) (s x : Operand) (t : TypeId)
    (ho : o.op = .call { callee := .builtin .append, args := #[s, x], argTypes := #[t, t] })
    (base : Nat) (e : TypeId) (i : TypeInfo) (z : Value) (size bytes : Nat) (ht : P.underlying t = some (.slice e)) (hi : P.info? e = some i) (hz : i.zero = some z)
    (hsize : i.size = size) (hby : i.bytes = bytes) (hzs : z.cells.size = size) (hsz : 0 < size)
    (v : Value) (n : Nat) (xs : List Value) (hs : a.eval s = v) (hown : w.ownsRow base e size v n xs)
    (ad : Addr) (m c : Nat) (news : List Value) (hx : a.eval x = .slice (some ad) m c) (hl : news.length = m * size) (hnews : ∀ j u, news[j]? = some u → w.cell? (ad.add j) = some u) (h1 : ∀ u ∈ news, u.oneCell' = true)
    (h63 : n + m ≤ maxLen) (hbytes : (n + m) * bytes ≤ 140737488355328) (hbase : base ≤ w.heap.size)
    (h : ∀ v' w', w'.ownsRow base e size v' (n + m) (xs ++ news) → w.grownBy w' v.ownBlock → (v' = .slice none 0 0 ↔ v = .slice none 0 0 ∧ m = 0) → K (a.put o.dst v') w') :
    if Region.wanted o (yielded ops a.tmps) = true then Oper.wp P o a w K Q else F := by
  rw [if_pos (by simp [Region.wanted, hgd])]
  exact wp_append_own w s x t ho base e i z size bytes ht hi hz hsize hby hzs hsz v n xs hs hown ad m c news hx hl hnews h1 h63 hbytes hbase h

set_option maxRecDepth 100000 in
set_option maxHeartbeats 6400000 in
theorem order_law (n : Int) (a : Option Addr) (l : List Int) (c : Nat) (w : World) (hT : Tab w) (hl : Ints w a l) (hn : l.length ≤ maxLen) :
    Calls Tryd.prog 7 #[.int .i64 n, .slice a l.length c] w fun e w' => e = .returned (.bool true) ∧ Below w.heap.size w w' := by
  have hT0 := hT.lt
  have T_0 := Lib.hid hT
  clear hT
  unfold maxLen at hn
  obtain ⟨i0, hi, hz0, hz1, hz2⟩ := info_parts info3
  have A_0 := Lib.hid hl
  clear hl
  go_enter Tryd.func7, Tryd.ntmps7
  have L_0 := Lib.hid (Below.refl w.heap.size w)
  go_wp2_with fail
  refine (awake03_any w T_0.out).mono ?_
  rintro e v1 ⟨rfl, hB⟩
  have T_1 := Lib.hid (T_0.out.below hB)
  have A_1 := Lib.hid (A_0.out.below hB)
  have L_1 := Lib.hid (L_0.out.trans (hB.mono L_0.out.size))
  clear T_0 A_0 L_0
  have zz1 := L_1.out.size
  have zq1 : w.heap.size ≤ v1.heap.size := hB.size
  clear hB
  by_cases h100 : 100 < l.length
  · have hd : decide (100 < (l.length : Int)) = true := by simp; omega
    go_wp2_with fail
    go_ret
    exact ⟨rfl, L_1.out⟩
  have hd : decide (100 < (l.length : Int)) = false := by simp; omega
  have hd2 : decide (100 < l.length) = false := by simp; omega
  go_wp2_with fail
  clear hd hd2
  go_loopw [6, 7] (fun v i wr => ∃ (k : Nat) (z : Int), i = .int .i64 z ∧ z = (k : Int) - 1 ∧ k ≤ l.length ∧ Hid (wr.ownsRow v1.heap.size 3 1 v (tw l k).length ((tw l k).map (Value.int .i64))) ∧ Hid (Below v1.heap.size v1 wr)) (fun _ i _ => (intOf i + 1).toNat)
  case atStart => exact ⟨l.length, _, rfl, rfl, Nat.le_refl _, Lib.hid (by rw [tw_end]; exact World.ownsRow_nil _ _ _ _), Lib.hid (Below.refl _ _)⟩
  case round =>
    obtain ⟨k, z, rfl, hz, hk, O, LW⟩ := hrel
    cases k with
    | succ j =>
      obtain rfl : z = (j : Int) := by omega
      clear hz
      have hlt : j < l.length := by omega
      obtain ⟨g, off, rfl, hc⟩ := (A_1.out.below LW.out) j hlt
      have htl := tw_len l (j + 1)
      have hts := Lib.hid (tw_step hlt)
      have hLW := LW.out.size
      have hj0 : (0 : Int) ≤ j := by omega
      go_wp2_with fail
      go_region_law ((refine step_append_own (by rfl) _ _ 22 (by rfl) v1.heap.size 3 i0 (.int .i64 0) 1 8 Tryd.underlying22 hi hz0 hz1 hz2 rfl (by decide) _ _ _ (by rfl) ((O.out.alloc _).drew) ⟨wr.heap.size, 0, none⟩ 2 2 [.int .i64 l[j], .int .i64 l[j]] (by rfl) (by rfl) (two_cells (t := 3) (heap_alloc_new wr _)) (by simp [Value.oneCell']) (by unfold maxLen; omega) (by omega) (by simp; omega) ?_; intro v' w3 hown hgrow hnil; have HO := Lib.hid hown; have HG := Lib.hid hgrow; clear hown hgrow hnil))
      all_goals
        go_wp2_with fail
        have O2 : Hid (w3.ownsRow v1.heap.size 3 1 v' (tw l j).length ((tw l j).map (Value.int .i64))) := Lib.hid (by rw [hts.out]; simpa using HO.out)
        have LW2 : Hid (Below v1.heap.size v1 w3) := Lib.hid (((LW.out.alloc hLW _).drew).grown HG.out (by simp; omega) (fun j e => (World.ownsRow.lt O.out j e).1))
        clear HO HG O LW
        go_roundw
        case rel => exact ⟨j, _, rfl, rfl, by omega, O2, LW2⟩
        case measure => simp [intOf]
    | zero =>
      obtain rfl : z = -1 := by omega
      clear hz
      go_wp2_with fail
      obtain ⟨a2, c2, rfl, _, hi2⟩ := ints_of_own O.out
      have hB := LW.out
      have lw2 := Lib.hid (show (tw l 0).length = 2 * l.length from tw_len l 0)
      clear O LW
      have I2 := Lib.hid hi2
      clear hi2
      have T_2 := Lib.hid (T_1.out.below hB)
      have A_2 := Lib.hid (A_1.out.below hB)
      have L_2 := Lib.hid (L_1.out.trans (hB.mono L_1.out.size))
      clear T_1 A_1 L_1
      have zz2 := L_2.out.size
      have zq2 : v1.heap.size ≤ wr.heap.size := hB.size
      clear hB
      go_wp2_with fail
      refine (of_any n a l c wr A_2.out (by unfold maxLen; omega)).mono ?_
      rintro e v3 ⟨ps, bs, rfl, hps, hbs, hs, hB⟩
      have T_3 := Lib.hid (T_2.out.below hB)
      have A_3 := Lib.hid (A_2.out.below hB)
      have L_3 := Lib.hid (L_2.out.trans (hB.mono L_2.out.size))
      have B_3 := Lib.hid (I2.out.below hB)
      clear T_2 A_2 L_2 I2
      have zz3 := L_3.out.size
      have zq3 : wr.heap.size ≤ v3.heap.size := hB.size
      have Ss_3 := Lib.hid hs
      have lps := Ss_3.out.plt
      have lbs := Ss_3.out.blt
      have zs := Ss_3.out.le
      clear hs hB
      go_wp2_with fail
      refine (of_any n a2 (tw l 0) c2 v3 B_3.out (by have := lw2.out; unfold maxLen; omega)).mono ?_
      rintro e v4 ⟨pt, bt, rfl, hpt, hbt, hs, hB⟩
      have T_4 := Lib.hid (T_3.out.below hB)
      have A_4 := Lib.hid (A_3.out.below hB)
      have L_4 := Lib.hid (L_3.out.trans (hB.mono L_3.out.size))
      have B_4 := Lib.hid (B_3.out.below hB)
      have Ss_4 := Lib.hid (Ss_3.out.below hB)
      clear T_3 A_3 L_3 B_3 Ss_3
      have zz4 := L_4.out.size
      have zq4 : v3.heap.size ≤ v4.heap.size := hB.size
      have St_4 := Lib.hid hs
      have lpt := St_4.out.plt
      have lbt := St_4.out.blt
      have zt := St_4.out.le
      clear hs hB
      have htw := tw_of (Bs.wid n) l
      rw [htw] at St_4
      clear htw
      go_wp2_with fail
      refine (list_any ps bs _ _ v4 Ss_4.out T_4.out).mono ?_
      rintro e v5 ⟨aK, cK, rfl, hK, hl, hB⟩
      have T_5 := Lib.hid (T_4.out.below hB)
      have A_5 := Lib.hid (A_4.out.below hB)
      have L_5 := Lib.hid (L_4.out.trans (hB.mono L_4.out.size))
      have B_5 := Lib.hid (B_4.out.below hB)
      have Ss_5 := Lib.hid (Ss_4.out.below hB)
      have St_5 := Lib.hid (St_4.out.below hB)
      clear T_4 A_4 L_4 B_4 Ss_4 St_4
      have zz5 := L_5.out.size
      have zq5 : v4.heap.size ≤ v5.heap.size := hB.size
      have K_5 := Lib.hid hl
      clear hB hl
      go_wp2_with fail
      have hkl := natI_max (Bs.wid n) (Bs.of (Bs.wid n) l) (by omega)
      unfold maxLen at hkl
      have hkb : (natI (Bs.lst (Bs.wid n) (Bs.of (Bs.wid n) l))).length ≤ 1000 := by have := Bs.lst_len (Bs.wid n) (Bs.of (Bs.wid n) l); simp [natI]; omega
      obtain ⟨R, hR⟩ : ∃ R, R = natI (Bs.lst (Bs.wid n) (Bs.of (Bs.wid n) l)) := ⟨_, rfl⟩
      have e1 : Hid (∀ i (h : i < R.length), 0 ≤ R[i] ∧ R[i] < n) := Lib.hid (fun i h => by
        subst hR
        obtain ⟨x1, x2⟩ := lst_lt h
        exact ⟨x1, wid_up n _ x1 x2⟩)
      have e2 : Hid (∀ i (h : i + 1 < R.length), R[i]'(by omega) < R[i + 1]) := Lib.hid (fun i h => by subst hR; exact lst_up h)
      have e3 : Hid (∀ i (h : i < R.length), inI l R[i] = true) := Lib.hid (fun i h => by subst hR; exact lst_in h)
      have e4 : Hid ((Bs.lst (Bs.wid n) (Bs.of (Bs.wid n) l)).length = R.length) := Lib.hid (by subst hR; simp [natI])
      have K1 := Lib.hid (K_5.out)
      rw [← hR] at K1 hkl hkb ⊢
      clear K_5 hR
      go_loopw [11] (fun i wr => ∃ k : Nat, i = .int .i64 k ∧ k ≤ R.length ∧ Hid (Below v5.heap.size v5 wr)) (fun i _ => R.length - (intOf i).toNat)
      case atStart => exact ⟨0, rfl, Nat.zero_le _, Lib.hid (Below.refl _ _)⟩
      case round =>
        obtain ⟨k, rfl, hk, LW⟩ := hrel
        by_cases hlt : k < R.length
        · obtain ⟨g1, o1, rfl, _⟩ := K1.out k hlt
          have hin := e3.out k hlt
          have ei : ∀ z : Wd wr.heap.size wr, Calls Tryd.prog 25 #[.slice a l.length c, .int .i64 R[k]] z.w fun e w' => e = .returned (.bool true) ∧ z.w = w' := fun z => by
            have := in_any a l c R[k] z.w ((A_5.out.below LW.out).below z.ok) (by unfold maxLen; omega)
            rw [hin] at this
            exact this
          have ek : ∀ z : Wd wr.heap.size wr, z.w.cell? ⟨g1, o1 + k, none⟩ = some (.int .i64 R[k]) := fun z => by
            obtain ⟨g, o, e, h⟩ := ((K1.out.below LW.out).below z.ok) k hlt; cases e; exact h
          obtain ⟨x1, x2⟩ := e1.out k hlt
          have d1 : decide (R[k] < 0) = false := by simpa using x1
          have d2 : decide (n ≤ R[k]) = false := by simpa using x2
          have hk0 : (0 : Int) ≤ k := by omega
          clear hin
          cases k with
          | zero =>
            have ek0 : ∀ z : Wd wr.heap.size wr, z.w.cell? ⟨g1, o1, none⟩ = some (.int .i64 R[0]) := fun z => ek z
            have hc0 : ((0 : Nat) : Int) = 0 := rfl
            simp only [hc0]
            clear ek hk0 hc0
            go_wp2_with fail
            refine region_cls wr.heap.size (by kernel_rfl) (by kernel_rfl) ?_
            repeat (go_big_quiet_step ((go_at_call 25; exact calls_cls_same _ (ei _))))
            refine wpQuiet_nil ?_
            intro z
            have L2 := Lib.hid (LW.out.trans (z.ok.mono LW.out.size))
            clear ei ek0
            go_wp2_with fail
            go_roundw
            case rel => exact ⟨1, by go_num, by omega, L2⟩
            case measure => simp [intOf]; omega
          | succ j =>
            have ek2 : ∀ z : Wd wr.heap.size wr, z.w.cell? ⟨g1, o1 + j, none⟩ = some (.int .i64 R[j]) := fun z => by
              obtain ⟨g, o, e, h⟩ := ((K1.out.below LW.out).below z.ok) j (by omega); cases e; exact h
            have x3 := e2.out j hlt
            have d3 : decide (R[j + 1] ≤ R[j]) = false := by simpa using x3
            have hj0 : (0 : Int) ≤ j := by omega
            have hs1 : IntKind.i64.wrap ((j : Int) + 1 - 1) = (j : Int) := by rw [IntKind.wrap_i64]; omega
            have hs2 : IntKind.i64.wrap (((j + 1 : Nat) : Int) - 1) = (j : Int) := by rw [IntKind.wrap_i64]; omega
            have hs3 : decide (0 < j + 1) = true := by simp
            have hs4 : decide ((0 : Int) < ((j + 1 : Nat) : Int)) = true := by rw [decide_eq_true]; omega
            have hs5 : decide ((0 : Int) < (j : Int) + 1) = true := by rw [decide_eq_true]; omega
            go_wp2_with fail
            refine region_cls wr.heap.size (by kernel_rfl) (by kernel_rfl) ?_
            repeat (go_big_quiet_step ((go_at_call 25; exact calls_cls_same _ (ei _))))
            refine wpQuiet_nil ?_
            intro z
            have L2 := Lib.hid (LW.out.trans (z.ok.mono LW.out.size))
            clear ei ek ek2
            go_wp2_with fail
            go_roundw
            case rel => exact ⟨j + 1 + 1, by go_num, by omega, L2⟩
            case measure => simp [intOf]; omega
        · obtain rfl : k = R.length := by omega
          have hB := LW.out
          clear LW
          obtain ⟨w9, rfl⟩ : ∃ w9 : World, w9 = wr := ⟨_, rfl⟩
          have T_6 := Lib.hid (T_5.out.below hB)
          have L_6 := Lib.hid (L_5.out.trans (hB.mono L_5.out.size))
          have Ss_6 := Lib.hid (Ss_5.out.below hB)
          have St_6 := Lib.hid (St_5.out.below hB)
          clear T_5 L_5 Ss_5 St_5
          have zz6 := L_6.out.size
          have zq6 : v5.heap.size ≤ w9.heap.size := hB.size
          clear hB
          have es : ∀ X : Nat, sameB X X = true := fun X => by simp [sameB]
          go_wp2_with fail
          refine (same_any ps bs _ _ pt bt _ _ w9 Ss_6.out St_6.out T_6.out).mono ?_
          rintro e v7 ⟨rfl, hB⟩
          have T_7 := Lib.hid (T_6.out.below hB)
          have L_7 := Lib.hid (L_6.out.trans (hB.mono L_6.out.size))
          have Ss_7 := Lib.hid (Ss_6.out.below hB)
          have St_7 := Lib.hid (St_6.out.below hB)
          clear T_6 L_6 Ss_6 St_6
          have zz7 := L_7.out.size
          have zq7 : w9.heap.size ≤ v7.heap.size := hB.size
          clear hB
          simp only [es]
          go_wp2_with fail
          refine (same_any pt bt _ _ ps bs _ _ v7 St_7.out Ss_7.out T_7.out).mono ?_
          rintro e v8 ⟨rfl, hB⟩
          have T_8 := Lib.hid (T_7.out.below hB)
          have L_8 := Lib.hid (L_7.out.trans (hB.mono L_7.out.size))
          have Ss_8 := Lib.hid (Ss_7.out.below hB)
          have St_8 := Lib.hid (St_7.out.below hB)
          clear T_7 L_7 Ss_7 St_7
          have zz8 := L_8.out.size
          have zq8 : v7.heap.size ≤ v8.heap.size := hB.size
          clear hB
          simp only [es]
          clear es
          go_wp2_with fail
          refine (len_any ps bs _ _ v8 Ss_8.out).mono ?_
          rintro e v9 ⟨rfl, rfl⟩
          rw [e4.out]
          go_wp2_with fail
          go_ret
          exact ⟨rfl, L_8.out⟩
end Go.Proofs.YtccmmilbnfiacaaDoor
