/-
  The law BitsetEach: the walk.
-/
import Derived.Test.YtccmmilbnfiacaaDoorBsG
import Derived.Maps.AppendAt
namespace Go.Proofs.YtccmmilbnfiacaaDoor
open Go.RowKit Go.Shelf
set_option linter.unusedVariables false
attribute [local go_sem] Oper.semAt_some

def EachLaw (w : World) (e : Ending) (w' : World) : Prop := e = .returned (.bool true) ∧ Below w.heap.size w w'

theorem ints_take {w : World} {a : Option Addr} {l : List Int} {m : Nat} (h : Ints w a l) : Ints w a (l.take m) := by
  intro i hi
  have hi' : i < l.length := by simp at hi; omega
  obtain ⟨b, off, e, hc⟩ := h i hi'
  exact ⟨b, off, e, by rw [List.getElem_take]; exact hc⟩

set_option maxRecDepth 100000 in
set_option maxHeartbeats 16000000 in
theorem each_in (n' : Nat) (h3 : 3 ≤ n') (n : Int) (a : Option Addr) (l0 : List Int) (c : Nat) (stop : Int) (w : World) (hT : Tab w) (hl : Ints w a l0) (hn : l0.length ≤ maxLen) (h100 : l0.length ≤ 100) (hws : (Lit.int .i64 stop).wf = true) :
    CallsIn Fence.wide n' Tryd.prog 3 #[.int .i64 n, .slice a l0.length c, .int .i64 stop] w (EachLaw w) := by
  have h1 : 1 ≤ n' := by omega
  have hT0 := hT.lt
  obtain ⟨i0, hi, hz0, hz1, hz2⟩ := info_parts info3
  have T_0 := Lib.hid hT
  have A_0 := Lib.hid hl
  clear hT hl
  have AORIG := A_0
  have hd : decide (100 < (l0.length : Int)) = false := by simp; omega
  refine callsIn_of_wp_marks Tryd.func3 rfl trivial ?_ rfl
  simp only [Tryd.ntmps3, List.size_toArray, List.length_cons, List.length_nil, Nat.reduceAdd, Nat.reduceSub, Array.replicate_succ, Array.replicate_zero, List.push_toArray, List.append_toArray, List.nil_append, List.cons_append]
  have L_0 := Lib.hid (Below.refl w.heap.size w)
  gi_wp2_with fail
  have hbx := (Below.refl w.heap.size w).alloc (Nat.le_refl _) (.cells #[.int .i64 stop] 3)
  have b5 := Boxed.new w 3 (.int .i64 stop)
  have hsx : w.heap.size < (w.alloc (.cells #[.int .i64 stop] 3)).heap.size := by simp
  have T_1 := Lib.hid (T_0.out.below hbx)
  have A_1 := Lib.hid (A_0.out.below hbx)
  have L_1 := Lib.hid (L_0.out.trans (hbx.mono L_0.out.size))
  clear T_0 A_0 L_0
  have zz1 := L_1.out.size
  generalize (w.alloc (.cells #[.int .i64 stop] 3)) = V0 at hbx b5 hsx T_1 A_1 L_1 ⊢
  have F_1 := Lib.hid b5
  clear hbx b5
  refine ⟨trivial, ?_⟩
  refine (callsIn_wide.2 (awake03_any V0 T_1.out)).mono ?_
  rintro e v2 ⟨rfl, hB⟩
  have T_2 := Lib.hid (T_1.out.below hB)
  have A_2 := Lib.hid (A_1.out.below hB)
  have L_2 := Lib.hid (L_1.out.trans (hB.mono L_1.out.size))
  have F_2 := Lib.hid ((hB.block _ (lt_of_block F_1.out)).trans F_1.out)
  clear T_1 A_1 L_1 F_1
  have zz2 := L_2.out.size
  have zq2 : V0.heap.size ≤ v2.heap.size := hB.size
  clear hB
  gi_wp2_with fail
  refine ⟨trivial, ?_⟩
  refine (callsIn_wide.2 (of_any n a l0 c v2 A_2.out hn)).mono ?_
  rintro e v3 ⟨ps, bs, rfl, hps, hbs, hs, hB⟩
  have T_3 := Lib.hid (T_2.out.below hB)
  have A_3 := Lib.hid (A_2.out.below hB)
  have L_3 := Lib.hid (L_2.out.trans (hB.mono L_2.out.size))
  have F_3 := Lib.hid ((hB.block _ (lt_of_block F_2.out)).trans F_2.out)
  clear T_2 A_2 L_2 F_2
  have zz3 := L_3.out.size
  have zq3 : v2.heap.size ≤ v3.heap.size := hB.size
  have Ss_3 := Lib.hid hs
  have lps := Ss_3.out.plt
  have lbs := Ss_3.out.blt
  have zs := Ss_3.out.le
  clear hs hB
  gi_wp2_with fail
  have b8 := Boxed.new v3 24 (.pointer (some ⟨ps, 0, none⟩))
  have b9 := Boxed.new (v3.alloc (.cells #[.pointer (some ⟨ps, 0, none⟩)] 24)) 22 (.slice none 0 0)
  rw [World.size_alloc] at b9
  have b8' : Boxed ((v3.alloc (.cells #[.pointer (some ⟨ps, 0, none⟩)] 24)).alloc (.cells #[.slice none 0 0] 22)) v3.heap.size 24 (.pointer (some ⟨ps, 0, none⟩)) := b8.alloc _
  have hbx := ((Below.refl v3.heap.size v3).alloc (Nat.le_refl _) (.cells #[.pointer (some ⟨ps, 0, none⟩)] 24)).alloc (by simp) (.cells #[.slice none 0 0] 22)
  have hsx : ((v3.alloc (.cells #[.pointer (some ⟨ps, 0, none⟩)] 24)).alloc (.cells #[.slice none 0 0] 22)).heap.size = v3.heap.size + 1 + 1 := by simp
  clear b8
  have T_4 := Lib.hid (T_3.out.below hbx)
  have A_4 := Lib.hid (A_3.out.below hbx)
  have L_4 := Lib.hid (L_3.out.trans (hbx.mono L_3.out.size))
  have F_4 := Lib.hid ((hbx.block _ (lt_of_block F_3.out)).trans F_3.out)
  have Ss_4 := Lib.hid (Ss_3.out.below hbx)
  clear T_3 A_3 L_3 F_3 Ss_3
  have zz4 := L_4.out.size
  generalize ((v3.alloc (.cells #[.pointer (some ⟨ps, 0, none⟩)] 24)).alloc (.cells #[.slice none 0 0] 22)) = V9 at hbx b8' b9 hsx T_4 A_4 L_4 F_4 Ss_4 ⊢
  have E8_4 := Lib.hid b8'
  have E9_4 := Lib.hid b9
  clear hbx b8' b9
  have hsy := Nat.le_of_eq hsx.symm
  clear hsx
  refine ⟨trivial, ?_⟩
  refine (callsIn_wide.2 (each_any ps bs _ _ V9 Ss_4.out)).mono ?_
  rintro e v5 ⟨g, c1, rfl, hg, hc1, hh, hr, hB⟩
  have T_5 := Lib.hid (T_4.out.below hB)
  have A_5 := Lib.hid (A_4.out.below hB)
  have L_5 := Lib.hid (L_4.out.trans (hB.mono L_4.out.size))
  have F_5 := Lib.hid ((hB.block _ (lt_of_block F_4.out)).trans F_4.out)
  have Ss_5 := Lib.hid (Ss_4.out.below hB)
  have E8_5 := Lib.hid ((hB.block _ (lt_of_block E8_4.out)).trans E8_4.out)
  have E9_5 := Lib.hid ((hB.block _ (lt_of_block E9_4.out)).trans E9_4.out)
  clear T_4 A_4 L_4 F_4 Ss_4 E8_4 E9_4
  have zz5 := L_5.out.size
  have zq5 : V9.heap.size ≤ v5.heap.size := hB.size
  have hI1 : Its v5 g c1 _ _ := ⟨hh, hr, T_5.out, Ss_5.out.le, Ss_5.out.lt⟩
  have hgl : g < v5.heap.size := by obtain ⟨_, e⟩ := hh; exact lt_of_block e
  have hcl : c1 < v5.heap.size := by obtain ⟨_, e, _⟩ := hr; exact lt_of_block e
  have htl := T_5.out.lt
  have hps := Ss_5.out.plt
  have h9l := lt_of_block E9_5.out
  have hF5 := lt_of_block F_5.out
  have LAY : Lay w w.heap.size v3.heap.size (v3.heap.size + 1) v5.heap.size ps bs g c1 := by
    refine ⟨⟨?_, ?_⟩, ⟨?_, ?_⟩, ⟨?_, ?_⟩, ⟨?_, ?_, ?_⟩, ⟨?_, ?_, ?_⟩, ⟨?_, ?_, ?_, ?_, ?_, ?_⟩, ⟨?_, ?_, ?_, ?_⟩⟩ <;> omega
  have hU0 : EI w w.heap.size v3.heap.size (v3.heap.size + 1) v5.heap.size ps bs (Bs.wid n) stop [] v5 :=
    ⟨F_5.out, E8_5.out, ⟨_, E9_5.out, World.ownsRow_nil _ _ _ _⟩, ⟨_, Ss_5.out⟩, L_5.out, Nat.le_refl _, by simp; omega⟩
  have SB := Lib.hid A_5.out
  have hlt0 := Ss_5.out.lt
  have HI := Lib.hid hI1
  have HLAY := Lib.hid LAY
  have HU0 := Lib.hid hU0
  have hsz := L_5.out.size
  clear hh hr hB hI1 LAY hU0 A_5 L_5 F_5 Ss_5 E8_5 E9_5
  gi_wp2_with fail
  refine wpIn_rangeFunc_ownG rfl h1 (gf := 30) (lb := #[.pointer (some ⟨g, 0, none⟩)]) rfl trivial (enters_of Tryd.func30 (by kernel_rfl) rfl)
    (each_stops (n' - 1) g c1 _ _ (by omega) v5 HI.out) (fun h k => Keep.trans h k) (keep_put hgl hcl htl) (Below.refl _ _) (fun _ => rfl)
    (EI w w.heap.size v3.heap.size (v3.heap.size + 1) v5.heap.size ps bs (Bs.wid n) stop) (EX w w.heap.size v3.heap.size (v3.heap.size + 1) v5.heap.size ps bs (Bs.wid n) stop) (EI.own _ _ _ _ _ _ _ _ _ _ hsz) (EX.own _ _ _ _ _ _ _ _ _ _ hsz) HU0.out
    (fun x => { tmps := #[.int .i64 n, .slice a l0.length c, .int .i64 stop, undef, undef, .pointer (some ⟨w.heap.size, 0, none⟩), .bool false, .bool true, .pointer (some ⟨v3.heap.size, 0, none⟩), .pointer (some ⟨v3.heap.size + 1, 0, none⟩), .int .i64 (x.1 : Nat), undef, undef, .bool true, .slice a l0.length c, .int .i64 l0.length, .bool false, undef, .int .i64 n, .slice a l0.length c, .pointer (some ⟨ps, 0, none⟩), .pointer (some ⟨ps, 0, none⟩), .bool false, .pointer (some ⟨ps, 0, none⟩), .func (.func 30) #[] #[.pointer (some ⟨g, 0, none⟩)], .int .i64 (x.1 : Nat), undef, undef, undef, undef, undef, undef, undef, undef, undef, undef, undef, undef, undef, undef, undef, undef, undef, undef, undef, undef, undef, undef, undef, undef, undef, undef, undef, undef, undef, undef, undef, undef, undef, undef, undef, undef, undef], defers := [] }) ?assign ?body ?done ?stop
  case assign =>
    intro l x W K hK
    gi_wp2
    exact hK
  case body =>
    intro l pre x W hU hlt
    have hdp : 1 ≤ n' - 1 - 1 := by omega
    have hx := x.2
    obtain ⟨v, hv, ho⟩ := hU.nine
    obtain ⟨X, hX⟩ := hU.set
    obtain ⟨av, cv, rfl⟩ := own_slice ho
    have f5 := hU.five.cell
    have f8 := hU.eight.cell
    have f9 := hv.cell
    have hWz := hU.big
    have hlen := hU.len
    have HE := Lib.hid hU
    have HV := Lib.hid hv
    have HO := Lib.hid ho
    have HX := Lib.hid hX
    clear hU hv ho hX
    by_cases hs1 : stop ≤ (pre.length : Int)
    · have hd1 : decide (stop ≤ (pre.length : Int)) = true := by simpa using hs1
      gi_wp2
      exact ⟨(KeepsOthers.refl _).from _, rfl, pre, x, rfl, .inl hs1, HE.out⟩
    by_cases hs2 : 1000 < pre.length
    · have hd1 : decide (stop ≤ (pre.length : Int)) = false := by simpa using hs1
      have hd2 : decide ((1000 : Int) < (pre.length : Int)) = true := by simp; omega
      have hd3 : decide (1000 < pre.length) = true := by simpa using hs2
      gi_wp2
      exact ⟨(KeepsOthers.refl _).from _, rfl, pre, x, rfl, .inr hs2, HE.out⟩
    have hd1 : decide (stop ≤ (pre.length : Int)) = false := by simpa using hs1
    have hd2 : decide ((1000 : Int) < (pre.length : Int)) = false := by simp; omega
    have hd3 : decide (1000 < pre.length) = false := by simpa using hs2
    have hlen2 : ((pre ++ [x]).length : Int) ≤ max 0 stop := by simp; omega
    clear hs1 hs2
    gi_wp2_with (gi_at_builtin; refine wpListIn_append_own _ rfl _ _ 22 rfl v5.heap.size 3 i0 (.int .i64 0) 1 8 Tryd.underlying22 hi hz0 hz1 hz2 rfl (by decide) _ _ _ rfl (HO.out.alloc _) ⟨W.heap.size, 0, none⟩ 1 1 [.int .i64 (x.1 : Nat)] rfl rfl (cell_one_new _ _ _) (by simp [Value.oneCell']) (by unfold maxLen; omega) (by omega) (by simp; omega) ?_; intro v' w1 hown' hgrow _; obtain ⟨g', cap', rfl⟩ := ownsRow_succ hown'; have J := Lib.hid (HE.out.app HLAY.out HV.out HO.out HX.out hown' hgrow); clear hown' hgrow; have e9 := J.out.one.1.cell; have e9f := J.out.one.1.frozen; have e8 := J.out.one.2.cell)
    refine ⟨trivial, ?_⟩
    refine (CallsIn.inRound l (callsIn_wide.2 (drop_any ps bs _ X (x.1 : Nat) _ J.out.set))).mono ?_
    rintro e w3 ⟨rfl, hs3, hu3⟩
    have S3 := Lib.hid hs3
    have U3 := Lib.hid hu3
    have f8' := (boxed_upd J.out.eight hu3 HLAY.out.n5.2.2.2.1).cell
    clear hs3 hu3
    gi_wp2_with fail
    refine ⟨trivial, ?_⟩
    refine (CallsIn.inRound l (callsIn_wide.2 (add_any ps bs _ _ (((x.1 : Nat) : Int) + 1) _ S3.out))).mono ?_
    rintro e w4 ⟨rfl, hs4, hu4⟩
    have S4 := Lib.hid hs4
    have U4 := Lib.hid hu4
    clear hs4 hu4
    gi_wp2_with fail
    refine EI.fin HLAY.out hT0 (X := X) (v := .slice av pre.length cv) (v' := .slice (some ⟨g', 0, none⟩) (pre.length + 1) cap') (w1 := w1) ?_ hlen2 S3.out U3.out S4.out U4.out
    have hJ := J.out
    rw [cells_snoc, List.length_append]
    exact hJ
  case done =>
    intro D ys W hD hys hU hK
    have hval := tk_all hys (by simpa [vals] using hU.len)
    have hlow := hU.low
    obtain ⟨v, hv, ho⟩ := hU.nine
    obtain ⟨av, cv, rfl, _, hiv⟩ := ints_of_row ho
    rw [hval] at hiv
    have hyl : ys.length = (natI ((Bs.lst (Bs.wid n) (Bs.of (Bs.wid n) l0)).take (tk stop (Bs.lst (Bs.wid n) (Bs.of (Bs.wid n) l0)).length))).length := by rw [← hval]; simp [natI, vals]
    rw [hyl] at hv
    have T_20 := Lib.hid (True.intro)
    have L_20 := Lib.hid hlow
    have A_20 := Lib.hid (AORIG.out.below hlow)
    have K_20 := Lib.hid hiv
    have F_20 := Lib.hid hU.five
    have E9_20 := Lib.hid hv
    have DF_20 := Lib.hid hK
    have hWz := hU.low.size
    clear T_20 hU hv ho hiv hK hlow hyl hval
    have zz20 := hWz
    gi_wp2_with fail
    refine ⟨trivial, ?_⟩
    refine (callsIn_wide.2 (rof_any n a l0 c W A_20.out hn)).mono ?_
    rintro e v21 ⟨pr, br, rfl, _, _, hs, hB⟩
    have L_21 := Lib.hid (L_20.out.trans (hB.mono L_20.out.size))
    have A_21 := Lib.hid (A_20.out.below hB)
    have K_21 := Lib.hid (K_20.out.below hB)
    have F_21 := Lib.hid ((hB.block _ (lt_of_block F_20.out)).trans F_20.out)
    have E9_21 := Lib.hid ((hB.block _ (lt_of_block E9_20.out)).trans E9_20.out)
    have DF_21 := Lib.hid ((hB.block _ (lt_of_block DF_20.out)).trans DF_20.out)
    clear L_20 A_20 K_20 F_20 E9_20 DF_20
    have zz21 := L_21.out.size
    have zq21 : W.heap.size ≤ v21.heap.size := hB.size
    have R_21 := Lib.hid hs
    clear hs hB
    clear A_21
    gi_wp2_with fail
    refine ⟨trivial, ?_⟩
    refine (callsIn_wide.2 (rlist2_any pr br _ _ v21 R_21.out)).mono ?_
    rintro e v22 ⟨ar, cr, rfl, hcap, _, hir, hB⟩
    have L_22 := Lib.hid (L_21.out.trans (hB.mono L_21.out.size))
    have K_22 := Lib.hid (K_21.out.below hB)
    have F_22 := Lib.hid ((hB.block _ (lt_of_block F_21.out)).trans F_21.out)
    have E9_22 := Lib.hid ((hB.block _ (lt_of_block E9_21.out)).trans E9_21.out)
    have DF_22 := Lib.hid ((hB.block _ (lt_of_block DF_21.out)).trans DF_21.out)
    have R_22 := Lib.hid (R_21.out.below hB)
    clear L_21 K_21 F_21 E9_21 DF_21 R_21
    have zz22 := L_22.out.size
    have zq22 : v21.heap.size ≤ v22.heap.size := hB.size
    clear R_22
    have I_22 := Lib.hid hir
    clear hir hB
    gi_wp2_with fail
    have f5 : ∀ y : Wd v22.heap.size v22, y.w.cell? ⟨w.heap.size, 0, none⟩ = some (.int .i64 stop) := fun y => ((bcell y.ok).1 _ _ (lt_of_block F_22.out)).trans (Boxed.cell F_22.out)
    have f9 : ∀ y : Wd v22.heap.size v22, y.w.cell? ⟨v3.heap.size + 1, 0, none⟩ = some _ := fun y => ((bcell y.ok).1 _ _ (lt_of_block E9_22.out)).trans (Boxed.cell E9_22.out)
    obtain ⟨R, hR⟩ : ∃ R, R = natI (Bs.lst (Bs.wid n) (Bs.of (Bs.wid n) l0)) := ⟨_, rfl⟩
    obtain ⟨m, hm⟩ : ∃ m, m = tk stop (Bs.lst (Bs.wid n) (Bs.of (Bs.wid n) l0)).length := ⟨_, rfl⟩
    have hRl : R.length = (Bs.lst (Bs.wid n) (Bs.of (Bs.wid n) l0)).length := by rw [hR]; simp [natI]
    have hR1000 : R.length ≤ 1000 := by rw [hRl]; exact Nat.le_trans (Bs.lst_len _ _) (Bs.wid_le n)
    have hmm : (m : Int) = max 0 (min stop (R.length : Int)) := by rw [hm, hRl]; unfold tk; omega
    have hmR : m ≤ R.length := by omega
    have htk : natI ((Bs.lst (Bs.wid n) (Bs.of (Bs.wid n) l0)).take (tk stop (Bs.lst (Bs.wid n) (Bs.of (Bs.wid n) l0)).length)) = R.take m := by rw [hR, hm]; simp [natI]
    obtain ⟨hc1', hc2', hc3'⟩ := hcap
    rw [← hR] at I_22 hc1' ⊢
    obtain ⟨Z, hZ⟩ : ∃ Z, Z = R.take m := ⟨_, rfl⟩
    have hZl : Z.length = m := by rw [hZ, List.length_take]; omega
    rw [htk, ← hZ] at K_22 E9_22 f9
    have hmc : m ≤ cr := by omega
    have H1 := Lib.hid hmm
    unfold maxLen at hc2'
    have hir : ∀ y : Wd v22.heap.size v22, Calls Tryd.prog 16 #[.slice av Z.length cv, .slice ar m cr] y.w fun e w' => e = .returned (.bool true) ∧ Below y.w.heap.size y.w w' := fun y => by
      have i1 := (K_22.out).below y.ok
      have i2 : Ints y.w ar Z := by rw [hZ]; exact ints_take ((I_22.out).below y.ok)
      have := ints_any av ar Z Z cv cr y.w i1 i2 (by rw [hZl]; unfold maxLen; omega) (by rw [hZl]; unfold maxLen; omega)
      rw [show eqI Z Z = true from by simp [eqI]] at this
      have h2 := this
      rw [hZl] at h2 ⊢
      exact h2
    have hLs := L_22.out.size
    clear hR hm hRl htk hmm hZ hZl
    have hmin : max (0 : Int) (min stop (R.length : Int)) = (m : Int) := H1.out.symm
    refine wpIn_wide.2 ?_
    refine region_cls v22.heap.size (by kernel_rfl) (by kernel_rfl) ?_
    repeat (go_big_quiet_step (fail))
    go_big_quiet_step ((go_at_call 16; exact calls_cls _ (Nat.le_refl _) (hir _)))
    repeat (go_big_quiet_step (fail))
    refine wpQuiet_nil ?_
    intro y
    have hKD : y.w.heap[D]? = some (.deferred (some [])) := (y.ok.block _ (lt_of_block DF_22.out)).trans DF_22.out
    have LF := (L_22.out).trans (y.ok.mono hLs)
    have key : Hid (EachLaw w (.returned (.bool true)) (y.w.putObj D (.deferred none))) := Lib.hid ⟨rfl, LF.trans (belowK_b (w := w) (Nat.le_refl _) y.w D _ _ (by omega) hKD rfl rfl)⟩
    clear LF hir f5 f9 hmin
    gi_wp2_with fail
    refine ⟨by simp, .inl ⟨_, _, rfl, run_takeDeferred hKD, ?_⟩⟩
    exact ⟨_, results_tmp rfl _ _ _, by exact key.out⟩
  case stop =>
    rintro D cc pre W hD hpre ⟨rfl, l, x, rfl, hx, hU⟩ hK
    rw [vals_snoc] at hpre
    have hval := tk_part hpre (by simpa [vals] using hU.len) (by simpa [vals] using hx) (Nat.le_trans (Bs.lst_len _ _) (Bs.wid_le n))
    have hlow := hU.low
    obtain ⟨v, hv, ho⟩ := hU.nine
    obtain ⟨av, cv, rfl, _, hiv⟩ := ints_of_row ho
    rw [hval] at hiv
    have hyl : l.length = (natI ((Bs.lst (Bs.wid n) (Bs.of (Bs.wid n) l0)).take (tk stop (Bs.lst (Bs.wid n) (Bs.of (Bs.wid n) l0)).length))).length := by rw [← hval]; simp [natI, vals]
    rw [hyl] at hv
    have T_20 := Lib.hid (True.intro)
    have L_20 := Lib.hid hlow
    have A_20 := Lib.hid (AORIG.out.below hlow)
    have K_20 := Lib.hid hiv
    have F_20 := Lib.hid hU.five
    have E9_20 := Lib.hid hv
    have DF_20 := Lib.hid hK
    have hWz := hU.low.size
    clear T_20 hU hv ho hiv hK hlow hyl hval
    have zz20 := hWz
    gi_wp2_with fail
    refine ⟨trivial, ?_⟩
    refine (callsIn_wide.2 (rof_any n a l0 c W A_20.out hn)).mono ?_
    rintro e v21 ⟨pr, br, rfl, _, _, hs, hB⟩
    have L_21 := Lib.hid (L_20.out.trans (hB.mono L_20.out.size))
    have A_21 := Lib.hid (A_20.out.below hB)
    have K_21 := Lib.hid (K_20.out.below hB)
    have F_21 := Lib.hid ((hB.block _ (lt_of_block F_20.out)).trans F_20.out)
    have E9_21 := Lib.hid ((hB.block _ (lt_of_block E9_20.out)).trans E9_20.out)
    have DF_21 := Lib.hid ((hB.block _ (lt_of_block DF_20.out)).trans DF_20.out)
    clear L_20 A_20 K_20 F_20 E9_20 DF_20
    have zz21 := L_21.out.size
    have zq21 : W.heap.size ≤ v21.heap.size := hB.size
    have R_21 := Lib.hid hs
    clear hs hB
    clear A_21
    gi_wp2_with fail
    refine ⟨trivial, ?_⟩
    refine (callsIn_wide.2 (rlist2_any pr br _ _ v21 R_21.out)).mono ?_
    rintro e v22 ⟨ar, cr, rfl, hcap, _, hir, hB⟩
    have L_22 := Lib.hid (L_21.out.trans (hB.mono L_21.out.size))
    have K_22 := Lib.hid (K_21.out.below hB)
    have F_22 := Lib.hid ((hB.block _ (lt_of_block F_21.out)).trans F_21.out)
    have E9_22 := Lib.hid ((hB.block _ (lt_of_block E9_21.out)).trans E9_21.out)
    have DF_22 := Lib.hid ((hB.block _ (lt_of_block DF_21.out)).trans DF_21.out)
    have R_22 := Lib.hid (R_21.out.below hB)
    clear L_21 K_21 F_21 E9_21 DF_21 R_21
    have zz22 := L_22.out.size
    have zq22 : v21.heap.size ≤ v22.heap.size := hB.size
    clear R_22
    have I_22 := Lib.hid hir
    clear hir hB
    gi_wp2_with fail
    have f5 : ∀ y : Wd v22.heap.size v22, y.w.cell? ⟨w.heap.size, 0, none⟩ = some (.int .i64 stop) := fun y => ((bcell y.ok).1 _ _ (lt_of_block F_22.out)).trans (Boxed.cell F_22.out)
    have f9 : ∀ y : Wd v22.heap.size v22, y.w.cell? ⟨v3.heap.size + 1, 0, none⟩ = some _ := fun y => ((bcell y.ok).1 _ _ (lt_of_block E9_22.out)).trans (Boxed.cell E9_22.out)
    obtain ⟨R, hR⟩ : ∃ R, R = natI (Bs.lst (Bs.wid n) (Bs.of (Bs.wid n) l0)) := ⟨_, rfl⟩
    obtain ⟨m, hm⟩ : ∃ m, m = tk stop (Bs.lst (Bs.wid n) (Bs.of (Bs.wid n) l0)).length := ⟨_, rfl⟩
    have hRl : R.length = (Bs.lst (Bs.wid n) (Bs.of (Bs.wid n) l0)).length := by rw [hR]; simp [natI]
    have hR1000 : R.length ≤ 1000 := by rw [hRl]; exact Nat.le_trans (Bs.lst_len _ _) (Bs.wid_le n)
    have hmm : (m : Int) = max 0 (min stop (R.length : Int)) := by rw [hm, hRl]; unfold tk; omega
    have hmR : m ≤ R.length := by omega
    have htk : natI ((Bs.lst (Bs.wid n) (Bs.of (Bs.wid n) l0)).take (tk stop (Bs.lst (Bs.wid n) (Bs.of (Bs.wid n) l0)).length)) = R.take m := by rw [hR, hm]; simp [natI]
    obtain ⟨hc1', hc2', hc3'⟩ := hcap
    rw [← hR] at I_22 hc1' ⊢
    obtain ⟨Z, hZ⟩ : ∃ Z, Z = R.take m := ⟨_, rfl⟩
    have hZl : Z.length = m := by rw [hZ, List.length_take]; omega
    rw [htk, ← hZ] at K_22 E9_22 f9
    have hmc : m ≤ cr := by omega
    have H1 := Lib.hid hmm
    unfold maxLen at hc2'
    have hir : ∀ y : Wd v22.heap.size v22, Calls Tryd.prog 16 #[.slice av Z.length cv, .slice ar m cr] y.w fun e w' => e = .returned (.bool true) ∧ Below y.w.heap.size y.w w' := fun y => by
      have i1 := (K_22.out).below y.ok
      have i2 : Ints y.w ar Z := by rw [hZ]; exact ints_take ((I_22.out).below y.ok)
      have := ints_any av ar Z Z cv cr y.w i1 i2 (by rw [hZl]; unfold maxLen; omega) (by rw [hZl]; unfold maxLen; omega)
      rw [show eqI Z Z = true from by simp [eqI]] at this
      have h2 := this
      rw [hZl] at h2 ⊢
      exact h2
    have hLs := L_22.out.size
    clear hR hm hRl htk hmm hZ hZl
    have hmin : max (0 : Int) (min stop (R.length : Int)) = (m : Int) := H1.out.symm
    refine wpIn_wide.2 ?_
    refine region_cls v22.heap.size (by kernel_rfl) (by kernel_rfl) ?_
    repeat (go_big_quiet_step (fail))
    go_big_quiet_step ((go_at_call 16; exact calls_cls _ (Nat.le_refl _) (hir _)))
    repeat (go_big_quiet_step (fail))
    refine wpQuiet_nil ?_
    intro y
    have hKD : y.w.heap[D]? = some (.deferred (some [])) := (y.ok.block _ (lt_of_block DF_22.out)).trans DF_22.out
    have LF := (L_22.out).trans (y.ok.mono hLs)
    have key : Hid (EachLaw w (.returned (.bool true)) (y.w.putObj D (.deferred none))) := Lib.hid ⟨rfl, LF.trans (belowK_b (w := w) (Nat.le_refl _) y.w D _ _ (by omega) hKD rfl rfl)⟩
    clear LF hir f5 f9 hmin
    gi_wp2_with fail
    refine ⟨by simp, .inl ⟨_, _, rfl, run_takeDeferred hKD, ?_⟩⟩
    exact ⟨_, results_tmp rfl _ _ _, by exact key.out⟩
end Go.Proofs.YtccmmilbnfiacaaDoor
