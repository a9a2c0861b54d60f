/-
  The fixed texts of chapters 9 and 10: their plans (by the kernel).
  The walk of chapter 9's awake: it is true.
  An argument that is a small grammar, opened; an argument that is a slice of bytes, or of numbers; the table that the row lists.
  What the laws of chapters 9 and 10 want of a small grammar's plan (plain).
-/
import Derived.Test.YtjbggogbnckllaaDoorAp
import Derived.Test.YtjbggogbnckllaaDoorAq
import Derived.Test.YtjbggogbnckllaaDoorAn
import Derived.Test.YtjbggogbnckllaaDoorAh
import Derived.KernelRfl
import Derived.Test.YtjbggogbnckllaaDoorAr
import Derived.Test.YtjbggogbnckllaaDoorAk
import Derived.Test.YtjbggogbnckllaaDoorBsT
import Derived.ChangeSlices
import Derived.LaidMore
import Derived.LaidLaws
import Derived.LaidHandle
import Derived.MakeChecks
import Derived.OpenShut
import Derived.Lib.SmallJoins
import Derived.Deep.Slices
import Derived.Test.YtjbggogbnckllaaDoorAo
section
set_option maxRecDepth 100000
namespace Go.Proofs.YtjbggogbnckllaaDoor
open Go.RowKit
set_option linter.unusedVariables false
set_option linter.unusedSimpArgs false
/-- A text that has a plan, and no set in it. -/
structure TxOK (s : ByteArray) (p : Pl.Plan) : Prop where
  sz : s.size ≤ 4000
  cls : ∀ i, i < s.size → Lx.at_ s i = 91 → ClassOK s i
  d : (Rd.read s).2.code = 0
  of : ∃ st, Pl.of (Rd.read s).1 = (p, 0, st)
  gz : GrSz (Rd.read s).1
  ok : Q.OK p
  cnt : Q.cnt p ≤ 1000
def grB (g : Rd.Gr) : Bool := (g.toks.all fun x => decide (x.pat.s.size ≤ 100000)) && (g.skips.all fun x => decide (x.s.size ≤ 100000)) && (g.levs.all fun x => decide (x.names.length ≤ 5002))
theorem txOK_of {s : ByteArray} (h1 : decide (s.size ≤ 4000) = true) (h2 : Pl.allN s.size (fun i => Lx.at_ s i != 91) = true) (h3 : (Rd.read s).2.code = 0) (h4 : (Pl.of (Rd.read s).1).2.1 = 0) (h5 : grB (Rd.read s).1 = true) (h6 : decide (Q.cnt (Pl.of (Rd.read s).1).1 ≤ 1000) = true) : TxOK s (Pl.of (Rd.read s).1).1 := by
  have hof : Pl.of (Rd.read s).1 = ((Pl.of (Rd.read s).1).1, 0, (Pl.of (Rd.read s).1).2.2) := by
    rw [← h4]
  refine ⟨of_decide_eq_true h1, fun i hi h => ?_, h3, ⟨_, hof⟩, ?_, Q.ok_of hof, of_decide_eq_true h6⟩
  · have := Pl.allN_true.1 h2 i hi
    rw [h] at this
    cases this
  · unfold grB at h5
    simp only [Bool.and_eq_true, List.all_eq_true, decide_eq_true_eq] at h5
    exact ⟨h5.1.1, h5.1.2, h5.2⟩
namespace Aw
def t1 : ByteArray := ⟨#[37, 116, 111, 107, 101, 110, 32, 97, 32, 34, 97, 34, 32, 37, 116, 111, 107, 101, 110, 32, 98, 32, 34, 98, 34, 32, 37, 37, 32, 83, 32, 58, 32, 97, 32, 84, 32, 59, 32, 84, 32, 58, 32, 84, 32, 98, 32, 59]⟩
def p1 : Pl.Plan := (Pl.of (Rd.read t1).1).1
def t2 : ByteArray := ⟨#[37, 116, 111, 107, 101, 110, 32, 97, 32, 34, 97, 34, 32, 37, 116, 111, 107, 101, 110, 32, 98, 32, 34, 98, 34, 32, 37, 37, 32, 83, 32, 58, 32, 97, 32, 59, 32, 84, 32, 58, 32, 98, 32, 59]⟩
def p2 : Pl.Plan := (Pl.of (Rd.read t2).1).1
def t3 : ByteArray := ⟨#[37, 116, 111, 107, 101, 110, 32, 97, 32, 34, 97, 34, 32, 37, 116, 111, 107, 101, 110, 32, 98, 32, 34, 98, 34, 32, 37, 37, 32, 83, 32, 58, 32, 97, 32, 83, 32, 98, 32, 124, 32, 59]⟩
def p3 : Pl.Plan := (Pl.of (Rd.read t3).1).1
def t4 : ByteArray := ⟨#[37, 116, 111, 107, 101, 110, 32, 97, 32, 34, 97, 34, 32, 37, 116, 111, 107, 101, 110, 32, 98, 32, 34, 98, 34, 32, 37, 37, 32, 83, 32, 58, 32, 84, 32, 97, 32, 59, 32, 84, 32, 58, 32, 98, 32, 84, 32, 124, 32, 59]⟩
def p4 : Pl.Plan := (Pl.of (Rd.read t4).1).1
set_option maxRecDepth 100000
theorem ok1 : TxOK t1 p1 := txOK_of (by kernel_rfl) (by kernel_rfl) (by kernel_rfl) (by kernel_rfl) (by kernel_rfl) (by kernel_rfl)
theorem ok2 : TxOK t2 p2 := txOK_of (by kernel_rfl) (by kernel_rfl) (by kernel_rfl) (by kernel_rfl) (by kernel_rfl) (by kernel_rfl)
theorem ok3 : TxOK t3 p3 := txOK_of (by kernel_rfl) (by kernel_rfl) (by kernel_rfl) (by kernel_rfl) (by kernel_rfl) (by kernel_rfl)
theorem ok4 : TxOK t4 p4 := txOK_of (by kernel_rfl) (by kernel_rfl) (by kernel_rfl) (by kernel_rfl) (by kernel_rfl) (by kernel_rfl)
theorem ch1 : Q.check p1 = (3, 18) := by kernel_rfl
theorem ch2 : Q.check p2 = (4, 17) := by kernel_rfl
theorem ch3 : Q.check p3 = (0, 0) := by kernel_rfl
theorem cn3 : Q.cnt p3 = 5 := by kernel_rfl
theorem ln3 : (List.range 5).map (fun i => (Q.lens p3).long i) = [1, 1, 1, 0, 0] := by kernel_rfl
theorem sa3 : Q.sent p3 3 = [] := by kernel_rfl
theorem sb3 : Q.sent p3 1 = [1] := by kernel_rfl
theorem vr4 : p4.vars.length = 2 := by kernel_rfl
theorem tm4 : p4.terms.length = 3 := by kernel_rfl
theorem nl4 : (List.range 3).map (Fi.fs p4).1.null = [false, true, false] := by kernel_rfl
theorem fa4 : Bs.lst 3 ((Fi.fs p4).1.fst 0) = [1, 2] := by kernel_rfl
theorem fb4 : Bs.lst 3 ((Fi.fs p4).1.fst 1) = [2] := by kernel_rfl
theorem oa4 : Bs.lst 3 (Fi.fol p4 0) = [0] := by kernel_rfl
theorem ob4 : Bs.lst 3 (Fi.fol p4 1) = [1] := by kernel_rfl
end Aw
end Go.Proofs.YtjbggogbnckllaaDoor
end

section
set_option maxRecDepth 100000
namespace Go.Proofs.YtjbggogbnckllaaDoor
open Go.RowKit
set_option linter.unusedVariables false
set_option linter.unusedSimpArgs false
/-- The zero small grammar. -/
theorem smV_zero (w : World) : SmV w (.agg #[.int .u8 0, .int .u8 0, .slice none 0 0, .slice none 0 0, .slice none 0 0, .slice none 0 0, .slice none 0 0]) ⟨0, 0, [], [], [], [], []⟩ :=
  ⟨none, none, none, none, none, 0, 0, 0, 0, 0, rfl, by decide, by decide, fun i h => absurd h (Nat.not_lt_zero _), fun i h => absurd h (Nat.not_lt_zero _), fun i h => absurd h (Nat.not_lt_zero _), fun i h => absurd h (Nat.not_lt_zero _), fun i h => absurd h (Nat.not_lt_zero _)⟩
theorem Arr.ints {w : World} {g n : Nat} {f : Nat → Int} (h : Arr w g n f) : Ints w (some ⟨g, 0, none⟩) ((List.range n).map f) := by
  intro i hi
  have hi' : i < n := by simpa using hi
  refine ⟨g, 0, rfl, ?_⟩
  rw [Nat.zero_add, h.cell hi']
  simp
/-- A made row of numbers. -/
theorem ints_new (w : World) (l : List Int) : Ints (w.alloc (.cells (intV l).toArray 3)) (some ⟨w.heap.size, 0, none⟩) l := by
  intro i hi
  refine ⟨_, _, rfl, ?_⟩
  rw [cell_of_row _ _ _ _ _ _ (heap_alloc_new w _), Nat.zero_add]
  simp [intV, hi]
set_option maxRecDepth 100000 in
set_option maxHeartbeats 16000000 in
theorem awake09_any (w : World) (hT : Tab w) : Calls Tryd.prog 29 #[] w fun e w' => e = .returned (.bool true) ∧ Below w.heap.size w w' := by
  have HT0 := Lib.hid hT
  have HB0 := Lib.hid (Below.refl w.heap.size w)
  have H1 := fun W => of09_text (smV_zero W) Aw.ok1.sz Aw.ok1.cls Aw.ok1.d Aw.ok1.of.choose_spec Aw.ok1.gz
  have H2 := fun W => of09_text (smV_zero W) Aw.ok2.sz Aw.ok2.cls Aw.ok2.d Aw.ok2.of.choose_spec Aw.ok2.gz
  have H3 := fun W => of09_text (smV_zero W) Aw.ok3.sz Aw.ok3.cls Aw.ok3.d Aw.ok3.of.choose_spec Aw.ok3.gz
  clear hT
  go_enter Tryd.func29, Tryd.ntmps29
  go_wp2_with fail
  refine (H1 _).mono ?_
  rintro e w1 ⟨v, rfl, hv, k⟩
  obtain ⟨ta1, tc1, va1, vc1, ra1, rc1, la1, lc1, aa1, ac1, ca1, cc1, rfl, hv⟩ := hv
  have P1 := Lib.hid (PB.new (tc := tc1) (vc := vc1) (rc := rc1) (lc := lc1) (ac := ac1) (cc := cc1) hv)
  unfold pnC at P1
  have AL := (Below.refl w1.heap.size w1).alloc (Nat.le_refl _) (.cells #[.slice ta1 Aw.p1.terms.length tc1, .slice va1 Aw.p1.vars.length vc1, .slice ra1 Aw.p1.rules.length rc1, .slice la1 Aw.p1.levels.length lc1, .slice aa1 Aw.p1.assocs.length ac1, .slice ca1 Aw.p1.acts.length cc1] 32)
  have HB1 := Lib.hid ((HB0.out.trans (k.mono HB0.out.size)).trans (AL.mono (by have := HB0.out.size; have := k.size; omega)))
  clear H1 k AL hv HB0
  go_wp2_with fail
  refine (H2 _).mono ?_
  rintro e w2 ⟨v, rfl, hv, k⟩
  obtain ⟨ta2, tc2, va2, vc2, ra2, rc2, la2, lc2, aa2, ac2, ca2, cc2, rfl, hv⟩ := hv
  have P2 := Lib.hid (PB.new (tc := tc2) (vc := vc2) (rc := rc2) (lc := lc2) (ac := ac2) (cc := cc2) hv)
  unfold pnC at P2
  have AL := (Below.refl w2.heap.size w2).alloc (Nat.le_refl _) (.cells #[.slice ta2 Aw.p2.terms.length tc2, .slice va2 Aw.p2.vars.length vc2, .slice ra2 Aw.p2.rules.length rc2, .slice la2 Aw.p2.levels.length lc2, .slice aa2 Aw.p2.assocs.length ac2, .slice ca2 Aw.p2.acts.length cc2] 32)
  replace P1 := Lib.hid ((P1.out.below k).below AL)
  have HB2 := Lib.hid ((HB1.out.trans (k.mono HB1.out.size)).trans (AL.mono (by have := HB1.out.size; have := k.size; omega)))
  clear H2 k AL hv HB1
  go_wp2_with fail
  refine (H3 _).mono ?_
  rintro e w3 ⟨v, rfl, hv, k⟩
  obtain ⟨ta3, tc3, va3, vc3, ra3, rc3, la3, lc3, aa3, ac3, ca3, cc3, rfl, hv⟩ := hv
  have P3 := Lib.hid (PB.new (tc := tc3) (vc := vc3) (rc := rc3) (lc := lc3) (ac := ac3) (cc := cc3) hv)
  unfold pnC at P3
  have AL := (Below.refl w3.heap.size w3).alloc (Nat.le_refl _) (.cells #[.slice ta3 Aw.p3.terms.length tc3, .slice va3 Aw.p3.vars.length vc3, .slice ra3 Aw.p3.rules.length rc3, .slice la3 Aw.p3.levels.length lc3, .slice aa3 Aw.p3.assocs.length ac3, .slice ca3 Aw.p3.acts.length cc3] 32)
  replace P1 := Lib.hid ((P1.out.below k).below AL)
  replace P2 := Lib.hid ((P2.out.below k).below AL)
  have HB3 := Lib.hid ((HB2.out.trans (k.mono HB2.out.size)).trans (AL.mono (by have := HB2.out.size; have := k.size; omega)))
  clear H3 k AL hv HB2
  have HT3 := Lib.hid (HT0.out.below HB3.out)
  have H4 := fun W (h : PnV W (.agg #[.slice ta1 Aw.p1.terms.length tc1, .slice va1 Aw.p1.vars.length vc1, .slice ra1 Aw.p1.rules.length rc1, .slice la1 Aw.p1.levels.length lc1, .slice aa1 Aw.p1.assocs.length ac1, .slice ca1 Aw.p1.acts.length cc1]) Aw.p1) (ht : Tab W) => check_any h Aw.ok1.ok Aw.ok1.cnt ht
  have H5 := fun W (h : PnV W (.agg #[.slice ta2 Aw.p2.terms.length tc2, .slice va2 Aw.p2.vars.length vc2, .slice ra2 Aw.p2.rules.length rc2, .slice la2 Aw.p2.levels.length lc2, .slice aa2 Aw.p2.assocs.length ac2, .slice ca2 Aw.p2.acts.length cc2]) Aw.p2) (ht : Tab W) => check_any h Aw.ok2.ok Aw.ok2.cnt ht
  have H6 := fun W (h : PnV W (.agg #[.slice ta3 Aw.p3.terms.length tc3, .slice va3 Aw.p3.vars.length vc3, .slice ra3 Aw.p3.rules.length rc3, .slice la3 Aw.p3.levels.length lc3, .slice aa3 Aw.p3.assocs.length ac3, .slice ca3 Aw.p3.acts.length cc3]) Aw.p3) (ht : Tab W) => check_any h Aw.ok3.ok Aw.ok3.cnt ht
  rw [Aw.ch1] at H4
  rw [Aw.ch2] at H5
  rw [Aw.ch3] at H6
  have H7 := fun W (h : PnV W (.agg #[.slice ta3 Aw.p3.terms.length tc3, .slice va3 Aw.p3.vars.length vc3, .slice ra3 Aw.p3.rules.length rc3, .slice la3 Aw.p3.levels.length lc3, .slice aa3 Aw.p3.assocs.length ac3, .slice ca3 Aw.p3.acts.length cc3]) Aw.p3) => shortest_any h Aw.ok3.ok
  rw [Aw.cn3] at H7
  have c10 := P1.out.c0
  have c11 := P1.out.c1
  have c12 := P1.out.c2
  have c13 := P1.out.c3
  have c14 := P1.out.c4
  have c15 := P1.out.c5
  go_wp2_with fail
  generalize w3.alloc (.cells #[.slice ta3 Aw.p3.terms.length tc3, .slice va3 Aw.p3.vars.length vc3, .slice ra3 Aw.p3.rules.length rc3, .slice la3 Aw.p3.levels.length lc3, .slice aa3 Aw.p3.assocs.length ac3, .slice ca3 Aw.p3.acts.length cc3] 32) = V at P1 P2 P3 HB3 HT3 c10 c11 c12 c13 c14 c15 ⊢
  refine (H4 _ ⟨ta1, tc1, va1, vc1, ra1, rc1, la1, lc1, aa1, ac1, ca1, cc1, rfl, P1.out.a⟩ HT3.out).mono ?_
  rintro e w4 ⟨rfl, k⟩
  replace P1 := Lib.hid (P1.out.below k)
  replace P2 := Lib.hid (P2.out.below k)
  replace P3 := Lib.hid (P3.out.below k)
  have HB4 := Lib.hid (HB3.out.trans (k.mono HB3.out.size))
  have HT4 := Lib.hid (HT3.out.below k)
  clear c10 c11 c12 c13 c14 c15 H4 k HB3 HT3
  have c20 := P2.out.c0
  have c21 := P2.out.c1
  have c22 := P2.out.c2
  have c23 := P2.out.c3
  have c24 := P2.out.c4
  have c25 := P2.out.c5
  go_wp2_with fail
  refine (H5 _ ⟨ta2, tc2, va2, vc2, ra2, rc2, la2, lc2, aa2, ac2, ca2, cc2, rfl, P2.out.a⟩ HT4.out).mono ?_
  rintro e w5 ⟨rfl, k⟩
  replace P2 := Lib.hid (P2.out.below k)
  replace P3 := Lib.hid (P3.out.below k)
  have HB5 := Lib.hid (HB4.out.trans (k.mono HB4.out.size))
  have HT5 := Lib.hid (HT4.out.below k)
  clear c20 c21 c22 c23 c24 c25 H5 k HB4 HT4
  have c30 := P3.out.c0
  have c31 := P3.out.c1
  have c32 := P3.out.c2
  have c33 := P3.out.c3
  have c34 := P3.out.c4
  have c35 := P3.out.c5
  go_wp2_with fail
  refine (H6 _ ⟨ta3, tc3, va3, vc3, ra3, rc3, la3, lc3, aa3, ac3, ca3, cc3, rfl, P3.out.a⟩ HT5.out).mono ?_
  rintro e w6 ⟨rfl, k⟩
  replace P3 := Lib.hid (P3.out.below k)
  have HB6 := Lib.hid (HB5.out.trans (k.mono HB5.out.size))
  have HT6 := Lib.hid (HT5.out.below k)
  clear c30 c31 c32 c33 c34 c35 H6 k HB5 HT5
  clear P1 P2
  have c30 := P3.out.c0
  have c31 := P3.out.c1
  have c32 := P3.out.c2
  have c33 := P3.out.c3
  have c34 := P3.out.c4
  have c35 := P3.out.c5
  go_wp2_with fail
  refine (H7 _ ⟨ta3, tc3, va3, vc3, ra3, rc3, la3, lc3, aa3, ac3, ca3, cc3, rfl, P3.out.a⟩).mono ?_
  rintro e w7 ⟨g1, rfl, ha, _, k⟩
  have hi := ha.ints
  rw [Aw.ln3] at hi
  have AL := (Below.refl w7.heap.size w7).alloc (Nat.le_refl _) (.cells #[.int .i64 1, .int .i64 1, .int .i64 1, .int .i64 0, .int .i64 0] 3)
  have hin := ints_new w7 [1, 1, 1, 0, 0]
  have hint := ints_any _ _ _ _ 5 5 _ (hi.below AL) hin (by decide) (by decide)
  change Calls _ _ #[.slice _ 5 5, .slice _ 5 5] (w7.alloc (.cells #[.int .i64 1, .int .i64 1, .int .i64 1, .int .i64 0, .int .i64 0] 3)) (fun e w' => e = .returned (.bool true) ∧ _) at hint
  have k2 := (HB6.out.trans (k.mono HB6.out.size))
  have HB7 := Lib.hid (k2.trans (AL.mono k2.size))
  have P7 := Lib.hid ((P3.out.below k).below AL)
  clear c30 c31 c32 c33 c34 c35 H7 ha hi AL hin k k2 P3 HB6
  go_wp2_with fail
  refine hint.mono ?_
  rintro e w8 ⟨rfl, k⟩
  have P8 := Lib.hid (P7.out.below k)
  have HB8 := Lib.hid (HB7.out.trans (k.mono HB7.out.size))
  clear hint k P7 HB7
  have hs3 := sentence9_any 3 (show PnV w8 (.agg #[.slice ta3 Aw.p3.terms.length tc3, .slice va3 Aw.p3.vars.length vc3, .slice ra3 Aw.p3.rules.length rc3, .slice la3 Aw.p3.levels.length lc3, .slice aa3 Aw.p3.assocs.length ac3, .slice ca3 Aw.p3.acts.length cc3]) Aw.p3 from ⟨ta3, tc3, va3, vc3, ra3, rc3, la3, lc3, aa3, ac3, ca3, cc3, rfl, P8.out.a⟩) Aw.ok3.ok
  rw [Aw.sa3] at hs3
  have c30 := P8.out.c0
  have c31 := P8.out.c1
  have c32 := P8.out.c2
  have c33 := P8.out.c3
  have c34 := P8.out.c4
  have c35 := P8.out.c5
  go_wp2_with fail
  refine hs3.mono ?_
  rintro e w9 ⟨na, nc, rfl, _, k⟩
  simp only [List.length_nil]
  have P9 := Lib.hid (P8.out.below k)
  have HB9 := Lib.hid (HB8.out.trans (k.mono HB8.out.size))
  clear c30 c31 c32 c33 c34 c35 hs3 k P8 HB8
  have hs4 := sentence9_any 1 (show PnV w9 (.agg #[.slice ta3 Aw.p3.terms.length tc3, .slice va3 Aw.p3.vars.length vc3, .slice ra3 Aw.p3.rules.length rc3, .slice la3 Aw.p3.levels.length lc3, .slice aa3 Aw.p3.assocs.length ac3, .slice ca3 Aw.p3.acts.length cc3]) Aw.p3 from ⟨ta3, tc3, va3, vc3, ra3, rc3, la3, lc3, aa3, ac3, ca3, cc3, rfl, P9.out.a⟩) Aw.ok3.ok
  rw [Aw.sb3] at hs4
  have c30 := P9.out.c0
  have c31 := P9.out.c1
  have c32 := P9.out.c2
  have c33 := P9.out.c3
  have c34 := P9.out.c4
  have c35 := P9.out.c5
  go_wp2_with fail
  refine hs4.mono ?_
  rintro e w10 ⟨nb, nd, rfl, hi, k⟩
  simp only [List.length_singleton]
  have AL := (Below.refl w10.heap.size w10).alloc (Nat.le_refl _) (.cells #[.int .i64 1] 3)
  have hin := ints_new w10 [1]
  have hint := ints_any _ _ _ _ nd 1 _ (hi.below AL) hin (by decide) (by decide)
  change Calls _ _ #[.slice _ 1 _, .slice _ 1 1] (w10.alloc (.cells #[.int .i64 1] 3)) (fun e w' => e = .returned (.bool true) ∧ _) at hint
  have k2 := (HB9.out.trans (k.mono HB9.out.size))
  have HB10 := Lib.hid (k2.trans (AL.mono k2.size))
  clear c30 c31 c32 c33 c34 c35 hs4 k AL hin hi P9 HB9 k2
  go_wp2_with fail
  refine hint.mono ?_
  rintro e w11 ⟨rfl, k⟩
  have HB11 := Lib.hid (HB10.out.trans (k.mono HB10.out.size))
  clear hint k HB10
  go_wp2_with fail
  go_ret
  exact ⟨rfl, HB11.out⟩
end Go.Proofs.YtjbggogbnckllaaDoor
end

section
set_option maxRecDepth 100000
namespace Go.Proofs.YtjbggogbnckllaaDoor
open Go.RowKit Go.ChangeShapes Go.WideShapes Go.Deep Go.Joins
set_option linter.unusedVariables false

theorem ints_open {H : Type} {enc : TypeId × Value → H} {W : World} {fuel : Nat} {cs : List Value} {x : DataW H × List MemPlace}
    (h : DataW.trod enc Tryd.prog W 0 (fun _ => true) true fuel 30 cs = some x) :
    ∃ a l cap, cs = [.slice a l.length cap] ∧ Ints W a l ∧ l.length ≤ maxLen ∧ (∀ i ∈ l, (Lit.int .i64 i).wf = true) := by
  rcases open_ints Tryd.underlying30 Tryd.underlying3 (by kernel_rfl) h with ⟨rfl, rfl⟩ | ⟨a, len, cap, zs, rfl, _, hl, hm, hz, rfl, hc, hwf⟩
  · exact ⟨none, [], 0, rfl, fun i hi => absurd hi (by simp), by simp, fun i hi => by cases hi⟩
  have hzl : zs.length = cap := by rw [hz]; simp
  have hlen : (zs.take len).length = len := by rw [List.length_take]; omega
  refine ⟨some a, zs.take len, cap, by rw [hlen], fun i hi => ?_, by rw [hlen]; omega, fun i hi => hwf i (List.mem_of_mem_take hi)⟩
  rw [hlen] at hi
  have hci := hc i (by omega)
  have hs : a.spot = none := by
    have this := hc 0 (by omega)
    simp [Addr.add] at this
    unfold World.cell? at this
    split at this
    · split at this
      · simp at this
      · rename_i h; simpa using h
    · simp at this
  obtain ⟨b, off, sp⟩ := a
  simp only at hs
  subst hs
  refine ⟨b, off, rfl, ?_⟩
  have e : (⟨b, off, none⟩ : Addr).add i = ⟨b, off + i, none⟩ := by
    unfold Addr.add
    split <;> simp_all
  rw [e] at hci
  have hg : zs.getD i 0 = (zs.take len)[i]'(by rw [hlen]; exact hi) := by
    rw [List.getElem_take, List.getD_eq_getElem?_getD, List.getElem?_eq_getElem (by omega)]
    rfl
  rw [← hg]
  exact hci
theorem spot_none {W : World} {a : Addr} {v : Value} (h0 : W.cell? (a.add 0) = some v) : a.spot = none := by
  have this := h0
  clear h0
  simp [Addr.add] at this
  unfold World.cell? at this
  split at this
  · split at this
    · simp at this
    · rename_i h; simpa using h
  · simp at this
theorem byts_open {H : Type} {enc : TypeId × Value → H} {W : World} {fuel : Nat} {cs : List Value} {x : DataW H × List MemPlace}
    (h : DataW.trod enc Tryd.prog W 0 (fun _ => true) true fuel 22 cs = some x) : ∃ a l cap, cs = [.slice a l.length cap] ∧ Byts W a l ∧ l.length ≤ maxLen := by
  rcases open_slice Tryd.underlying22 h with ⟨rfl, rfl⟩ | ⟨a, len, cap, m, n, D, PL, rfl, hb, hl, hm, hmm, rfl, hx⟩
  · exact ⟨none, [], 0, rfl, fun i hi => absurd hi (by simp), by simp⟩
  have hc : Tryd.prog.cellsOf 5 = 1 := by kernel_rfl
  simp only [if_true] at hmm
  obtain ⟨f, hf⟩ := choose_lt (n := len) (p := fun i (k : Nat) => W.cell? (a.add i) = some (.int .u8 (k : Nat)) ∧ k < 256) (fun i hi => by
    obtain ⟨cs', h1, h2⟩ := hx i (by omega)
    rw [hc, Nat.mul_one] at h1
    obtain ⟨_, hlen, hcell⟩ := World.cells?_some h1
    obtain ⟨k, e1, _, hw⟩ := DataW.trod_int Tryd.underlying5 h2
    have hc0 := hcell 0 (by omega)
    simp only [e1, add_add, Nat.add_zero] at hc0
    have hw' : 0 ≤ k ∧ k < 256 := by
      simp [Lit.wf] at hw
      have m0 : IntKind.u8.min = 0 := by decide
      have m1 : IntKind.u8.max = 255 := by decide
      omega
    refine ⟨k.toNat, ?_, by omega⟩
    rw [hc0]
    simp [Int.toNat_of_nonneg hw'.1])
  refine ⟨some a, (List.range len).map f, cap, by simp, fun i hi => ?_, by simp; omega⟩
  have hi' : i < len := by simpa using hi
  have hs := spot_none (W := W) (a := a) (hf 0 (by omega)).1
  obtain ⟨b, off, sp⟩ := a
  simp only at hs
  subst hs
  obtain ⟨h1, h2⟩ := hf i hi'
  rw [Addr.add_lit] at h1
  refine ⟨b, off, rfl, ?_, ?_⟩
  · simpa using h1
  · simpa using h2
theorem rts_open {H : Type} {enc : TypeId × Value → H} {W : World} {fuel : Nat} {cs : List Value} {x : DataW H × List MemPlace}
    (h : DataW.trod enc Tryd.prog W 0 (fun _ => true) true fuel 23 cs = some x) : ∃ a l cap, cs = [.slice a l.length cap] ∧ Rts W a l ∧ l.length ≤ maxLen ∧ ∀ x ∈ l, x.length ≤ maxLen := by
  rcases open_slice Tryd.underlying23 h with ⟨rfl, rfl⟩ | ⟨a, len, cap, m, n, D, PL, rfl, hb, hl, hm, hmm, rfl, hx⟩
  · exact ⟨none, [], 0, rfl, fun i hi => absurd hi (by simp), by simp, fun x hx => by cases hx⟩
  have hc : Tryd.prog.cellsOf 22 = 1 := by kernel_rfl
  simp only [if_true] at hmm
  obtain ⟨f, hf⟩ := choose_lt (n := len) (p := fun i (k : List Nat) => (∃ na nc, W.cell? (a.add i) = some (.slice na k.length nc) ∧ Byts W na k) ∧ k.length ≤ maxLen) (fun i hi => by
    obtain ⟨cs', h1, h2⟩ := hx i (by omega)
    rw [hc, Nat.mul_one] at h1
    obtain ⟨_, hlen, hcell⟩ := World.cells?_some h1
    obtain ⟨na, k, nc, e1, hk, hkl⟩ := byts_open h2
    have hc0 := hcell 0 (by omega)
    simp only [e1, add_add, Nat.add_zero] at hc0
    exact ⟨k, ⟨na, nc, by rw [hc0]; rfl, hk⟩, hkl⟩)
  refine ⟨some a, (List.range len).map f, cap, by simp, fun i hi => ?_, by simp; omega, fun x hx => ?_⟩
  · have hi' : i < len := by simpa using hi
    obtain ⟨⟨_, _, hf0, _⟩, _⟩ := hf 0 (by omega)
    have hs := spot_none (W := W) (a := a) hf0
    obtain ⟨b, off, sp⟩ := a
    simp only at hs
    subst hs
    obtain ⟨⟨na, nc, h1, h2⟩, _⟩ := hf i hi'
    rw [Addr.add_lit] at h1
    simp only [List.getElem_map, List.getElem_range]
    exact ⟨b, off, na, nc, rfl, h1, h2⟩
  · obtain ⟨i, hi, rfl⟩ := List.mem_map.1 hx
    exact (hf i (List.mem_range.1 hi)).2
theorem array7 {α : Type} {cs : Array α} (h : cs.size = 7) : ∃ c0 c1 c2 c3 c4 c5 c6, cs = #[c0, c1, c2, c3, c4, c5, c6] := by
  obtain ⟨l⟩ := cs
  match l, h with
  | [c0, c1, c2, c3, c4, c5, c6], _ => exact ⟨c0, c1, c2, c3, c4, c5, c6, rfl⟩
set_option maxRecDepth 100000 in
set_option linter.constructorNameAsVariable false in
theorem small_open {H : Type} {enc : TypeId × Value → H} {W : World} {b0 : Nat} {v : Value} {d : DataW H} {p : List MemPlace}
    (hv : Value.okWide Tryd.prog W .any b0 25 v) (h : DataW.Trod enc Tryd.prog W 0 (fun _ => true) true 25 v d p) : ∃ s, SmV W v s ∧ SmSz s := by
  obtain ⟨fs, hs⟩ : ∃ fs, Tryd.prog.underlying 25 = some (.struct fs) := ⟨_, Tryd.underlying25⟩
  clear hs fs
  obtain ⟨cs, rfl, hsz⟩ := okWide_struct Tryd.underlying25 hv
  have hC : Tryd.prog.cellsOf 25 = 7 := by kernel_rfl
  obtain ⟨c0, c1, c2, c3, c4, c5, c6, rfl⟩ := array7 (hsz.trans hC)
  obtain ⟨fuel, hf⟩ := h
  obtain ⟨xs, n, _, hx, hl, hlen, hfl⟩ := DataW.trod_struct Tryd.underlying25 hf
  have k5 : Tryd.prog.cellsOf 5 = 1 := by kernel_rfl
  have k22 : Tryd.prog.cellsOf 22 = 1 := by kernel_rfl
  have k23 : Tryd.prog.cellsOf 23 = 1 := by kernel_rfl
  have f0 : DataW.trod enc Tryd.prog W 0 (fun _ => true) true n 5 [c0] = xs[0]? := by
    have := hfl 0 _ rfl
    simpa [Value.cells, k5] using this
  have f1 : DataW.trod enc Tryd.prog W 0 (fun _ => true) true n 5 [c1] = xs[1]? := by
    have := hfl 1 _ rfl
    simpa [Value.cells, k5] using this
  have f2 : DataW.trod enc Tryd.prog W 0 (fun _ => true) true n 22 [c2] = xs[2]? := by
    have := hfl 2 _ rfl
    simpa [Value.cells, k22] using this
  have f3 : DataW.trod enc Tryd.prog W 0 (fun _ => true) true n 23 [c3] = xs[3]? := by
    have := hfl 3 _ rfl
    simpa [Value.cells, k23] using this
  have f4 : DataW.trod enc Tryd.prog W 0 (fun _ => true) true n 22 [c4] = xs[4]? := by
    have := hfl 4 _ rfl
    simpa [Value.cells, k22] using this
  have f5 : DataW.trod enc Tryd.prog W 0 (fun _ => true) true n 22 [c5] = xs[5]? := by
    have := hfl 5 _ rfl
    simpa [Value.cells, k22] using this
  have f6 : DataW.trod enc Tryd.prog W 0 (fun _ => true) true n 22 [c6] = xs[6]? := by
    have := hfl 6 _ rfl
    simpa [Value.cells, k22] using this
  have hlen7 : xs.length = 7 := hlen
  rw [List.getElem?_eq_getElem (by omega : 0 < xs.length)] at f0
  rw [List.getElem?_eq_getElem (by omega : 1 < xs.length)] at f1
  rw [List.getElem?_eq_getElem (by omega : 2 < xs.length)] at f2
  rw [List.getElem?_eq_getElem (by omega : 3 < xs.length)] at f3
  rw [List.getElem?_eq_getElem (by omega : 4 < xs.length)] at f4
  rw [List.getElem?_eq_getElem (by omega : 5 < xs.length)] at f5
  rw [List.getElem?_eq_getElem (by omega : 6 < xs.length)] at f6
  obtain ⟨t, e0, _, w0⟩ := DataW.trod_int Tryd.underlying5 f0
  obtain ⟨u, e1, _, w1⟩ := DataW.trod_int Tryd.underlying5 f1
  obtain ⟨a2, l2, p2, e2, h2, n2⟩ := byts_open f2
  obtain ⟨a3, l3, p3, e3, h3, n3, m3⟩ := rts_open f3
  obtain ⟨a4, l4, p4, e4, h4, n4⟩ := byts_open f4
  obtain ⟨a5, l5, p5, e5, h5, n5⟩ := byts_open f5
  obtain ⟨a6, l6, p6, e6, h6, n6⟩ := byts_open f6
  simp only [List.cons.injEq, and_true] at e0 e1 e2 e3 e4 e5 e6
  subst e0 e1 e2 e3 e4 e5 e6
  have m0 : IntKind.u8.min = 0 := by decide
  have m1 : IntKind.u8.max = 255 := by decide
  simp [Lit.wf] at w0 w1
  obtain ⟨t, rfl⟩ : ∃ k : Nat, t = k := ⟨t.toNat, by omega⟩
  obtain ⟨u, rfl⟩ : ∃ k : Nat, u = k := ⟨u.toNat, by omega⟩
  unfold maxLen at n2 n3 n4 n5 n6 m3
  refine ⟨⟨t, u, l2, l3, l4, l5, l6⟩, ⟨a2, a3, a4, a5, a6, p2, p3, p4, p5, p6, rfl, ?_⟩, ?_⟩
  · exact ⟨by show t < 256; omega, by show u < 256; omega, h2, h3, h4, h5, h6⟩
  · exact ⟨by show l2.length ≤ _; omega, by show l3.length ≤ _; omega, by show l4.length ≤ _; omega, by show l5.length ≤ _; omega, by show l6.length ≤ _; omega, fun x hx => by have := m3 x hx; omega⟩
theorem gTab : Tryd.prog.globalNamed "math/bits.deBruijn64tab" = some 0 := by kernel_rfl
theorem tTab : (Tryd.prog.globals[0]?).map (·.type) = some 160 := by kernel_rfl

abbrev laidAll : List (String × DataW Unit) := [("math/bits.deBruijn64tab", Rows.laid_math_bits_deBruijn64tab)]
set_option maxRecDepth 100000 in
theorem datum_eq : (Rows.laid_math_bits_deBruijn64tab : DataW Unit) = .agg (Lib.deBruijn64tab.map fun k => .lit (.int .u8 (k : Nat))) := by rfl

set_option maxRecDepth 100000 in
/-- What the row's condition gives the walks. -/
theorem tab_of_laid {W : World} (h : laidMetH Tryd.prog laidAll W) : Tab W := by
  rw [MakeChecks.laidMetH_plain _ _ _ (by kernel_rfl)] at h
  obtain ⟨ps, ⟨g, t, cs, f, p, q, hg, ht, hv, hd, _, _⟩, _⟩ := h
  obtain rfl := Option.some.inj (gTab.symm.trans hg)
  obtain rfl := Option.some.inj (tTab.symm.trans ht)
  obtain ⟨xs, m, rfl, hx, hlen, hn, hel⟩ := DataW.trod_array Tryd.underlying160 hd
  have c1 : Tryd.prog.cellsOf 5 = 1 := by kernel_rfl
  have c64 : Tryd.prog.cellsOf 160 = 64 := by kernel_rfl
  rw [c64] at hlen
  intro j hj
  have hj1 := hel j hj
  rw [c1, Nat.mul_one] at hj1
  have hdj : (cs.toList.drop j).take 1 = [cs.toList[j]] := by
    rw [List.drop_eq_getElem_cons (by omega)]
    rfl
  rw [hdj, List.getElem?_eq_getElem (by omega)] at hj1
  obtain ⟨k, e1, e2, _⟩ := DataW.trod_int Tryd.underlying5 hj1
  simp only [Prod.mk.injEq] at hx
  have hmap := hx.1
  rw [datum_eq] at hmap
  injection hmap with hmap
  have hat := congrArg (fun l => l[j]?) hmap
  have h64 : Lib.deBruijn64tab.length = 64 := by decide
  simp only [List.getElem?_map] at hat
  rw [List.getElem?_eq_getElem (by omega : j < Lib.deBruijn64tab.length), List.getElem?_eq_getElem (by omega : j < xs.length)] at hat
  simp only [Option.map_some, Option.some.injEq] at hat
  rw [e2] at hat
  simp only [DataW.lit.injEq, Lit.int.injEq, true_and] at hat
  have hcell := World.var?_cell hg hv j
  rw [hcell]
  have hc : cs[j]? = some cs.toList[j] := by rw [← Array.getElem?_toList]; exact List.getElem?_eq_getElem _
  rw [hc]
  simp only [List.cons.injEq, and_true] at e1
  rw [e1, ← hat, List.getD_eq_getElem?_getD, List.getElem?_eq_getElem (by omega : j < Lib.deBruijn64tab.length)]
  rfl
end Go.Proofs.YtjbggogbnckllaaDoor
end

section
set_option maxRecDepth 100000
namespace Go.Proofs.YtjbggogbnckllaaDoor
open Go.RowKit
set_option linter.unusedVariables false
set_option linter.unusedSimpArgs false
theorem Pl.few_more {s : Pl.Sm} (h : Pl.few s 18 8 = true) : Pl.few s 20 8 = true := by
  unfold Pl.few at h ⊢
  simp only [Bool.and_eq_true, decide_eq_true_eq] at h ⊢
  exact ⟨⟨by omega, h.1.2⟩, h.2⟩
namespace Q
theorem cnt_of {g : Rd.Gr} {p : Pl.Plan} {s : ByteArray} (h : Pl.of g = (p, 0, s)) : cnt p ≤ 62 := by
  obtain ⟨F, _⟩ := ofF h
  obtain ⟨b1, b2, b3, b4⟩ := right_bounds F.right
  have hv : p.vars.length ≤ 40 := by
    have := vars_len g.rules g.rules.length (Nat.le_refl _)
    rw [List.take_length] at this
    rw [F.vars]; omega
  have ht : p.terms.length = g.toks.length + 1 := by rw [F.terms]; simp
  unfold cnt; omega
theorem rules_of {g : Rd.Gr} {p : Pl.Plan} {s : ByteArray} (h : Pl.of g = (p, 0, s)) : p.rules.length ≤ 41 ∧ ∀ r ∈ p.rules, r.right.length ≤ 8 := by
  obtain ⟨F, _⟩ := ofF h
  obtain ⟨b1, b2, b3, b4⟩ := right_bounds F.right
  refine ⟨by have := F.len; omega, fun r hr => ?_⟩
  obtain ⟨j, hj, e⟩ := List.getElem_of_mem hr
  cases j with
  | zero =>
    have h0 := F.r0
    rw [List.getElem?_eq_getElem hj] at h0
    rw [← e, Option.some.inj h0]
    simp
  | succ i =>
    have hi : i < g.rules.length := by have := F.len; omega
    obtain ⟨x, hx, hx2⟩ := F.r i hi
    rw [List.getElem?_eq_getElem hj] at hx2
    have ex : x = r := by rw [← e]; exact (Option.some.inj hx2).symm
    subst ex
    obtain ⟨_, e1, _, _⟩ := prod_ok hx
    have h1 := (rt_len e1).1
    have h2 := (b4 _ (List.getElem_mem hi)).1
    simp at h1
    omega
theorem plan_ok {s : Pl.Sm} (hf : Pl.few s 20 8 = true) : OK (Pl.plan s) ∧ cnt (Pl.plan s) ≤ 62 ∧ (Pl.plan s).rules.length ≤ 41 ∧ ∀ r ∈ (Pl.plan s).rules, r.right.length ≤ 8 :=
  ⟨ok_of (Pl.plan_of s hf), cnt_of (Pl.plan_of s hf), (rules_of (Pl.plan_of s hf)).1, (rules_of (Pl.plan_of s hf)).2⟩
theorem inI_ofB {f : Nat → Bool} {n i : Nat} (h : i < n) : inI (ofB f n) (i : Int) = f i := by
  unfold inI
  rw [Bool.eq_iff_iff, List.contains_iff_mem, mem_ofB]
  constructor
  · rintro ⟨j, _, hj, e⟩
    have : i = j := by omega
    subst this; exact hj
  · intro hc
    exact ⟨i, h, hc, rfl⟩
theorem inI_mem {l : List Int} {x : Int} (h : x ∈ l) : inI l x = true := by unfold inI; exact List.contains_iff_mem.2 h
theorem ofB_sorted (f : Nat → Bool) (n : Nat) : (ofB f n).Pairwise (· < ·) := by
  unfold ofB
  rw [List.pairwise_map]
  refine List.Pairwise.filter _ (List.pairwise_lt_range.imp fun h => ?_)
  omega
theorem sorted_at {l : List Int} (h : l.Pairwise (· < ·)) {i : Nat} (hi : i + 1 < l.length) : l[i] < l[i + 1] := List.pairwise_iff_getElem.1 h i (i + 1) (by omega) hi (by omega)
theorem rch_why {p : Pl.Plan} {i : Nat} (h : Rch p i) : i = cnt p - 1 ∨ ∃ r ∈ p.rules, Rch p r.left ∧ ∃ x ∈ r.right, x.toNat = i := by
  cases h with
  | start => exact .inl rfl
  | rule r hr hl x hx => exact .inr ⟨r, hr, hl, x, hx, rfl⟩
end Q
end Go.Proofs.YtjbggogbnckllaaDoor
end
