/-
  Walks of AppendSeq, Collect and List over a set's iterator.
-/
import Derived.Test.YtccmmilbnfiacaaDoorBsI
import Derived.Maps.AppendAt
namespace Go.Proofs.YtccmmilbnfiacaaDoor
open Go.RowKit Go.Shelf
set_option linter.unusedVariables false
attribute [local go_sem] Oper.semAt_some

theorem info3 : (Tryd.prog.info? 3).map (fun i => (i.zero, i.size, i.bytes)) = some (some (.int .i64 0), 1, 8) := by kernel_rfl
def cells (l : List Num) : List Value := l.map fun x => Value.int .i64 (x.1 : Nat)
theorem cells_snoc (l : List Num) (x : Num) : cells (l ++ [x]) = cells l ++ [.int .i64 (x.1 : Nat)] := by simp [cells]

def CollPost (w : World) (n X : Nat) (e : Ending) (w' : World) : Prop :=
  ∃ v ys, e = .returned v ∧ vals ys = Bs.lst n X ∧ w'.ownsRow w.heap.size 3 1 v ys.length (cells ys) ∧ Below w.heap.size w w'

set_option maxRecDepth 100000 in
set_option maxHeartbeats 4000000 in
theorem appendSeq_in (n' g b n X : Nat) (hn : 3 ≤ n') (w : World) (hI : Its w g b n X) :
    CallsIn Fence.wide n' Tryd.prog 40 #[.slice none 0 0, .func (.func 30) #[] #[.pointer (some ⟨g, 0, none⟩)]] w (CollPost w n X) := by
  have h1 : 1 ≤ n' := by omega
  obtain ⟨i0, hi, hz0, hz1, hz2⟩ := info_parts info3
  have hg : g < w.heap.size := by obtain ⟨_, e⟩ := hI.head; exact lt_of_block e
  have hb : b < w.heap.size := by obtain ⟨_, e, _⟩ := hI.row; exact lt_of_block e
  have ht := hI.tab.lt
  refine callsIn_of_wp_marks Tryd.func40 rfl trivial ?_ rfl
  simp only [Tryd.ntmps40, List.size_toArray, List.length_cons, List.length_nil, Nat.reduceAdd, Nat.reduceSub, Array.replicate_succ, Array.replicate_zero, List.push_toArray, List.append_toArray, List.nil_append, List.cons_append]
  gi_wp2
  have bO := Boxed.new w 22 (.slice none 0 0)
  have hB0 : Below w.heap.size w (w.alloc (.cells #[.slice none 0 0] 22)) := (Below.refl _ w).alloc (Nat.le_refl _) _
  refine wpIn_rangeFunc_ownG rfl h1 (gf := 30) (lb := #[.pointer (some ⟨g, 0, none⟩)]) rfl trivial (enters_of Tryd.func30 (by kernel_rfl) rfl)
    (each_stops (n' - 1) g b n X (by omega) _ (hI.below hB0)) (fun h k => Keep.trans h k) (keep_put (by rw [World.size_alloc]; omega) (by rw [World.size_alloc]; omega) (by rw [World.size_alloc]; omega)) (Below.refl _ _) (fun _ => rfl)
    (fun pre W => (∃ v, Boxed W w.heap.size 22 v ∧ W.ownsRow w.heap.size 3 1 v pre.length (cells pre) ∧ True) ∧ Below w.heap.size w W)
    (fun _ _ _ => False)
    (OwnFrom.and (Own.from (holdsRow_own w.heap.size w.heap.size 22 3 1 (fun pre => pre.length) (fun pre => cells pre) (fun pre v => True)) _) (ownFrom_below (Nat.le_refl _) (by simp)))
    (fun _ _ _ _ _ hs _ _ => hs)
    ⟨⟨_, bO, World.ownsRow_nil _ _ _ _, trivial⟩, hB0⟩
    (fun x => { tmps := #[.slice none 0 0, .func (.func 30) #[] #[.pointer (some ⟨g, 0, none⟩)], .pointer (some ⟨w.heap.size, 0, none⟩), undef, .slice none 0 0, .int .i64 (x.1 : Nat), .func (.func 30) #[] #[.pointer (some ⟨g, 0, none⟩)], .int .i64 (x.1 : Nat), undef, undef, undef, undef, undef], defers := [] }) ?assign ?body ?done ?stop
  case assign =>
    intro l x W K hK
    gi_wp2
    exact hK
  case body =>
    rintro l pre x W ⟨⟨v, hv, hrow, _⟩, hB⟩ hlt
    have hc := hv.cell
    gi_wp2_with (gi_at_builtin; refine wpListIn_append_own _ rfl _ _ 22 rfl w.heap.size 3 i0 (.int .i64 0) 1 8 Tryd.underlying22 hi hz0 hz1 hz2 rfl (by decide) _ _ _ rfl (hrow.alloc _) ⟨W.heap.size, 0, none⟩ 1 1 [.int .i64 (x.1 : Nat)] rfl rfl (cell_one_new _ _ _) (by simp [Value.oneCell']) (by unfold maxLen; omega) (by omega) (by have := hB.size; simp; omega) ?_; intro v' w1 hown' hgrow _; obtain ⟨g', cap', rfl⟩ := ownsRow_succ hown'; obtain ⟨hv1, hv2, hr2, hk2, hb2⟩ := hv.appended (by decide) hrow hB.size (Nat.le_refl _) hown' hgrow; have hc1 := hv1.cell; have hf1 := hv1.frozen)
    exact ⟨hk2.from _, keep_of_below hb2 hg hb ht, ⟨⟨_, hv2, by rw [cells_snoc]; simpa using hr2, trivial⟩, hB.trans hb2⟩⟩
  case done =>
    rintro D ys W hD hys ⟨⟨v, hv, hrow, _⟩, hB⟩ hK
    have hc := hv.cell
    gi_wp2
    refine ⟨by simp, .inl ⟨_, _, rfl, run_takeDeferred hK, ?_⟩⟩
    exact ⟨_, results_tmp rfl _ _ _, v, ys, rfl, hys, ownsRow_putObj hrow _ hK rfl, hB.trans (belowK_b (w := w) (Nat.le_refl _) W D _ _ (by simp at hD; omega) hK rfl rfl)⟩
  case stop =>
    rintro D c pre W _ _ h _
    exact h.elim

theorem appendSeq_any (g b n X : Nat) (w : World) (hI : Its w g b n X) :
    Calls Tryd.prog 40 #[.slice none 0 0, .func (.func 30) #[] #[.pointer (some ⟨g, 0, none⟩)]] w (CollPost w n X) :=
  (callsIn_wide (n := 3)).1 (appendSeq_in 3 g b n X (by omega) w hI)

set_option maxHeartbeats 1000000 in
theorem collect_any (g b n X : Nat) (w : World) (hI : Its w g b n X) :
    Calls Tryd.prog 34 #[.func (.func 30) #[] #[.pointer (some ⟨g, 0, none⟩)]] w (CollPost w n X) := by
  have h := appendSeq_any g b n X w hI
  clear hI
  go_enter Tryd.func34, Tryd.ntmps34
  go_wp2_with fail
  refine h.mono ?_
  rintro e w1 ⟨v, ys, rfl, hys, hr, hB⟩
  have H1 := Lib.hid hys
  have H2 := Lib.hid hr
  have H3 := Lib.hid hB
  clear hys hr hB h
  go_wp2_with fail
  go_ret
  exact ⟨v, ys, rfl, H1.out, H2.out, H3.out⟩

/-- A list of numbers that a slice holds, which the call made. -/
def natI (l : List Nat) : List Int := l.map fun (x : Nat) => (x : Int)
theorem Ints.upd {w w' : World} {a : Option Addr} {l : List Int} {b : Nat} (h : Ints w a l) (k : Upd b w w') (hb : ∀ g o s, a = some ⟨g, o, s⟩ → g ≠ b) : Ints w' a l := by
  intro i hi
  obtain ⟨g, off, rfl, hc⟩ := h i hi
  have hlt : g < w.heap.size := World.block_lt_of_cell? w _ hc
  exact ⟨g, off, rfl, (World.cell?_of_block (w := w) (a := ⟨g, off + i, none⟩) (k.block g hlt (hb _ _ _ rfl))).trans hc⟩
def ListPost (w : World) (l : List Nat) (e : Ending) (w' : World) : Prop :=
  ∃ a cap, e = .returned (.slice a (natI l).length cap) ∧ (∀ g o s, a = some ⟨g, o, s⟩ → w.heap.size ≤ g ∧ g < w'.heap.size) ∧ Ints w' a (natI l) ∧ Below w.heap.size w w'

theorem ints_of_row {w : World} {base : Nat} {v : Value} {ys : List Num} (h : w.ownsRow base 3 1 v ys.length (cells ys)) : ∃ a cap, v = .slice a ys.length cap ∧ (∀ g o s, a = some ⟨g, o, s⟩ → base ≤ g ∧ g < w.heap.size) ∧ Ints w a (natI (vals ys)) := by
  rcases h.2 with ⟨rfl, h0⟩ | ⟨g, cp, cur, rfl, hg, hh, h1, h2, h3, h4⟩
  · exact ⟨none, 0, by rw [h0], (fun _ _ _ e => by cases e), fun i hi => by simp [natI, vals, h0] at hi⟩
  · refine ⟨_, cp, rfl, (fun _ _ _ e => by cases e; exact ⟨hg, lt_of_block hh⟩), fun i hi => ⟨g, 0, rfl, ?_⟩⟩
    have hi' : i < ys.length := by simpa [natI, vals] using hi
    rw [Nat.mul_one] at h4
    have : (cur.toList.take ys.length)[i]? = some (.int .i64 (ys[i].1 : Nat)) := by rw [h4]; simp [cells, hi']
    rw [List.getElem?_take, if_pos hi'] at this
    have e : cur[i]? = some (.int .i64 (ys[i].1 : Nat)) := by simpa using this
    simp [World.cell?, hh, e, natI, vals]

set_option maxHeartbeats 1000000 in
theorem list_any (p b n X : Nat) (w : World) (h : SetAt w p b n X) (hT : Tab w) :
    Calls Tryd.prog 17 #[.pointer (some ⟨p, 0, none⟩)] w (ListPost w (Bs.lst n X)) := by
  have H := Lib.hid h
  have T := Lib.hid hT
  clear h hT
  go_enter Tryd.func17, Tryd.ntmps17
  go_wp2_with fail
  refine (each_any p b n X w H.out).mono ?_
  rintro e w1 ⟨g, b1, rfl, hg, hb, hh, hr, hB⟩
  have I1 := Lib.hid (show Its w1 g b1 n X from ⟨hh, hr, T.out.below hB, H.out.le, H.out.lt⟩)
  have L1 := Lib.hid hB
  clear hh hr hB
  go_wp2_with fail
  refine (collect_any g b1 n X w1 I1.out).mono ?_
  rintro e w2 ⟨v, ys, rfl, hys, hr, hB⟩
  have H1 := Lib.hid hys
  have H2 := Lib.hid hr
  have L2 := Lib.hid (L1.out.trans (hB.mono L1.out.size))
  clear hys hr hB
  go_wp2_with fail
  go_ret
  obtain ⟨a, cap, rfl, hge, hi⟩ := ints_of_row H2.out
  rw [H1.out] at hi
  have hsz := L1.out.size
  refine ⟨a, cap, ?_, (fun g o s e => by have := hge g o s e; omega), hi, L2.out⟩
  rw [← H1.out]
  simp [vals, natI]
end Go.Proofs.YtccmmilbnfiacaaDoor
