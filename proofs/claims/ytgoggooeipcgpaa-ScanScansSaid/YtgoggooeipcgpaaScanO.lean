/-
  Walks of chapter 17: scan.New, and the closure of longest.
-/
import Derived.Test.YtgoggooeipcgpaaScanN
namespace Go.Proofs.Ytgoggooeipcgpaa
open Go.RowKit
set_option linter.unusedVariables false

/-- A scanner in its block. -/
def ScB (w : World) (g : Nat) (ta : Option Addr) (T : List Pl.Pt) (tc : Nat) (sa : Option Addr) (S : List Pl.Pt) (sc : Nat) (x : ByteArray) (i k : Nat) : Prop :=
  w.heap[g]? = some (.cells #[.slice ta T.length tc, .slice sa S.length sc, .slice none 0 0, .string ⟨#[]⟩, .slice none 0 0, .string x, .int .i64 (i : Nat), .int .i64 (k : Nat)] 74 (0, 0))

theorem ScB.cells {w : World} {g : Nat} {ta : Option Addr} {T : List Pl.Pt} {tc : Nat} {sa : Option Addr} {S : List Pl.Pt} {sc : Nat} {x : ByteArray} {i k : Nat} (h : ScB w g ta T tc sa S sc x i k) :
    w.cell? ⟨g, 0, none⟩ = some (.slice ta T.length tc) ∧ w.cell? ⟨g, 1, none⟩ = some (.slice sa S.length sc) ∧ w.cell? ⟨g, 5, none⟩ = some (.string x) ∧ w.cell? ⟨g, 6, none⟩ = some (.int .i64 (i : Nat)) ∧ w.cell? ⟨g, 7, none⟩ = some (.int .i64 (k : Nat)) ∧
      w.frozen? ⟨g, 6, none⟩ = false ∧ w.frozen? ⟨g, 7, none⟩ = false := by
  unfold ScB at h
  refine ⟨?_, ?_, ?_, ?_, ?_, frozen_of_row _ _ _ _ _ h, frozen_of_row _ _ _ _ _ h⟩ <;> (rw [cell_of_row _ _ _ _ _ _ h]; rfl)

theorem ScB.lt {w : World} {g : Nat} {ta : Option Addr} {T : List Pl.Pt} {tc : Nat} {sa : Option Addr} {S : List Pl.Pt} {sc : Nat} {x : ByteArray} {i k : Nat} (h : ScB w g ta T tc sa S sc x i k) : g < w.heap.size :=
  (Array.getElem?_eq_some_iff.1 h).1

/-- What New answers. -/
def NewP (ta : Option Addr) (T : List Pl.Pt) (tc : Nat) (sa : Option Addr) (S : List Pl.Pt) (sc : Nat) (x : ByteArray) (w : World) (e : Ending) (w' : World) : Prop :=
  ∃ g, e = .returned (.pointer (some ⟨g, 0, none⟩)) ∧ ScB w' g ta T tc sa S sc x 0 0 ∧ w.heap.size ≤ g ∧ Below w.heap.size w w'

set_option maxRecDepth 100000 in
set_option maxHeartbeats 800000 in
theorem new_any (ta : Option Addr) (T : List Pl.Pt) (tc : Nat) (sa : Option Addr) (S : List Pl.Pt) (sc : Nat) (x : ByteArray) (w : World) :
    Calls Try.prog 30 #[.agg #[.slice ta T.length tc, .slice sa S.length sc, .slice none 0 0, .string ⟨#[]⟩, .slice none 0 0], .string x] w (NewP ta T tc sa S sc x w) := by
  go_enter Try.func30, Try.ntmps30
  go_wp2
  go_ret
  refine ⟨w.heap.size + 1, rfl, ?_, by omega, ((Below.refl _ _).alloc (Nat.le_refl _) _).alloc (by simp) _⟩
  exact heap_alloc2_new _ _ _

/-- All but two blocks is as it was. -/
structure ButTwo (w w' : World) (p q : Nat) : Prop where
  os : w'.os = w.os
  tape : w'.tape = w.tape
  output : w'.output = w.output
  size : w.heap.size ≤ w'.heap.size
  block : ∀ k, k < w.heap.size → k ≠ p → k ≠ q → w'.heap[k]? = w.heap[k]?

theorem ButTwo.below {w w' : World} {p q B : Nat} (h : ButTwo w w' p q) (hp : B ≤ p) (hq : B ≤ q) (hB : B ≤ w.heap.size) : Below B w w' :=
  ⟨h.os, h.tape, h.output, h.size, fun k hk => h.block k (by omega) (by omega) (by omega)⟩

/-- What the closure does: the longest so far, and its terminal, lie in two boxes. -/
def KeepP (bt bm : Nat) (r : Nat × Nat) (w : World) (e : Ending) (w' : World) : Prop :=
  e = .returned (.tuple #[]) ∧ ButTwo w w' bt bm ∧ w'.heap[bt]? = some (.cells #[.int .i64 (r.1 : Nat)] 3 (0, 0)) ∧ w'.heap[bm]? = some (.cells #[.int .i64 (r.2 : Nat)] 3 (0, 0))

set_option maxRecDepth 100000 in
set_option maxHeartbeats 1600000 in
theorem keep_any (p : Pl.Pt) (hp : p.t.size ≤ maxLen ∧ p.s.size ≤ maxLen) (t term mst : Nat) (g bc bt bm : Nat) (ta : Option Addr) (T : List Pl.Pt) (tc : Nat) (sa : Option Addr) (S : List Pl.Pt) (sc : Nat) (x : ByteArray) (i k : Nat) (w : World) (hx : x.size ≤ maxLen)
    (hg : ScB w g ta T tc sa S sc x i k) (hc : w.heap[bc]? = some (.cells #[.pointer (some ⟨g, 0, none⟩)] 55 (0, 0))) (ht : w.heap[bt]? = some (.cells #[.int .i64 (term : Nat)] 3 (0, 0))) (hm : w.heap[bm]? = some (.cells #[.int .i64 (mst : Nat)] 3 (0, 0))) (hne : bt ≠ bm) :
    Calls Try.prog 43 #[.agg #[.string p.t, .string p.s, .bool p.m], .int .i64 (t : Nat), .pointer (some ⟨bc, 0, none⟩), .pointer (some ⟨bm, 0, none⟩), .pointer (some ⟨bt, 0, none⟩)] w
      (KeepP bt bm (Pl.keep (term, mst) t (Pl.lp x.data.toList i p)) w) := by
  have CL : Hid (∀ w, Calls Try.prog 16 #[.agg #[.string p.t, .string p.s, .bool p.m], .string x, .int .i64 (i : Int)] w fun e w' => e = .returned (.int .i64 (Pl.lp x.data.toList i p : Nat)) ∧ Below w.heap.size w w') :=
    Lib.hid (fun w => len_any _ _ _ _ _ _ hp.1 hp.2 hx)
  generalize Pl.lp x.data.toList i p = n at CL ⊢
  have lg := hg.lt
  have lc : bc < w.heap.size := (Array.getElem?_eq_some_iff.1 hc).1
  have lt : bt < w.heap.size := (Array.getElem?_eq_some_iff.1 ht).1
  have lm : bm < w.heap.size := (Array.getElem?_eq_some_iff.1 hm).1
  have HT := Lib.hid ht
  have HM := Lib.hid hm
  have HC := Lib.hid hc
  have HG := Lib.hid hg
  clear ht hm hc hg
  go_enter Try.func43, Try.ntmps43
  go_wp2_with fail
  have f0 : ∀ z : Wd (w.heap.size + 1) (w.alloc (.cells #[.string p.t, .string p.s, .bool p.m] 23)), z.w.cell? ⟨w.heap.size, 0, none⟩ = some (.string p.t) := fun z => by rw [(bcell z.ok).1 _ _ (by omega)]; go_simp
  have f1 : ∀ z : Wd (w.heap.size + 1) (w.alloc (.cells #[.string p.t, .string p.s, .bool p.m] 23)), z.w.cell? ⟨w.heap.size, 1, none⟩ = some (.string p.s) := fun z => by rw [(bcell z.ok).1 _ _ (by omega)]; go_simp
  have f2 : ∀ z : Wd (w.heap.size + 1) (w.alloc (.cells #[.string p.t, .string p.s, .bool p.m] 23)), z.w.cell? ⟨w.heap.size, 2, none⟩ = some (.bool p.m) := fun z => by rw [(bcell z.ok).1 _ _ (by omega)]; go_simp
  have f3 : ∀ z : Wd (w.heap.size + 1) (w.alloc (.cells #[.string p.t, .string p.s, .bool p.m] 23)), z.w.cell? ⟨bc, 0, none⟩ = some (.pointer (some ⟨g, 0, none⟩)) := fun z => by
    rw [(bcell z.ok).1 _ _ (by omega), World.cell?_alloc_past _ _ _ lc, cell_of_row _ _ _ _ _ _ HC.out]; rfl
  have f4 : ∀ z : Wd (w.heap.size + 1) (w.alloc (.cells #[.string p.t, .string p.s, .bool p.m] 23)), z.w.cell? ⟨g, 5, none⟩ = some (.string x) := fun z => by
    rw [(bcell z.ok).1 _ _ (by omega), World.cell?_alloc_past _ _ _ lg]; exact HG.out.cells.2.2.1
  have f5 : ∀ z : Wd (w.heap.size + 1) (w.alloc (.cells #[.string p.t, .string p.s, .bool p.m] 23)), z.w.cell? ⟨g, 6, none⟩ = some (.int .i64 (i : Nat)) := fun z => by
    rw [(bcell z.ok).1 _ _ (by omega), World.cell?_alloc_past _ _ _ lg]; exact HG.out.cells.2.2.2.1
  refine region_cls (w.heap.size + 1) (by kernel_rfl) (by kernel_rfl) ?_
  repeat (go_big_quiet_step (exact calls_cls _ (by simp) (CL.out _)))
  refine wpQuiet_nil ?_
  intro z
  have hB : Below w.heap.size w z.w := ((Below.refl _ _).alloc (Nat.le_refl _) _).trans (z.ok.mono (by simp))
  obtain ⟨u, hu⟩ : ∃ u, u = z.w := ⟨_, rfl⟩
  rw [← hu] at hB ⊢
  clear hu f0 f1 f2 f3 f4 f5
  have gt := (hB.block _ lt).trans HT.out
  have gm := (hB.block _ lm).trans HM.out
  have e1 : u.cell? ⟨bm, 0, none⟩ = some (.int .i64 (mst : Nat)) := by rw [cell_of_row _ _ _ _ _ _ gm]; rfl
  have e2 : u.cell? ⟨bt, 0, none⟩ = some (.int .i64 (term : Nat)) := by rw [cell_of_row _ _ _ _ _ _ gt]; rfl
  have e3 : u.frozen? ⟨bm, 0, none⟩ = false := frozen_of_row _ _ _ _ _ gm
  have e4 : u.frozen? ⟨bt, 0, none⟩ = false := frozen_of_row _ _ _ _ _ gt
  have HB := Lib.hid hB
  have GT := Lib.hid gt
  have GM := Lib.hid gm
  clear gt gm hB
  by_cases h : mst < n
  · have h' : decide (mst < n) = true := by simpa using h
    have hK : Hid (Pl.keep (term, mst) t n = (t, n)) := Lib.hid (by simp [Pl.keep, h])
    go_wp2
    go_end0
    refine ⟨rfl, ?_, ?_, ?_⟩
    · refine ⟨HB.out.os, HB.out.tape, HB.out.output, by simp [World.setCell]; exact HB.out.size, fun k hk h1 h2 => ?_⟩
      rw [heap_setCell_other _ _ _ _ (by simpa using h2), heap_setCell_other _ _ _ _ (by simpa using h1)]
      exact HB.out.block k hk
    · rw [hK.out, heap_setCell_other _ _ _ _ (by simpa using hne), heap_setCell_same _ _ _ _ _ _ GT.out]; rfl
    · rw [hK.out, heap_setCell_same _ _ _ _ _ _ ((heap_setCell_other _ _ _ _ (by simpa using hne.symm)).trans GM.out)]; rfl
  · have h' : decide (mst < n) = false := by simpa using h
    have hK : Hid (Pl.keep (term, mst) t n = (term, mst)) := Lib.hid (by simp [Pl.keep, h])
    go_wp2
    go_end0
    exact ⟨rfl, ⟨HB.out.os, HB.out.tape, HB.out.output, HB.out.size, fun k hk _ _ => HB.out.block k hk⟩, by rw [hK.out]; exact GT.out, by rw [hK.out]; exact GM.out⟩
end Go.Proofs.Ytgoggooeipcgpaa
