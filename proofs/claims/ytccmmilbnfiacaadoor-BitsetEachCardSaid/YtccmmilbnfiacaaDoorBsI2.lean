/-
  The law BitsetEach, for lists of any length.
-/
import Derived.Test.YtccmmilbnfiacaaDoorBsH
namespace Go.Proofs.YtccmmilbnfiacaaDoor
open Go.RowKit Go.Shelf
set_option linter.unusedVariables false

set_option maxRecDepth 100000 in
set_option maxHeartbeats 2000000 in
theorem each_law (n : Int) (a : Option Addr) (l : List Int) (c : Nat) (stop : Int) (w : World) (hT : Tab w) (hl : Ints w a l) (hn : l.length ≤ maxLen) (hws : (Lit.int .i64 stop).wf = true) :
    Calls Tryd.prog 3 #[.int .i64 n, .slice a l.length c, .int .i64 stop] w fun e w' => e = .returned (.bool true) ∧ Below w.heap.size w w' := by
  by_cases h100 : l.length ≤ 100
  · exact (callsIn_wide (n := 3)).1 (each_in 3 (by omega) n a l c stop w hT hl hn h100 hws)
  · have hd : decide (100 < (l.length : Int)) = true := by simp; omega
    unfold maxLen at hn
    have hB0 : Below w.heap.size w (w.alloc (.cells #[.int .i64 stop] 3)) := (Below.refl _ w).alloc (Nat.le_refl _) _
    have haw := awake03_any _ (hT.below hB0)
    have HB := Lib.hid hB0
    clear hT hl hB0
    go_enter Tryd.func3, Tryd.ntmps3
    go_wp2_with fail
    refine haw.mono ?_
    rintro e v1 ⟨rfl, hB⟩
    have H1 := Lib.hid (HB.out.trans (hB.mono HB.out.size))
    clear haw hB
    go_wp2_with fail
    go_ret
    exact ⟨rfl, H1.out⟩
end Go.Proofs.YtccmmilbnfiacaaDoor
