/-
  Walks of Union, Copy, Meets and Same.
-/
import Derived.Test.YtccmmilbnfiacaaDoorBsE
namespace Go.Proofs.YtccmmilbnfiacaaDoor
open Go.RowKit Go.Shelf
set_option linter.unusedVariables false
attribute [local go_sem] Oper.semAt_some

/-- A set's Copy. -/
theorem Wd.set {B : Nat} {w : World} {p b n X : Nat} (hB : w.heap.size ≤ B) (h : SetAt w p b n X) (z : Wd B w) : SetAt z.w p b n X := h.below (z.ok.mono hB)

set_option maxRecDepth 100000 in
set_option maxHeartbeats 1000000 in
theorem copy_any (p b n X : Nat) (w : World) (h : SetAt w p b n X) :
    Calls Tryd.prog 18 #[.pointer (some ⟨p, 0, none⟩)] w (SetPost w n X) := by
  have H := Lib.hid h
  obtain ⟨c0, ⟨cap, c1⟩, _, _⟩ := h.cells
  have hle := Bs.nw_le h.le
  have h1000 := h.le
  clear h
  go_enter Tryd.func18, Tryd.ntmps18
  go_wp2_with fail
  have hcl : ∀ w' : World, Below w.heap.size w w' → w'.heap.size = w.heap.size → Calls Tryd.prog 29 #[.slice (some ⟨b, 0, none⟩) (Bs.nw n : Nat) cap] w' fun e w1 =>
      ∃ b1 cap1, e = .returned (.slice (some ⟨b1, 0, none⟩) (Bs.nw n : Nat) cap1) ∧ Hid (w.heap.size ≤ b1 ∧ (∃ cs : Array Value, w1.heap[b1]? = some (.cells cs 54 (0, 0)) ∧ Bs.nw n ≤ cs.size ∧ ∀ k, k < Bs.nw n → cs[k]? = some (.int .u64 (Bs.word X k : Nat))) ∧ Below w.heap.size w w1) ∧
        w1.cell? ⟨p, 0, none⟩ = some (.int .i64 n) ∧ w1.cell? ⟨p, 1, none⟩ = some (.slice (some ⟨b, 0, none⟩) (Bs.nw n : Nat) cap) := by
    intro w' hb hsz
    refine (clone_any b _ cap _ w' (H.out.below hb).cells.2.2.1 hle).mono ?_
    rintro e w1 ⟨b1, cap1, rfl, hb1, hr, hB⟩
    have hB' := hb.trans (hB.mono (by omega))
    exact ⟨b1, cap1, rfl, Lib.hid ⟨by omega, hr, hB'⟩, ((bcell hB').1 _ _ H.out.plt).trans c0, ((bcell hB').1 _ _ H.out.plt).trans c1⟩
  have hcd := hcl w.drew ((Below.refl _ _).drew) rfl
  clear hcl
  go_region_with (go_at_call 29; refine hcd.mono ?_; rintro e w1 ⟨b1, cap1, rfl, hr, d0, d1⟩)
  all_goals
    go_wp2
    go_ret
    obtain ⟨h1, ⟨cs, h2, h3, h4⟩, h5⟩ := hr.out
    have hlt := lt_of_block h2
    refine ⟨w1.heap.size, b1, rfl, h5.size, h1, ⟨⟨cap1, heap_alloc_new w1 _⟩, ⟨cs, (Below.heap_alloc _ _ _ hlt).trans h2, h3, h4⟩, by omega, h1000, H.out.lt⟩, h5.alloc h5.size _⟩
end Go.Proofs.YtccmmilbnfiacaaDoor
