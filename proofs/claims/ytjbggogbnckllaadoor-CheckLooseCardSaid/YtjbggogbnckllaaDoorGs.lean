/-
  The variables of a law that puts one rule more: the plan's copy, the rule.
-/
import Derived.Test.YtjbggogbnckllaaDoorGr
import Derived.Test.YtjbggogbnckllaaDoorAm
import Derived.Test.YtjbggogbnckllaaDoorAi
import Derived.Test.YtjbggogbnckllaaDoorAp
namespace Go.Proofs.YtjbggogbnckllaaDoor
open Go.RowKit
set_option linter.unusedVariables false
set_option linter.unusedSimpArgs false
/-- The plan's copy lies where V ends, the rule at xb. -/
structure GX (V W : World) (xb : Nat) (q x : Array Value) : Prop where
  low : Below V.heap.size V W
  hq : W.heap[V.heap.size]? = some (.cells q 32 (0, 0))
  hx : W.heap[xb]? = some (.cells x 46 (0, 0))
  ne : V.heap.size < xb
section
variable {V W W' : World} {xb : Nat} {q x : Array Value}
theorem GX.lt (h : GX V W xb q x) : xb < W.heap.size := lt_of_block h.hx
theorem GX.belowB (h : GX V W xb q x) {B : Nat} (k : Below B W W') (hB : xb < B) : GX V W' xb q x :=
  ⟨h.low.trans (k.mono (by have := h.ne; omega)), (k.block _ (by have := h.ne; omega)).trans h.hq, (k.block _ hB).trans h.hx, h.ne⟩
theorem GX.below (h : GX V W xb q x) (k : Below W.heap.size W W') : GX V W' xb q x := h.belowB k h.lt
theorem GX.setX (h : GX V W xb q x) (i : Nat) (u : Value) : GX V (W.setCell ⟨xb, i, none⟩ u) xb q (x.setIfInBounds i u) :=
  ⟨h.low.setCell (by show V.heap.size ≤ xb; have := h.ne; omega) _, row_setB h.hq (by have := h.ne; omega) _, heap_setCell_same _ _ _ _ _ _ h.hx, h.ne⟩
theorem GX.setQ (h : GX V W xb q x) (i : Nat) (u : Value) : GX V (W.setCell ⟨V.heap.size, i, none⟩ u) xb (q.setIfInBounds i u) x :=
  ⟨h.low.setCell (Nat.le_refl _) _, heap_setCell_same _ _ _ _ _ _ h.hq, row_setB h.hx (by have := h.ne; omega) _, h.ne⟩
theorem GX.cx (h : GX V W xb q x) (i : Nat) : W.cell? ⟨xb, i, none⟩ = x[i]? := cell_of_row _ _ _ _ _ _ h.hx
theorem GX.cq (h : GX V W xb q x) (i : Nat) : W.cell? ⟨V.heap.size, i, none⟩ = q[i]? := cell_of_row _ _ _ _ _ _ h.hq
theorem GX.fx (h : GX V W xb q x) (i : Nat) : W.frozen? ⟨xb, i, none⟩ = false := frozen_of_row _ _ _ _ _ h.hx
theorem GX.fq (h : GX V W xb q x) (i : Nat) : W.frozen? ⟨V.heap.size, i, none⟩ = false := frozen_of_row _ _ _ _ _ h.hq
end
/-- And the copy's rules, in a row of their own; the new rule's right side. -/
structure GY (V W : World) (xb : Nat) (q x : Array Value) (B base g n cap : Nat) (xs : List Value) (xa : Option Addr) (rr : List Int) : Prop where
  gx : GX V W xb q x
  own : W.ownsRow base 46 3 (.slice (some ⟨g, 0, none⟩) n cap) n xs
  gB : g < B ∧ V.heap.size < g
  ints : Ints W xa rr
  iB : ∀ a o s, xa = some ⟨a, o, s⟩ → a < B ∧ V.heap.size < a
  xB : xb < B
section
variable {V W W' : World} {xb : Nat} {q x : Array Value} {B base g n cap : Nat} {xs : List Value} {xa : Option Addr} {rr : List Int}
theorem owns_keptG {e : TypeId} {size : Nat} (h : W.ownsRow base e size (.slice (some ⟨g, 0, none⟩) n cap) n xs) (k : W'.heap[g]? = W.heap[g]?) : W'.ownsRow base e size (.slice (some ⟨g, 0, none⟩) n cap) n xs := by
  obtain ⟨h1, h2⟩ := h
  refine ⟨h1, ?_⟩
  rcases h2 with ⟨e, _⟩ | ⟨g', cap', cur, hv, hbg, hg, h3⟩
  · cases e
  · cases hv
    exact .inr ⟨g, cap, cur, rfl, hbg, k.trans hg, h3⟩
theorem ints_keptG (h : Ints W xa rr) (k : ∀ a o s, xa = some ⟨a, o, s⟩ → W'.heap[a]? = W.heap[a]?) : Ints W' xa rr := by
  intro i hi
  obtain ⟨b, off, rfl, hc⟩ := h i hi
  exact ⟨b, off, rfl, (World.cell?_of_block (w := W) (a := ⟨b, off + i, none⟩) (k b off none rfl)).trans hc⟩
theorem GY.belowB (h : GY V W xb q x B base g n cap xs xa rr) (k : Below B W W') : GY V W' xb q x B base g n cap xs xa rr :=
  ⟨h.gx.belowB k h.xB, owns_keptG h.own (k.block _ h.gB.1), h.gB, ints_keptG h.ints (fun a o s e => k.block _ (h.iB a o s e).1), h.iB, h.xB⟩
theorem GY.setQ (h : GY V W xb q x B base g n cap xs xa rr) (i : Nat) (u : Value) : GY V (W.setCell ⟨V.heap.size, i, none⟩ u) xb (q.setIfInBounds i u) x B base g n cap xs xa rr :=
  ⟨h.gx.setQ i u, owns_keptG h.own (Below.heap_setCell _ _ _ _ (by show g ≠ V.heap.size; have := h.gB.2; omega)), h.gB, ints_keptG h.ints (fun a o s e => Below.heap_setCell _ _ _ _ (by show a ≠ V.heap.size; have := (h.iB a o s e).2; omega)), h.iB, h.xB⟩
end
theorem prod_size : (Tryd.prog.info? 46).map (·.size) = some 3 := by kernel_rfl
theorem prod_zero : (Tryd.prog.info? 46).map (·.zero) = some (some (.agg #[.int .i64 0, .slice none 0 0, .int .i64 0])) := by kernel_rfl
/-- The rules, and one more. -/
theorem ruV_more {w' : World} {g m cap B : Nat} {l : List Pl.Prod} {ns : List Value} {x : Pl.Prod} {v : Value} {na : Option Addr} {nc : Nat} (hn : ns.length = l.length) (hm : m = l.length) (ho : w'.ownsRow B 46 3 (.slice (some ⟨g, 0, none⟩) (m + 1) cap) (m + 1) (pdC l ns ++ [.int .i64 (x.left : Nat), v, .int .i64 (x.level : Nat)]))
    (hi : ∀ i (h : i < l.length) (h' : i < ns.length), ∃ na nc, ns[i] = .slice na l[i].right.length nc ∧ Ints w' na l[i].right) (hv : v = .slice na x.right.length nc) (hx : Ints w' na x.right) : RuV w' (some ⟨g, 0, none⟩) (l ++ [x]) := by
  rw [← pdC_snoc _ _ _ _ hn] at ho
  refine ruV_back (ns := ns ++ [v]) (by simp [hn]) (fun j u hj => ?_) (fun i h h' => ?_)
  · have := ho.cells (g := g) rfl j u hj
    rw [addr_add] at this
    simpa using this
  · by_cases e : i < l.length
    · rw [List.getElem_append_left (by omega), List.getElem_append_left e]
      exact hi i e (by omega)
    · obtain rfl : i = l.length := by simp at h; omega
      refine ⟨na, nc, ?_, ?_⟩
      · simp [← hn, hv]
      · simpa using hx
end Go.Proofs.YtjbggogbnckllaaDoor
