/-
  What holds between two rounds of the law BitsetEach.
-/
import Derived.Test.YtccmmilbnfiacaaDoorBsR
namespace Go.Proofs.YtccmmilbnfiacaaDoor
open Go.RowKit Go.Shelf
set_option linter.unusedVariables false

theorem own_upd {W W' : World} {base : Nat} {e : TypeId} {v : Value} {n b : Nat} {xs : List Value} (h : W.ownsRow base e 1 v n xs) (k : Upd b W W') (hb : b < base) : W'.ownsRow base e 1 v n xs := by
  obtain ⟨h1, h2⟩ := h
  refine ⟨h1, ?_⟩
  rcases h2 with h2 | ⟨g, cap, cur, hv, hg, hh, r⟩
  · exact .inl h2
  · exact .inr ⟨g, cap, cur, hv, hg, (k.block g (lt_of_block hh) (by omega)).trans hh, r⟩
theorem own_grown {W W' : World} {row : Option Nat} {base : Nat} {e : TypeId} {v : Value} {n : Nat} {xs : List Value} (h : W.ownsRow base e 1 v n xs) (hg : W.grownBy W' row) (hr : ∀ r, row = some r → ∃ o : Obj, W.heap[r]? = some o ∧ o.isCells = false) : W'.ownsRow base e 1 v n xs := by
  obtain ⟨h1, h2⟩ := h
  refine ⟨h1, ?_⟩
  rcases h2 with h2 | ⟨g, cap, cur, hv, hg', hh, r⟩
  · exact .inl h2
  · exact .inr ⟨g, cap, cur, hv, hg', (cells_kept hh hg hr).trans hh, r⟩
theorem own_slice {W : World} {base : Nat} {e : TypeId} {v : Value} {n : Nat} {xs : List Value} (h : W.ownsRow base e 1 v n xs) : ∃ a cap, v = .slice a n cap := by
  rcases h.2 with ⟨rfl, h0⟩ | ⟨g, cap, cur, hv, _⟩
  · exact ⟨none, 0, by rw [h0]⟩
  · exact ⟨_, _, hv⟩

structure EI (w : World) (b5 b8 b9 z ps bs N : Nat) (stop : Int) (pre : List Num) (W : World) : Prop where
  five : Boxed W b5 3 (.int .i64 stop)
  eight : Boxed W b8 24 (.pointer (some ⟨ps, 0, none⟩))
  nine : ∃ v, Boxed W b9 22 v ∧ W.ownsRow z 3 1 v pre.length (cells pre)
  set : ∃ X, SetAt W ps bs N X
  low : Below w.heap.size w W
  big : z ≤ W.heap.size
  len : (pre.length : Int) ≤ max 0 stop
theorem EI.own (w : World) (b5 b8 b9 z ps bs N B : Nat) (stop : Int) (hB : w.heap.size ≤ B) : OwnFrom B (EI w b5 b8 b9 z ps bs N stop) :=
  fun s W W' row h hg hr => by
    have hr' : ∀ r, row = some r → ∃ o : Obj, W.heap[r]? = some o ∧ o.isCells = false := fun r e => (hr r e).2
    obtain ⟨v, hv, ho⟩ := h.nine
    obtain ⟨X, hX⟩ := h.set
    exact ⟨boxed_grown h.five hg hr', boxed_grown h.eight hg hr', ⟨v, boxed_grown hv hg hr', own_grown ho hg hr'⟩, ⟨X, hX.grown hg hr'⟩, h.low.grown hg h.low.size (fun r e => Nat.le_trans hB (hr r e).1), Nat.le_trans h.big hg.size, h.len⟩
def EX (w : World) (b5 b8 b9 z ps bs N : Nat) (stop : Int) (c : Code) (pre : List Num) (W : World) : Prop :=
  c = .exit 0 ∧ ∃ l x, pre = l ++ [x] ∧ (stop ≤ l.length ∨ 1000 < l.length) ∧ EI w b5 b8 b9 z ps bs N stop l W
theorem EX.own (w : World) (b5 b8 b9 z ps bs N B : Nat) (stop : Int) (hB : w.heap.size ≤ B) (c : Code) : OwnFrom B (EX w b5 b8 b9 z ps bs N stop c) :=
  fun s W W' row h hg hr => by obtain ⟨hc, l, x, e, hx, hu⟩ := h; exact ⟨hc, l, x, e, hx, EI.own w b5 b8 b9 z ps bs N B stop hB l W W' row hu hg hr⟩

/-- Where the blocks lie. -/
structure Lay (w : World) (b5 b8 b9 z ps bs g c1 : Nat) : Prop where
  h5 : w.heap.size ≤ b5 ∧ b5 < z
  h8 : w.heap.size ≤ b8 ∧ b8 < z
  h9 : w.heap.size ≤ b9 ∧ b9 < z
  hs : w.heap.size ≤ bs ∧ bs < z ∧ ps < z
  hg : g < z ∧ c1 < z ∧ 0 < w.heap.size
  n5 : b5 ≠ b9 ∧ b8 ≠ b9 ∧ b5 ≠ bs ∧ b8 ≠ bs ∧ b9 ≠ bs ∧ ps ≠ b9
  ng : g ≠ b9 ∧ c1 ≠ b9 ∧ g ≠ bs ∧ c1 ≠ bs

/-- Behind the append, and behind the store of what it gives. -/
structure App (w : World) (b5 b8 b9 z ps bs g c1 N X : Nat) (stop : Int) (v v' : Value) (k : Nat) (xs : List Value) (W w1 : World) : Prop where
  one : Boxed w1 b9 22 v ∧ Boxed w1 b8 24 (.pointer (some ⟨ps, 0, none⟩))
  five : Boxed (w1.setCell ⟨b9, 0, none⟩ v') b5 3 (.int .i64 stop)
  eight : Boxed (w1.setCell ⟨b9, 0, none⟩ v') b8 24 (.pointer (some ⟨ps, 0, none⟩))
  nine : Boxed (w1.setCell ⟨b9, 0, none⟩ v') b9 22 v'
  own : (w1.setCell ⟨b9, 0, none⟩ v').ownsRow z 3 1 v' k xs
  set : SetAt (w1.setCell ⟨b9, 0, none⟩ v') ps bs N X
  low : Below w.heap.size w (w1.setCell ⟨b9, 0, none⟩ v')
  big : z ≤ (w1.setCell ⟨b9, 0, none⟩ v').heap.size
  oth : KeepsOthers W (w1.setCell ⟨b9, 0, none⟩ v')
  keep : Keep g c1 W (w1.setCell ⟨b9, 0, none⟩ v')

theorem EI.app {w W w1 : World} {b5 b8 b9 z ps bs g c1 N X k : Nat} {stop : Int} {pre : List Num} {v v' : Value} {xs : List Value} {tmp : Obj} (h : EI w b5 b8 b9 z ps bs N stop pre W) (L : Lay w b5 b8 b9 z ps bs g c1) (hv : Boxed W b9 22 v) (ho : W.ownsRow z 3 1 v pre.length (cells pre))
    (hX : SetAt W ps bs N X) (hown : w1.ownsRow z 3 1 v' k xs) (hgrow : (W.alloc tmp).grownBy w1 v.ownBlock) : App w b5 b8 b9 z ps bs g c1 N X stop v v' k xs W w1 := by
  have hz := h.big
  obtain ⟨⟨h51, h52⟩, ⟨h81, h82⟩, ⟨h91, h92⟩, ⟨hs1, hs2, hs3⟩, ⟨hg1, hg2, hg3⟩, ⟨n1, n2, n3, n4, n5, n6⟩, ⟨m1, m2, m3, m4⟩⟩ := L
  have hb : ∀ q, q < z → w1.heap[q]? = W.heap[q]? := fun q hq =>
    (hgrow.block q (by simp; omega) (fun e => by have := (World.ownsRow.lt ho q e.symm).1; omega)).trans (Below.heap_alloc _ _ _ (by omega))
  have hb2 : ∀ q, q < z → q ≠ b9 → (w1.setCell ⟨b9, 0, none⟩ v').heap[q]? = W.heap[q]? := fun q hq hne => (Below.heap_setCell _ _ _ _ hne).trans (hb q hq)
  have hv1 : Boxed w1 b9 22 v := (hb b9 h92).trans hv
  have hsz : W.heap.size ≤ w1.heap.size := Nat.le_trans (by simp) hgrow.size
  have hsz2 : w1.heap.size ≤ (w1.setCell ⟨b9, 0, none⟩ v').heap.size := by simp [World.setCell]
  refine ⟨⟨hv1, (hb b8 h82).trans h.eight⟩, (hb2 b5 h52 n1).trans h.five, (hb2 b8 h82 n2).trans h.eight, hv1.set v', ?_, ?_, ?_, by omega, ?_, ?_⟩
  · exact hown.kept (grownBy_setCell' w1 b9 v') (.inr (fun e => by have := (World.ownsRow.lt hown b9 e).1; omega))
  · exact hX.kept (hb2 ps hs3 n6) (hb2 bs hs2 (Ne.symm n5))
  · exact ⟨hgrow.os.trans h.low.os, hgrow.tape.trans h.low.tape, hgrow.output.trans h.low.output, Nat.le_trans h.low.size (by omega), fun q hq => (hb2 q (by omega) (by omega)).trans (h.low.block q hq)⟩
  · refine ((KeepsOthers.alloc W tmp).trans (KeepsOthers.of_grownBy hgrow fun j o ej hj => ?_)).trans (KeepsOthers.setCell _ _ _)
    rcases (ho.alloc tmp).2 with ⟨rfl, _⟩ | ⟨g', cap, cur, rfl, _, hgb, _⟩
    · simp [Value.ownBlock] at ej
    · obtain rfl : g' = j := by simpa [Value.ownBlock] using ej
      rw [hgb] at hj; cases hj; rfl
  · exact ⟨hb2 g hg1 m1, hb2 c1 hg2 m2, hb2 _ (by omega) (by omega)⟩

theorem EI.fin {w W w1 w3 w4 : World} {b5 b8 b9 z ps bs g c1 N X X3 X4 : Nat} {stop : Int} {pre : List Num} {x : Num} {v v' : Value} {B : Nat} {a : Act} (L : Lay w b5 b8 b9 z ps bs g c1) (hT : 0 < w.heap.size)
    (h : App w b5 b8 b9 z ps bs g c1 N X stop v v' (pre ++ [x]).length (cells (pre ++ [x])) W w1) (hl : ((pre ++ [x]).length : Int) ≤ max 0 stop)
    (s3 : SetAt w3 ps bs N X3) (u3 : Upd bs (w1.setCell ⟨b9, 0, none⟩ v') w3) (s4 : SetAt w4 ps bs N X4) (u4 : Upd bs w3 w4) :
    ownPostG B (Keep g c1) (EI w b5 b8 b9 z ps bs N stop) (EX w b5 b8 b9 z ps bs N stop) (pre ++ [x]) W .normal a w4 := by
  obtain ⟨⟨h51, h52⟩, ⟨h81, h82⟩, ⟨h91, h92⟩, ⟨hs1, hs2, hs3⟩, ⟨hg1, hg2, hg3⟩, ⟨n1, n2, n3, n4, n5, n6⟩, ⟨m1, m2, m3, m4⟩⟩ := L
  have u := u3.trans u4
  have hz := h.big
  obtain ⟨cs, hrow, _⟩ := h.set.row
  refine ⟨(h.oth.trans (KeepsOthers.upd u hrow)).from _, h.keep.trans ⟨u.block _ (by omega) m3, u.block _ (by omega) m4, u.block _ (by omega) (by omega)⟩, ?_⟩
  exact ⟨boxed_upd h.five u n3, boxed_upd h.eight u n4, ⟨v', boxed_upd h.nine u n5, own_upd h.own u hs2⟩, ⟨X4, s4⟩, h.low.trans (u.below hs1 h.low.size), Nat.le_trans hz u.size, hl⟩

/-- What is taken of a list. -/
def tk (stop : Int) (n : Nat) : Nat := (max 0 (min stop n)).toNat
theorem tk_all {stop : Int} {L l : List Nat} (h : l = L) (hl : (l.length : Int) ≤ max 0 stop) : l = L.take (tk stop L.length) := by
  subst h
  rw [List.take_of_length_le]
  unfold tk
  omega
theorem tk_part {stop : Int} {L l : List Nat} {x : Nat} (h : l ++ [x] <+: L) (hl : (l.length : Int) ≤ max 0 stop) (hs : stop ≤ l.length ∨ 1000 < l.length) (hL : L.length ≤ 1000) : l = L.take (tk stop L.length) := by
  have hlen := h.length_le
  simp at hlen
  have h1 : l <+: L := (List.prefix_append l [x]).trans h
  have : tk stop L.length = l.length := by unfold tk; omega
  rw [this]
  exact (List.prefix_iff_eq_take.1 h1)
end Go.Proofs.YtccmmilbnfiacaaDoor
