/-
  Small sets in memory: where one lies; what a call may change; walks of is and Has.
-/
import Derived.Test.YtccmmilbnfiacaaDoorRows
import Derived.Test.YtccmmilbnfiacaaDoorKit
import Derived.Test.YtccmmilbnfiacaaDoorBs
import Derived.Laws.Bits64b
import Derived.OneCell
namespace Go.Proofs.YtccmmilbnfiacaaDoor
open Go.RowKit
set_option linter.unusedVariables false

theorem ret_int {k : IntKind} {a b : Int} (h : a = b) : Ending.returned (.int k a) = .returned (.int k b) := by rw [h]
theorem ret_bool {a b : Bool} (h : a = b) : Ending.returned (.bool a) = .returned (.bool b) := by rw [h]

/-- A set lies at p: its width is n, its words lie in block b; it has the numbers of X. -/
structure SetAt (w : World) (p b n X : Nat) : Prop where
  box : ∃ cap, w.heap[p]? = some (.cells #[.int .i64 n, .slice (some ⟨b, 0, none⟩) (Bs.nw n : Nat) cap] 56 (0, 0))
  row : ∃ cs : Array Value, w.heap[b]? = some (.cells cs 54 (0, 0)) ∧ Bs.nw n ≤ cs.size ∧ ∀ k, k < Bs.nw n → cs[k]? = some (.int .u64 (Bs.word X k : Nat))
  ne : p ≠ b
  le : n ≤ 1000
  lt : X < 2 ^ n

/-- Of what was there block b alone may be another one. -/
structure Upd (b : Nat) (w w' : World) : Prop where
  os : w'.os = w.os
  tape : w'.tape = w.tape
  output : w'.output = w.output
  size : w.heap.size ≤ w'.heap.size
  block : ∀ k, k < w.heap.size → k ≠ b → w'.heap[k]? = w.heap[k]?

theorem Upd.refl (b : Nat) (w : World) : Upd b w w := ⟨rfl, rfl, rfl, Nat.le_refl _, fun _ _ _ => rfl⟩
theorem Upd.trans {b : Nat} {w w1 w2 : World} (h : Upd b w w1) (k : Upd b w1 w2) : Upd b w w2 :=
  ⟨k.os.trans h.os, k.tape.trans h.tape, k.output.trans h.output, Nat.le_trans h.size k.size, fun i hi hb => (k.block i (Nat.lt_of_lt_of_le hi h.size) hb).trans (h.block i hi hb)⟩
theorem Upd.of {b : Nat} {w w' : World} (h : Below w.heap.size w w') : Upd b w w' := ⟨h.os, h.tape, h.output, h.size, fun k hk _ => h.block k hk⟩
theorem Upd.drew {b : Nat} {w w' : World} (h : Upd b w w') : Upd b w w'.drew := ⟨h.os, h.tape, h.output, h.size, h.block⟩
theorem Upd.alloc {b : Nat} {w w' : World} (h : Upd b w w') (o : Obj) : Upd b w (w'.alloc o) := h.trans (.of ((Below.refl _ _).alloc (Nat.le_refl _) _))
theorem Upd.setCell {b : Nat} {w w' : World} (h : Upd b w w') (p : Addr) (hp : p.block = b) (u : Value) : Upd b w (w'.setCell p u) :=
  h.trans ⟨rfl, rfl, rfl, by simp [World.setCell], fun k hk hb => Below.heap_setCell _ _ _ _ (by rw [hp]; exact hb)⟩
theorem Upd.below {b n : Nat} {w w' : World} (h : Upd b w w') (hn : n ≤ b) (hs : n ≤ w.heap.size) : Below n w w' := ⟨h.os, h.tape, h.output, h.size, fun k hk => h.block k (by omega) (by omega)⟩

theorem SetAt.plt {w : World} {p b n X : Nat} (h : SetAt w p b n X) : p < w.heap.size := by obtain ⟨_, e⟩ := h.box; exact lt_of_block e
theorem SetAt.blt {w : World} {p b n X : Nat} (h : SetAt w p b n X) : b < w.heap.size := by obtain ⟨_, e, _⟩ := h.row; exact lt_of_block e
theorem SetAt.kept {w w' : World} {p b n X : Nat} (h : SetAt w p b n X) (h1 : w'.heap[p]? = w.heap[p]?) (h2 : w'.heap[b]? = w.heap[b]?) : SetAt w' p b n X := by
  obtain ⟨c, e⟩ := h.box
  obtain ⟨cs, f, g⟩ := h.row
  exact ⟨⟨c, h1.trans e⟩, ⟨cs, h2.trans f, g⟩, h.ne, h.le, h.lt⟩
theorem SetAt.below {w w' : World} {p b n X : Nat} (h : SetAt w p b n X) (k : Below w.heap.size w w') : SetAt w' p b n X := h.kept (k.block _ h.plt) (k.block _ h.blt)
theorem SetAt.upd {w w' : World} {p b n X c : Nat} (h : SetAt w p b n X) (k : Upd c w w') (h1 : p ≠ c) (h2 : b ≠ c) : SetAt w' p b n X := h.kept (k.block _ h.plt h1) (k.block _ h.blt h2)

/-- What a walk reads of a set. -/
theorem SetAt.cells {w : World} {p b n X : Nat} (h : SetAt w p b n X) : w.cell? ⟨p, 0, none⟩ = some (.int .i64 n) ∧ (∃ cap, w.cell? ⟨p, 1, none⟩ = some (.slice (some ⟨b, 0, none⟩) (Bs.nw n : Nat) cap)) ∧
    (∀ k, k < Bs.nw n → w.cell? ⟨b, k, none⟩ = some (.int .u64 (Bs.word X k : Nat))) ∧ ∀ k, w.frozen? ⟨b, k, none⟩ = false := by
  obtain ⟨c, e⟩ := h.box
  obtain ⟨cs, f, hn, g⟩ := h.row
  refine ⟨by simp [World.cell?, e], ⟨c, by simp [World.cell?, e]⟩, fun k hk => by simp [World.cell?, f, g k hk], fun k => by simp [World.frozen?, f]⟩

/-- A word of a set is put anew. -/
theorem SetAt.put {w : World} {p b n X : Nat} (h : SetAt w p b n X) {i Y : Nat} (hi : i < n) (hY : Y < 2 ^ n) (hw : ∀ k, k ≠ i / 64 → Bs.word Y k = Bs.word X k) {v : Value} (hv : v = .int .u64 (Bs.word Y (i / 64) : Nat)) :
    SetAt (w.setCell ⟨b, i / 64, none⟩ v) p b n Y := by
  obtain ⟨c, e⟩ := h.box
  obtain ⟨cs, f, hn, g⟩ := h.row
  have hlt := Bs.nw_lt hi
  refine ⟨⟨c, (Below.heap_setCell _ _ _ _ h.ne).trans e⟩, ⟨_, heap_setCell_same _ _ _ _ _ _ f, by simpa using hn, ?_⟩, h.ne, h.le, hY⟩
  intro k hk
  subst hv
  rw [Array.getElem?_setIfInBounds]
  by_cases hki : i / 64 = k
  · subst hki; simp; omega
  · rw [if_neg hki, g k hk, hw k (by omega)]

set_option maxHeartbeats 400000 in
theorem is_any (p : Nat) (n : Nat) (i : Int) (w : World) (hc : w.cell? ⟨p, 0, none⟩ = some (.int .i64 n)) :
    Calls Tryd.prog 32 #[.pointer (some ⟨p, 0, none⟩), .int .i64 i] w fun e w' => e = .returned (.bool (Bs.is n i)) ∧ w = w' := by
  by_cases h0 : 0 ≤ i
  · have h1 : Hid (Bs.is n i = decide (i < n)) := Lib.hid (by simp [Bs.is, h0])
    go_enter Tryd.func32, Tryd.ntmps32
    go_wp2
    go_ret
    exact ⟨ret_bool h1.out.symm, rfl⟩
  · have h1 : Hid (Bs.is n i = false) := Lib.hid (by simp [Bs.is, h0])
    have h2 : decide (0 ≤ i) = false := by simpa using h0
    go_enter Tryd.func32, Tryd.ntmps32
    go_wp2
    go_ret
    exact ⟨ret_bool h1.out.symm, rfl⟩

theorem cast_div_pow (W j : Nat) : ((W : Int) / 2 ^ j) = ((W / 2 ^ j : Nat) : Int) := by push_cast; rfl
theorem bit_law {X k W : Nat} (h : W / 2 ^ (k % 64) % 2 = (X.testBit k).toNat) (hw : W < 18446744073709551616) : (bits BinOp.and IntKind.u64 ((W : Int) / 2 ^ (k % 64)) 1 == 1) = Bs.has X k := by
  have hq : W / 2 ^ (k % 64) < 18446744073709551616 := Nat.lt_of_le_of_lt (Nat.div_le_self _ _) hw
  rw [cast_div_pow]
  have := bits_and_u64_nat (W / 2 ^ (k % 64)) 1 hq (by decide)
  rw [show ((1 : Nat) : Int) = 1 from rfl] at this
  rw [this, Nat.and_one_is_mod, h]
  unfold Bs.has
  cases hb : X.testBit k <;> simp [hb]

set_option maxHeartbeats 400000 in
theorem has_any (p b n X : Nat) (i : Int) (w : World) (h : SetAt w p b n X) :
    Calls Tryd.prog 20 #[.pointer (some ⟨p, 0, none⟩), .int .i64 i] w fun e w' => e = .returned (.bool (Bs.has X i)) ∧ w = w' := by
  obtain ⟨c0, ⟨cap, c1⟩, c2, _⟩ := h.cells
  have hle := h.le
  cases hi : Bs.is n i with
  | false =>
    have h1 := Lib.hid (Bs.has_of_is h.lt hi)
    have ht : ∀ w, w.cell? ⟨p, 0, none⟩ = some (.int .i64 n) → Calls Tryd.prog 32 #[.pointer (some ⟨p, 0, none⟩), .int .i64 i] w fun e w' => e = .returned (.bool false) ∧ w = w' := by
      intro w hc; rw [← hi]; exact is_any p n i w hc
    clear hi h c2
    go_enter Tryd.func20, Tryd.ntmps20
    go_wp2_with (go_at_call 32; refine (ht _ (by assumption)).mono ?_; rintro e w' ⟨rfl, rfl⟩)
    go_ret
    exact ⟨ret_bool h1.out.symm, rfl⟩
  | true =>
    obtain ⟨k, rfl⟩ : ∃ k : Nat, i = k := by simp [Bs.is] at hi; exact ⟨i.toNat, by omega⟩
    have hk : k < n := by simp [Bs.is] at hi; omega
    have h1 := Lib.hid (Bs.has_word X k)
    have ht : ∀ w, w.cell? ⟨p, 0, none⟩ = some (.int .i64 n) → Calls Tryd.prog 32 #[.pointer (some ⟨p, 0, none⟩), .int .i64 (k : Nat)] w fun e w' => e = .returned (.bool true) ∧ w = w' := by
      intro w hc; rw [← hi]; exact is_any p n k w hc
    have c3 := c2 _ (Bs.nw_lt hk)
    have hnw := Bs.nw_lt hk
    have hnl := Bs.nw_le hle
    have hwl := Bs.word_lt X (k / 64)
    clear hi h c2
    go_enter Tryd.func20, Tryd.ntmps20
    go_wp2_with (go_at_call 32; refine (ht _ (by assumption)).mono ?_; rintro e w' ⟨rfl, rfl⟩)
    go_ret
    refine ⟨ret_bool ?_, rfl⟩
    exact bit_law h1.out hwl
end Go.Proofs.YtccmmilbnfiacaaDoor
