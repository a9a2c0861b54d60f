/-
  Walks of Add and Drop.
-/
import Derived.Test.YtccmmilbnfiacaaDoorBsK
namespace Go.Proofs.YtccmmilbnfiacaaDoor
open Go.RowKit
set_option linter.unusedVariables false

/-- What Add does. -/
def addB (n X : Nat) (i : Int) : Bool := Bs.is n i && !Bs.has X i
def addX (n X : Nat) (i : Int) : Nat := if Bs.is n i then Bs.add X i.toNat else X

theorem pow_lt (k : Nat) : 2 ^ (k % 64) < 18446744073709551616 := Nat.pow_lt_pow_right (a := 2) (n := 64) (by decide) (Nat.mod_lt _ (by decide))
theorem pow_cast (k : Nat) : IntKind.u64.wrap (2 ^ (k % 64)) = ((2 ^ (k % 64) : Nat) : Int) := by
  have := pow_lt k
  rw [IntKind.wrap_u64]
  have e : ((2 : Int) ^ (k % 64)) = ((2 ^ (k % 64) : Nat) : Int) := by push_cast; rfl
  rw [e]
  generalize 2 ^ (k % 64) = a at *
  omega
theorem or_law (W k : Nat) (hw : W < 18446744073709551616) : bits BinOp.or IntKind.u64 (W : Int) (IntKind.u64.wrap (2 ^ (k % 64))) = ((W ||| 2 ^ (k % 64) : Nat) : Int) := by
  rw [pow_cast, bits_or_u64_nat _ _ hw (pow_lt k)]
theorem bits_andNot_u64_nat (a b : Nat) (ha : a < 18446744073709551616) (hb : b < 18446744073709551616) :
    bits .andNot .u64 (a : Int) (b : Int) = ((a ^^^ (a &&& b) : Nat) : Int) := by
  have hx : a ^^^ (a &&& b) < 2 ^ 64 := Nat.xor_lt_two_pow (by omega) (Nat.and_lt_two_pow _ (by omega))
  have h1 : (BitVec.ofInt 64 (a : Int)).toNat = a := by
    rw [BitVec.ofInt_natCast, BitVec.toNat_ofNat]; exact Nat.mod_eq_of_lt (by omega)
  have h2 : (BitVec.ofInt 64 (b : Int)).toNat = b := by
    rw [BitVec.ofInt_natCast, BitVec.toNat_ofNat]; exact Nat.mod_eq_of_lt (by omega)
  show IntKind.u64.wrap ((BitVec.ofInt 64 (a : Int) &&& ~~~ BitVec.ofInt 64 (b : Int)).toNat : Int) = _
  have e : (BitVec.ofInt 64 (a : Int) &&& ~~~ BitVec.ofInt 64 (b : Int)) = (BitVec.ofInt 64 (a : Int) ^^^ (BitVec.ofInt 64 (a : Int) &&& BitVec.ofInt 64 (b : Int))) := by
    apply BitVec.eq_of_getLsbD_eq
    intro i hi
    simp only [BitVec.getLsbD_and, BitVec.getLsbD_not, BitVec.getLsbD_xor, hi, decide_true, Bool.true_and]
    cases (BitVec.ofInt 64 (a : Int)).getLsbD i <;> cases (BitVec.ofInt 64 (b : Int)).getLsbD i <;> rfl
  rw [e, BitVec.toNat_xor, BitVec.toNat_and, h1, h2, IntKind.wrap_u64]
  omega
theorem andNot_law (W k : Nat) (hw : W < 18446744073709551616) : bits BinOp.andNot IntKind.u64 (W : Int) (IntKind.u64.wrap (2 ^ (k % 64))) = ((W ^^^ (W &&& 2 ^ (k % 64)) : Nat) : Int) := by
  rw [pow_cast, bits_andNot_u64_nat _ _ hw (pow_lt k)]

set_option maxHeartbeats 1000000 in
theorem add_in (p b n X k : Nat) (w : World) (h : SetAt w p b n X) (hk : k < n) (hb : Bs.has X k = false) :
    Calls Tryd.prog 13 #[.pointer (some ⟨p, 0, none⟩), .int .i64 (k : Nat)] w fun e w' => e = .returned (.bool true) ∧ SetAt w' p b n (Bs.add X k) ∧ Upd b w w' := by
  obtain ⟨c0, ⟨cap, c1⟩, c2, c4⟩ := h.cells
  have hle := h.le
  have H := Lib.hid h
  have hi : Bs.is n k = true := by simp [Bs.is, hk]
  have ht : ∀ w, w.cell? ⟨p, 0, none⟩ = some (.int .i64 n) → Calls Tryd.prog 32 #[.pointer (some ⟨p, 0, none⟩), .int .i64 (k : Nat)] w fun e w' => e = .returned (.bool true) ∧ w = w' := by
    intro w hc; rw [← hi]; exact is_any p n k w hc
  have hs : Calls Tryd.prog 20 #[.pointer (some ⟨p, 0, none⟩), .int .i64 (k : Nat)] w fun e w' => e = .returned (.bool false) ∧ w = w' := by
    rw [← hb]; exact has_any p b n X k w h
  have c3 := c2 _ (Bs.nw_lt hk)
  have c5 := c4 (k / 64)
  have hnw := Bs.nw_lt hk
  have hnl := Bs.nw_le hle
  have hwl := Bs.word_lt X (k / 64)
  clear hi h c2 c4 hb
  go_enter Tryd.func13, Tryd.ntmps13
  go_wp2_with (first | (go_at_call 32; refine (ht _ (by assumption)).mono ?_; rintro e w' ⟨rfl, rfl⟩) | (go_at_call 20; refine hs.mono ?_; rintro e w' ⟨rfl, rfl⟩))
  go_region
  all_goals go_wp2
  all_goals go_ret
  all_goals
    have hs := H.out.put (Y := Bs.add X k) hk (Bs.add_lt H.out.lt hk) (fun j hj => by rw [Bs.word_add, if_neg hj]) (congrArg (Value.int .u64) ((or_law _ k hwl).trans (by rw [Bs.word_add, if_pos rfl])))
    exact ⟨rfl, hs.kept rfl rfl, (((Upd.refl b w).setCell _ rfl _)).drew⟩

/-- Add where it adds nothing. -/
theorem add_out (p b n X : Nat) (i : Int) (w : World) (h : SetAt w p b n X) (hb : Bs.is n i = false ∨ Bs.has X i = true) :
    Calls Tryd.prog 13 #[.pointer (some ⟨p, 0, none⟩), .int .i64 i] w fun e w' => e = .returned (.bool false) ∧ w = w' := by
  obtain ⟨c0, _, _, _⟩ := h.cells
  have ht := is_any p n i w c0
  have hs := has_any p b n X i w h
  have hh : Bs.is n i = false ∨ (Bs.is n i = true ∧ Bs.has X i = true) := by
    rcases hb with hb | hb
    · exact .inl hb
    · cases e : Bs.is n i
      · exact .inl rfl
      · exact .inr ⟨rfl, hb⟩
  clear hb
  rcases hh with hi | ⟨hi, hx⟩
  · rw [hi] at ht
    clear hi hs h
    go_enter Tryd.func13, Tryd.ntmps13
    go_wp2_with (go_at_call 32; refine ht.mono ?_; rintro e w' ⟨rfl, rfl⟩)
    go_ret
    exact ⟨rfl, rfl⟩
  · rw [hi] at ht
    rw [hx] at hs
    clear hi hx h
    go_enter Tryd.func13, Tryd.ntmps13
    go_wp2_with (first | (go_at_call 32; refine ht.mono ?_; rintro e w' ⟨rfl, rfl⟩) | (go_at_call 20; refine hs.mono ?_; rintro e w' ⟨rfl, rfl⟩))
    go_ret
    exact ⟨rfl, rfl⟩

/-- Add. -/
theorem add_any (p b n X : Nat) (i : Int) (w : World) (h : SetAt w p b n X) :
    Calls Tryd.prog 13 #[.pointer (some ⟨p, 0, none⟩), .int .i64 i] w fun e w' => e = .returned (.bool (addB n X i)) ∧ SetAt w' p b n (addX n X i) ∧ Upd b w w' := by
  cases hi : Bs.is n i with
  | false =>
    refine (add_out p b n X i w h (.inl hi)).mono ?_
    rintro e w' ⟨rfl, rfl⟩
    exact ⟨ret_bool (by simp [addB, hi]), by simp [addX, hi]; exact h, Upd.refl _ _⟩
  | true =>
    obtain ⟨k, rfl⟩ : ∃ k : Nat, i = k := by simp [Bs.is] at hi; exact ⟨i.toNat, by omega⟩
    have hk : k < n := by simp [Bs.is] at hi; omega
    cases hx : Bs.has X k with
    | true =>
      refine (add_out p b n X k w h (.inr hx)).mono ?_
      rintro e w' ⟨rfl, rfl⟩
      have hb : X.testBit k = true := by simpa [Bs.has] using hx
      exact ⟨ret_bool (by simp [addB, hi, hx]), by simp [addX, hi, Bs.add_same hb]; exact h, Upd.refl _ _⟩
    | false =>
      refine (add_in p b n X k w h hk hx).mono ?_
      rintro e w' ⟨rfl, h1, h2⟩
      exact ⟨ret_bool (by simp [addB, hi, hx]), by simp [addX, hi]; exact h1, h2⟩

set_option maxHeartbeats 1000000 in
theorem drop_in (p b n X k : Nat) (w : World) (h : SetAt w p b n X) (hk : k < n) (hb : Bs.has X k = true) :
    Calls Tryd.prog 12 #[.pointer (some ⟨p, 0, none⟩), .int .i64 (k : Nat)] w fun e w' => e = .returned (.bool true) ∧ SetAt w' p b n (Bs.drop X k) ∧ Upd b w w' := by
  obtain ⟨c0, ⟨cap, c1⟩, c2, c4⟩ := h.cells
  have hle := h.le
  have H := Lib.hid h
  have hs : Calls Tryd.prog 20 #[.pointer (some ⟨p, 0, none⟩), .int .i64 (k : Nat)] w fun e w' => e = .returned (.bool true) ∧ w = w' := by
    rw [← hb]; exact has_any p b n X k w h
  have c3 := c2 _ (Bs.nw_lt hk)
  have c5 := c4 (k / 64)
  have hnw := Bs.nw_lt hk
  have hnl := Bs.nw_le hle
  have hwl := Bs.word_lt X (k / 64)
  clear h c2 c4 hb
  go_enter Tryd.func12, Tryd.ntmps12
  go_wp2_with (go_at_call 20; refine hs.mono ?_; rintro e w' ⟨rfl, rfl⟩)
  go_region
  all_goals go_wp2
  all_goals go_ret
  all_goals
    have hs := H.out.put (Y := Bs.drop X k) hk (Bs.drop_lt k H.out.lt) (fun j hj => by rw [Bs.word_drop, if_neg hj]) (congrArg (Value.int .u64) ((andNot_law _ k hwl).trans (by rw [Bs.word_drop, if_pos rfl])))
    exact ⟨rfl, hs.kept rfl rfl, (((Upd.refl b w).setCell _ rfl _)).drew⟩

theorem drop_out (p b n X : Nat) (i : Int) (w : World) (h : SetAt w p b n X) (hb : Bs.has X i = false) :
    Calls Tryd.prog 12 #[.pointer (some ⟨p, 0, none⟩), .int .i64 i] w fun e w' => e = .returned (.bool false) ∧ w = w' := by
  have hs := has_any p b n X i w h
  rw [hb] at hs
  clear hb h
  go_enter Tryd.func12, Tryd.ntmps12
  go_wp2_with (go_at_call 20; refine hs.mono ?_; rintro e w' ⟨rfl, rfl⟩)
  go_ret
  exact ⟨rfl, rfl⟩

/-- What Drop leaves. -/
def dropX (X : Nat) (i : Int) : Nat := if Bs.has X i then Bs.drop X i.toNat else X

theorem drop_any (p b n X : Nat) (i : Int) (w : World) (h : SetAt w p b n X) :
    Calls Tryd.prog 12 #[.pointer (some ⟨p, 0, none⟩), .int .i64 i] w fun e w' => e = .returned (.bool (Bs.has X i)) ∧ SetAt w' p b n (dropX X i) ∧ Upd b w w' := by
  cases hx : Bs.has X i with
  | false =>
    refine (drop_out p b n X i w h hx).mono ?_
    rintro e w' ⟨rfl, rfl⟩
    exact ⟨rfl, by simp [dropX, hx]; exact h, Upd.refl _ _⟩
  | true =>
    obtain ⟨k, rfl⟩ : ∃ k : Nat, i = k := by simp [Bs.has] at hx; exact ⟨i.toNat, by omega⟩
    have hk : k < n := by
      simp [Bs.has] at hx
      rcases Nat.lt_or_ge k n with hk | hk
      · exact hk
      · rw [Bs.bit_of_lt h.lt hk] at hx; cases hx
    refine (drop_in p b n X k w h hk hx).mono ?_
    rintro e w' ⟨rfl, h1, h2⟩
    exact ⟨rfl, by simp [dropX, hx]; exact h1, h2⟩
end Go.Proofs.YtccmmilbnfiacaaDoor
