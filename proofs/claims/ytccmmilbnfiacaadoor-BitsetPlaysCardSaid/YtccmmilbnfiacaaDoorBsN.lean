/-
  Walks of OnesCount64 and Len.
-/
import Derived.Test.YtccmmilbnfiacaaDoorBsA
import Derived.Test.YtccmmilbnfiacaaDoorBsM2
import Derived.Test.YtccmmilbnfiacaaDoorPop
namespace Go.Proofs.YtccmmilbnfiacaaDoor
open Go.RowKit
set_option linter.unusedVariables false

theorem bits_and_i64_nat (a b : Nat) (ha : a < 9223372036854775808) (hb : b < 9223372036854775808) :
    bits .and .i64 (a : Int) (b : Int) = ((a &&& b : Nat) : Int) := by
  have hx : a &&& b < 2 ^ 63 := Nat.and_lt_two_pow _ (by omega)
  have h1 : (BitVec.ofInt 64 (a : Int)).toNat = a := by
    rw [BitVec.ofInt_natCast, BitVec.toNat_ofNat]; exact Nat.mod_eq_of_lt (by omega)
  have h2 : (BitVec.ofInt 64 (b : Int)).toNat = b := by
    rw [BitVec.ofInt_natCast, BitVec.toNat_ofNat]; exact Nat.mod_eq_of_lt (by omega)
  show IntKind.i64.wrap ((BitVec.ofInt 64 (a : Int) &&& BitVec.ofInt 64 (b : Int)).toNat : Int) = _
  rw [BitVec.toNat_and, h1, h2, IntKind.wrap_i64]
  omega
theorem last_law {c x : Nat} (hc : c ≤ 578721382704613384) (hf : Pop.fold8 c = Pop.ones 8 x) :
    bits BinOp.and IntKind.i64 ((c : Int) + (c : Int) / 256 + ((c : Int) + (c : Int) / 256) / 65536 + ((c : Int) + (c : Int) / 256 + ((c : Int) + (c : Int) / 256) / 65536) / 4294967296) 127 = ((Bs.bl x).length : Int) := by
  have e : ((c : Int) + (c : Int) / 256 + ((c : Int) + (c : Int) / 256) / 65536 + ((c : Int) + (c : Int) / 256 + ((c : Int) + (c : Int) / 256) / 65536) / 4294967296) = ((c + c / 256 + (c + c / 256) / 65536 + (c + c / 256 + (c + c / 256) / 65536) / 4294967296 : Nat) : Int) := by omega
  rw [e]
  have h := bits_and_i64_nat (c + c / 256 + (c + c / 256) / 65536 + (c + c / 256 + (c + c / 256) / 65536) / 4294967296) 127 (by omega) (by decide)
  rw [show ((127 : Nat) : Int) = 127 from rfl] at h
  rw [h, show (127 : Nat) = 2 ^ 7 - 1 from rfl, Nat.and_two_pow_sub_one_eq_mod]
  have : (Bs.bl x).length = Pop.ones 8 x := rfl
  rw [this, ← hf]
  rfl

set_option maxHeartbeats 1000000 in
theorem ones_any (x : Nat) (w : World) (hx : x < 18446744073709551616) :
    Calls Tryd.prog 36 #[.int .u64 x] w fun e w' => e = .returned (.int .i64 ((Bs.bl x).length : Nat)) ∧ w = w' := by
  obtain ⟨a, b, c, ha, hb, hc, lb, lc, hf⟩ := Pop.all x
  obtain ⟨la, f1⟩ := Pop.step1 x a hx ha
  have f2 := Pop.step2 a la b hb (by omega)
  have f3 := Pop.step3 b c lb hc
  have HF := Lib.hid hf
  clear ha hb hc hf
  go_enter Tryd.func36, Tryd.ntmps36
  go_wp2
  go_ret
  refine ⟨ret_int ?_, rfl⟩
  exact last_law lc (HF.out)

/-- How many numbers the first k words have. -/
def cnt (X k : Nat) : Nat := ((List.range k).map fun j => (Bs.bl (Bs.word X j)).length).sum
theorem cnt_succ (X k : Nat) : cnt X (k + 1) = cnt X k + (Bs.bl (Bs.word X k)).length := by simp [cnt, List.range_succ]
theorem bl_len (w : Nat) : (Bs.bl w).length ≤ 64 := by
  have := List.length_filter_le w.testBit (List.range 64); simpa [Bs.bl] using this
theorem cnt_le (X k : Nat) : cnt X k ≤ 64 * k := by
  induction k with
  | zero => simp [cnt]
  | succ k ih => have := bl_len (Bs.word X k); rw [cnt_succ]; omega
theorem cnt_all {n X : Nat} (h : X < 2 ^ n) : cnt X (Bs.nw n) = (Bs.lst n X).length := by
  rw [← Bs.lst_from h]
  unfold Bs.from_ cnt
  rw [Nat.sub_zero, ← List.range_eq_range', List.length_flatMap]
  simp

set_option maxRecDepth 100000 in
set_option maxHeartbeats 1000000 in
theorem len_any (p b n X : Nat) (w : World) (h : SetAt w p b n X) :
    Calls Tryd.prog 23 #[.pointer (some ⟨p, 0, none⟩)] w fun e w' => e = .returned (.int .i64 ((Bs.lst n X).length : Nat)) ∧ w = w' := by
  obtain ⟨c0, ⟨cap, c1⟩, c2, _⟩ := h.cells
  have hle := Bs.nw_le h.le
  have C2 := Lib.hid c2
  have HC := Lib.hid (cnt_all h.lt)
  clear h c2
  go_enter Tryd.func23, Tryd.ntmps23
  go_wp2_with fail
  go_loop [3, 11] (fun s i => ∃ k : Nat, i = .int .i64 k ∧ k ≤ Bs.nw n ∧ s = .int .i64 (cnt X k)) (fun _ i => Bs.nw n - (intOf i).toNat)
  case atStart => exact ⟨0, rfl, Nat.zero_le _, rfl⟩
  case round =>
    obtain ⟨k, rfl, hk, rfl⟩ := hrel
    have hcl := cnt_le X k
    by_cases hlt : k < Bs.nw n
    · have hc := C2.out k hlt
      have ho := fun w => ones_any (Bs.word X k) w (Bs.word_lt X k)
      have hbl := bl_len (Bs.word X k)
      have hs := Lib.hid (cnt_succ X k)
      go_wp2_with fail
      refine (ho _).mono ?_
      rintro e w' ⟨rfl, rfl⟩
      clear ho hc
      go_wp2_with fail
      go_round
      case rel => exact ⟨k + 1, by go_num, by omega, by rw [hs.out]; go_num⟩
      case measure => simp [intOf]; omega
    · obtain rfl : k = Bs.nw n := by omega
      go_wp2_with fail
      go_ret
      exact ⟨ret_int (by rw [HC.out]), rfl⟩
end Go.Proofs.YtccmmilbnfiacaaDoor
