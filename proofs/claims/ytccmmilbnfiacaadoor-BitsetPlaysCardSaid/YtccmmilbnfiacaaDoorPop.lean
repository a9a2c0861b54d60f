/-
  Plain law: how many ones a word has, as bits.OnesCount64 reckons it.
-/
import Derived.Laws.Bits64b
namespace Go.Proofs.YtccmmilbnfiacaaDoor
namespace Pop
/-- The ones of the lowest 8 bits. -/
def c8 (b : Nat) : Nat := (b % 2) + (b / 2 % 2) + (b / 4 % 2) + (b / 8 % 2) + (b / 16 % 2) + (b / 32 % 2) + (b / 64 % 2) + (b / 128 % 2)
/-- The three first steps at one byte. -/
def s1 (b : Nat) : Nat := ((b >>> 1) &&& 0x55) + (b &&& 0x55)
def s2 (b : Nat) : Nat := ((b >>> 2) &&& 0x33) + (b &&& 0x33)
def s3 (b : Nat) : Nat := ((b >>> 4) + b) &&& 0x0f
theorem byte : ∀ b, b < 256 → s1 b < 256 ∧ s2 (s1 b) < 256 ∧ s3 (s2 (s1 b)) = c8 b ∧ c8 b ≤ 8 ∧ s2 (s1 b) ≤ 0x44 := by decide +kernel
/-- The masks of k bytes. -/
def rep (m : Nat) : Nat → Nat
  | 0 => 0
  | k + 1 => 2 ^ 8 * rep m k + m
theorem and_split (x y b m : Nat) (hb : b < 256) (hm : m < 256) : (2 ^ 8 * x + b) &&& (2 ^ 8 * y + m) = 2 ^ 8 * (x &&& y) + (b &&& m) := by
  have h1 : b &&& m < 2 ^ 8 := Nat.and_lt_two_pow _ hm
  apply Nat.eq_of_testBit_eq
  intro j
  rw [Nat.testBit_and, Nat.testBit_two_pow_mul_add _ hb, Nat.testBit_two_pow_mul_add _ hm, Nat.testBit_two_pow_mul_add _ h1]
  split <;> simp [Nat.testBit_and]
/-- A shift within a byte, where the mask lets none of the next byte's bits through. -/
theorem shift_split (x y b m s : Nat) (hb : b < 256) (hm : m < 2 ^ (8 - s)) (hs : s ≤ 8) : ((2 ^ 8 * x + b) >>> s) &&& (2 ^ 8 * y + m) = 2 ^ 8 * ((x >>> s) &&& y) + ((b >>> s) &&& m) := by
  have hm8 : m < 2 ^ 8 := Nat.lt_of_lt_of_le hm (Nat.pow_le_pow_right (by decide) (by omega))
  have h1 : (b >>> s) &&& m < 2 ^ 8 := Nat.and_lt_two_pow _ hm8
  apply Nat.eq_of_testBit_eq
  intro j
  rw [Nat.testBit_and, Nat.testBit_shiftRight, Nat.testBit_two_pow_mul_add _ hb, Nat.testBit_two_pow_mul_add _ hm8, Nat.testBit_two_pow_mul_add _ h1]
  by_cases hj : j < 8
  · simp only [hj, if_true, Nat.testBit_and, Nat.testBit_shiftRight]
    by_cases hj2 : s + j < 8
    · simp [hj2]
    · have : m.testBit j = false := Nat.testBit_lt_two_pow (Nat.lt_of_lt_of_le hm (Nat.pow_le_pow_right (by decide) (by omega)))
      simp [this]
  · have hj2 : ¬ s + j < 8 := by omega
    simp only [hj, hj2, if_false, Nat.testBit_and, Nat.testBit_shiftRight]
    rw [show s + j - 8 = s + (j - 8) from by omega]
/-- Step 1, 2 over k bytes. -/
def S1 (k x : Nat) : Nat := ((x >>> 1) &&& rep 0x55 k) + (x &&& rep 0x55 k)
def S2 (k x : Nat) : Nat := ((x >>> 2) &&& rep 0x33 k) + (x &&& rep 0x33 k)
def S3 (k x : Nat) : Nat := ((x >>> 4) + x) &&& rep 0x0f k
theorem rep_succ (m k : Nat) : rep m (k + 1) = 2 ^ 8 * rep m k + m := rfl
theorem S1_succ (k x b : Nat) (hb : b < 256) : S1 (k + 1) (2 ^ 8 * x + b) = 2 ^ 8 * S1 k x + s1 b := by
  unfold S1 s1
  rw [rep_succ, shift_split _ _ _ _ 1 hb (by decide) (by decide), and_split _ _ _ _ hb (by decide)]
  omega
theorem S2_succ (k x b : Nat) (hb : b < 256) : S2 (k + 1) (2 ^ 8 * x + b) = 2 ^ 8 * S2 k x + s2 b := by
  unfold S2 s2
  rw [rep_succ, shift_split _ _ _ _ 2 hb (by decide) (by decide), and_split _ _ _ _ hb (by decide)]
  omega
theorem low4 (x : Nat) : x &&& 15 = x % 16 := Nat.and_two_pow_sub_one_eq_mod x 4
theorem S3_succ (k y b : Nat) (hb : b ≤ 0x44) (hy : y % 16 ≤ 4) : S3 (k + 1) (2 ^ 8 * y + b) = 2 ^ 8 * S3 k y + s3 b := by
  have e : ((2 ^ 8 * y + b) >>> 4) + (2 ^ 8 * y + b) = 2 ^ 8 * ((y >>> 4) + y) + (16 * (y % 16) + ((b >>> 4) + b)) := by
    simp only [Nat.shiftRight_eq_div_pow]
    omega
  have hr : 16 * (y % 16) + ((b >>> 4) + b) < 256 := by
    simp only [Nat.shiftRight_eq_div_pow]
    omega
  unfold S3 s3
  rw [e, rep_succ, and_split _ _ _ _ hr (by decide), low4, low4]
  omega
/-- All three. -/
def P (k x : Nat) : Nat := S3 k (S2 k (S1 k x))
theorem s2_low : ∀ b, b < 256 → s2 (s1 b) % 16 ≤ 4 := by decide +kernel
theorem rep_zero (m : Nat) : rep m 0 = 0 := rfl
theorem zero_of (x : Nat) : S1 0 x = 0 ∧ S2 0 x = 0 := by simp [S1, S2, rep_zero]
theorem low_of (k x : Nat) : S2 k (S1 k x) % 16 ≤ 4 := by
  cases k with
  | zero => rw [(zero_of _).2]; omega
  | succ k =>
    have hb : x % 256 < 256 := Nat.mod_lt _ (by decide)
    have e : x = 2 ^ 8 * (x / 256) + x % 256 := by omega
    rw [e, S1_succ _ _ _ hb, S2_succ _ _ _ (byte _ hb).1]
    have := s2_low _ hb
    omega
theorem P_succ (k x b : Nat) (hb : b < 256) : P (k + 1) (2 ^ 8 * x + b) = 2 ^ 8 * P k x + c8 b := by
  obtain ⟨h1, h2, h3, h4, h5⟩ := byte b hb
  unfold P
  rw [S1_succ _ _ _ hb, S2_succ _ _ _ h1, S3_succ _ _ _ h5 (low_of _ _), h3]
theorem S1_lt (k x : Nat) : S1 k x < 256 ^ k := by
  induction k generalizing x with
  | zero => rw [(zero_of _).1]; decide
  | succ k ih =>
    have hb : x % 256 < 256 := Nat.mod_lt _ (by decide)
    have e : x = 2 ^ 8 * (x / 256) + x % 256 := by omega
    rw [e, S1_succ _ _ _ hb, Nat.pow_succ]
    have := ih (x / 256)
    have := (byte _ hb).1
    omega
theorem S2_lt (k x : Nat) : S2 k (S1 k x) < 256 ^ k := by
  induction k generalizing x with
  | zero => rw [(zero_of _).2]; decide
  | succ k ih =>
    have hb : x % 256 < 256 := Nat.mod_lt _ (by decide)
    have e : x = 2 ^ 8 * (x / 256) + x % 256 := by omega
    rw [e, S1_succ _ _ _ hb, S2_succ _ _ _ (byte _ hb).1, Nat.pow_succ]
    have := ih (x / 256)
    have := (byte _ hb).2.1
    omega
theorem S2_le (k x : Nat) : S2 k (S1 k x) ≤ 68 * rep 1 k := by
  induction k generalizing x with
  | zero => rw [(zero_of _).2]; omega
  | succ k ih =>
    have hb : x % 256 < 256 := Nat.mod_lt _ (by decide)
    have e : x = 2 ^ 8 * (x / 256) + x % 256 := by omega
    rw [e, S1_succ _ _ _ hb, S2_succ _ _ _ (byte _ hb).1, rep_succ]
    have := ih (x / 256)
    have := (byte _ hb).2.2.2.2
    omega
/-- The ones among the lowest 8 k bits. -/
def ones (k x : Nat) : Nat := ((List.range (8 * k)).filter x.testBit).length
theorem ones_byte : ∀ b, b < 256 → ((List.range 8).filter b.testBit).length = c8 b := by decide +kernel
theorem ones_succ (k x b : Nat) (hb : b < 256) : ones (k + 1) (2 ^ 8 * x + b) = ones k x + c8 b := by
  unfold ones
  rw [show 8 * (k + 1) = 8 + 8 * k from by omega, List.range_add, List.filter_append, List.length_append, List.filter_map, List.length_map, ← ones_byte b hb, Nat.add_comm]
  congr 2
  · apply List.filter_congr
    intro j _
    simp only [Function.comp]
    rw [Nat.testBit_two_pow_mul_add _ hb, if_neg (by omega)]
    congr 1
    omega
  · apply List.filter_congr
    intro j hj
    rw [Nat.testBit_two_pow_mul_add _ hb, if_pos (List.mem_range.1 hj)]
theorem c8_le (b : Nat) : c8 b ≤ 8 := by unfold c8; omega
/-- The last steps. -/
def fold8 (x : Nat) : Nat :=
  let x := x + x / 256
  let x := x + x / 65536
  let x := x + x / 4294967296
  x % 128
theorem dv (a b m : Nat) (h : a < m) : (a + m * b) / m = b := by
  rw [Nat.add_mul_div_left _ _ (by omega), Nat.div_eq_of_lt h, Nat.zero_add]
theorem fold_of (c0 c1 c2 c3 c4 c5 c6 c7 : Nat) (h0 : c0 ≤ 8) (h1 : c1 ≤ 8) (h2 : c2 ≤ 8) (h3 : c3 ≤ 8) (h4 : c4 ≤ 8) (h5 : c5 ≤ 8) (h6 : c6 ≤ 8) (h7 : c7 ≤ 8) :
    fold8 (256 * (256 * (256 * (256 * (256 * (256 * (256 * (256 * 0 + c7) + c6) + c5) + c4) + c3) + c2) + c1) + c0) = c0 + c1 + c2 + c3 + c4 + c5 + c6 + c7 := by
  unfold fold8
  simp only
  have e0 : 256 * (256 * (256 * (256 * (256 * (256 * (256 * (256 * 0 + c7) + c6) + c5) + c4) + c3) + c2) + c1) + c0 = 1 * (c0) + 256 * (c1) + 65536 * (c2) + 16777216 * (c3) + 4294967296 * (c4) + 1099511627776 * (c5) + 281474976710656 * (c6) + 72057594037927936 * (c7) := by omega
  rw [e0]
  clear e0
  have e1 : (1 * (c0) + 256 * (c1) + 65536 * (c2) + 16777216 * (c3) + 4294967296 * (c4) + 1099511627776 * (c5) + 281474976710656 * (c6) + 72057594037927936 * (c7)) / 256 = 1 * (c1) + 256 * (c2) + 65536 * (c3) + 16777216 * (c4) + 4294967296 * (c5) + 1099511627776 * (c6) + 281474976710656 * (c7) := (congrArg (· / 256) (show 1 * (c0) + 256 * (c1) + 65536 * (c2) + 16777216 * (c3) + 4294967296 * (c4) + 1099511627776 * (c5) + 281474976710656 * (c6) + 72057594037927936 * (c7) = (1 * (c0)) + 256 * (1 * (c1) + 256 * (c2) + 65536 * (c3) + 16777216 * (c4) + 4294967296 * (c5) + 1099511627776 * (c6) + 281474976710656 * (c7)) from by omega)).trans (dv _ _ _ (by omega))
  rw [e1]
  clear e1
  have e2 : 1 * (c0) + 256 * (c1) + 65536 * (c2) + 16777216 * (c3) + 4294967296 * (c4) + 1099511627776 * (c5) + 281474976710656 * (c6) + 72057594037927936 * (c7) + (1 * (c1) + 256 * (c2) + 65536 * (c3) + 16777216 * (c4) + 4294967296 * (c5) + 1099511627776 * (c6) + 281474976710656 * (c7)) = 1 * (c0 + c1) + 256 * (c1 + c2) + 65536 * (c2 + c3) + 16777216 * (c3 + c4) + 4294967296 * (c4 + c5) + 1099511627776 * (c5 + c6) + 281474976710656 * (c6 + c7) + 72057594037927936 * (c7) := by omega
  rw [e2]
  clear e2
  have e3 : (1 * (c0 + c1) + 256 * (c1 + c2) + 65536 * (c2 + c3) + 16777216 * (c3 + c4) + 4294967296 * (c4 + c5) + 1099511627776 * (c5 + c6) + 281474976710656 * (c6 + c7) + 72057594037927936 * (c7)) / 65536 = 1 * (c2 + c3) + 256 * (c3 + c4) + 65536 * (c4 + c5) + 16777216 * (c5 + c6) + 4294967296 * (c6 + c7) + 1099511627776 * (c7) := (congrArg (· / 65536) (show 1 * (c0 + c1) + 256 * (c1 + c2) + 65536 * (c2 + c3) + 16777216 * (c3 + c4) + 4294967296 * (c4 + c5) + 1099511627776 * (c5 + c6) + 281474976710656 * (c6 + c7) + 72057594037927936 * (c7) = (1 * (c0 + c1) + 256 * (c1 + c2)) + 65536 * (1 * (c2 + c3) + 256 * (c3 + c4) + 65536 * (c4 + c5) + 16777216 * (c5 + c6) + 4294967296 * (c6 + c7) + 1099511627776 * (c7)) from by omega)).trans (dv _ _ _ (by omega))
  rw [e3]
  clear e3
  have e4 : 1 * (c0 + c1) + 256 * (c1 + c2) + 65536 * (c2 + c3) + 16777216 * (c3 + c4) + 4294967296 * (c4 + c5) + 1099511627776 * (c5 + c6) + 281474976710656 * (c6 + c7) + 72057594037927936 * (c7) + (1 * (c2 + c3) + 256 * (c3 + c4) + 65536 * (c4 + c5) + 16777216 * (c5 + c6) + 4294967296 * (c6 + c7) + 1099511627776 * (c7)) = 1 * (c0 + c1 + c2 + c3) + 256 * (c1 + c2 + c3 + c4) + 65536 * (c2 + c3 + c4 + c5) + 16777216 * (c3 + c4 + c5 + c6) + 4294967296 * (c4 + c5 + c6 + c7) + 1099511627776 * (c5 + c6 + c7) + 281474976710656 * (c6 + c7) + 72057594037927936 * (c7) := by omega
  rw [e4]
  clear e4
  have e5 : (1 * (c0 + c1 + c2 + c3) + 256 * (c1 + c2 + c3 + c4) + 65536 * (c2 + c3 + c4 + c5) + 16777216 * (c3 + c4 + c5 + c6) + 4294967296 * (c4 + c5 + c6 + c7) + 1099511627776 * (c5 + c6 + c7) + 281474976710656 * (c6 + c7) + 72057594037927936 * (c7)) / 4294967296 = 1 * (c4 + c5 + c6 + c7) + 256 * (c5 + c6 + c7) + 65536 * (c6 + c7) + 16777216 * (c7) := (congrArg (· / 4294967296) (show 1 * (c0 + c1 + c2 + c3) + 256 * (c1 + c2 + c3 + c4) + 65536 * (c2 + c3 + c4 + c5) + 16777216 * (c3 + c4 + c5 + c6) + 4294967296 * (c4 + c5 + c6 + c7) + 1099511627776 * (c5 + c6 + c7) + 281474976710656 * (c6 + c7) + 72057594037927936 * (c7) = (1 * (c0 + c1 + c2 + c3) + 256 * (c1 + c2 + c3 + c4) + 65536 * (c2 + c3 + c4 + c5) + 16777216 * (c3 + c4 + c5 + c6)) + 4294967296 * (1 * (c4 + c5 + c6 + c7) + 256 * (c5 + c6 + c7) + 65536 * (c6 + c7) + 16777216 * (c7)) from by omega)).trans (dv _ _ _ (by omega))
  rw [e5]
  clear e5
  have e6 : 1 * (c0 + c1 + c2 + c3) + 256 * (c1 + c2 + c3 + c4) + 65536 * (c2 + c3 + c4 + c5) + 16777216 * (c3 + c4 + c5 + c6) + 4294967296 * (c4 + c5 + c6 + c7) + 1099511627776 * (c5 + c6 + c7) + 281474976710656 * (c6 + c7) + 72057594037927936 * (c7) + (1 * (c4 + c5 + c6 + c7) + 256 * (c5 + c6 + c7) + 65536 * (c6 + c7) + 16777216 * (c7)) = 1 * (c0 + c1 + c2 + c3 + c4 + c5 + c6 + c7) + 256 * (c1 + c2 + c3 + c4 + c5 + c6 + c7) + 65536 * (c2 + c3 + c4 + c5 + c6 + c7) + 16777216 * (c3 + c4 + c5 + c6 + c7) + 4294967296 * (c4 + c5 + c6 + c7) + 1099511627776 * (c5 + c6 + c7) + 281474976710656 * (c6 + c7) + 72057594037927936 * (c7) := by omega
  rw [e6]
  clear e6
  have e7 : ∀ a b c d e f g h : Nat, a ≤ 64 → (1 * a + 256 * b + 65536 * c + 16777216 * d + 4294967296 * e + 1099511627776 * f + 281474976710656 * g + 72057594037927936 * h) % 128 = a := by
    intro a b c d e f g h ha
    rw [show 1 * a + 256 * b + 65536 * c + 16777216 * d + 4294967296 * e + 1099511627776 * f + 281474976710656 * g + 72057594037927936 * h = a + 128 * (2 * b + 512 * c + 131072 * d + 33554432 * e + 8589934592 * f + 2199023255552 * g + 562949953421312 * h) from by omega, Nat.add_mul_mod_self_left]
    exact Nat.mod_eq_of_lt (by omega)
  exact e7 _ _ _ _ _ _ _ _ (by omega)
theorem P_zero (x : Nat) : P 0 x = 0 := by simp [P, S3, rep_zero]
theorem P_lt (k x : Nat) : P k x ≤ 8 * rep 1 k := by
  induction k generalizing x with
  | zero => rw [P_zero]; omega
  | succ k ih =>
    have hb : x % 256 < 256 := Nat.mod_lt _ (by decide)
    have e : x = 2 ^ 8 * (x / 256) + x % 256 := by omega
    rw [e, P_succ _ _ _ hb, rep_succ]
    have := ih (x / 256)
    have := c8_le (x % 256)
    omega
theorem count (x : Nat) : fold8 (P 8 x) = ones 8 x := by
  have go : ∀ k x, P (k + 1) x = 256 * P k (x / 256) + c8 (x % 256) ∧ ones (k + 1) x = ones k (x / 256) + c8 (x % 256) := by
    intro k x
    have hb : x % 256 < 256 := Nat.mod_lt _ (by decide)
    have e : x = 2 ^ 8 * (x / 256) + x % 256 := by omega
    constructor
    · conv => lhs; rw [e]
      rw [P_succ _ _ _ hb]
    · conv => lhs; rw [e]
      rw [ones_succ _ _ _ hb]
  rw [(go 7 _).1, (go 6 _).1, (go 5 _).1, (go 4 _).1, (go 3 _).1, (go 2 _).1, (go 1 _).1, (go 0 _).1, P_zero]
  rw [(go 7 _).2, (go 6 _).2, (go 5 _).2, (go 4 _).2, (go 3 _).2, (go 2 _).2, (go 1 _).2, (go 0 _).2]
  rw [fold_of _ _ _ _ _ _ _ _ (c8_le _) (c8_le _) (c8_le _) (c8_le _) (c8_le _) (c8_le _) (c8_le _) (c8_le _)]
  have z : ∀ x, ones 0 x = 0 := fun x => by simp [ones]
  rw [z]
  omega
/-- As the program reckons it. -/
theorem step1 (x a : Nat) (hx : x < 18446744073709551616) (ha : a = S1 8 x) : a < 18446744073709551616 ∧ IntKind.u64.wrap (bits BinOp.and IntKind.u64 ((x : Int) / 2) 6148914691236517205 + bits BinOp.and IntKind.u64 (x : Int) 6148914691236517205) = (a : Int) := by
  have hl : a < 18446744073709551616 := by rw [ha]; exact Nat.lt_of_lt_of_le (S1_lt 8 x) (by decide)
  refine ⟨hl, ?_⟩
  have e1 := bits_and_u64_nat (x / 2) 6148914691236517205 (by omega) (by decide)
  have e2 := bits_and_u64_nat x 6148914691236517205 hx (by decide)
  rw [Int.natCast_ediv] at e1
  have h : (x / 2 &&& 6148914691236517205) + (x &&& 6148914691236517205) = a := by
    rw [ha]; unfold S1; rw [show rep 0x55 8 = 6148914691236517205 from by decide, Nat.shiftRight_eq_div_pow]
  rw [show ((6148914691236517205 : Nat) : Int) = 6148914691236517205 from rfl] at e1 e2
  rw [show ((2 : Nat) : Int) = 2 from rfl] at e1
  rw [e1, e2, IntKind.wrap_u64]
  omega
theorem step2 (x : Nat) (ha : x < 18446744073709551616) (b : Nat) (hb : b = S2 8 x) (hl : b < 18446744073709551616) : IntKind.u64.wrap (bits BinOp.and IntKind.u64 ((x : Int) / 4) 3689348814741910323 + bits BinOp.and IntKind.u64 (x : Int) 3689348814741910323) = (b : Int) := by
  have e1 := bits_and_u64_nat (x / 4) 3689348814741910323 (by omega) (by decide)
  have e2 := bits_and_u64_nat x 3689348814741910323 ha (by decide)
  rw [Int.natCast_ediv] at e1
  have h : (x / 4 &&& 3689348814741910323) + (x &&& 3689348814741910323) = b := by
    rw [hb]; unfold S2; rw [show rep 0x33 8 = 3689348814741910323 from by decide, Nat.shiftRight_eq_div_pow]
  rw [show ((3689348814741910323 : Nat) : Int) = 3689348814741910323 from rfl] at e1 e2
  rw [show ((4 : Nat) : Int) = 4 from rfl] at e1
  rw [e1, e2, IntKind.wrap_u64]
  omega
theorem step3 (x c : Nat) (hx : x ≤ 4919131752989213764) (hc : c = S3 8 x) : bits BinOp.and IntKind.u64 ((x : Int) / 16 + (x : Int)) 1085102592571150095 = (c : Int) := by
  have e1 := bits_and_u64_nat (x / 16 + x) 1085102592571150095 (by omega) (by decide)
  have h : (x / 16 + x &&& 1085102592571150095) = c := by
    rw [hc]; unfold S3; rw [show rep 0x0f 8 = 1085102592571150095 from by decide, Nat.shiftRight_eq_div_pow]
  rw [show ((1085102592571150095 : Nat) : Int) = 1085102592571150095 from rfl] at e1
  rw [show ((x / 16 + x : Nat) : Int) = (x : Int) / 16 + (x : Int) from by omega] at e1
  rw [e1, h]
theorem all (x : Nat) : ∃ a b c : Nat, a = S1 8 x ∧ b = S2 8 a ∧ c = S3 8 b ∧ b ≤ 4919131752989213764 ∧ c ≤ 578721382704613384 ∧ fold8 c = ones 8 x := by
  refine ⟨_, _, _, rfl, rfl, rfl, ?_, ?_, count x⟩
  · have := S2_le 8 x
    rw [show rep 1 8 = 72340172838076673 from by decide] at this
    omega
  · have := P_lt 8 x
    rw [show rep 1 8 = 72340172838076673 from by decide] at this
    exact this
end Pop
end Go.Proofs.YtccmmilbnfiacaaDoor
