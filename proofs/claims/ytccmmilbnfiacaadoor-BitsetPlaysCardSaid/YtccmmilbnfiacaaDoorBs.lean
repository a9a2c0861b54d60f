/-
  Plain laws of small sets: a set is a number; its words; which numbers are its own; the lowest one; what is left behind it.
-/
import Derived.Lib.TrailingZeros
namespace Go.Proofs.YtccmmilbnfiacaaDoor
namespace Bs

/-- The word k of a set. -/
def word (X k : Nat) : Nat := X / 2 ^ (64 * k) % 2 ^ 64
/-- As many words has a set of width n. -/
def nw (n : Nat) : Nat := (n + 63) / 64
/-- Is it one of its numbers, that it has? -/
def has (X : Nat) (i : Int) : Bool := decide (0 ≤ i) && X.testBit i.toNat
/-- Its numbers. -/
def lst (n X : Nat) : List Nat := (List.range n).filter X.testBit
/-- A width. -/
def wid (n : Int) : Nat := (max 0 (min n 1000)).toNat
/-- A number is added, dropped. -/
def add (X i : Nat) : Nat := X ||| 2 ^ i
def drop (X i : Nat) : Nat := X ^^^ (X &&& 2 ^ i)
/-- Is it one of its numbers? -/
def is (n : Nat) (i : Int) : Bool := decide (0 ≤ i) && decide (i < n)

theorem word_lt (X k : Nat) : word X k < 18446744073709551616 := Nat.mod_lt _ (by decide)
theorem word_bit (X k j : Nat) : (word X k).testBit j = (decide (j < 64) && X.testBit (64 * k + j)) := by
  unfold word; rw [Nat.testBit_mod_two_pow, Nat.testBit_div_two_pow, Nat.add_comm]
theorem nw_lt {n i : Nat} (h : i < n) : i / 64 < nw n := by unfold nw; omega
theorem nw_le {n : Nat} (h : n ≤ 1000) : nw n ≤ 16 := by unfold nw; omega
theorem wid_le (n : Int) : wid n ≤ 1000 := by unfold wid; omega

theorem bit_of_lt {X n i : Nat} (h : X < 2 ^ n) (hi : n ≤ i) : X.testBit i = false :=
  Nat.testBit_lt_two_pow (Nat.lt_of_lt_of_le h (Nat.pow_le_pow_right (by decide) hi))

theorem has_word (X i : Nat) : (word X (i / 64) / 2 ^ (i % 64)) % 2 = (X.testBit i).toNat := by
  have h := word_bit X (i / 64) (i % 64)
  rw [Nat.div_add_mod, decide_eq_true (Nat.mod_lt _ (by decide)), Bool.true_and, Nat.testBit_eq_decide_div_mod_eq] at h
  rw [← h]
  rcases Nat.mod_two_eq_zero_or_one (word X (i / 64) / 2 ^ (i % 64)) with e | e <;> simp [e]

theorem add_bit (X i j : Nat) : (add X i).testBit j = (X.testBit j || decide (i = j)) := by
  unfold add; rw [Nat.testBit_or, Nat.testBit_two_pow]
theorem drop_bit (X i j : Nat) : (drop X i).testBit j = (X.testBit j && !decide (i = j)) := by
  unfold drop; rw [Nat.testBit_xor, Nat.testBit_and, Nat.testBit_two_pow]
  cases X.testBit j <;> simp
theorem add_lt {X n i : Nat} (h : X < 2 ^ n) (hi : i < n) : add X i < 2 ^ n := Nat.or_lt_two_pow h (Nat.pow_lt_pow_right (by decide) hi)
theorem drop_lt {X n : Nat} (i : Nat) (h : X < 2 ^ n) : drop X i < 2 ^ n := by
  apply Nat.lt_pow_two_of_testBit
  intro j hj
  rw [drop_bit, bit_of_lt h hj, Bool.false_and]

/-- The words of a set to which a number is added, from which it is dropped. -/
theorem word_add (X i k : Nat) : word (add X i) k = if k = i / 64 then word X k ||| 2 ^ (i % 64) else word X k := by
  apply Nat.eq_of_testBit_eq
  intro j
  rw [word_bit, add_bit]
  split
  · rename_i h
    rw [Nat.testBit_or, word_bit, Nat.testBit_two_pow]
    by_cases hj : j < 64
    · have : decide (i = 64 * k + j) = decide (i % 64 = j) := by rw [decide_eq_decide]; omega
      simp [hj, this]
    · have : decide (i % 64 = j) = false := by simp; omega
      simp [hj, this]
  · rename_i h
    rw [word_bit]
    by_cases hj : j < 64
    · have : decide (i = 64 * k + j) = false := by simp; omega
      simp [hj, this]
    · simp [hj]
theorem word_drop (X i k : Nat) : word (drop X i) k = if k = i / 64 then word X k ^^^ (word X k &&& 2 ^ (i % 64)) else word X k := by
  apply Nat.eq_of_testBit_eq
  intro j
  rw [word_bit, drop_bit]
  split
  · rename_i h
    rw [Nat.testBit_xor, Nat.testBit_and, word_bit, Nat.testBit_two_pow]
    by_cases hj : j < 64
    · have : decide (i = 64 * k + j) = decide (i % 64 = j) := by rw [decide_eq_decide]; omega
      cases X.testBit (64 * k + j) <;> simp [hj, this]
    · simp [hj]
  · rename_i h
    rw [word_bit]
    by_cases hj : j < 64
    · have : decide (i = 64 * k + j) = false := by simp; omega
      simp [hj, this]
    · simp [hj]
theorem word_zero (k : Nat) : word 0 k = 0 := by simp [word]

/-! ### the numbers of a word, one by one -/
/-- The numbers of a word. -/
def bl (w : Nat) : List Nat := (List.range 64).filter w.testBit
theorem bl_zero : bl 0 = [] := by simp [bl]

/-- The lowest number of a word, and what is left behind it. -/
theorem low_spec {w : Nat} (h0 : w ≠ 0) (h : w < 2 ^ 64) : Lib.ctz 64 w < 64 ∧ w.testBit (Lib.ctz 64 w) = true ∧ (∀ j, j < Lib.ctz 64 w → w.testBit j = false) ∧ ∀ j, (w &&& (w - 1)).testBit j = (w.testBit j && !decide (Lib.ctz 64 w = j)) := by
  obtain ⟨m, hm, hk⟩ := Lib.ctzFrom_spec 64 w (by omega) h
  have e : Lib.ctz 64 w = Lib.ctzFrom 64 w := by simp [Lib.ctz, h0]
  rw [e]
  generalize Lib.ctzFrom 64 w = k at hm hk ⊢
  have hw : w = 2 ^ k * (2 * m + 1) := hm
  have b1 : ∀ j, w.testBit j = (decide (k ≤ j) && (2 * m + 1).testBit (j - k)) := by
    intro j; rw [hw, Nat.testBit_two_pow_mul]
  have hp : 0 < 2 ^ k := Nat.two_pow_pos k
  have hw1 : w - 1 = 2 ^ k * (2 * m) + (2 ^ k - 1) := by rw [hw, Nat.mul_add, Nat.mul_one]; omega
  have b2 : ∀ j, (w - 1).testBit j = if j < k then true else (2 * m).testBit (j - k) := by
    intro j
    rw [hw1, Nat.testBit_two_pow_mul_add _ (by omega)]
    split
    · rename_i hj; rw [Nat.testBit_two_pow_sub_one]; simp [hj]
    · rfl
  have t0 : ∀ i, (2 * m + 1).testBit i = (decide (i = 0) || (2 * m).testBit i) := by
    intro i
    cases i with
    | zero => simp [Nat.testBit_zero]
    | succ i => simp [Nat.testBit_succ]; congr 1; omega
  have t1 : (2 * m).testBit 0 = false := by simp [Nat.testBit_zero]
  refine ⟨hk, ?_, ?_, ?_⟩
  · rw [b1]; simp [t0]
  · intro j hj; rw [b1]; simp; omega
  · intro j
    rw [Nat.testBit_and, b1, b2]
    by_cases hj : j < k
    · have : ¬ k ≤ j := by omega
      simp [hj, this]
    · have h1 : k ≤ j := by omega
      simp only [hj, h1, if_false, decide_true, Bool.true_and]
      rw [t0]
      by_cases hjk : k = j
      · subst hjk; simp [t1]
      · have : decide (j - k = 0) = false := by simp; omega
        simp [this, hjk]
theorem bl_cons {w : Nat} (h0 : w ≠ 0) (h : w < 2 ^ 64) : bl w = Lib.ctz 64 w :: bl (w &&& (w - 1)) := by
  obtain ⟨hk, h1, h2, h3⟩ := low_spec h0 h
  generalize Lib.ctz 64 w = k at hk h1 h2 h3
  unfold bl
  have e : (List.range 64).filter (w &&& (w - 1)).testBit = ((List.range 64).filter fun j => w.testBit j && !decide (k = j)) := by
    congr 1; funext j; exact h3 j
  rw [e]
  have sp : List.range 64 = List.range k ++ k :: (List.range (63 - k)).map (k + 1 + ·) := by
    have : 64 = k + (1 + (63 - k)) := by omega
    conv => lhs; rw [this, List.range_add]
    rw [Nat.add_comm 1, List.range_succ_eq_map]
    simp only [List.map_cons, List.map_map, Nat.add_zero]
    congr 2
    apply List.map_congr_left
    intro a _
    simp; omega
  rw [sp, List.filter_append, List.filter_append, List.filter_cons, List.filter_cons]
  have z1 : (List.range k).filter w.testBit = [] := by
    rw [List.filter_eq_nil_iff]; intro a ha; simp [h2 a (List.mem_range.1 ha)]
  have z2 : ((List.range k).filter fun j => w.testBit j && !decide (k = j)) = [] := by
    rw [List.filter_eq_nil_iff]; intro a ha; simp [h2 a (List.mem_range.1 ha)]
  rw [z1, z2]
  simp [h1]
  apply List.filter_congr
  intro a ha
  obtain ⟨b, _, rfl⟩ := List.mem_map.1 ha
  have : ¬ k = k + 1 + b := by omega
  simp [this]
theorem next_lt {w : Nat} (h : w < 2 ^ 64) : (w &&& (w - 1)) < 2 ^ 64 := Nat.lt_of_le_of_lt Nat.and_le_left h

/-- What comes of the words from k on. -/
def from_ (n X k : Nat) : List Nat := (List.range' k (nw n - k)).flatMap fun j => (bl (word X j)).map (64 * j + ·)
theorem from_end (n X : Nat) : from_ n X (nw n) = [] := by simp [from_]
theorem from_step {n X k : Nat} (h : k < nw n) : from_ n X k = (bl (word X k)).map (64 * k + ·) ++ from_ n X (k + 1) := by
  unfold from_
  rw [show nw n - k = (nw n - (k + 1)) + 1 from by omega, List.range'_succ]
  simp
theorem lst_from {n X : Nat} (h : X < 2 ^ n) : from_ n X 0 = lst n X := by
  have aux : ∀ m, (List.range (64 * m)).filter X.testBit = (List.range m).flatMap fun j => (bl (word X j)).map (64 * j + ·) := by
    intro m
    induction m with
    | zero => simp
    | succ m ih =>
      rw [show 64 * (m + 1) = 64 * m + 64 from by omega, List.range_add, List.filter_append, ih, List.range_succ (n := m), List.flatMap_append]
      congr 1
      simp only [List.flatMap_cons, List.flatMap_nil, List.append_nil]
      unfold bl
      rw [List.filter_map]
      congr 1
      apply List.filter_congr
      intro j hj
      have := List.mem_range.1 hj
      simp [word_bit, this]
  unfold from_
  rw [Nat.sub_zero, ← List.range_eq_range', ← aux]
  unfold lst
  have hn : n ≤ 64 * nw n := by unfold nw; omega
  rw [show 64 * nw n = n + (64 * nw n - n) from by omega, List.range_add, List.filter_append]
  have : ((List.range (64 * nw n - n)).map (n + ·)).filter X.testBit = [] := by
    rw [List.filter_eq_nil_iff]
    intro a ha
    obtain ⟨b, _, rfl⟩ := List.mem_map.1 ha
    simp [bit_of_lt h (show n ≤ n + b by omega)]
  rw [this, List.append_nil]
theorem mem_lst {n X i : Nat} : i ∈ lst n X ↔ i < n ∧ X.testBit i = true := by simp [lst]
theorem lst_len (n X : Nat) : (lst n X).length ≤ n := by
  have := List.length_filter_le X.testBit (List.range n); simpa [lst] using this

/-- All of some numbers are added. -/
def adds (n X : Nat) (l : List Int) : Nat := l.foldl (fun X i => if is n i then add X i.toNat else X) X
def of (n : Nat) (l : List Int) : Nat := adds n 0 l
theorem adds_lt {n : Nat} (l : List Int) {X : Nat} (h : X < 2 ^ n) : adds n X l < 2 ^ n := by
  induction l generalizing X with
  | nil => exact h
  | cons i l ih =>
    unfold adds; rw [List.foldl_cons]
    apply ih
    split
    · rename_i hi; simp [is] at hi; exact add_lt h (by omega)
    · exact h
theorem adds_bit (n : Nat) (l : List Int) (X j : Nat) : (adds n X l).testBit j = (X.testBit j || (decide (j < n) && l.contains (j : Int))) := by
  induction l generalizing X with
  | nil => simp [adds]
  | cons i l ih =>
    unfold adds; rw [List.foldl_cons]
    show (adds n _ l).testBit j = _
    rw [ih]
    split
    · rename_i hi
      simp [is] at hi
      rw [add_bit]
      have : decide (i.toNat = j) = decide ((j : Int) = i) := by rw [decide_eq_decide]; omega
      rw [this]
      have h2 : decide (j < n) = true ∨ decide ((j : Int) = i) = false := by
        by_cases h : j < n
        · exact .inl (by simp [h])
        · exact .inr (by simp; omega)
      rw [List.contains_cons]
      rcases h2 with h2 | h2
      · simp only [h2, Bool.true_and, Bool.or_assoc]; rfl
      · simp only [h2, Bool.or_false]
        have : ((j : Int) == i) = false := by simpa using h2
        simp [this]
    · rename_i hi
      simp [is] at hi
      rw [List.contains_cons]
      by_cases h : j < n
      · have : ((j : Int) == i) = false := by simp; omega
        simp [this]
      · simp [h]
theorem of_bit (n : Nat) (l : List Int) (j : Nat) : (of n l).testBit j = (decide (j < n) && l.contains (j : Int)) := by
  rw [of, adds_bit]; simp
theorem of_lt (n : Nat) (l : List Int) : of n l < 2 ^ n := adds_lt l (Nat.two_pow_pos n)
theorem adds_snoc (n X : Nat) (l : List Int) (i : Int) : adds n X (l ++ [i]) = if is n i then add (adds n X l) i.toNat else adds n X l := by
  simp [adds]
theorem has_of_is {n X : Nat} {i : Int} (h : X < 2 ^ n) (hi : is n i = false) : has X i = false := by
  unfold has
  simp [is] at hi
  by_cases h0 : 0 ≤ i
  · simp [h0, bit_of_lt h (show n ≤ i.toNat by have := hi h0; omega)]
  · simp [h0]
theorem add_same {X i : Nat} (h : X.testBit i = true) : add X i = X := by
  apply Nat.eq_of_testBit_eq; intro j; rw [add_bit]
  by_cases e : i = j
  · subst e; simp [h]
  · simp [e]
theorem drop_same {X i : Nat} (h : X.testBit i = false) : drop X i = X := by
  apply Nat.eq_of_testBit_eq; intro j; rw [drop_bit]
  by_cases e : i = j
  · subst e; simp [h]
  · simp [e]
end Bs
end Go.Proofs.YtccmmilbnfiacaaDoor
