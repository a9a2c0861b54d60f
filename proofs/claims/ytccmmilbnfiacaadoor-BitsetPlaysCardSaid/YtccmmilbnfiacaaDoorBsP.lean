/-
  Plain laws of a union of small sets.
-/
import Derived.Test.YtccmmilbnfiacaaDoorBsU
namespace Go.Proofs.YtccmmilbnfiacaaDoor
open Go.RowKit
set_option linter.unusedVariables false

/-- Did a set grow? -/
def gr (n X : Nat) (l : List Int) : Bool := !decide (Bs.adds n X l = X)
theorem adds_sup (n X : Nat) (l : List Int) {j : Nat} (h : X.testBit j = true) : (Bs.adds n X l).testBit j = true := by rw [Bs.adds_bit, h]; rfl
theorem addX_eq (n X : Nat) (i : Int) : addX n X i = Bs.adds n X [i] := by simp [addX, Bs.adds]
theorem addB_eq (n X : Nat) (i : Int) : addB n X i = !decide (addX n X i = X) := by
  unfold addB addX
  cases hi : Bs.is n i with
  | false => simp
  | true =>
    have h0 : 0 ≤ i := by simp [Bs.is] at hi; omega
    simp only [if_true, Bool.true_and]
    cases hx : Bs.has X i with
    | true =>
      have : X.testBit i.toNat = true := by simpa [Bs.has, h0] using hx
      simp [Bs.add_same this]
    | false =>
      have : X.testBit i.toNat = false := by simpa [Bs.has, h0] using hx
      have hne : Bs.add X i.toNat ≠ X := by
        intro e
        have := congrArg (fun Y => Y.testBit i.toNat) e
        simp [Bs.add_bit] at this
        simp_all
      simp [hne]
theorem ne_bit {X Y : Nat} (h : ∀ j, X.testBit j = true → Y.testBit j = true) (hne : Y ≠ X) : ∃ j, Y.testBit j = true ∧ X.testBit j = false := by
  apply Classical.byContradiction
  intro hc
  apply hne
  apply Nat.eq_of_testBit_eq
  intro j
  cases hy : Y.testBit j with
  | true =>
    cases hx : X.testBit j with
    | true => rfl
    | false => exact absurd ⟨j, hy, hx⟩ hc
  | false =>
    cases hx : X.testBit j with
    | true => rw [h j hx] at hy; cases hy
    | false => rfl
theorem adds_app (n X : Nat) (l r : List Int) : Bs.adds n X (l ++ r) = Bs.adds n (Bs.adds n X l) r := by simp [Bs.adds]
theorem gr_snoc (n X : Nat) (l : List Int) (i : Int) : gr n X (l ++ [i]) = (addB n (Bs.adds n X l) i || gr n X l) := by
  unfold gr
  rw [adds_app, ← addX_eq, addB_eq]
  by_cases h : Bs.adds n X l = X
  · rw [h]; simp
  · have h2 : addX n (Bs.adds n X l) i ≠ X := by
      obtain ⟨j, hj, hx⟩ := ne_bit (fun j hj => adds_sup n X l hj) h
      intro e
      rw [addX_eq] at e
      have := adds_sup n _ [i] hj
      rw [e, hx] at this
      cases this
    simp [h, h2]
theorem adds_none {n X : Nat} {l : List Int} (h : ∀ i ∈ l, (n : Int) ≤ i) : Bs.adds n X l = X := by
  induction l generalizing X with
  | nil => rfl
  | cons i l ih =>
    have hi := h i (by simp)
    have : Bs.is n i = false := by simp [Bs.is]; omega
    unfold Bs.adds; rw [List.foldl_cons, if_neg (by simp [this])]
    exact ih (fun k hk => h k (by simp [hk]))
theorem lst_sorted (n X : Nat) : (Bs.lst n X).Pairwise (· < ·) := (List.pairwise_lt_range (n := n)).filter _
/-- Behind a number that is too large there are such alone. -/
theorem adds_stop {n X m Y : Nat} {l r : List Nat} {x : Nat} (h : (l ++ [x]) ++ r = Bs.lst m Y) (hx : n ≤ x) : Bs.adds n X (natI (Bs.lst m Y)) = Bs.adds n X (natI l) := by
  have hs := lst_sorted m Y
  rw [← h] at hs ⊢
  unfold natI
  rw [List.append_assoc, List.map_append, adds_app]
  apply adds_none
  intro i hi
  obtain ⟨k, hk, rfl⟩ := List.mem_map.1 hi
  simp at hk
  rcases hk with rfl | hk
  · omega
  · have := (List.pairwise_append.1 hs).2.2 x (by simp) k hk
    omega

/-- The union's numbers. -/
def un (n X m Y : Nat) : Nat := Bs.adds n X (natI (Bs.lst m Y))
theorem un_bit {n X m Y : Nat} (hY : Y < 2 ^ m) (j : Nat) : (un n X m Y).testBit j = (X.testBit j || (decide (j < n) && Y.testBit j)) := by
  unfold un
  rw [Bs.adds_bit]
  congr 2
  have : (natI (Bs.lst m Y)).contains (j : Int) = decide (j < m ∧ Y.testBit j = true) := by
    rw [Bool.eq_iff_iff, List.contains_iff_mem, decide_eq_true_eq, ← Bs.mem_lst]
    unfold natI
    rw [List.mem_map]
    constructor
    · rintro ⟨a, ha, e⟩
      have : a = j := by omega
      rw [← this]; exact ha
    · intro h; exact ⟨j, h, rfl⟩
  rw [this]
  cases hb : Y.testBit j with
  | false => simp
  | true =>
    rcases Nat.lt_or_ge j m with h | h
    · simp [h]
    · rw [Bs.bit_of_lt hY h] at hb; cases hb
theorem un_lt {n X : Nat} (m Y : Nat) (h : X < 2 ^ n) : un n X m Y < 2 ^ n := Bs.adds_lt _ h
/-- Does a union grow? -/
def unB (n X m Y : Nat) : Bool := gr n X (natI (Bs.lst m Y))
end Go.Proofs.YtccmmilbnfiacaaDoor
