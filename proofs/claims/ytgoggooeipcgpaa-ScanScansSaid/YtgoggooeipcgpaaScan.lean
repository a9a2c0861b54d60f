/-
  The plain law of cutting a text (no program in sight): what scan.All and the reference's All compute, and what the laws of chapter 17 ask of it.
-/
import Derived.Test.YtgoggooeipcgpaaPlain
namespace Go.Proofs.Ytgoggooeipcgpaa.Pl

/-- A pattern. -/
structure Pt where
  t : ByteArray
  s : ByteArray
  m : Bool

/-- how many bytes look like a pattern at a place. -/
def lp (x : B) (i : Nat) (p : Pt) : Nat := len p.t.data.toList p.s.data.toList p.m x (i : Int)

/-- the most of a list of patterns. -/
def most (x : B) (i : Nat) : List Pt → Nat
  | [] => 0
  | p :: l => max (lp x i p) (most x i l)

/-- the first of a list of patterns that matches n bytes: its place, and one; nought where there is none. -/
def firstAt (x : B) (i n : Nat) : List Pt → Nat
  | [] => 0
  | p :: l => if lp x i p = n then 1 else (if firstAt x i n l = 0 then 0 else firstAt x i n l + 1)

/-- the reference's Step. -/
def step (T S : List Pt) (x : B) (i : Nat) : Nat × Nat :=
  let n := max (most x i T) (most x i S)
  (if 0 < n then firstAt x i n T else 0, n)

/-- what 'keep' does. -/
def keep (a : Nat × Nat) (t n : Nat) : Nat × Nat := if a.2 < n then (t, n) else a

/-- the tokens' loop of longest, from a number on. -/
def keepT (x : B) (i : Nat) : List Pt → Nat → Nat × Nat → Nat × Nat
  | [], _, a => a
  | p :: l, k, a => keepT x i l (k + 1) (keep a (k + 1) (lp x i p))

/-- the skips' loop. -/
def keepS (x : B) (i : Nat) : List Pt → Nat × Nat → Nat × Nat
  | [], a => a
  | p :: l, a => keepS x i l (keep a 0 (lp x i p))

/-- scan's longest. -/
def longest (T S : List Pt) (x : B) (i : Nat) : Nat × Nat := keepS x i S (keepT x i T 0 (0, 0))

theorem most_snoc (x : B) (i : Nat) (p : Pt) : ∀ l : List Pt, most x i (l ++ [p]) = max (most x i l) (lp x i p)
  | [] => by simp [most]
  | q :: l => by simp only [List.cons_append, most, most_snoc x i p l]; omega

theorem keepT_snoc (x : B) (i : Nat) (p : Pt) : ∀ (l : List Pt) (k : Nat) (a : Nat × Nat), keepT x i (l ++ [p]) k a = keep (keepT x i l k a) (k + l.length + 1) (lp x i p)
  | [], k, a => by simp [keepT]
  | q :: l, k, a => by
    simp only [List.cons_append, keepT, keepT_snoc x i p l, List.length_cons]
    congr 1
    omega

theorem keepS_snoc (x : B) (i : Nat) (p : Pt) : ∀ (l : List Pt) (a : Nat × Nat), keepS x i (l ++ [p]) a = keep (keepS x i l a) 0 (lp x i p)
  | [], a => by simp [keepS]
  | q :: l, a => by simp only [List.cons_append, keepS, keepS_snoc x i p l]

theorem lp_le_most {x : B} {i : Nat} {p : Pt} : ∀ {l : List Pt}, p ∈ l → lp x i p ≤ most x i l
  | q :: l, h => by
    simp only [most]
    rcases List.mem_cons.1 h with rfl | h
    · omega
    · have := lp_le_most (x := x) (i := i) h; omega

theorem firstAt_pos {x : B} {i n : Nat} : ∀ {l : List Pt}, firstAt x i n l ≠ 0 ↔ ∃ p ∈ l, lp x i p = n
  | [] => by simp [firstAt]
  | p :: l => by
    simp only [firstAt]
    by_cases h : lp x i p = n
    · simp [h]
    · simp only [h, if_false, List.mem_cons, exists_eq_or_imp, false_or]
      rw [← firstAt_pos (l := l)]
      split <;> simp_all

theorem firstAt_spec {x : B} {i n : Nat} : ∀ {l : List Pt} {k : Nat}, firstAt x i n l = k + 1 → ∃ h : k < l.length, lp x i l[k] = n ∧ ∀ j (hj : j < k), lp x i l[j] ≠ n
  | p :: l, k, h => by
    simp only [firstAt] at h
    by_cases h0 : lp x i p = n
    · simp only [h0, if_true] at h
      obtain rfl : k = 0 := by omega
      exact ⟨by simp, by simpa using h0, fun j hj => by omega⟩
    · simp only [h0, if_false] at h
      split at h
      · omega
      · rename_i h1
        cases k with
        | zero => omega
        | succ k =>
          obtain ⟨hk, h2, h3⟩ := firstAt_spec (x := x) (i := i) (n := n) (l := l) (k := k) (by omega)
          refine ⟨by simpa using hk, by simpa using h2, fun j hj => ?_⟩
          cases j with
          | zero => simpa using h0
          | succ j => simpa using h3 j (by omega)

/-- the tokens' loop: the first one that matches most, of those that match more than was there. -/
theorem keepT_eq (x : B) (i : Nat) : ∀ (l : List Pt) (k : Nat) (a : Nat × Nat),
    keepT x i l k a = if a.2 < most x i l then (k + firstAt x i (most x i l) l, most x i l) else a
  | [], k, a => by simp [keepT, most]
  | p :: l, k, a => by
    simp only [keepT, most, firstAt, keepT_eq x i l]
    unfold keep
    by_cases h1 : a.2 < lp x i p
    · simp only [h1, if_true]
      by_cases h2 : lp x i p < most x i l
      · have h3 : max (lp x i p) (most x i l) = most x i l := by omega
        have h4 : a.2 < most x i l := by omega
        have h5 : firstAt x i (most x i l) l ≠ 0 := by
          rw [firstAt_pos]
          exact most_at (by omega)
        have h6 : ¬ lp x i p = most x i l := by omega
        simp only [h2, if_true, h3, h4, h6, if_false, h5]
        congr 1
        omega
      · have h3 : max (lp x i p) (most x i l) = lp x i p := by omega
        simp [h2, h3, h1]
    · simp only [h1, if_false]
      by_cases h2 : a.2 < most x i l
      · have h3 : max (lp x i p) (most x i l) = most x i l := by omega
        have h5 : firstAt x i (most x i l) l ≠ 0 := by
          rw [firstAt_pos]
          exact most_at (by omega)
        have h6 : ¬ lp x i p = most x i l := by omega
        simp only [h2, if_true, h3, h6, if_false, h5]
        congr 1
        omega
      · have h3 : ¬ a.2 < max (lp x i p) (most x i l) := by omega
        simp [h2, h3]
where
  most_at {l : List Pt} (h : 0 < most x i l) : ∃ p ∈ l, lp x i p = most x i l := by
    induction l with
    | nil => simp [most] at h
    | cons q l ih =>
      simp only [most] at h ⊢
      by_cases h1 : most x i l ≤ lp x i q
      · exact ⟨q, by simp, by omega⟩
      · obtain ⟨p, hp, he⟩ := ih (by omega)
        exact ⟨p, by simp [hp], by omega⟩

theorem keepS_eq (x : B) (i : Nat) : ∀ (l : List Pt) (a : Nat × Nat), keepS x i l a = if a.2 < most x i l then (0, most x i l) else a
  | [], a => by simp [keepS, most]
  | p :: l, a => by
    simp only [keepS, most, keepS_eq x i l]
    unfold keep
    by_cases h1 : a.2 < lp x i p
    · simp only [h1, if_true]
      by_cases h2 : lp x i p < most x i l
      · have h3 : max (lp x i p) (most x i l) = most x i l := by omega
        have h4 : a.2 < most x i l := by omega
        simp [h2, h3, h4]
      · have h3 : max (lp x i p) (most x i l) = lp x i p := by omega
        simp [h2, h3, h1]
    · simp only [h1, if_false]
      by_cases h2 : a.2 < most x i l
      · have h3 : max (lp x i p) (most x i l) = most x i l := by omega
        simp [h2, h3]
      · have h3 : ¬ a.2 < max (lp x i p) (most x i l) := by omega
        simp [h2, h3]

theorem longest_eq (T S : List Pt) (x : B) (i : Nat) : longest T S x i = step T S x i := by
  unfold longest step
  rw [keepS_eq, keepT_eq]
  simp only []
  by_cases h1 : 0 < most x i T
  · simp only [h1, if_true, Nat.zero_add]
    by_cases h2 : most x i T < most x i S
    · have h3 : max (most x i T) (most x i S) = most x i S := by omega
      have h4 : 0 < most x i S := by omega
      have h5 : firstAt x i (most x i S) T = 0 := by
        by_cases h : firstAt x i (most x i S) T = 0
        · exact h
        · obtain ⟨p, hp, he⟩ := firstAt_pos.1 h
          have := lp_le_most (x := x) (i := i) hp
          omega
      simp [h2, h3, h4, h5]
    · have h3 : max (most x i T) (most x i S) = most x i T := by omega
      simp [h2, h3, h1]
  · have h0 : most x i T = 0 := by omega
    simp only [h0, Nat.lt_irrefl, if_false, Nat.zero_max]
    by_cases h2 : 0 < most x i S
    · have h5 : firstAt x i (most x i S) T = 0 := by
        by_cases h : firstAt x i (most x i S) T = 0
        · exact h
        · obtain ⟨p, hp, he⟩ := firstAt_pos.1 h
          have := lp_le_most (x := x) (i := i) hp
          omega
      simp [h2, h5]
    · have h6 : most x i S = 0 := by omega
      simp [h6]

/-! ### the tokens -/
/-- A token. -/
structure Tk where
  term : Nat
  fr : Nat
  to : Nat

/-- all tokens from a place on (as many rounds at most), the fault's number, how many were skipped. -/
def cut (T S : List Pt) (x : B) : Nat → Nat → Nat → List Tk × Nat × Nat
  | 0, i, k => ([⟨0, i, i⟩], 0, k)
  | f + 1, i, k =>
    if i < x.length then
      if (step T S x i).2 = 0 then ([⟨0, i, i⟩], 21, k)
      else if (step T S x i).1 = 0 then cut T S x f (i + (step T S x i).2) (k + 1)
      else ((⟨(step T S x i).1, i, i + (step T S x i).2⟩ :: (cut T S x f (i + (step T S x i).2) k).1), (cut T S x f (i + (step T S x i).2) k).2)
    else ([⟨0, i, i⟩], 0, k)

/-- the next token from a place on: it, the fault's number, the place behind it, how many were skipped. -/
def next (T S : List Pt) (x : B) : Nat → Nat → Nat → Tk × Nat × Nat × Nat
  | 0, i, k => (⟨0, i, i⟩, 0, i, k)
  | f + 1, i, k =>
    if i < x.length then
      if (step T S x i).2 = 0 then (⟨0, i, i⟩, 21, i, k)
      else if (step T S x i).1 = 0 then next T S x f (i + (step T S x i).2) (k + 1)
      else (⟨(step T S x i).1, i, i + (step T S x i).2⟩, 0, i + (step T S x i).2, k)
    else (⟨0, i, i⟩, 0, i, k)

theorem lp_room (x : B) (i : Nat) (p : Pt) (h : i ≤ x.length) : i + lp x i p ≤ x.length := by
  unfold lp len
  rw [if_neg (by omega), Int.toNat_natCast]
  have := lenc_le p.t.data.toList p.s.data.toList p.m (x.drop i)
  rw [List.length_drop] at this
  omega

theorem most_room (x : B) (i : Nat) (h : i ≤ x.length) : ∀ l : List Pt, i + most x i l ≤ x.length
  | [] => by simpa [most] using h
  | p :: l => by
    have h1 := lp_room x i p h
    have h2 := most_room x i h l
    simp only [most]; omega

theorem step_room (T S : List Pt) (x : B) (i : Nat) (h : i ≤ x.length) : i + (step T S x i).2 ≤ x.length := by
  have h1 := most_room x i h T
  have h2 := most_room x i h S
  simp only [step]; omega

theorem cut_end (T S : List Pt) (x : B) (f i k : Nat) (h : x.length ≤ i) : cut T S x f i k = ([⟨0, i, i⟩], 0, k) := by
  cases f with
  | zero => rfl
  | succ f =>
    show (if i < x.length then _ else _) = _
    rw [if_neg (by omega)]

theorem next_end (T S : List Pt) (x : B) (f i k : Nat) (h : x.length ≤ i) : next T S x f i k = (⟨0, i, i⟩, 0, i, k) := by
  cases f with
  | zero => rfl
  | succ f =>
    show (if i < x.length then _ else _) = _
    rw [if_neg (by omega)]

/-- more rounds than are wanted change nothing. -/
theorem cut_fuel (T S : List Pt) (x : B) : ∀ (f i k : Nat), x.length ≤ i + f → cut T S x (f + 1) i k = cut T S x f i k
  | 0, i, k, h => by
    show (if i < x.length then _ else _) = _
    rw [if_neg (by omega)]
    rfl
  | f + 1, i, k, h => by
    rw [cut]
    conv => rhs; rw [cut]
    split
    · split
      · rfl
      · rename_i h1 h2
        rw [cut_fuel T S x f _ _ (by omega), cut_fuel T S x f _ _ (by omega)]
    · rfl

theorem cut_fuel' (T S : List Pt) (x : B) (f i k : Nat) (h : x.length ≤ i + f) : ∀ d, cut T S x (f + d) i k = cut T S x f i k
  | 0 => rfl
  | d + 1 => by rw [← Nat.add_assoc, cut_fuel T S x (f + d) i k (by omega), cut_fuel' T S x f i k h d]

theorem next_fuel (T S : List Pt) (x : B) : ∀ (f i k : Nat), x.length ≤ i + f → next T S x (f + 1) i k = next T S x f i k
  | 0, i, k, h => by
    show (if i < x.length then _ else _) = _
    rw [if_neg (by omega)]
    rfl
  | f + 1, i, k, h => by
    rw [next]
    conv => rhs; rw [next]
    split
    · split
      · rfl
      · rw [next_fuel T S x f _ _ (by omega)]
    · rfl

theorem next_fuel' (T S : List Pt) (x : B) (f i k : Nat) (h : x.length ≤ i + f) : ∀ d, next T S x (f + d) i k = next T S x f i k
  | 0 => rfl
  | d + 1 => by rw [← Nat.add_assoc, next_fuel T S x (f + d) i k (by omega), next_fuel' T S x f i k h d]

/-- All goes by Next. -/
theorem cut_next (T S : List Pt) (x : B) : ∀ (f i k : Nat), x.length ≤ i + f → i ≤ x.length →
    cut T S x f i k = (if (next T S x f i k).2.1 ≠ 0 ∨ (next T S x f i k).1.term = 0 then ([(next T S x f i k).1], (next T S x f i k).2.1, (next T S x f i k).2.2.2)
      else ((next T S x f i k).1 :: (cut T S x f (next T S x f i k).2.2.1 (next T S x f i k).2.2.2).1, (cut T S x f (next T S x f i k).2.2.1 (next T S x f i k).2.2.2).2)) ∧
    (next T S x f i k).2.2.1 ≤ x.length ∧ i ≤ (next T S x f i k).2.2.1
  | 0, i, k, h, hi => by simp [cut, next]; omega
  | f + 1, i, k, h, hi => by
    have hr := step_room T S x i hi
    rw [cut, next]
    by_cases h1 : i < x.length
    · simp only [h1, if_true]
      by_cases h2 : (step T S x i).2 = 0
      · simp [h2]; omega
      · simp only [h2, if_false]
        by_cases h3 : (step T S x i).1 = 0
        · simp only [h3, if_true]
          obtain ⟨g1, g2, g3⟩ := cut_next T S x f (i + (step T S x i).2) (k + 1) (by omega) hr
          refine ⟨?_, g2, by omega⟩
          rw [g1]
          split
          · rfl
          · rw [cut_fuel T S x f _ _ (by omega)]
        · simp only [h3, if_false, ne_eq, not_true_eq_false, or_self]
          refine ⟨?_, hr, by omega⟩
          rw [cut_fuel T S x f _ _ (by omega)]
    · simp [h1]; omega

end Go.Proofs.Ytgoggooeipcgpaa.Pl
