/-
  A shortest sentence is as long as it is said (plain).
-/
import Derived.Test.YtjbggogbnckllaaDoorAs
import Derived.Test.YtjbggogbnckllaaDoorAl
namespace Go.Proofs.YtjbggogbnckllaaDoor
open Go.RowKit
set_option linter.unusedVariables false
set_option linter.unusedSimpArgs false
namespace Q
open Pl (Plan Prod)
theorem sent_len {p : Plan} (h : OK p) (i : Nat) (hi : i < cnt p) :
    (0 ≤ (lens p).long i → (lens p).long i ≤ 1000 → ((sent p i).length : Int) = (lens p).long i) ∧ ((lens p).long i < 0 → sent p i = []) ∧ (∀ x ∈ sent p i, 0 ≤ x ∧ x < (p.terms.length : Int)) ∧ (sent p i).length ≤ 1000 := by
  obtain ⟨tm, ht, T⟩ := lens_by h
  unfold sent
  rw [Int.toNat_natCast]
  by_cases hc : (i : Int) < 0 ∨ ((cnt p : Nat) : Int) ≤ (i : Int) ∨ (lens p).long i < 0 ∨ 1000 < (lens p).long i
  · rw [if_pos hc]
    refine ⟨fun h0 h1 => by omega, fun _ => rfl, fun x hx => (nomatch hx), by simp⟩
  · rw [if_neg hc]
    have hl := sentF_len h T (lenF p) i (ht i) (by omega) (by unfold M; omega)
    exact ⟨fun _ _ => hl.1, fun h0 => by omega, hl.2, by have := hl.1; omega⟩
/-- The law's own sum. -/
def sumL (long : Nat → Int) : List Int → Int → Int
  | [], n => n
  | x :: r, n => sumL long r (if long x.toNat < 0 ∨ n < 0 then -1 else add n (long x.toNat))
theorem sumL_neg {f : Nat → Int} : ∀ (r : List Int) (n : Int), n < 0 → sumL f r n < 0
  | [], n, h => h
  | x :: r, n, h => by
    rw [sumL, if_pos (.inr h)]
    exact sumL_neg r _ (by omega)
theorem sumL_eq {f : Nat → Int} : ∀ (r : List Int) (n : Int), 0 ≤ n → 0 ≤ sumL f r n → sumL f r n = sumF f r n
  | [], n, _, _ => by simp [sumL, sumF]
  | x :: r, n, h, h0 => by
    rw [sumL] at h0 ⊢
    rw [sumF]
    by_cases hx : f x.toNat < 0
    · rw [if_pos (.inl hx)] at h0
      have := sumL_neg (f := f) r (-1) (by omega)
      omega
    · rw [if_neg (by omega)] at h0 ⊢
      rw [if_neg hx]
      exact sumL_eq r _ (add_range _ _).1 h0
theorem sumL_snoc {f : Nat → Int} : ∀ (r : List Int) (x n : Int), sumL f (r ++ [x]) n = if f x.toNat < 0 ∨ sumL f r n < 0 then -1 else add (sumL f r n) (f x.toNat)
  | [], x, n => rfl
  | y :: r, x, n => by rw [List.cons_append, sumL, sumL_snoc r x, sumL]
/-- No rule makes a shorter one. -/
theorem sum_left {p : Plan} (h : OK p) {r : Prod} (hr : r ∈ p.rules) (h0 : 0 ≤ sumL (lens p).long r.right 0) : 0 ≤ (lens p).long r.left ∧ (lens p).long r.left ≤ sumL (lens p).long r.right 0 := by
  rw [sumL_eq r.right 0 (Int.le_refl _) h0]
  rw [sumL_eq r.right 0 (Int.le_refl _) h0] at h0
  rcases lens_idle h r hr with h1 | h1
  · omega
  · exact h1
theorem sumL_range {f : Nat → Int} : ∀ (r : List Int) (n : Int), -1 ≤ n → n ≤ M → -1 ≤ sumL f r n ∧ sumL f r n ≤ M
  | [], n, h, h' => ⟨h, h'⟩
  | x :: r, n, h, h' => by
    rw [sumL]
    refine sumL_range r _ ?_ ?_
    · split
      · omega
      · have := add_range n (f x.toNat); omega
    · split
      · unfold M; omega
      · exact (add_range _ _).2
theorem inI_prod {p : Plan} (h : OK p) {i : Nat} (h1 : p.terms.length ≤ i) (h2 : i < p.terms.length + p.vars.length) : inI (ofB (prodB p) (cnt p)) (i : Int) = decide (0 ≤ (lens p).long i) := by
  rw [inI_ofB (by unfold cnt; omega)]
  unfold prodB
  rw [decide_eq_true h1, decide_eq_true (show i ≠ p.terms.length + p.vars.length by omega)]
  simp
end Q
end Go.Proofs.YtjbggogbnckllaaDoor
