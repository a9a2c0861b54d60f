/-
  Plain laws of chapter 17: what comes behind a byte of no pattern changes nothing; the tokens one by one.
-/
import Derived.Test.YtgoggooeipcgpaaScanV
namespace Go.Proofs.Ytgoggooeipcgpaa.Pl

/-- A byte of no pattern. -/
def Free (c : UInt8) (l : List Pt) : Prop := ∀ p ∈ l, c ∉ p.t.data.toList ∧ c ∉ p.s.data.toList

theorem lp_more {x more : B} {c : UInt8} {i : Nat} (hi : i ≤ x.length) (p : Pt) (h : c ∉ p.t.data.toList ∧ c ∉ p.s.data.toList) : lp (x ++ c :: more) i p = lp x i p := by
  unfold lp len
  rw [if_neg (by omega), if_neg (by omega), Int.toNat_natCast, List.drop_append_of_le_length hi, lenc_more _ _ _ _ h.2 h.1]

theorem most_more {x more : B} {c : UInt8} {i : Nat} (hi : i ≤ x.length) : ∀ {l : List Pt}, Free c l → most (x ++ c :: more) i l = most x i l
  | [], _ => rfl
  | p :: l, h => by
    simp only [most]
    rw [lp_more hi p (h p (by simp)), most_more hi (fun q hq => h q (by simp [hq]))]

theorem firstAt_more {x more : B} {c : UInt8} {i : Nat} (hi : i ≤ x.length) (n : Nat) : ∀ {l : List Pt}, Free c l → firstAt (x ++ c :: more) i n l = firstAt x i n l
  | [], _ => rfl
  | p :: l, h => by
    simp only [firstAt]
    rw [lp_more hi p (h p (by simp)), firstAt_more hi n (fun q hq => h q (by simp [hq]))]

theorem step_more {T S : List Pt} {x more : B} {c : UInt8} {i : Nat} (hi : i ≤ x.length) (hT : Free c T) (hS : Free c S) : step T S (x ++ c :: more) i = step T S x i := by
  simp only [step, most_more hi hT, most_more hi hS, firstAt_more hi _ hT]

theorem cut_more {T S : List Pt} {x more : B} {c : UInt8} (hT : Free c T) (hS : Free c S) : ∀ (f g i k : Nat), i ≤ x.length → x.length ≤ i + f → (x ++ c :: more).length ≤ i + g →
    (cut T S (x ++ c :: more) g i k).1 = (cut T S x f i k).1 ∧ (cut T S (x ++ c :: more) g i k).2.1 = 21
  | f, 0, i, k, hi, hf, hg => by simp at hg; omega
  | 0, g + 1, i, k, hi, hf, hg => by
    have hr := step_room T S x i hi
    have h1 : i < (x ++ c :: more).length := by simp; omega
    have hc : cut T S (x ++ c :: more) (g + 1) i k = ([⟨0, i, i⟩], 21, k) := by
      rw [cut, step_more hi hT hS]
      simp only [h1, if_true]
      rw [if_pos (by omega)]
    rw [hc]
    exact ⟨rfl, rfl⟩
  | f + 1, g + 1, i, k, hi, hf, hg => by
    have hr := step_room T S x i hi
    have h1 : i < (x ++ c :: more).length := by simp; omega
    rw [cut, step_more hi hT hS]
    simp only [h1, if_true]
    by_cases h2 : (step T S x i).2 = 0
    · rw [if_pos h2, cut]
      by_cases h0 : i < x.length
      · simp [h0, h2]
      · simp [h0]
    · have h0 : i < x.length := by omega
      rw [if_neg h2, cut]
      simp only [h0, h2, if_true, if_false]
      by_cases h3 : (step T S x i).1 = 0
      · rw [if_pos h3, if_pos h3]
        exact cut_more (more := more) hT hS f g _ _ hr (by omega) (by omega)
      · rw [if_neg h3, if_neg h3]
        obtain ⟨q1, q2⟩ := cut_more (more := more) hT hS f g (i + (step T S x i).2) k hr (by omega) (by omega)
        exact ⟨by rw [q1], q2⟩

/-! ### one by one -/
/-- The scanner at place p, having skipped k, is ahead of the i-th token. -/
def Ahead (T S : List Pt) (x : B) (m : List Tk) (e n i p k : Nat) : Prop :=
  p ≤ x.length ∧ k ≤ p ∧ i < m.length ∧ m.drop i = (cut T S x x.length p k).1 ∧ (e, n) = (cut T S x x.length p k).2

theorem Ahead.start (T S : List Pt) (x : B) : Ahead T S x (cut T S x x.length 0 0).1 (cut T S x x.length 0 0).2.1 (cut T S x x.length 0 0).2.2 0 0 0 := by
  have := (cut_ok T S x x.length 0 0 (Nat.zero_le _) (by omega)).2.2
  exact ⟨Nat.zero_le _, Nat.le_refl _, List.length_pos_iff.2 this, rfl, rfl⟩

theorem next_le (T S : List Pt) (x : B) : ∀ (f i k : Nat), k ≤ i → (next T S x f i k).2.2.2 ≤ (next T S x f i k).2.2.1
  | 0, i, k, h => by simp [next, h]
  | f + 1, i, k, h => by
    rw [next]
    split
    · split
      · simp [h]
      · split
        · exact next_le T S x f _ _ (by omega)
        · simp only []; omega
    · simp [h]

/-- A last token: the scanner stays there. -/
theorem next_last (T S : List Pt) (x : B) : ∀ (f i k : Nat), i ≤ x.length → x.length ≤ i + f → ((next T S x f i k).2.1 ≠ 0 ∨ (next T S x f i k).1.term = 0) →
    (next T S x f i k).1.fr = (next T S x f i k).2.2.1 ∧ next T S x x.length (next T S x f i k).2.2.1 (next T S x f i k).2.2.2 = next T S x f i k
  | 0, i, k, hi, hf, _ => by
    refine ⟨rfl, ?_⟩
    show next T S x x.length i k = _
    rw [next_end T S x x.length i k (by omega)]
    rfl
  | f + 1, i, k, hi, hf, h => by
    have hr := step_room T S x i hi
    by_cases h1 : i < x.length
    · by_cases h2 : (step T S x i).2 = 0
      · have hn : next T S x (f + 1) i k = (⟨0, i, i⟩, 21, i, k) := by rw [next]; simp [h1, h2]
        rw [hn]
        refine ⟨rfl, ?_⟩
        show next T S x x.length i k = _
        obtain ⟨g, hg⟩ : ∃ g, x.length = g + 1 := ⟨x.length - 1, by omega⟩
        rw [hg, next]
        simp [h1, h2]
      · by_cases h3 : (step T S x i).1 = 0
        · have hn : next T S x (f + 1) i k = next T S x f (i + (step T S x i).2) (k + 1) := by rw [next]; simp [h1, h2, h3]
          rw [hn] at h ⊢
          exact next_last T S x f _ _ hr (by omega) h
        · have hn : next T S x (f + 1) i k = (⟨(step T S x i).1, i, i + (step T S x i).2⟩, 0, i + (step T S x i).2, k) := by rw [next]; simp [h1, h2, h3]
          rw [hn] at h
          simp at h
          omega
    · have hn : next T S x (f + 1) i k = (⟨0, i, i⟩, 0, i, k) := by rw [next]; simp [h1]
      rw [hn]
      refine ⟨rfl, ?_⟩
      show next T S x x.length i k = _
      rw [next_end T S x x.length i k (by omega)]

theorem Ahead.next {T S : List Pt} {x : B} {m : List Tk} {e n i p k : Nat} (h : Ahead T S x m e n i p k) (hi : i < m.length) :
    (next T S x x.length p k).1 = m[i] ∧ (next T S x x.length p k).2.2.1 ≤ x.length ∧ (next T S x x.length p k).2.2.2 ≤ (next T S x x.length p k).2.2.1 ∧
    (i + 1 ≠ m.length → (next T S x x.length p k).2.1 = 0 ∧ Ahead T S x m e n (i + 1) (next T S x x.length p k).2.2.1 (next T S x x.length p k).2.2.2) ∧
    (i + 1 = m.length → (next T S x x.length p k).2.1 = e ∧ (next T S x x.length p k).2.2.2 = n ∧ m[i].fr = (next T S x x.length p k).2.2.1 ∧
      next T S x x.length (next T S x x.length p k).2.2.1 (next T S x x.length p k).2.2.2 = next T S x x.length p k) := by
  obtain ⟨hp, hkp, _, hm, he⟩ := h
  obtain ⟨c1, c2, c3⟩ := cut_next T S x x.length p k (by omega) hp
  have c4 := next_le T S x x.length p k hkp
  have c5 := next_last T S x x.length p k hp (by omega)
  rw [c1, List.drop_eq_getElem_cons hi] at hm
  rw [c1] at he
  by_cases hl : (Pl.next T S x x.length p k).2.1 ≠ 0 ∨ (Pl.next T S x x.length p k).1.term = 0
  · rw [if_pos hl] at hm he
    injection hm with h1 h2
    injection he with h3 h4
    have h5 := List.drop_eq_nil_iff.1 h2
    obtain ⟨d1, d2⟩ := c5 hl
    exact ⟨h1.symm, c2, c4, fun hh => by omega, fun _ => ⟨h3.symm, h4.symm, by rw [h1]; exact d1, d2⟩⟩
  · rw [if_neg hl] at hm he
    injection hm with h1 h2
    have hn : ∀ p k, p ≤ x.length → 0 < (cut T S x x.length p k).1.length := fun p k hp => List.length_pos_iff.2 (cut_ok T S x x.length p k hp (by omega)).2.2
    have h6 := hn _ (Pl.next T S x x.length p k).2.2.2 c2
    have h7 : i + 1 < m.length := by
      apply Nat.lt_of_not_le
      intro hge
      rw [List.drop_eq_nil_of_le hge] at h2
      rw [← h2] at h6
      simp at h6
    refine ⟨h1.symm, c2, c4, fun _ => ⟨by simp at hl; exact hl.1, c2, c4, h7, h2, he⟩, fun hh => by omega⟩
end Go.Proofs.Ytgoggooeipcgpaa.Pl
