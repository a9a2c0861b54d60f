/-
  Plain laws of chapter 17: tokens and skips cover the text; none matches more; what comes behind changes nothing; one by one.
-/
import Derived.Test.YtgoggooeipcgpaaScan
namespace Go.Proofs.Ytgoggooeipcgpaa.Pl

/-! ### all of a text is covered -/
theorem cut_head (T S : List Pt) (x : B) : ∀ (f i k : Nat), i ≤ x.length → x.length ≤ i + f →
    ∃ hd tl, (cut T S x f i k).1 = hd :: tl ∧ i ≤ hd.fr ∧ hd.fr ≤ hd.to ∧ hd.to ≤ x.length ∧
      (i < hd.fr → ∃ f', f = f' + 1 ∧ 0 < most x i S ∧ i + most x i S ≤ hd.fr ∧ cut T S x f i k = cut T S x f' (i + most x i S) (k + 1)) ∧
      (i = hd.fr → (tl = [] ∧ hd.term = 0 ∧ hd.to = hd.fr ∧ ((cut T S x f i k).2.1 = 0 ↔ hd.fr = x.length)) ∨
        (∃ f', f = f' + 1 ∧ 1 ≤ hd.term ∧ (∃ h : hd.term - 1 < T.length, lp x hd.fr T[hd.term - 1] = hd.to - hd.fr) ∧ hd.fr < hd.to ∧ tl = (cut T S x f' hd.to k).1 ∧ (cut T S x f i k).2 = (cut T S x f' hd.to k).2))
  | 0, i, k, hi, hf => by
    refine ⟨⟨0, i, i⟩, [], rfl, Nat.le_refl _, Nat.le_refl _, hi, fun h => absurd h (Nat.lt_irrefl _), fun _ => .inl ⟨rfl, rfl, rfl, ?_⟩⟩
    simp [cut]; omega
  | f + 1, i, k, hi, hf => by
    have hr := step_room T S x i hi
    by_cases h1 : i < x.length
    · by_cases h2 : (step T S x i).2 = 0
      · refine ⟨⟨0, i, i⟩, [], by rw [cut]; simp [h1, h2], Nat.le_refl _, Nat.le_refl _, hi, fun h => absurd h (Nat.lt_irrefl _), fun _ => .inl ⟨rfl, rfl, rfl, ?_⟩⟩
        rw [cut]; simp [h1, h2]; omega
      · by_cases h3 : (step T S x i).1 = 0
        · have hc : cut T S x (f + 1) i k = cut T S x f (i + (step T S x i).2) (k + 1) := by rw [cut]; simp [h1, h2, h3]
          have hm : most x i S = (step T S x i).2 := by
            simp only [step] at h2 h3 ⊢
            rw [if_pos (by omega)] at h3
            by_cases h4 : most x i T < max (most x i T) (most x i S)
            · omega
            · have h5 : max (most x i T) (most x i S) = most x i T := by omega
              rw [h5] at h3
              exfalso
              obtain ⟨p, hp, he⟩ := keepT_eq.most_at x i (l := T) (by omega)
              exact absurd h3 (firstAt_pos.2 ⟨p, hp, he⟩)
          obtain ⟨hd, tl, g1, g2, g3, g4, g5, g6⟩ := cut_head T S x f (i + (step T S x i).2) (k + 1) hr (by omega)
          clear g5 g6
          refine ⟨hd, tl, by rw [hc]; exact g1, by omega, g3, g4, fun _ => ⟨f, rfl, by omega, by omega, by rw [hm]; exact hc⟩, fun h => by omega⟩
        · have hc : cut T S x (f + 1) i k = ((⟨(step T S x i).1, i, i + (step T S x i).2⟩ :: (cut T S x f (i + (step T S x i).2) k).1), (cut T S x f (i + (step T S x i).2) k).2) := by rw [cut]; simp [h1, h2, h3]
          refine ⟨⟨(step T S x i).1, i, i + (step T S x i).2⟩, (cut T S x f (i + (step T S x i).2) k).1, by rw [hc], Nat.le_refl _, by simp only []; omega, hr, fun h => absurd h (Nat.lt_irrefl _), fun _ => .inr ⟨f, rfl, by simp only []; omega, ?_, by simp only []; omega, rfl, by rw [hc]⟩⟩
          have hs : (step T S x i).1 = firstAt x i (max (most x i T) (most x i S)) T := by
            simp only [step] at h2 ⊢
            rw [if_pos (by omega)]
          have h2' : (step T S x i).2 = max (most x i T) (most x i S) := rfl
          obtain ⟨j, hj⟩ : ∃ j, firstAt x i (max (most x i T) (most x i S)) T = j + 1 := ⟨firstAt x i (max (most x i T) (most x i S)) T - 1, by omega⟩
          obtain ⟨hk, h5, _⟩ := firstAt_spec hj
          have key : ∀ q, q = j + 1 → ∃ h : q - 1 < T.length, lp x i T[q - 1] = i + (step T S x i).2 - i := by
            rintro q rfl
            exact ⟨hk, by simp only [Nat.add_sub_cancel]; omega⟩
          exact key _ (by rw [hs, hj])
    · have hie : i = x.length := by omega
      refine ⟨⟨0, i, i⟩, [], by rw [cut]; simp [h1], Nat.le_refl _, Nat.le_refl _, hi, fun h => absurd h (Nat.lt_irrefl _), fun _ => .inl ⟨rfl, rfl, rfl, ?_⟩⟩
      rw [cut]; simp [h1]; omega

/-- From place p on, the tokens from the i-th on are cut. -/
def From (T S : List Pt) (x : B) (l : List Tk) (e : Nat) (i p : Nat) : Prop :=
  p ≤ x.length ∧ i < l.length ∧ ∃ f k, x.length ≤ p + f ∧ l.drop i = (cut T S x f p k).1 ∧ e = (cut T S x f p k).2.1

theorem From.start (T S : List Pt) (x : B) : From T S x (cut T S x x.length 0 0).1 (cut T S x x.length 0 0).2.1 0 0 := by
  obtain ⟨hd, tl, h, _⟩ := cut_head T S x x.length 0 0 (Nat.zero_le _) (by omega)
  exact ⟨Nat.zero_le _, by rw [h]; simp, x.length, 0, by omega, rfl, rfl⟩

theorem From.at {T S : List Pt} {x : B} {l : List Tk} {e i p : Nat} (h : From T S x l e i p) (hi : i < l.length) :
    p ≤ l[i].fr ∧ l[i].fr ≤ l[i].to ∧ l[i].to ≤ x.length ∧
    (p < l[i].fr → 0 < most x p S ∧ p + most x p S ≤ l[i].fr ∧ From T S x l e i (p + most x p S)) ∧
    (p = l[i].fr → i + 1 = l.length → l[i].term = 0 ∧ l[i].to = l[i].fr ∧ (e = 0 ↔ l[i].fr = x.length)) ∧
    (p = l[i].fr → i + 1 ≠ l.length → 1 ≤ l[i].term ∧ (∃ h : l[i].term - 1 < T.length, lp x l[i].fr T[l[i].term - 1] = l[i].to - l[i].fr) ∧ l[i].fr < l[i].to ∧ From T S x l e (i + 1) l[i].to) := by
  obtain ⟨hp, _, f, k, hf, hl, he⟩ := h
  obtain ⟨hd, tl, g1, g2, g3, g4, g5, g6⟩ := cut_head T S x f p k hp hf
  rw [g1, List.drop_eq_getElem_cons hi] at hl
  injection hl with h1 h2
  rw [h1]
  refine ⟨g2, g3, g4, fun hlt => ?_, fun heq hlast => ?_, fun heq hnot => ?_⟩
  · obtain ⟨f', rfl, q1, q2, q3⟩ := g5 hlt
    refine ⟨q1, q2, by omega, hi, f', k + 1, by omega, ?_, by rw [← q3]; exact he⟩
    rw [← q3, g1, List.drop_eq_getElem_cons hi, h1, h2]
  · rcases g6 heq with ⟨q1, q2, q3, q4⟩ | ⟨f', rfl, q1, q2, q3, q4, q5⟩
    · exact ⟨q2, q3, by rw [he]; exact q4⟩
    · exfalso
      obtain ⟨hd', tl', r1, _⟩ := cut_head T S x f' hd.to k g4 (by omega)
      rw [q4, r1, List.drop_eq_nil_of_le (by omega)] at h2
      cases h2
  · rcases g6 heq with ⟨q1, q2, q3, q4⟩ | ⟨f', rfl, q1, q2, q3, q4, q5⟩
    · exfalso
      rw [q1] at h2
      have := List.drop_eq_nil_iff.1 h2
      omega
    · refine ⟨q1, q2, q3, g4, by omega, f', k, by omega, by rw [h2, q4], by rw [he, q5]⟩

/-! ### none matches more -/
/-- What the law asks of a token. -/
structure TokOk (T S : List Pt) (x : B) (t : Tk) : Prop where
  le : t.fr ≤ t.to
  room : t.to ≤ x.length
  tok : ∀ k (h : k < T.length), lp x t.fr T[k] ≤ t.to - t.fr ∧ (lp x t.fr T[k] = t.to - t.fr → 0 < lp x t.fr T[k] → t.term ≤ k + 1)
  skip : ∀ k (h : k < S.length), lp x t.fr S[k] ≤ t.to - t.fr

theorem tokOk_zero (T S : List Pt) (x : B) (i : Nat) (hi : i ≤ x.length) (h : (step T S x i).2 = 0) : TokOk T S x ⟨0, i, i⟩ := by
  simp only [step] at h
  refine ⟨Nat.le_refl _, hi, fun k hk => ⟨?_, fun _ _ => Nat.zero_le _⟩, fun k hk => ?_⟩
  · have := lp_le_most (x := x) (i := i) (List.getElem_mem hk); simp only []; omega
  · have := lp_le_most (x := x) (i := i) (List.getElem_mem hk); simp only []; omega

theorem cut_ok (T S : List Pt) (x : B) : ∀ (f i k : Nat), i ≤ x.length → x.length ≤ i + f →
    (∀ t ∈ (cut T S x f i k).1, TokOk T S x t) ∧ ((cut T S x f i k).2.1 = 0 ∨ (cut T S x f i k).2.1 = 21) ∧ (cut T S x f i k).1 ≠ []
  | 0, i, k, hi, hf => by
    refine ⟨fun t ht => ?_, .inl rfl, by simp [cut]⟩
    simp [cut] at ht
    subst ht
    exact tokOk_zero T S x i hi (by have := step_room T S x i hi; omega)
  | f + 1, i, k, hi, hf => by
    have hr := step_room T S x i hi
    rw [cut]
    by_cases h1 : i < x.length
    · by_cases h2 : (step T S x i).2 = 0
      · simp only [h1, h2, if_true]
        refine ⟨fun t ht => ?_, by simp, by simp⟩
        simp at ht
        subst ht
        exact tokOk_zero T S x i hi h2
      · by_cases h3 : (step T S x i).1 = 0
        · simp only [h1, h2, h3, if_true, if_false]
          exact cut_ok T S x f _ _ hr (by omega)
        · simp only [h1, h2, h3, if_true, if_false]
          obtain ⟨g1, g2, _⟩ := cut_ok T S x f (i + (step T S x i).2) k hr (by omega)
          refine ⟨fun t ht => ?_, g2, by simp⟩
          rcases List.mem_cons.1 ht with rfl | ht
          · refine ⟨by simp only []; omega, hr, fun j hj => ⟨?_, fun e0 e1 => ?_⟩, fun j hj => ?_⟩
            · have := lp_le_most (x := x) (i := i) (List.getElem_mem hj); simp only [step]; omega
            · simp only [Nat.add_sub_cancel_left] at e0
              simp only [step] at h2 h3 e0 ⊢
              rw [if_pos (by omega)] at h3 ⊢
              obtain ⟨q, hq⟩ : ∃ q, firstAt x i (max (most x i T) (most x i S)) T = q + 1 := ⟨firstAt x i (max (most x i T) (most x i S)) T - 1, by omega⟩
              obtain ⟨hk, h5, h6⟩ := firstAt_spec hq
              rw [hq]
              apply Nat.le_of_not_lt
              intro hlt
              exact h6 j (by omega) e0
            · have := lp_le_most (x := x) (i := i) (List.getElem_mem hj); simp only [step]; omega
          · exact g1 t ht
    · simp only [h1, if_false]
      refine ⟨fun t ht => ?_, by simp, by simp⟩
      simp at ht
      subst ht
      exact tokOk_zero T S x i hi (by omega)

/-- The last token, where no fault came: the text's end. -/
theorem cut_last (T S : List Pt) (x : B) : ∀ (f i k : Nat), i ≤ x.length → x.length ≤ i + f → (cut T S x f i k).2.1 = 0 → ∀ j (h : j < (cut T S x f i k).1.length), j + 1 = (cut T S x f i k).1.length → (cut T S x f i k).1[j].fr = x.length
  | 0, i, k, hi, hf, _, j, h, hj => by
    simp [cut] at h hj ⊢
    omega
  | f + 1, i, k, hi, hf, he, j, h, hj => by
    have hr := step_room T S x i hi
    by_cases h1 : i < x.length
    · by_cases h2 : (step T S x i).2 = 0
      · rw [cut] at he
        simp [h1, h2] at he
      · by_cases h3 : (step T S x i).1 = 0
        · have hc : cut T S x (f + 1) i k = cut T S x f (i + (step T S x i).2) (k + 1) := by rw [cut]; simp [h1, h2, h3]
          simp only [hc] at he h hj ⊢
          exact cut_last T S x f _ _ hr (by omega) he j h hj
        · have hc : cut T S x (f + 1) i k = ((⟨(step T S x i).1, i, i + (step T S x i).2⟩ :: (cut T S x f (i + (step T S x i).2) k).1), (cut T S x f (i + (step T S x i).2) k).2) := by rw [cut]; simp [h1, h2, h3]
          simp only [hc] at he h hj ⊢
          have hn := (cut_ok T S x f (i + (step T S x i).2) k hr (by omega)).2.2
          have hl : 0 < (cut T S x f (i + (step T S x i).2) k).1.length := List.length_pos_iff.2 hn
          cases j with
          | zero => exact absurd (by simpa using hj) hn
          | succ j =>
            simp only [List.getElem_cons_succ]
            simp at h hj
            exact cut_last T S x f _ _ hr (by omega) he j h hj
    · have hc : cut T S x (f + 1) i k = ([⟨0, i, i⟩], 0, k) := by rw [cut]; simp [h1]
      simp only [hc] at h hj ⊢
      simp at h
      subst h
      simp; omega

/-! ### what comes behind -/
theorem lenc_more (t s : B) (m : Bool) (c : UInt8) (hs : c ∉ s) (ht : c ∉ t) (y more : B) : lenc t s m (y ++ c :: more) = lenc t s m y := by
  have h0 : ∀ y : B, run s (y ++ c :: more) = run s y := by
    intro y
    rw [run_append]
    split
    · rename_i h
      rw [run_cons, if_neg (by rw [mem_iff]; exact hs), h]; rfl
    · rfl
  have h1 : t.isPrefixOf (y ++ c :: more) = t.isPrefixOf y := by
    rw [Bool.eq_iff_iff, List.isPrefixOf_iff_prefix, List.isPrefixOf_iff_prefix]
    constructor
    · intro h
      by_cases hl : t.length ≤ y.length
      · exact List.prefix_of_prefix_length_le h (List.prefix_append _ _) hl
      · exfalso
        apply ht
        have hp := List.prefix_iff_eq_take.1 h
        rw [hp]
        obtain ⟨d, hd⟩ : ∃ d, t.length - y.length = d + 1 := ⟨t.length - y.length - 1, by omega⟩
        rw [List.take_append, hd]
        simp
    · exact fun h => h.trans (List.prefix_append _ _)
  unfold lenc
  rw [h0, h1]
end Go.Proofs.Ytgoggooeipcgpaa.Pl
