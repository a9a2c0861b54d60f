/-
  The plain law of patterns (no program in sight): what pattern.Len, Is, Example and Meets compute, as functions on lists of bytes, and what the laws ask of them.
-/
namespace Go.Proofs.Ytgoggooeipcgpaa.Pl
abbrev B := List UInt8

/-- is a byte in a set? -/
def mem (s : B) (c : UInt8) : Bool := s.contains c

/-- the same of a number. -/
def has (s : B) (c : Int) : Bool := s.any fun b => (b.toNat : Int) == c

theorem has_toNat (s : B) (c : UInt8) : has s (c.toNat : Int) = mem s c := by
  unfold has mem
  induction s with
  | nil => rfl
  | cons b s ih =>
    simp only [List.any_cons, List.contains_cons, ih]
    congr 1
    rw [Bool.eq_iff_iff]
    simp only [beq_iff_eq, Int.natCast_inj]
    constructor
    · intro h; exact (UInt8.toNat_inj.1 h).symm
    · intro h; rw [h]

/-- how many bytes from the head on are in a set. -/
def run (s x : B) : Nat := (x.takeWhile (mem s)).length

/-- pattern.Len from the head on. -/
def lenc (t s : B) (m : Bool) (x : B) : Nat :=
  if t.isEmpty then (if m then run s x else min 1 (run s x)) else if t.isPrefixOf x then t.length else 0

/-- pattern.Len. -/
def len (t s : B) (m : Bool) (x : B) (i : Int) : Nat := if i < 0 then 0 else lenc t s m (x.drop i.toNat)

/-- pattern.Is. -/
def is (t s : B) (m : Bool) (x : B) : Bool := !x.isEmpty && lenc t s m x == x.length

/-- the least of a set's bytes. -/
def least : B → UInt8
  | [] => 0
  | [c] => c
  | c :: d :: l => if c.toNat ≤ (least (d :: l)).toNat then c else least (d :: l)

/-- pattern.Example. -/
def ex (t s : B) : B := if t.isEmpty then (if s.isEmpty then [] else [least s]) else t

/-- pattern.Meets. -/
def meets (t s : B) (m : Bool) (t' s' : B) (m' : Bool) : Bool :=
  if t.isEmpty then (if t'.isEmpty then s.any (mem s') else is t s m t') else is t' s' m' t

/-! ### the run of a set's bytes -/
theorem run_le (s x : B) : run s x ≤ x.length := by
  unfold run; exact (List.takeWhile_prefix _).length_le

theorem run_cons (s x : B) (c : UInt8) : run s (c :: x) = if mem s c then run s x + 1 else 0 := by
  unfold run; rw [List.takeWhile_cons]; split <;> simp

theorem run_nil (s : B) : run s [] = 0 := rfl

/-- at the run's place k: it goes on just if that byte is in the set. -/
theorem run_step (s : B) : ∀ (x : B) (k : Nat) (hk : k < x.length), k ≤ run s x → (mem s x[k] = true ↔ k < run s x)
  | [], k, hk, _ => by simp at hk
  | c :: x, 0, _, _ => by
    rw [run_cons]; simp only [List.getElem_cons_zero]; split <;> simp_all
  | c :: x, k + 1, hk, h => by
    rw [run_cons] at h ⊢
    split at h
    · rename_i hc
      have := run_step s x k (by simpa using hk) (by omega)
      simp only [hc, if_true, List.getElem_cons_succ]
      rw [this]; omega
    · omega

theorem run_all (s : B) : ∀ x : B, run s x = x.length ↔ ∀ c ∈ x, mem s c = true
  | [] => by simp [run_nil]
  | c :: x => by
    rw [run_cons]
    have h := run_le s x
    by_cases hc : mem s c = true
    · simp [hc, run_all s x]
    · simp [hc]

theorem run_append (s x y : B) : run s (x ++ y) = if run s x = x.length then x.length + run s y else run s x := by
  induction x with
  | nil => simp [run_nil]
  | cons c x ih =>
    simp only [List.cons_append, run_cons]
    by_cases hc : mem s c = true
    · simp only [hc, if_true, ih, List.length_cons]
      by_cases h : run s x = x.length
      · simp [h]; omega
      · simp [h]
    · simp [hc]

theorem run_take (s : B) : ∀ (x : B), run s (x.take (run s x)) = run s x
  | [] => by simp [run_nil]
  | c :: x => by
    rw [run_cons]
    by_cases hc : mem s c = true
    · simp [hc, run_cons, run_take s x]
    · simp [hc, run_nil]

theorem run_take_le (s : B) : ∀ (x : B) (k : Nat), run s x < k → k ≤ x.length → run s (x.take k) < k
  | [], k, h, hk => by simp at hk; omega
  | c :: x, 0, h, hk => by omega
  | c :: x, k + 1, h, hk => by
    rw [run_cons] at h
    simp only [List.take_succ_cons, run_cons]
    by_cases hc : mem s c = true
    · simp only [hc, if_true] at h ⊢
      have := run_take_le s x k (by omega) (by simpa using hk)
      omega
    · simp [hc]

/-! ### Len -/
theorem lenc_nil (t s : B) (m : Bool) : lenc t s m [] = 0 := by
  unfold lenc
  cases t <;> simp [run_nil, List.isPrefixOf]

theorem lenc_le (t s : B) (m : Bool) (x : B) : lenc t s m x ≤ x.length := by
  unfold lenc
  have := run_le s x
  split
  · split <;> omega
  · split
    · rename_i h; exact (List.isPrefixOf_iff_prefix.1 h).length_le
    · omega

theorem len_zero (t s : B) (m : Bool) (x : B) : len t s m x 0 = lenc t s m x := by simp [len]

theorem len_neg (t s : B) (m : Bool) (x : B) (i : Int) (h : i < 0) : len t s m x i = 0 := by simp [len, h]

theorem len_out (t s : B) (m : Bool) (x : B) (i : Int) (h : (x.length : Int) ≤ i) : len t s m x i = 0 := by
  unfold len
  split
  · rfl
  · rw [List.drop_of_length_le (by omega), lenc_nil]

theorem len_le (t s : B) (m : Bool) (x : B) (i : Int) : len t s m x i ≤ x.length := by
  unfold len
  split
  · omega
  · have := lenc_le t s m (x.drop i.toNat); simp at this; omega

theorem is_iff {t s : B} {m : Bool} {x : B} : is t s m x = true ↔ x ≠ [] ∧ lenc t s m x = x.length := by
  unfold is; cases x <;> simp

/-- a text's pattern: that text alone. -/
theorem is_text {t s : B} {m : Bool} {x : B} (h : t ≠ []) : is t s m x = true ↔ x = t := by
  rw [is_iff]
  have ht : t.isEmpty = false := by cases t <;> simp_all
  simp only [lenc, ht, Bool.false_eq_true, if_false]
  constructor
  · rintro ⟨h1, h2⟩
    split at h2
    · rename_i hp
      exact ((List.isPrefixOf_iff_prefix.1 hp).eq_of_length h2).symm
    · have : x.length = 0 := h2.symm
      cases x <;> simp_all
  · rintro rfl
    exact ⟨h, by rw [if_pos (List.isPrefixOf_iff_prefix.2 (List.prefix_refl _))]⟩

theorem is_set {s : B} {m : Bool} {x : B} : is [] s m x = true ↔ x ≠ [] ∧ run s x = x.length ∧ (m = true ∨ x.length = 1) := by
  rw [is_iff]
  have h := run_le s x
  cases m <;> simp [lenc]
  intro hx
  have : x.length ≠ 0 := by simpa using hx
  omega

/-! ### PatternLongest -/
theorem longest_is {t s : B} {m : Bool} {y : B} (h : 0 < lenc t s m y) : is t s m (y.take (lenc t s m y)) = true := by
  have hle := lenc_le t s m y
  rw [is_iff]
  refine ⟨fun e => ?_, ?_⟩
  · have := congrArg List.length e
    simp at this
    rcases this with h1 | h1 <;> simp_all
  · rw [List.length_take, Nat.min_eq_left hle]
    unfold lenc at h ⊢
    by_cases ht : t.isEmpty = true
    · simp only [ht, if_true] at h ⊢
      cases m
      · simp only [Bool.false_eq_true, if_false] at h ⊢
        have h1 : min 1 (run s y) = 1 := by omega
        rw [h1]
        cases y with
        | nil => simp [run_nil] at h
        | cons c y =>
          rw [run_cons] at h
          by_cases hc : mem s c = true
          · simp [run_cons, hc]
          · simp [hc] at h
      · simp only [if_true]
        exact run_take s y
    · simp only [ht, Bool.false_eq_true, if_false] at h ⊢
      by_cases hp : t.isPrefixOf y = true
      · simp only [hp, if_true]
        have he : y.take t.length = t := (List.prefix_iff_eq_take.1 (List.isPrefixOf_iff_prefix.1 hp)).symm
        rw [he, if_pos (List.isPrefixOf_iff_prefix.2 (List.prefix_refl _))]
      · simp [hp] at h

theorem longest_not {t s : B} {m : Bool} {y : B} {k : Nat} (h : lenc t s m y < k) (hk : k ≤ y.length) : is t s m (y.take k) = false := by
  rw [Bool.eq_false_iff]
  intro hi
  rw [is_iff] at hi
  obtain ⟨_, h2⟩ := hi
  rw [List.length_take, Nat.min_eq_left hk] at h2
  unfold lenc at h h2
  by_cases ht : t.isEmpty = true
  · simp only [ht, if_true] at h h2
    cases m
    · simp only [Bool.false_eq_true, if_false] at h h2
      have h1 : k = 1 := by omega
      subst h1
      have := run_take_le s y 1 (by omega) hk
      omega
    · simp only [if_true] at h h2
      have := run_take_le s y k h hk
      omega
  · simp only [ht, Bool.false_eq_true, if_false] at h h2
    split at h2
    · rename_i hp
      have hp' : t.isPrefixOf y = true := List.isPrefixOf_iff_prefix.2 ((List.isPrefixOf_iff_prefix.1 hp).trans (List.take_prefix _ _))
      rw [if_pos hp'] at h
      omega
    · omega

/-! ### the least byte -/
theorem least_mem : ∀ {s : B}, s ≠ [] → least s ∈ s
  | [], h => absurd rfl h
  | [c], _ => by simp [least]
  | c :: d :: l, _ => by
    have := least_mem (s := d :: l) (by simp)
    simp only [least]
    split
    · simp
    · exact List.mem_cons_of_mem _ this

theorem least_le : ∀ {s : B} {c : UInt8}, c ∈ s → (least s).toNat ≤ c.toNat
  | [d], c, h => by simp at h; subst h; simp [least]
  | d :: e :: l, c, h => by
    simp only [least]
    rcases List.mem_cons.1 h with rfl | h
    · split <;> omega
    · have := least_le (s := e :: l) h
      split <;> omega

theorem mem_iff {s : B} {c : UInt8} : mem s c = true ↔ c ∈ s := by unfold mem; simp

theorem least_congr {a b : B} (h : ∀ c, c ∈ a ↔ c ∈ b) : a ≠ [] → least a = least b := by
  intro ha
  have hb : b ≠ [] := fun e => by
    have := (h _).1 (least_mem ha); rw [e] at this; cases this
  apply UInt8.toNat_inj.1
  have h1 := least_le ((h _).2 (least_mem hb))
  have h2 := least_le ((h _).1 (least_mem ha))
  omega

/-! ### PatternExample -/
theorem is_none {s : B} {m : Bool} {x : B} (hs : s = []) : is [] s m x = false := by
  subst hs
  rw [Bool.eq_false_iff]
  intro h
  obtain ⟨h1, h2, _⟩ := is_set.1 h
  cases x with
  | nil => exact h1 rfl
  | cons c x => rw [run_cons] at h2; simp [mem] at h2

theorem ex_nil {t s : B} : ex t s = [] ↔ t = [] ∧ s = [] := by
  unfold ex
  cases t <;> cases s <;> simp

theorem ex_is {t s : B} {m : Bool} (h : ex t s ≠ []) : is t s m (ex t s) = true := by
  cases t with
  | nil =>
    cases hs : s with
    | nil => simp [ex, hs] at h
    | cons d l =>
      have hm : mem (d :: l) (least (d :: l)) = true := mem_iff.2 (least_mem (by simp))
      simp only [ex, List.isEmpty_nil, if_true, List.isEmpty_cons, Bool.false_eq_true, if_false]
      exact is_set.2 ⟨by simp, by simp [run_cons, hm, run_nil], .inr rfl⟩
  | cons c t =>
    simp only [ex, List.isEmpty_cons, Bool.false_eq_true, if_false]
    exact (is_text (by simp)).2 rfl

theorem ex_len {t s : B} {m : Bool} (h : ex t s ≠ []) (x : B) : (ex t s).length ≤ lenc t s m (ex t s ++ x) := by
  cases t with
  | nil =>
    cases hs : s with
    | nil => simp [ex, hs] at h
    | cons d l =>
      have hm : mem (d :: l) (least (d :: l)) = true := mem_iff.2 (least_mem (by simp))
      simp only [ex, List.isEmpty_nil, if_true, List.isEmpty_cons, Bool.false_eq_true, if_false, lenc, List.cons_append, List.nil_append, run_cons, hm, List.length_cons, List.length_nil]
      split <;> omega
  | cons c t =>
    simp only [ex, List.isEmpty_cons, Bool.false_eq_true, if_false, lenc]
    rw [if_pos (List.isPrefixOf_iff_prefix.2 (List.prefix_append _ _))]
    exact Nat.le_refl _

/-! ### PatternMeets -/
theorem meets_of_is {t s t' s' x : B} {m m' : Bool} (h : is t s m x = true) (h' : is t' s' m' x = true) : meets t s m t' s' m' = true := by
  unfold meets
  cases t with
  | cons c t =>
    have := (is_text (by simp)).1 h
    subst this
    simpa using h'
  | nil =>
    cases t' with
    | cons c t' =>
      have := (is_text (by simp)).1 h'
      subst this
      simpa using h
    | nil =>
      simp only [List.isEmpty_nil, if_true]
      obtain ⟨h1, h2, _⟩ := is_set.1 h
      obtain ⟨_, h4, _⟩ := is_set.1 h'
      cases x with
      | nil => exact absurd rfl h1
      | cons c x =>
        have g1 := (run_all s (c :: x)).1 h2 c (by simp)
        have g2 := (run_all s' (c :: x)).1 h4 c (by simp)
        exact List.any_eq_true.2 ⟨c, mem_iff.1 g1, g2⟩

theorem meets_comm (t s : B) (m : Bool) (t' s' : B) (m' : Bool) : meets t' s' m' t s m = meets t s m t' s' m' := by
  unfold meets
  cases t with
  | cons c t =>
    cases t' with
    | cons c' t' =>
      simp only [List.isEmpty_cons, Bool.false_eq_true, if_false]
      rw [Bool.eq_iff_iff, is_text (by simp), is_text (by simp)]
      exact eq_comm
    | nil => simp
  | nil =>
    cases t' with
    | cons c' t' => simp
    | nil =>
      simp only [List.isEmpty_nil, if_true]
      rw [Bool.eq_iff_iff]
      simp only [List.any_eq_true, mem_iff]
      constructor <;> (rintro ⟨c, h1, h2⟩; exact ⟨c, h2, h1⟩)

theorem meets_self {t s : B} {m : Bool} (h : ex t s ≠ []) : meets t s m t s m = true := meets_of_is (ex_is h) (ex_is h)

theorem meets_none {t s : B} {m : Bool} (h : ex t s = []) : meets t s m t s m = false := by
  obtain ⟨rfl, rfl⟩ := ex_nil.1 h
  simp [meets]

/-- the document's answer: by the texts of one byte, and the texts of both. -/
theorem meets_ref {t s t' s' : B} {m m' : Bool} :
    meets t s m t' s' m' = true ↔ ((∃ c : UInt8, is t s m [c] = true ∧ is t' s' m' [c] = true) ∨ (is t s m t = true ∧ is t' s' m' t = true) ∨ (is t s m t' = true ∧ is t' s' m' t' = true)) := by
  constructor
  · intro h
    unfold meets at h
    cases t with
    | cons c t => exact .inr (.inl ⟨(is_text (by simp)).2 rfl, by simpa using h⟩)
    | nil =>
      cases t' with
      | cons c' t' => exact .inr (.inr ⟨by simpa using h, (is_text (by simp)).2 rfl⟩)
      | nil =>
        simp only [List.isEmpty_nil, if_true, List.any_eq_true] at h
        obtain ⟨c, h1, h2⟩ := h
        refine .inl ⟨c, is_set.2 ⟨by simp, ?_, .inr rfl⟩, is_set.2 ⟨by simp, ?_, .inr rfl⟩⟩
        · simp [run_cons, mem_iff.2 h1, run_nil]
        · simp [run_cons, h2, run_nil]
  · rintro (⟨c, h1, h2⟩ | ⟨h1, h2⟩ | ⟨h1, h2⟩)
    · exact meets_of_is h1 h2
    · exact meets_of_is h1 h2
    · exact meets_of_is h1 h2

/-! ### PatternJoins -/
theorem joins_many {s x y : B} (h : is [] s true x = true) (h' : is [] s true y = true) : is [] s true (x ++ y) = true := by
  obtain ⟨h1, h2, _⟩ := is_set.1 h
  obtain ⟨_, h4, _⟩ := is_set.1 h'
  refine is_set.2 ⟨by simp [h1], ?_, .inl rfl⟩
  rw [run_append, if_pos h2, h4, List.length_append]

theorem joins_one {s x y : B} (h : is [] s true x = true) (h' : is [] s true y = true) : is [] s false (x ++ y) = false ∧ lenc [] s false (x ++ y) = 1 := by
  have h0 := joins_many h h'
  obtain ⟨h1, h2, _⟩ := is_set.1 h
  obtain ⟨h3, h4, _⟩ := is_set.1 h'
  obtain ⟨_, h6, _⟩ := is_set.1 h0
  have hx : x.length ≠ 0 := by simpa using h1
  have hy : y.length ≠ 0 := by simpa using h3
  constructor
  · rw [Bool.eq_false_iff]
    intro hi
    obtain ⟨_, _, h7⟩ := is_set.1 hi
    rw [List.length_append] at h7
    simp at h7
    omega
  · simp [lenc, h6]
    omega

theorem joins_len (s x y : B) : lenc [] s true x ≤ lenc [] s true (x ++ y) := by
  simp only [lenc, List.isEmpty_nil, if_true, run_append]
  split <;> omega

/-! ### PatternSets -/
theorem run_congr {a b : B} (h : ∀ c, mem a c = mem b c) (x : B) : run a x = run b x := by
  have : mem a = mem b := funext h
  unfold run; rw [this]

theorem run_mono {a b : B} (h : ∀ c, mem a c = true → mem b c = true) : ∀ x : B, run a x ≤ run b x
  | [] => by simp [run_nil]
  | c :: x => by
    have := run_mono h x
    rw [run_cons, run_cons]
    by_cases hc : mem a c = true
    · simp [hc, h c hc]; omega
    · simp [hc]

theorem mem_sets (a b : B) (c : UInt8) : mem (a ++ b) c = mem (b ++ a ++ b) c := by
  rw [Bool.eq_iff_iff, mem_iff, mem_iff]; by_cases h1 : c ∈ a <;> by_cases h2 : c ∈ b <;> simp [h1, h2]

theorem sets_len (a b : B) (m : Bool) (x : B) (i : Int) : len [] (a ++ b) m x i = len [] (b ++ a ++ b) m x i := by
  simp only [len, lenc, run_congr (mem_sets a b)]

theorem sets_left (a b : B) (m : Bool) (x : B) (i : Int) : len [] a m x i ≤ len [] (a ++ b) m x i := by
  have := run_mono (a := a) (b := a ++ b) (fun c h => by rw [mem_iff] at *; simp [h]) (x.drop i.toNat)
  simp only [len, lenc, List.isEmpty_nil, if_true]
  split
  · omega
  · split <;> omega

theorem sets_right (a b : B) (m : Bool) (x : B) (i : Int) : len [] b m x i ≤ len [] (a ++ b) m x i := by
  have := run_mono (a := b) (b := a ++ b) (fun c h => by rw [mem_iff] at *; simp [h]) (x.drop i.toNat)
  simp only [len, lenc, List.isEmpty_nil, if_true]
  split
  · omega
  · split <;> omega

theorem sets_ex (a b : B) : ex [] (a ++ b) = ex [] (b ++ a ++ b) := by
  unfold ex
  by_cases h : a ++ b = []
  · have : a = [] ∧ b = [] := by simpa using h
    simp [this.1, this.2]
  · have h' : b ++ a ++ b ≠ [] := by simp; intro e; simp_all
    have e1 : (a ++ b).isEmpty = false := by cases hh : a ++ b <;> simp_all
    have e2 : (b ++ a ++ b).isEmpty = false := by cases hh : b ++ a ++ b <;> simp_all
    simp only [e1, e2, List.isEmpty_nil, if_true, Bool.false_eq_true, if_false]
    rw [least_congr (fun c => ?_) h]
    rw [← mem_iff, ← mem_iff, mem_sets]

end Go.Proofs.Ytgoggooeipcgpaa.Pl
