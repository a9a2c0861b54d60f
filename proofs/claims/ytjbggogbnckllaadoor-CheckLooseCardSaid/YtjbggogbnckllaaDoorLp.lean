/-
  What chapter 9 tells of a grammar with one more variable that no rule has (plain).
-/
import Derived.Test.YtjbggogbnckllaaDoorLo
namespace Go.Proofs.YtjbggogbnckllaaDoor
open Go.RowKit
set_option linter.unusedVariables false
set_option linter.unusedSimpArgs false
namespace Q
open Pl (Plan Prod)
theorem lens_ge {p : Plan} : ∀ i, -1 ≤ (lens p).long i := by
  refine lens_inv (fun s => ∀ i, -1 ≤ s.long i) ?_ ?_
  · intro i
    unfold len0
    simp only
    split <;> omega
  · intro r _ _ s hs h0 _ i
    simp only [up]
    split
    · omega
    · exact hs i
def phi (n : Nat) (i : Nat) : Nat := if i = n then n + 1 else i
def psi (n : Nat) (i : Nat) : Nat := if i = n + 1 then n else i
theorem phi_lt {n i : Nat} (h : i < n) : phi n i = i := by unfold phi; rw [if_neg (by omega)]
theorem psi_lt {n i : Nat} (h : i < n) : psi n i = i := by unfold psi; rw [if_neg (by omega)]
theorem map_id {n : Nat} {f : Nat → Nat} (hf : ∀ i, i < n → f i = i) {l : List Int} (h : ∀ x ∈ l, 0 ≤ x ∧ x < (n : Int)) : (l.map Int.toNat).map f = l.map Int.toNat := by
  rw [List.map_map]
  refine List.map_congr_left fun x hx => ?_
  have := h x hx
  exact hf _ (by omega)
variable {p q : Plan}
theorem Loose.there (L : Loose p q) (h : OK p) : Sim p q (fun _ => True) (phi (p.terms.length + p.vars.length)) := by
  obtain ⟨x, t, k, e1, e2, hl⟩ := L.rules
  refine ⟨fun i _ hi => ?_, fun r hr _ => ⟨fun _ _ => trivial, ?_⟩⟩
  · rw [phi_lt (by omega), L.terms]; exact hi
  · have hR := h.right r hr
    rw [e1] at hr
    rcases List.mem_cons.1 hr with e | hr
    · subst e
      exact ⟨⟨p.terms.length + p.vars.length + 1, [x], 0⟩, by rw [e2]; simp, by simp [phi], (map_id (fun i hi => phi_lt hi) hR).symm⟩
    · have := hl r hr
      exact ⟨r, by rw [e2]; simp [hr], (phi_lt this).symm, (map_id (fun i hi => phi_lt hi) hR).symm⟩
theorem Loose.back (L : Loose p q) (h : OK p) : Sim q p (fun i => i ≠ p.terms.length + p.vars.length) (psi (p.terms.length + p.vars.length)) := by
  obtain ⟨x, t, k, e1, e2, hl⟩ := L.rules
  refine ⟨fun i _ hi => ?_, fun r hr hD => ?_⟩
  · rw [L.terms] at hi
    rw [psi_lt (by omega)]; exact hi
  · rw [e2] at hr
    have hx : ∀ r' ∈ p.rules, ∀ y ∈ r'.right, y.toNat ≠ p.terms.length + p.vars.length := fun r' hr' y hy => by have := h.right r' hr' y hy; omega
    rcases List.mem_cons.1 hr with e | hr
    · subst e
      have hm : (⟨p.terms.length + p.vars.length, [x], 0⟩ : Prod) ∈ p.rules := by rw [e1]; simp
      exact ⟨fun y hy => hx _ hm y hy, _, hm, by simp [psi], (map_id (fun i hi => psi_lt hi) (h.right _ hm)).symm⟩
    · rcases List.mem_append.1 hr with hr | hr
      · have hm : r ∈ p.rules := by rw [e1]; simp [hr]
        exact ⟨hx _ hm, r, hm, (psi_lt (hl r hr)).symm, (map_id (fun i hi => psi_lt hi) (h.right _ hm)).symm⟩
      · have e : r = ⟨p.terms.length + p.vars.length, [1], k⟩ := by simpa using hr
        rw [e] at hD
        exact absurd rfl hD
theorem Loose.long (L : Loose p q) (h : OK p) (hq : OK q) (i : Nat) : (lens q).long (phi (p.terms.length + p.vars.length) i) = (lens p).long i ∨ p.terms.length + p.vars.length < i := by
  by_cases hi : p.terms.length + p.vars.length < i
  · exact .inr hi
  left
  have h1 := lens_le hq (L.there h) i trivial
  have h2 := lens_le h (L.back h) (phi (p.terms.length + p.vars.length) i) (by unfold phi; split <;> omega)
  have e : psi (p.terms.length + p.vars.length) (phi (p.terms.length + p.vars.length) i) = i := by
    unfold phi psi
    by_cases hn : i = p.terms.length + p.vars.length
    · rw [if_pos hn, if_pos rfl]; exact hn.symm
    · rw [if_neg hn, if_neg (by omega)]
  rw [e] at h2
  have g1 := lens_ge (p := p) i
  have g2 := lens_ge (p := q) (phi (p.terms.length + p.vars.length) i)
  by_cases a : 0 ≤ (lens p).long i
  · have := h1 a
    have := h2 this.1
    omega
  · by_cases b : 0 ≤ (lens q).long (phi (p.terms.length + p.vars.length) i)
    · have := h2 b; omega
    · omega
theorem Loose.long_lt (L : Loose p q) (h : OK p) (hq : OK q) {i : Nat} (hi : i < p.terms.length + p.vars.length) : (lens q).long i = (lens p).long i := by
  have := (L.long h hq i).resolve_right (by omega)
  rwa [phi_lt hi] at this
theorem Loose.long_end (L : Loose p q) (h : OK p) (hq : OK q) : (lens q).long (p.terms.length + p.vars.length + 1) = (lens p).long (p.terms.length + p.vars.length) := by
  have := (L.long h hq (p.terms.length + p.vars.length)).resolve_right (by omega)
  unfold phi at this
  rwa [if_pos rfl] at this
/-- The new variable's length is one. -/
theorem Loose.long_z (L : Loose p q) (h : OK p) (hq : OK q) (ht : 2 ≤ p.terms.length) : (lens q).long (p.terms.length + p.vars.length) = 1 := by
  obtain ⟨x, t, k, e1, e2, hl⟩ := L.rules
  have hm : (⟨p.terms.length + p.vars.length, [1], k⟩ : Prod) ∈ q.rules := by rw [e2]; simp
  have hs : ∀ s : Nat → Int, s 1 = 1 → sumF s [1] 0 = 1 := by
    intro s h1
    show (if s (Int.toNat 1) < 0 then (-1 : Int) else add 0 (s (Int.toNat 1))) = 1
    rw [show Int.toNat 1 = 1 from rfl, h1]
    rfl
  have h1 := lens_term hq 1 (by rw [L.terms]; omega)
  have hid := lens_idle hq _ hm
  have hup : (lens q).long (p.terms.length + p.vars.length) = -1 ∨ (lens q).long (p.terms.length + p.vars.length) = 1 := by
    have key := lens_inv (p := q) (fun s => s.long 1 = 1 ∧ (s.long (p.terms.length + p.vars.length) = -1 ∨ s.long (p.terms.length + p.vars.length) = 1)) ?_ ?_
    · exact key.2
    · unfold len0
      simp only [L.terms]
      rw [if_pos (by omega)]
      refine ⟨rfl, ?_⟩
      split
      · exact .inr rfl
      · exact .inl rfl
    · intro r hr _ s hs1 h0 _
      simp only [up]
      have hleft := (hq.left r hr).1
      rw [L.terms] at hleft
      refine ⟨by rw [if_neg (by omega)]; exact hs1.1, ?_⟩
      split
      · rename_i e
        rw [e2] at hr
        rcases List.mem_cons.1 hr with e' | hr
        · rw [e'] at e; simp at e
        · rcases List.mem_append.1 hr with hr | hr
          · have := hl r hr; omega
          · have e' : r = ⟨p.terms.length + p.vars.length, [1], k⟩ := by simpa using hr
            rw [e']
            right
            exact hs _ hs1.1
      · exact hs1.2
  rcases hup with h2 | h2
  · rcases hid with h3 | h3
    · rw [hs _ h1] at h3; omega
    · rw [hs _ h1, h2] at h3; omega
  · exact h2
theorem Loose.rch_z (L : Loose p q) (h : OK p) (ht : 2 ≤ p.terms.length) : ¬ Rch q (p.terms.length + p.vars.length) := by
  obtain ⟨x, t, k, e1, e2, hl⟩ := L.rules
  have hc : cnt q = p.terms.length + p.vars.length + 2 := by unfold cnt; rw [L.terms, L.vars]; omega
  intro hj
  rcases rch_why hj with h1 | ⟨r, hr, _, y, hy, e3⟩
  · omega
  · have hb : ∀ r' ∈ p.rules, ∀ y ∈ r'.right, y.toNat ≠ p.terms.length + p.vars.length := fun r' hr' y hy => by have := h.right r' hr' y hy; omega
    rw [e2] at hr
    rcases List.mem_cons.1 hr with e' | hr
    · rw [e'] at hy
      exact hb ⟨p.terms.length + p.vars.length, [x], 0⟩ (by rw [e1]; simp) y hy e3
    · rcases List.mem_append.1 hr with hr | hr
      · exact hb r (by rw [e1]; simp [hr]) y hy e3
      · have e' : r = ⟨p.terms.length + p.vars.length, [1], k⟩ := by simpa using hr
        rw [e'] at hy
        have : y = 1 := by simpa using hy
        omega
theorem Loose.rch (L : Loose p q) (h : OK p) (ht : 2 ≤ p.terms.length) {i : Nat} (hi : i < p.terms.length + p.vars.length) : Rch q i ↔ Rch p i := by
  obtain ⟨x, t, k, e1, e2, hl⟩ := L.rules
  have hc : cnt q = p.terms.length + p.vars.length + 2 := by unfold cnt; rw [L.terms, L.vars]; omega
  have hcp : cnt p = p.terms.length + p.vars.length + 1 := rfl
  have hno : ∀ j, Rch q j → j ≠ p.terms.length + p.vars.length := fun j hj e => L.rch_z h ht (e ▸ hj)
  constructor
  · intro hr
    have key : ∀ j, Rch q j → Rch p (psi (p.terms.length + p.vars.length) j) := by
      intro j hj
      induction hj with
      | start =>
        rw [hc]
        have : psi (p.terms.length + p.vars.length) (p.terms.length + p.vars.length + 2 - 1) = cnt p - 1 := by unfold psi; rw [if_pos (by omega)]; omega
        rw [this]
        exact Rch.start
      | rule r hm hrl y hy ih =>
        obtain ⟨hD, r', hr', el, er⟩ := (L.back h).rule r hm (hno _ hrl)
        rw [← el] at ih
        have hym : y.toNat ∈ (r.right.map Int.toNat) := List.mem_map_of_mem hy
        have : psi (p.terms.length + p.vars.length) y.toNat ∈ r'.right.map Int.toNat := by rw [er]; exact List.mem_map_of_mem hym
        obtain ⟨z, hz, e⟩ := List.mem_map.1 this
        rw [← e]
        exact Rch.rule r' hr' ih z hz
    have := key i hr
    rwa [psi_lt hi] at this
  · intro hr
    have key : ∀ j, Rch p j → Rch q (phi (p.terms.length + p.vars.length) j) := by
      intro j hj
      induction hj with
      | start =>
        have : phi (p.terms.length + p.vars.length) (cnt p - 1) = cnt q - 1 := by unfold phi; rw [if_pos (by omega)]; omega
        rw [this]
        exact Rch.start
      | rule r hm hrl y hy ih =>
        obtain ⟨hD, r', hr', el, er⟩ := (L.there h).rule r hm trivial
        rw [← el] at ih
        have hym : y.toNat ∈ (r.right.map Int.toNat) := List.mem_map_of_mem hy
        have : phi (p.terms.length + p.vars.length) y.toNat ∈ r'.right.map Int.toNat := by rw [er]; exact List.mem_map_of_mem hym
        obtain ⟨z, hz, e⟩ := List.mem_map.1 this
        rw [← e]
        exact Rch.rule r' hr' ih z hz
    have := key i hr
    rwa [phi_lt hi] at this
theorem bad_congr {f g : Nat → Bool} : ∀ (k i : Nat), (∀ j, i ≤ j → j < i + k → f j = g j) → bad f k i = bad g k i
  | 0, _, _ => rfl
  | k + 1, i, h => by
    rw [bad, bad, h i (by omega) (by omega), bad_congr k (i + 1) (fun j h1 h2 => h j (by omega) (by omega))]
theorem bad_snoc {f : Nat → Bool} : ∀ (k i : Nat), bad f (k + 1) i = match bad f k i with | some x => some x | none => if f (i + k) = true then none else some (i + k)
  | 0, i => by rw [bad, bad]; rfl
  | k + 1, i => by
    rw [bad, bad_snoc k (i + 1), bad]
    by_cases h : f i = true
    · rw [if_pos h, if_pos h, show i + 1 + k = i + (k + 1) by omega]
    · rw [if_neg h, if_neg h]
theorem Loose.check (L : Loose p q) (h : OK p) (hq : OK q) (ht : 2 ≤ p.terms.length) : check q = if (Q.check p).2 = 0 then (((p.terms.length + p.vars.length : Nat) : Int), 17) else Q.check p := by
  have hm : bad (makes q) q.vars.length q.terms.length = bad (makes p) p.vars.length p.terms.length := by
    rw [L.vars, L.terms, bad_snoc]
    have e : makes q (p.terms.length + p.vars.length) = true := by rw [makes_lens hq, L.long_z h hq ht]; rfl
    rw [e, bad_congr (g := makes p) _ _ (fun j h1 h2 => by rw [makes_lens hq, makes_lens h, L.long_lt h hq h2])]
    cases bad (makes p) p.vars.length p.terms.length <;> rfl
  have hc : bad (come q) q.vars.length q.terms.length = match bad (come p) p.vars.length p.terms.length with | some x => some x | none => some (p.terms.length + p.vars.length) := by
    rw [L.vars, L.terms, bad_snoc]
    have e : come q (p.terms.length + p.vars.length) = false := by
      rw [Bool.eq_false_iff]
      intro hh
      exact L.rch_z h ht ((come_rch hq _).1 hh)
    rw [e, bad_congr (g := come p) _ _ (fun j h1 h2 => by rw [Bool.eq_iff_iff, come_rch hq, come_rch h, L.rch h ht h2])]
    rfl
  unfold Q.check
  rw [hm, hc]
  cases bad (makes p) p.vars.length p.terms.length with
  | some i => simp
  | none =>
    cases bad (come p) p.vars.length p.terms.length with
    | some i => simp
    | none => simp
end Q
end Go.Proofs.YtjbggogbnckllaaDoor
