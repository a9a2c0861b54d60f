/-
  A small grammar with one more variable that no rule has (plain): its plan, and what chapter 9 tells of it.
-/
import Derived.Test.YtjbggogbnckllaaDoorAs
namespace Go.Proofs.YtjbggogbnckllaaDoor
open Go.RowKit
set_option linter.unusedVariables false
set_option linter.unusedSimpArgs false

namespace Pl
def zS : ByteArray := ch 90
def zRul : Rd.Rul := ⟨zS, [ch 97], Rd.E, Rd.E⟩
/-- With the rule Z : a. -/
def loose (s : Sm) : Rd.Gr := ⟨(grammar s).toks, (grammar s).skips, (grammar s).levs, (grammar s).start, (grammar s).rules ++ [zRul]⟩
theorem zS_var {j : Nat} (h : j < 4) : zS ≠ varS j := by
  rw [varS_of j h]
  intro h
  have := ch_inj (by omega) (by omega) h; omega
theorem placeF_app (l : List ByteArray) (z s : ByteArray) : ∀ n, n ≤ l.length → placeF (l ++ [z]) s n = placeF l s n
  | 0, _ => rfl
  | n + 1, h => by
    have e : nth (l ++ [z]) n = nth l n := by
      unfold nth
      rw [List.getD_eq_getElem?_getD, List.getD_eq_getElem?_getD, List.getElem?_append_left (by omega)]
    rw [placeF, placeF, placeF_app l z s n (by omega), e]
theorem place_app {l : List ByteArray} {z s : ByteArray} {i : Nat} (h : place l s = some i) : place (l ++ [z]) s = some i := by
  unfold place at h ⊢
  rw [List.length_append, List.length_singleton, placeF, placeF_app l z s _ (Nat.le_refl _), h]
theorem sym_app {tm vs : List ByteArray} {z s : ByteArray} (h : 0 ≤ sym tm vs s) : sym tm (vs ++ [z]) s = sym tm vs s := by
  unfold sym at h ⊢
  cases ht : place tm s with
  | some i => rfl
  | none =>
    rw [ht] at h
    simp only at h ⊢
    cases hv : place vs s with
    | none => rw [hv] at h; simp at h
    | some k => rw [place_app hv]
theorem rt_app {tm vs : List ByteArray} {z : ByteArray} {lv : List Nat} : ∀ {r : List ByteArray} {l : List Int} {k : Nat} {R : List Int × Nat}, rt tm vs lv r l k = .ok R → rt tm (vs ++ [z]) lv r l k = .ok R
  | [], l, k, R, h => by rw [rt] at h ⊢; exact h
  | s :: r, l, k, R, h => by
    obtain ⟨y, hy, hs, _⟩ := rt_ok h
    rw [rt] at h ⊢
    rw [sym_app (by omega)]
    rw [if_neg (by omega)] at h ⊢
    exact rt_app h
theorem prod_app {ls : List Rd.Lev} {tm vs : List ByteArray} {z : ByteArray} {lv : List Nat} {r : Rd.Rul} {x : Prod} (h : prod ls tm vs lv r = .ok x) (hl : r.left ∈ vs) : prod ls tm (vs ++ [z]) lv r = .ok x := by
  obtain ⟨k, hr, _⟩ := prod_ok h
  obtain ⟨i, _, hi⟩ := sym_var (tm := tm) hl
  unfold prod at h ⊢
  rw [rt_app hr]
  rw [hr] at h
  rw [sym_app (by omega)]
  exact h
theorem vars_loose (s : Sm) (hf : few s 20 8 = true) : vars (loose s).rules = vars (grammar s).rules ++ [zS] := by
  have hv := nVar_le s
  obtain ⟨h1, _, _⟩ := smRules_ok s hf (nVar s) (Nat.le_refl _)
  show ((grammar s).rules ++ [zRul]).foldl addVar [] = _
  rw [List.foldl_append]
  show addVar (vars (grammar s).rules) zRul = _
  unfold addVar
  rw [if_neg]
  · rfl
  · intro h
    obtain ⟨r, hr, e⟩ := vars_sub (place_iff.1 h)
    obtain ⟨j, hj, el⟩ := (h1 r hr).l
    rw [el] at e
    exact zS_var (by omega) e
theorem okRule_z : okRule zRul = true := by
  unfold okRule
  have h1 : name zRul.left = true := nm_ch _ (by decide)
  have h2 : name (ch 97) = true := nm_ch _ (by decide)
  have h3 : action zRul.action = true := action_E
  have h4 : allN zRul.right.length (fun k => name (nth zRul.right k)) = true := by
    rw [allN_true]
    intro i hi
    have hi1 : i < 1 := hi
    obtain rfl : i = 0 := by omega
    exact h2
  rw [h1, h3, h4]
  rfl
theorem loose_right (s : Sm) (hf : few s 20 8 = true) : right (loose s) = true := by
  have h := grammar_right s hf
  have hv := nVar_le s
  obtain ⟨_, h2, _⟩ := smRules_ok s hf (nVar s) (Nat.le_refl _)
  have hlen : (grammar s).rules.length ≤ 24 := by show (smRules s (nVar s)).length ≤ 24; omega
  unfold right at h ⊢
  simp only [Bool.and_eq_true, decide_eq_true_eq] at h ⊢
  obtain ⟨⟨⟨⟨⟨⟨⟨⟨⟨⟨⟨a1, a2⟩, a3⟩, a4⟩, a5⟩, a6⟩, a7⟩, a8⟩, a9⟩, a10⟩, a11⟩, a12⟩ := h
  refine ⟨⟨⟨⟨⟨⟨⟨⟨⟨⟨⟨a1, a2⟩, a3⟩, ?_⟩, ?_⟩, a6⟩, a7⟩, a8⟩, a9⟩, ?_⟩, a11⟩, a12⟩
  · show 1 ≤ ((grammar s).rules ++ [zRul]).length; simp
  · show ((grammar s).rules ++ [zRul]).length ≤ 40; simp; omega
  · show ((grammar s).rules ++ [zRul]).all okRule = true
    rw [List.all_append, a10]
    simp [okRule_z]
theorem loose_of (s : Sm) (hf : few s 20 8 = true) : ∃ q, of (loose s) = (q, 0, Rd.E) := by
  have ht := nTok_le s
  obtain ⟨F, _⟩ := ofF (plan_of s hf)
  have hvl := vars_loose s hf
  have hnot : ∀ t ∈ (loose s).toks, t.name ∉ vars (loose s).rules := by
    intro t ht' hm
    rw [hvl] at hm
    rcases List.mem_append.1 hm with hm | hm
    · exact F.notv t ht' hm
    · have e : t.name = zS := by simpa using hm
      obtain ⟨i, hi, rfl⟩ := List.mem_map.1 ht'
      have hi' := List.mem_range.1 hi
      have := ch_inj (a := 97 + i) (b := 90) (by omega) (by omega) e
      omega
  obtain ⟨r, hq⟩ := toks_some (ls := (loose s).levs) (loose s).toks [endS] [0] hnot
  obtain ⟨_, hqe⟩ := toks_ok hq
  have e1 : r.1 = (plan s).terms := by rw [hqe, F.terms]; rfl
  have e2 : r.2 = (plan s).levels := by rw [hqe, F.levels]; rfl
  have hprod : ∀ x ∈ (loose s).rules, ∃ y, prod (loose s).levs r.1 (vars (loose s).rules) r.2 x = .ok y := by
    intro x hx
    rw [e1, e2, hvl, ← F.vars]
    rcases List.mem_append.1 (show x ∈ (grammar s).rules ++ [zRul] from hx) with hx | hx
    · obtain ⟨i, hi, rfl⟩ := List.getElem_of_mem hx
      obtain ⟨y, hy, _⟩ := F.r i hi
      exact ⟨y, prod_app hy (by rw [F.vars]; exact vars_mem _ _ hx)⟩
    · obtain rfl : x = zRul := by simpa using hx
      obtain ⟨w, hw⟩ := rt_some (tm := (plan s).terms) (vs := (plan s).vars ++ [zS]) (lv := (plan s).levels) zRul.right [] 0 (fun y hy => by
        obtain rfl : y = ch 97 := by simpa [zRul] using hy
        left
        rw [F.terms]
        refine List.mem_cons_of_mem _ ?_
        simp only [grammar, List.map_map, List.mem_map, List.mem_range]
        exact ⟨0, by omega, rfl⟩)
      unfold prod
      rw [hw]
      exact ⟨_, rfl⟩
  obtain ⟨rs, hrs⟩ := prods_some (ls := (loose s).levs) (tm := r.1) (vs := vars (loose s).rules) (lv := r.2) (loose s).rules [⟨r.1.length + (vars (loose s).rules).length, [sym r.1 (vars (loose s).rules) (loose s).start], 0⟩] hprod
  have hst : (place (vars (loose s).rules) (loose s).start).isSome = true := place_iff.2 (by
    rw [hvl, ← F.vars]
    exact List.mem_append_left _ F.start)
  obtain ⟨tm, lv⟩ := r
  have e : of (loose s) = (⟨tm, vars (loose s).rules, rs, lv, 0 :: (loose s).levs.map (·.assoc), Rd.E :: (loose s).rules.map (·.action)⟩, 0, Rd.E) := by
    unfold of
    rw [loose_right s hf]
    simp only [Bool.not_true, Bool.false_eq_true, if_false]
    rw [hq]
    simp only
    rw [hrs]
    simp only
    rw [if_pos hst]
  exact ⟨_, e⟩
end Pl
namespace Q
open Pl (Plan Prod)
/-- One more variable, that no rule has. -/
structure Loose (p q : Plan) : Prop where
  terms : q.terms = p.terms
  vars : q.vars.length = p.vars.length + 1
  rules : ∃ (x : Int) (t : List Prod) (k : Nat), p.rules = ⟨p.terms.length + p.vars.length, [x], 0⟩ :: t ∧ q.rules = ⟨p.terms.length + p.vars.length + 1, [x], 0⟩ :: (t ++ [⟨p.terms.length + p.vars.length, [1], k⟩]) ∧ ∀ r ∈ t, r.left < p.terms.length + p.vars.length
theorem loose_plan {s : Pl.Sm} (hf : Pl.few s 20 8 = true) : ∃ q, Pl.of (Pl.loose s) = (q, 0, Rd.E) ∧ Loose (Pl.plan s) q ∧ OK q ∧ cnt q ≤ 62 := by
  obtain ⟨q, hq⟩ := Pl.loose_of s hf
  obtain ⟨F, _⟩ := ofF (Pl.plan_of s hf)
  obtain ⟨G, _⟩ := ofF hq
  have hO := ok_of (Pl.plan_of s hf)
  obtain ⟨p, hp⟩ : ∃ p, p = Pl.plan s := ⟨_, rfl⟩
  rw [← hp] at F hO ⊢
  have hvl := Pl.vars_loose s hf
  have ht : q.terms = p.terms := by rw [G.terms, F.terms]; rfl
  have hv : q.vars = p.vars ++ [Pl.zS] := by rw [G.vars, hvl, F.vars]
  have hl : q.levels = p.levels := by rw [G.levels, F.levels]; rfl
  refine ⟨q, hq, ⟨ht, by rw [hv]; simp, ?_⟩, ok_of hq, cnt_of hq⟩
  obtain ⟨k0, hk0, e0⟩ := sym_var (tm := p.terms) F.start
  have hpl := F.len
  have hql : q.rules.length = p.rules.length + 1 := by
    rw [G.len, hpl]
    show ((Pl.grammar s).rules ++ [Pl.zRul]).length + 1 = _
    simp
  cases hpr : p.rules with
  | nil => rw [hpr] at hpl; simp at hpl
  | cons r0 t =>
    have h0 := F.r0
    rw [hpr] at h0
    simp only [List.getElem?_cons_zero, Option.some.injEq] at h0
    subst h0
    have hgl : (Pl.loose s).rules.length = (Pl.grammar s).rules.length + 1 := by show ((Pl.grammar s).rules ++ [Pl.zRul]).length = _; simp
    have htl : t.length = (Pl.grammar s).rules.length := by rw [hpr] at hpl; simpa using hpl
    obtain ⟨y, hy, hyq⟩ := G.r (Pl.grammar s).rules.length (by omega)
    have hzr : (Pl.loose s).rules[(Pl.grammar s).rules.length]'(by omega) = Pl.zRul := by
      show ((Pl.grammar s).rules ++ [Pl.zRul])[(Pl.grammar s).rules.length]'(by simp) = _
      simp
    rw [hzr, ht, hv, hl] at hy
    have hyl : y.left = p.terms.length + p.vars.length ∧ y.right = [1] := by
      obtain ⟨k, e1, e2, _⟩ := prod_ok hy
      have hz : Pl.zS ∉ p.vars := by
        rw [F.vars]
        intro h
        obtain ⟨r, hr, e⟩ := Pl.vars_sub h
        obtain ⟨j, hj, el⟩ := ((Pl.smRules_ok s hf (Pl.nVar s) (Nat.le_refl _)).1 r hr).l
        have := Pl.nVar_le s
        rw [el] at e
        exact Pl.zS_var (by omega) e
      have hzt : Pl.place p.terms Pl.zS = none := by
        cases hh : Pl.place p.terms Pl.zS with
        | none => rfl
        | some i =>
          have hm := place_iff.1 (by rw [hh]; rfl : (Pl.place p.terms Pl.zS).isSome = true)
          rw [F.terms] at hm
          rcases List.mem_cons.1 hm with hm | hm
          · exact absurd hm (by decide)
          · exfalso
            obtain ⟨t', ht', e⟩ := List.mem_map.1 hm
            obtain ⟨i, hi, rfl⟩ := List.mem_map.1 ht'
            have := List.mem_range.1 hi
            have := Pl.nTok_le s
            have := Pl.ch_inj (a := 97 + i) (b := 90) (by omega) (by omega) e
            omega
      constructor
      · rw [e2, show Pl.zRul.left = Pl.zS from rfl]
        unfold Pl.sym
        rw [hzt]
        have : Pl.place (p.vars ++ [Pl.zS]) Pl.zS = some p.vars.length := by
          unfold Pl.place
          rw [List.length_append, List.length_singleton, Pl.placeF, Pl.placeF_app _ _ _ _ (Nat.le_refl _)]
          have hn : Pl.placeF p.vars Pl.zS p.vars.length = none := by
            cases hh : Pl.placeF p.vars Pl.zS p.vars.length with
            | none => rfl
            | some i => exact absurd (place_iff.1 (by unfold Pl.place; rw [hh]; rfl)) hz
          rw [hn]
          simp only
          have : Pl.nth (p.vars ++ [Pl.zS]) p.vars.length = Pl.zS := by unfold Pl.nth; rw [List.getD_eq_getElem?_getD]; simp
          rw [this, if_pos (Lx.eqS_iff.2 rfl)]
        rw [this]
        simp only [Int.toNat_natCast]
      · obtain ⟨j, hj, hs, hr⟩ := rt_ok (s := Pl.ch 97) (r := []) e1
        rw [Pl.rt] at hr
        injection hr with hr
        injection hr with hr _
        have h1 : Pl.sym p.terms (p.vars ++ [Pl.zS]) (Pl.ch 97) = 1 := by
          unfold Pl.sym
          obtain ⟨tl, htl⟩ : ∃ tl, p.terms = Pl.endS :: Pl.ch 97 :: tl := by
            rw [F.terms]
            have hn := Pl.nTok_le s
            have : (Pl.grammar s).toks.map (·.name) = (List.range (Pl.nTok s)).map Pl.tokS := by simp [Pl.grammar]
            rw [this]
            obtain ⟨n, hn⟩ : ∃ n, Pl.nTok s = n + 1 := ⟨Pl.nTok s - 1, by omega⟩
            rw [hn, List.range_succ_eq_map]
            exact ⟨_, rfl⟩
          have hp2 : Pl.place p.terms (Pl.ch 97) = some 1 := by
            have hm : Pl.ch 97 ∈ p.terms := by rw [htl]; simp
            obtain ⟨k, hk, e, ep⟩ := placeI_pos hm
            rw [ep]
            have := placeI_at (l := p.terms) (s := Pl.ch 97) (k := 1) (by rw [htl]; simp) (fun i hi h1 => by
              obtain rfl : i = 0 := by omega
              simp only [htl, List.getElem_cons_zero]
              decide) (by simp only [htl, List.getElem_cons_succ, List.getElem_cons_zero])
            rw [this] at e
            congr 1; omega
          rw [hp2]
          rfl
        rw [h1] at hs
        rw [← hr]
        simp only [List.nil_append, List.cons.injEq, and_true]
        omega
    have e0' : Pl.sym p.terms (p.vars ++ [Pl.zS]) (Pl.loose s).start = Pl.sym p.terms p.vars (Pl.grammar s).start := Pl.sym_app (z := Pl.zS) (by show 0 ≤ Pl.sym p.terms p.vars (Pl.grammar s).start; rw [e0]; omega)
    refine ⟨_, t, y.level, rfl, ?_, ?_⟩
    · refine List.ext_getElem? fun j => ?_
      cases j with
      | zero =>
        rw [G.r0, ht, hv, e0']
        simp
        omega
      | succ j =>
        rw [List.getElem?_cons_succ]
        by_cases hj : j < (Pl.grammar s).rules.length
        · obtain ⟨x, hx, hx2⟩ := G.r j (by omega)
          obtain ⟨x', hx', hx2'⟩ := F.r j hj
          have hjr : (Pl.loose s).rules[j]'(by omega) = (Pl.grammar s).rules[j] := by
            show ((Pl.grammar s).rules ++ [Pl.zRul])[j]'(by simp; omega) = _
            rw [List.getElem_append_left hj]
          rw [hjr, ht, hv, hl, show (Pl.loose s).levs = (Pl.grammar s).levs from rfl, Pl.prod_app hx' (by rw [F.vars]; exact vars_mem _ _ (List.getElem_mem hj))] at hx
          cases hx
          rw [hpr, List.getElem?_cons_succ] at hx2'
          rw [hx2, ← hx2', List.getElem?_append_left (by omega)]
        · by_cases hj2 : j = (Pl.grammar s).rules.length
          · subst hj2
            rw [hyq, List.getElem?_append_right (by omega), htl, Nat.sub_self]
            simp only [List.getElem?_cons_zero, Option.some.injEq]
            obtain ⟨yl, yr, yk⟩ := y
            simp only at hyl
            rw [hyl.1, hyl.2]
          · rw [List.getElem?_eq_none (by rw [hql, hpl]; omega), List.getElem?_eq_none (by simp; omega)]
    · intro r hr
      obtain ⟨j, hj, rfl⟩ := List.getElem_of_mem hr
      obtain ⟨x', hx', hx2'⟩ := F.r j (by omega)
      rw [hpr, List.getElem?_cons_succ, List.getElem?_eq_getElem hj] at hx2'
      obtain ⟨_, _, el, _⟩ := prod_ok hx'
      obtain rfl := Option.some.inj hx2'
      rw [el]
      obtain ⟨k, hk, e⟩ := sym_var (tm := p.terms) (show (Pl.grammar s).rules[j].left ∈ p.vars by rw [F.vars]; exact vars_mem _ _ (List.getElem_mem (by omega)))
      rw [e]
      simpa using hk
end Q
end Go.Proofs.YtjbggogbnckllaaDoor
