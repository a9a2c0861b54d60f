/-
  Walks: pattern.Meets.
-/
import Derived.Test.YtgoggooeipcgpaaWalkF
namespace Go.Proofs.Ytgoggooeipcgpaa
open Go.RowKit
set_option linter.unusedVariables false

/-- '==' at an array of bools, cell by cell. -/
theorem run_equalIn_bools {P : Program} (w : World) (d : Nat) (t e : TypeId) (len : Nat) (ht : P.underlying t = some (.array len e)) (he : P.underlying e = some .bool) (hs : (P.info? e).map (·.size) = some 1)
    (xs ys : Array Value) (f g : Nat → Bool) (hx : ∀ i, i < len → xs[i]? = some (.bool (f i))) (hy : ∀ i, i < len → ys[i]? = some (.bool (g i))) :
    (Op.equalIn (d + 2) t (.agg xs) (.agg ys)).run P w = .ok ((List.range' 0 len).all fun i => f i == g i) w := by
  have hsz : (sizeOf e).run P w = .ok 1 w := by
    cases hq : P.info? e with
    | none => simp [hq] at hs
    | some i =>
      have h1 : i.size = 1 := by simpa [hq] using hs
      simp [sizeOf, typeInfo, hq, h1]
  have hagg : (isAgg e).run P w = .ok false w := by
    unfold isAgg
    simp [run_underlying he w]
  have hp : ∀ (i : Nat) (zs : Array Value) (v : Value), zs[i]? = some v → (part e zs i).run P w = .ok v w := by
    intro i zs v hv
    unfold part
    simp [hagg, hv]
  have heq : ∀ (a b : Bool), (Op.equalIn (d + 1) e (.bool a) (.bool b)).run P w = .ok (a == b) w := fun a b => run_equalIn_bool' w d e a b he
  rw [Op.equalIn]
  simp only [Sem.run_bind, run_underlying ht, Result.andThen_ok, hsz, Nat.mul_one]
  rw [Std.Legacy.Range.forIn_eq_forIn_range']
  simp only [Std.Legacy.Range.size, Nat.sub_zero, Nat.add_sub_cancel, Nat.div_one]
  have hl : ∀ i ∈ List.range' 0 len, i < len := by intro i hi; have := List.mem_range'_1.1 hi; omega
  generalize List.range' 0 len = l at hl
  have key : (forIn (m := Sem) l ((none : Option Bool), ()) fun i _ => do
            let a ← part e xs i
            let b ← part e ys i
            let c ← Op.equalIn (d + 1) e a b
            if (!c) = true then pure (ForInStep.done (some false, ())) else pure (ForInStep.yield (none, ()))).run P w = .ok ((if (l.all fun i => f i == g i) = true then none else some false), ()) w := by
    induction l with
    | nil => simp
    | cons i l ih =>
      have hi := hl i (by simp)
      simp only [List.forIn_cons, Sem.run_bind, hp i xs _ (hx i hi), hp i ys _ (hy i hi), Result.andThen_ok, heq]
      cases hfg : (f i == g i)
      · simp [hfg]
      · simp only [Bool.not_true, Bool.false_eq_true, if_false, Sem.run_pure, Result.andThen_ok, List.all_cons, hfg, Bool.true_and]
        exact ih (fun j hj => hl j (by simp [hj]))
  rw [key]
  cases (l.all fun i => f i == g i) <;> simp

theorem both_neq (a b : Pl.B) (w : World) : (Op.equalIn 10000 64 (.agg (bothA a b 256)) (.agg noneA)).run Try.prog w = .ok (!(a.any (Pl.mem b))) w := by
  have h := run_equalIn_bools (P := Try.prog) w 9998 64 4 256 Try.underlying64 Try.underlying4 (by kernel_rfl) (bothA a b 256) noneA
    (fun i => decide (i < 256) && (Pl.has a (i : Nat) && Pl.has b (i : Nat))) (fun _ => false) (fun i hi => bothA_get a b 256 i hi) (fun i hi => by simp [noneA, hi])
  refine h.trans ?_
  congr 1
  rw [Bool.eq_iff_iff]
  have hb := bothA_none a b
  constructor
  · intro hh
    have : bothA a b 256 = noneA := by
      apply Array.ext
      · simp [bothA, noneA]
      · intro i h1 h2
        simp [bothA] at h1
        have := List.all_eq_true.1 hh i (List.mem_range'_1.2 ⟨by omega, by omega⟩)
        simp only [bothA, noneA, Array.getElem_map, Array.getElem_range, Array.getElem_replicate]
        congr 1
        exact beq_iff_eq.1 this
    rw [hb] at this
    rw [this]; rfl
  · intro hh
    have hn : a.any (Pl.mem b) = false := by simpa using hh
    rw [← hb] at hn
    refine List.all_eq_true.2 fun i hi => ?_
    have hi' := List.mem_range'_1.1 hi
    have hi2 : i < 256 := by omega
    have h1 := bothA_get a b 256 i hi2
    rw [hn] at h1
    simp [noneA, hi2] at h1
    cases h3 : Pl.has a (i : Nat) <;> cases h4 : Pl.has b (i : Nat) <;> simp_all

theorem build64 (w : World) : (Instr.build 64 #[]).run Try.prog w = .ok (.agg noneA) w :=
  run_build w _ _ _ (by kernel_rfl)

/-- An operation that yields its value in whatever world. -/
theorem quiet_val {P : Program} {o : Oper} {a : Act} {C : World → Prop} {K : Act → Prop} (v : Value) (h : ∀ w, (execOp a.eval o).run P w = .ok (.value v) w) (hk : K (a.put o.dst v)) : o.quiet P a C K :=
  ⟨v, fun w _ => by unfold Oper.quietAt; rw [h w]; exact ⟨rfl, rfl⟩, hk⟩

set_option maxRecDepth 100000 in
set_option maxHeartbeats 400000 in
theorem meets_none_any (s s' : ByteArray) (m m' : Bool) (w : World) (hs : s.size ≤ maxLen) (hs' : s'.size ≤ maxLen) :
    Calls Try.prog 20 #[.agg #[.string ⟨#[]⟩, .string s, .bool m], .agg #[.string ⟨#[]⟩, .string s', .bool m']] w fun e w' =>
      e = .returned (.bool (Pl.meets [] s.data.toList m [] s'.data.toList m')) ∧ Below w.heap.size w w' := by
  have hv : Hid (Pl.meets [] s.data.toList m [] s'.data.toList m' = s.data.toList.any (Pl.mem s'.data.toList)) := Lib.hid rfl
  have h5 : (ByteArray.mk #[]).toList.isEmpty = true := by rw [ByteArray.toList_eq]; rfl
  have hne := fun w => both_neq s.data.toList s'.data.toList w
  generalize s.data.toList.any (Pl.mem s'.data.toList) = r at hv hne
  go_enter Try.func20, Try.ntmps20
  go_wp2_with fail
  have hb1 : ∀ z : Wd (w.heap.size + 2) ((w.alloc (.cells #[.string ⟨#[]⟩, .string s, .bool m] 23)).alloc (.cells #[.string ⟨#[]⟩, .string s', .bool m'] 23)), z.w.cell? ⟨w.heap.size, 1, none⟩ = some (.string s) := by
    intro z
    rw [(bcell z.ok).1 _ _ (by omega)]
    go_simp
  have hb2 : ∀ z : Wd (w.heap.size + 2) ((w.alloc (.cells #[.string ⟨#[]⟩, .string s, .bool m] 23)).alloc (.cells #[.string ⟨#[]⟩, .string s', .bool m'] 23)), z.w.cell? ⟨w.heap.size + 1, 1, none⟩ = some (.string s') := by
    intro z
    rw [(bcell z.ok).1 _ _ (by omega)]
    go_simp
  refine region_cls (w.heap.size + 2) (by kernel_rfl) (by kernel_rfl) ?_
  repeat (go_big_quiet_step (first | (go_at_call 38; exact calls_cls _ (by simp) (both_any _ _ _)) | (go_at_call_of 36 (s); exact calls_cls _ (by simp) (of_any s _ hs)) | (go_at_call_of 36 (s'); exact calls_cls _ (by simp) (of_any s' _ hs'))))
  go_big_quiet_want
  refine quiet_val (.agg noneA) (fun w => by unfold execOp; simp [build64]) ?_
  simp only [Act.put, List.setIfInBounds_toArray, List.set_cons_zero, List.set_cons_succ]
  go_big_quiet_on
  repeat (go_big_quiet_step (fail))
  refine wpQuiet_nil ?_
  intro z
  have hB : Below w.heap.size w z.w := (((Below.refl _ _).alloc (Nat.le_refl _) _).alloc (by simp) _).trans (z.ok.mono (by simp))
  go_wp2_with fail
  go_ret
  exact ⟨ret_bool hv.out.symm, hB⟩

theorem empty_of {t : ByteArray} (h : t.data.toList = []) : t = ⟨#[]⟩ := by
  cases t with
  | mk d => simp at h; subst h; rfl

theorem isEmpty_of {t : ByteArray} (h : t.data.toList ≠ []) : t.toList.isEmpty = false := by
  rw [ByteArray.toList_eq]; cases hh : t.data.toList <;> simp_all

set_option maxRecDepth 100000 in
set_option maxHeartbeats 400000 in
theorem meets_any (t s t' s' : ByteArray) (m m' : Bool) (w : World) (ht : t.size ≤ maxLen) (hs : s.size ≤ maxLen) (ht' : t'.size ≤ maxLen) (hs' : s'.size ≤ maxLen) :
    Calls Try.prog 20 #[.agg #[.string t, .string s, .bool m], .agg #[.string t', .string s', .bool m']] w fun e w' =>
      e = .returned (.bool (Pl.meets t.data.toList s.data.toList m t'.data.toList s'.data.toList m')) ∧ Below w.heap.size w w' := by
  by_cases he : t.data.toList = []
  · obtain rfl := empty_of he
    by_cases he' : t'.data.toList = []
    · obtain rfl := empty_of he'
      exact meets_none_any s s' m m' w hs hs'
    · have h5 : (ByteArray.mk #[]).toList.isEmpty = true := by rw [ByteArray.toList_eq]; rfl
      have h6 := isEmpty_of he'
      have hv : Hid (Pl.meets (ByteArray.mk #[]).data.toList s.data.toList m t'.data.toList s'.data.toList m' = Pl.is (ByteArray.mk #[]).data.toList s.data.toList m t'.data.toList) := by
        refine Lib.hid ?_
        have e : t'.data.toList.isEmpty = false := by rw [← ByteArray.toList_eq]; exact h6
        unfold Pl.meets
        rw [e]
        rfl
      have hc := is_any ⟨#[]⟩ s t' m
      generalize Pl.is (ByteArray.mk #[]).data.toList s.data.toList m t'.data.toList = r at hv hc
      go_enter Try.func20, Try.ntmps20
      go_wp2_with fail
      refine (hc _ ht hs ht').mono ?_
      rintro e w1 ⟨rfl, hb⟩
      clear hc
      go_wp2_with fail
      go_ret
      exact ⟨ret_bool hv.out.symm, (((Below.refl _ _).alloc (Nat.le_refl _) _).alloc (by simp) _).trans (hb.mono (by simp; omega))⟩
  · have h6 := isEmpty_of he
    have hv : Hid (Pl.meets t.data.toList s.data.toList m t'.data.toList s'.data.toList m' = Pl.is t'.data.toList s'.data.toList m' t.data.toList) := by
      refine Lib.hid ?_
      have e : t.data.toList.isEmpty = false := by rw [← ByteArray.toList_eq]; exact h6
      unfold Pl.meets
      rw [e]
      rfl
    have hc := is_any t' s' t m'
    generalize Pl.is t'.data.toList s'.data.toList m' t.data.toList = r at hv hc
    go_enter Try.func20, Try.ntmps20
    go_wp2_with fail
    refine (hc _ ht' hs' ht).mono ?_
    rintro e w1 ⟨rfl, hb⟩
    clear hc
    go_wp2_with fail
    go_ret
    exact ⟨ret_bool hv.out.symm, (((Below.refl _ _).alloc (Nat.le_refl _) _).alloc (by simp) _).trans (hb.mono (by simp; omega))⟩
end Go.Proofs.Ytgoggooeipcgpaa
