/-
  A cell's store as one of a tail's first operations.
  A queue of numbers: a slice of the call's own array, whose head goes and whose tail comes.
  Walks: counts that stop; a plan's variable; a row of numbers that is written.
  Walks of chapter 9: how many symbols; is a symbol a terminal; how long a right side is.
  Walks: a product with one; numbers that are repeated.
-/
import Derived.Test.YtjbggogbnckllaaDoorAk
import Derived.Test.YtjbggogbnckllaaDoorAj
import Derived.ArgAppend
import Derived.Test.YtjbggogbnckllaaDoorSmD
import Derived.Test.YtjbggogbnckllaaDoorAl
import Derived.Laws.CopyOwn
section
set_option maxRecDepth 100000
namespace Go.Proofs.YtjbggogbnckllaaDoor
open Go Go.RowKit
set_option linter.unusedVariables false

theorem listE_store_cell {P : Program} {D : World → Prop} {ops : Array Oper} {rest : List Oper} {o : Oper} {a : Act} {w : World} {Q : Exit → Act → World → Prop} {k : Nat} (hgd : o.guard = none) (T : TypeId) (x y : Operand) (ho : o.op = .store T x y)
    (g j : Nat) (hx : a.eval x = .pointer (some ⟨g, j, none⟩)) (v : Value) (hy : a.eval y = v) (hv : v.oneCell' = true) (hi : (P.info? T).map (·.size) = some 1) (cs : Array Value) (t : TypeId) (hg : w.heap[g]? = some (.cells cs t (0, 0))) (hj : j < cs.size)
    (h : D (w.setCell ⟨g, j, none⟩ v) ∧ wpListE P ops Q D k rest (a.put o.dst undef) (w.setCell ⟨g, j, none⟩ v)) : wpListE P ops Q D (k + 1) (o :: rest) a w := by
  refine listE_wp hgd ?_
  cases hq : P.info? T with
  | none => simp [hq] at hi
  | some i =>
    have hsz : i.size = 1 := by simpa [hq] using hi
    have hc : w.cell? ⟨g, j, none⟩ = some cs[j] := by rw [cell_of_row w g j cs t (0, 0) hg]; simp [hj]
    have hf : w.frozen? ⟨g, j, none⟩ = false := frozen_of_row _ _ _ _ _ hg
    unfold Oper.wp execOp
    simp only [ho, hx, hy]
    have hcells : v.cells = #[v] := by cases v <;> first | rfl | (simp [Value.oneCell'] at hv)
    simp [Instr.storeAt, Instr.sureAddr, storeVar, sizeOf, typeInfo, hq, hsz, hcells]
    have hst := run_storeCells_at P g j t [v] 0 cs w hg (by simp; omega) (by simpa using hv)
    simp only [Nat.add_zero] at hst
    rw [hst]
    have e : (List.take j cs.toList ++ [v] ++ List.drop (j + [v].length) cs.toList).toArray = cs.setIfInBounds j v := by
      apply Array.toList_inj.1
      rw [Array.toList_setIfInBounds, List.set_eq_take_append_cons_drop, if_pos (by simpa using hj)]
      simp
    rw [e, ← setCell_eq_setRow w g j cs t (0, 0) v hg]
    exact h
end Go.Proofs.YtjbggogbnckllaaDoor
end

section
set_option maxRecDepth 100000
namespace Go.Proofs.YtjbggogbnckllaaDoor
open Go.RowKit
set_option linter.unusedVariables false
set_option linter.unusedSimpArgs false

/-- A queue's numbers lie in block g, from off on. -/
structure Qu (w : World) (g off cap : Nat) (l : List Int) : Prop where
  le : l.length ≤ cap
  row : ∃ cs : Array Value, w.heap[g]? = some (.cells cs 3 (0, 0)) ∧ (0 < cap → off + cap ≤ cs.size) ∧ ∀ i (h : i < l.length), cs[off + i]? = some (.int .i64 l[i])
section
variable {w w' : World} {g off cap : Nat} {l : List Int}
theorem Qu.lt (h : Qu w g off cap l) : g < w.heap.size := by obtain ⟨cs, e, _⟩ := h.row; exact lt_of_block e
theorem Qu.kept (h : Qu w g off cap l) (k : w'.heap[g]? = w.heap[g]?) : Qu w' g off cap l := by
  obtain ⟨cs, e, h2⟩ := h.row; exact ⟨h.le, cs, k.trans e, h2⟩
theorem Qu.below (h : Qu w g off cap l) (k : Below w.heap.size w w') : Qu w' g off cap l := h.kept (k.block _ h.lt)
theorem Qu.upd {c : Nat} (h : Qu w g off cap l) (k : Upd c w w') (hb : g ≠ c) : Qu w' g off cap l := h.kept (k.block _ h.lt hb)
theorem Qu.cell (h : Qu w g off cap l) {i : Nat} (hi : i < l.length) : w.cell? ⟨g, off + i, none⟩ = some (.int .i64 l[i]) := by
  obtain ⟨cs, e, _, h⟩ := h.row
  rw [cell_of_row _ _ _ _ _ _ e]; exact h i hi
/-- The head goes. -/
theorem Qu.tail {x : Int} {r : List Int} (h : Qu w g off cap (x :: r)) : Qu w g (if cap = 1 then off else off + 1) (cap - 1) r := by
  obtain ⟨cs, e, h1, h2⟩ := h.row
  have hl := h.le
  rw [List.length_cons] at hl
  refine ⟨by omega, cs, e, fun hc => ?_, fun i hi => ?_⟩
  · have := h1 (by omega)
    rw [if_neg (by omega)]; omega
  · have := h2 (i + 1) (by simpa using hi)
    rw [if_neg (by omega), show off + 1 + i = off + (i + 1) by omega]
    simpa using this
theorem qu_sliced (g off cap n : Nat) : sliced (some ⟨g, off, none⟩) 1 n cap 1 = .slice (some ⟨g, if cap = 1 then off else off + 1, none⟩) (n - 1) (cap - 1) := by
  unfold sliced
  by_cases h : cap = 1
  · simp [h]
  · simp [h, Addr.add]
theorem Qu.new (w : World) (x : Int) : Qu (w.alloc (.cells #[.int .i64 x] 3)) w.heap.size 0 1 [x] :=
  ⟨Nat.le_refl _, _, heap_alloc_new w _, fun _ => Nat.le_refl _, fun i hi => by
    have : i = 0 := by simpa using hi
    subst this; rfl⟩
end
theorem run_append_qu (w : World) (ty : TypeId) {g off cap : Nat} {l : List Int} (q : Qu w g off cap l) (ad : Addr) (c : Nat) (x : Int) (hx : w.cell? ad = some (.int .i64 x)) (hl : l.length ≤ 1000000) :
    ∃ g' off' cap' w', (Builtin.append_ #[30, 30] ty #[.slice (some ⟨g, off, none⟩) l.length cap, .slice (some ad) 1 c]).run Tryd.prog w = .ok (.slice (some ⟨g', off', none⟩) (l.length + 1) cap') w' ∧
      Qu w' g' off' cap' (l ++ [x]) ∧ Upd g w w' ∧ (g' = g ∨ g' = w.heap.size) := by
  obtain ⟨i, z, hi, hz, hsz, hby, hzs⟩ := elt_int.hi
  obtain ⟨cs, e, h1, h2⟩ := q.row
  have hle := q.le
  have hnews : ∀ j u, ([.int .i64 x] : List Value)[j]? = some u → w.cell? (ad.add j) = some u := by
    intro j u hu
    cases j with
    | zero => simp only [List.getElem?_cons_zero, Option.some.injEq] at hu; subst hu; simpa [Addr.add] using hx
    | succ j => simp at hu
  by_cases hr : l.length + 1 ≤ cap
  · have hs := h1 (by omega)
    have hc : (w.cell? ⟨g, off + l.length * i.size + 0, none⟩).isSome = true := by
      rw [hsz, cell_of_row _ _ _ _ _ _ e]
      simp only [Nat.mul_one, Nat.add_zero]
      rw [Array.getElem?_eq_getElem (by omega)]; rfl
    have hf : w.frozen? ⟨g, off + l.length * i.size + 0, none⟩ = false := frozen_of_row _ _ _ _ _ e
    have hc2 : ∀ j, j < ([.int .i64 x] : List Value).length → (w.cell? ⟨g, off + l.length * i.size + j, none⟩).isSome = true := fun j hj => by
      have : j = 0 := by simpa using hj
      subst this
      exact hc
    have hf2 : ∀ j, j < ([.int .i64 x] : List Value).length → w.frozen? ⟨g, off + l.length * i.size + j, none⟩ = false := fun j hj => by
      have : j = 0 := by simpa using hj
      subst this
      exact hf
    have hrun := run_append_room_cells (P := Tryd.prog) w 30 ty 3 i elt_int.ht hi g off l.length cap ad 1 c [.int .i64 x] (by rw [hsz]; rfl) hnews (by intro u hu; rw [List.mem_singleton.1 hu]; rfl) hr hc2 hf2
    rw [hsz, Nat.mul_one] at hrun
    refine ⟨g, off, cap, _, hrun, ⟨by simpa using hr, ?_⟩, (Upd.refl g w).setCell ⟨g, off + l.length, none⟩ rfl _, .inl rfl⟩
    refine ⟨_, heap_setCell_same _ _ _ _ _ _ e, by simpa using h1, fun k hk => ?_⟩
    rw [List.length_append, List.length_singleton] at hk
    by_cases hkl : k < l.length
    · rw [Array.getElem?_setIfInBounds_ne (by omega), List.getElem_append_left hkl]
      exact h2 k hkl
    · obtain rfl : k = l.length := by omega
      rw [Array.getElem?_setIfInBounds_self_of_lt (by omega)]
      simp
  · have hcap : cap = l.length := by omega
    subst hcap
    have holds : ∀ j u, (intV l)[j]? = some u → w.cell? ((⟨g, off, none⟩ : Addr).add j) = some u := by
      intro j u hu
      unfold intV at hu
      rw [List.getElem?_map] at hu
      by_cases hj : j < l.length
      · rw [List.getElem?_eq_getElem hj] at hu
        simp only [Option.map_some, Option.some.injEq] at hu
        subst hu
        rw [Addr.add_lit]
        exact q.cell hj
      · rw [List.getElem?_eq_none (by omega)] at hu
        cases hu
    have hlen : (intV l).length = l.length := by simp [intV]
    have hrun := run_append_grow (P := Tryd.prog) w 30 ty 3 i z elt_int.ht hi hz ⟨g, off, none⟩ l.length l.length (intV l) (by rw [hsz, hlen, Nat.mul_one]) holds ad 1 c [.int .i64 x] (by rw [hsz]; rfl) hnews (by omega) (by omega) (by
      rw [hby]
      have h3 := nextcap_one (n := l.length)
      exact Nat.le_trans (Nat.mul_le_mul_right 8 h3) (by omega))
    have hge := grownCap_ge w (l.length + 1) l.length 3
    refine ⟨w.heap.size, 0, _, _, hrun, ⟨by simpa using hge, ?_⟩, ⟨rfl, rfl, rfl, by simp, fun k hk _ => Below.heap_alloc w.drew _ k hk⟩, .inr rfl⟩
    refine ⟨_, heap_alloc_new w.drew _, fun _ => ?_, fun k hk => ?_⟩
    · simp only [Array.size_append, List.size_toArray, size_zeroCells, hzs, hlen, List.length_singleton, Nat.mul_one]
      omega
    · rw [List.length_append, List.length_singleton] at hk
      have hk1 : k < ((intV l).toArray ++ [Value.int .i64 x].toArray).size := by
        simp only [Array.size_append, List.size_toArray, hlen, List.length_singleton]; omega
      rw [Nat.zero_add, Array.getElem?_append_left hk1]
      have e1 : (intV l).toArray ++ [Value.int .i64 x].toArray = (intV (l ++ [x])).toArray := by simp [intV]
      rw [e1, List.getElem?_toArray]
      unfold intV
      rw [List.getElem?_map, List.getElem?_eq_getElem (by simpa using hk)]
      rfl
theorem list_append_qu {ops : Array Oper} {rest : List Oper} {o : Oper} {a : Act} {w : World} {Q : Exit → Act → World → Prop} (hgd : o.guard = none) (s x : Operand)
    (ho : o.op = .call { callee := .builtin .append, args := #[s, x], argTypes := #[30, 30] }) {g off cap : Nat} {l : List Int} (q : Qu w g off cap l) (hs : a.eval s = .slice (some ⟨g, off, none⟩) l.length cap)
    (ad : Addr) (c : Nat) (n : Int) (hx : a.eval x = .slice (some ad) 1 c) (hc : w.cell? ad = some (.int .i64 n)) (hl : l.length ≤ 1000000)
    (h : ∀ g' off' cap' w', Qu w' g' off' cap' (l ++ [n]) → Upd g w w' → (g' = g ∨ g' = w.heap.size) → wpList Tryd.prog ops Q rest (a.put o.dst (.slice (some ⟨g', off', none⟩) (l.length + 1) cap')) w') :
    wpList Tryd.prog ops Q (o :: rest) a w :=
  wpList_plain hgd fun _ hK => by
    obtain ⟨g', off', cap', w', hr, h2, h3, h4⟩ := run_append_qu w o.type q ad c n hc hl
    unfold Oper.wp execOp
    simp only [ho, resolve, invoke, builtin, Sem.run_bind, Sem.run_pure, Result.andThen_ok, List.map_toArray, List.map_cons, List.map_nil, hs, hx, hr]
    exact hK _ _ (h g' off' cap' w' h2 h3 h4)
end Go.Proofs.YtjbggogbnckllaaDoor
end

section
set_option maxRecDepth 100000
namespace Go.Proofs.YtjbggogbnckllaaDoor
open Go.RowKit
set_option linter.unusedVariables false
set_option linter.unusedSimpArgs false

/-- A row of numbers. -/
def Arr (w : World) (b n : Nat) (f : Nat → Int) : Prop := ∃ cs : Array Value, w.heap[b]? = some (.cells cs 3 (0, 0)) ∧ n ≤ cs.size ∧ ∀ i, i < n → cs[i]? = some (.int .i64 (f i))
section
variable {w w' : World} {b n : Nat} {f : Nat → Int}
theorem Arr.lt (h : Arr w b n f) : b < w.heap.size := by obtain ⟨cs, e, _⟩ := h; exact lt_of_block e
theorem Arr.kept (h : Arr w b n f) (k : w'.heap[b]? = w.heap[b]?) : Arr w' b n f := by obtain ⟨cs, e, h⟩ := h; exact ⟨cs, k.trans e, h⟩
theorem Arr.below (h : Arr w b n f) (k : Below w.heap.size w w') : Arr w' b n f := h.kept (k.block _ h.lt)
theorem Arr.upd {c : Nat} (h : Arr w b n f) (k : Upd c w w') (hb : b ≠ c) : Arr w' b n f := h.kept (k.block _ h.lt hb)
theorem Arr.cell (h : Arr w b n f) {i : Nat} (hi : i < n) : w.cell? ⟨b, i, none⟩ = some (.int .i64 (f i)) := by
  obtain ⟨cs, e, hn, h⟩ := h
  rw [cell_of_row _ _ _ _ _ _ e]; exact h i hi
theorem Arr.fz (h : Arr w b n f) (j : Nat) : w.frozen? ⟨b, j, none⟩ = false := by obtain ⟨cs, e, _⟩ := h; exact frozen_of_row _ _ _ _ _ e
theorem Arr.set (h : Arr w b n f) (i : Nat) (v : Int) : Arr (w.setCell ⟨b, i, none⟩ (.int .i64 v)) b n (Q.up f i v) := by
  obtain ⟨cs, e, hn, h⟩ := h
  refine ⟨_, heap_setCell_same _ _ _ _ _ _ e, by simpa using hn, fun j hj => ?_⟩
  by_cases hij : j = i
  · subst hij
    rw [Q.up_same, Array.getElem?_setIfInBounds_self_of_lt (by omega)]
  · rw [Q.up_ne _ _ hij, Array.getElem?_setIfInBounds_ne (fun e => hij e.symm)]; exact h j hj
theorem Arr.setO (h : Arr w b n f) {c : Nat} (hc : b ≠ c) (i : Nat) (v : Value) : Arr (w.setCell ⟨c, i, none⟩ v) b n f := h.upd ((Upd.refl c w).setCell ⟨c, i, none⟩ rfl v) hc
theorem Arr.ext {g : Nat → Int} (h : Arr w b n f) (e : ∀ i, i < n → f i = g i) : Arr w b n g := by
  obtain ⟨cs, e', hn, h⟩ := h
  exact ⟨cs, e', hn, fun i hi => by rw [← e i hi]; exact h i hi⟩
end
def pnC (p : Pl.Plan) (ta va ra la aa ca : Option Addr) (tc vc rc lc ac cc : Nat) : Array Value :=
  #[.slice ta p.terms.length tc, .slice va p.vars.length vc, .slice ra p.rules.length rc, .slice la p.levels.length lc, .slice aa p.assocs.length ac, .slice ca p.acts.length cc]
/-- A plan's variable. -/
structure PB (W : World) (b : Nat) (p : Pl.Plan) (ta va ra la aa ca : Option Addr) (tc vc rc lc ac cc : Nat) : Prop where
  lt : b < W.heap.size
  c0 : W.cell? ⟨b, 0, none⟩ = some (.slice ta p.terms.length tc)
  c1 : W.cell? ⟨b, 1, none⟩ = some (.slice va p.vars.length vc)
  c2 : W.cell? ⟨b, 2, none⟩ = some (.slice ra p.rules.length rc)
  c3 : W.cell? ⟨b, 3, none⟩ = some (.slice la p.levels.length lc)
  c4 : W.cell? ⟨b, 4, none⟩ = some (.slice aa p.assocs.length ac)
  c5 : W.cell? ⟨b, 5, none⟩ = some (.slice ca p.acts.length cc)
  a : PnA W p ta va ra la aa ca
theorem PB.below {W W' : World} {b : Nat} {p : Pl.Plan} {ta va ra la aa ca : Option Addr} {tc vc rc lc ac cc : Nat} (h : PB W b p ta va ra la aa ca tc vc rc lc ac cc) (k : Below W.heap.size W W') : PB W' b p ta va ra la aa ca tc vc rc lc ac cc :=
  ⟨Nat.lt_of_lt_of_le h.lt k.size, ((bcell k).1 _ _ h.lt).trans h.c0, ((bcell k).1 _ _ h.lt).trans h.c1, ((bcell k).1 _ _ h.lt).trans h.c2, ((bcell k).1 _ _ h.lt).trans h.c3, ((bcell k).1 _ _ h.lt).trans h.c4, ((bcell k).1 _ _ h.lt).trans h.c5, h.a.below k⟩
theorem PB.new {w : World} {p : Pl.Plan} {ta va ra la aa ca : Option Addr} {tc vc rc lc ac cc : Nat} (h : PnA w p ta va ra la aa ca) : PB (w.alloc (.cells (pnC p ta va ra la aa ca tc vc rc lc ac cc) 32)) w.heap.size p ta va ra la aa ca tc vc rc lc ac cc := by
  have hP := heap_alloc_new w (.cells (pnC p ta va ra la aa ca tc vc rc lc ac cc) 32)
  have k := (Below.refl w.heap.size w).alloc (Nat.le_refl _) (.cells (pnC p ta va ra la aa ca tc vc rc lc ac cc) 32)
  refine ⟨by simp, ?_, ?_, ?_, ?_, ?_, ?_, h.below k⟩
  all_goals (rw [cell_of_row _ _ _ _ _ _ hP]; rfl)

set_option maxHeartbeats 1000000 in
theorem held_any (x : Int) (w : World) : Calls Tryd.prog 108 #[.int .i64 x] w fun e w' => e = .returned (.int .i64 (Q.held x)) ∧ w = w' := by
  have hv : Hid (Q.held x = if x ≤ 1099511627776 then (if 0 ≤ x then x else 0) else 1099511627776) := Lib.hid (by unfold Q.held Q.M; split <;> (try split) <;> omega)
  by_cases h1 : x ≤ 1099511627776
  · by_cases h2 : 0 ≤ x
    · have hv2 : Hid (Q.held x = x) := Lib.hid (by rw [hv.out, if_pos h1, if_pos h2])
      go_enter Tryd.func108, Tryd.ntmps108
      go_wp2_with fail
      go_ret
      exact ⟨ret_int (by rw [hv2.out]; omega), rfl⟩
    · have hv2 : Hid (Q.held x = 0) := Lib.hid (by rw [hv.out, if_pos h1, if_neg h2])
      go_enter Tryd.func108, Tryd.ntmps108
      go_wp2_with fail
      go_ret
      exact ⟨ret_int (by rw [hv2.out]; omega), rfl⟩
  · have hv2 : Hid (Q.held x = 1099511627776) := Lib.hid (by rw [hv.out, if_neg h1])
    go_enter Tryd.func108, Tryd.ntmps108
    go_wp2_with fail
    go_ret
    exact ⟨ret_int (by rw [hv2.out]; omega), rfl⟩
set_option maxHeartbeats 1000000 in
theorem add9_any (a b : Int) (w : World) : Calls Tryd.prog 94 #[.int .i64 a, .int .i64 b] w fun e w' => e = .returned (.int .i64 (Q.add a b)) ∧ w = w' := by
  have ha := held_any a w
  have hb := held_any b w
  have hc := held_any (Q.held a + Q.held b) w
  have r1 := Q.held_range a
  have r2 := Q.held_range b
  unfold Q.M at r1 r2
  obtain ⟨x, hx⟩ : ∃ x, x = Q.held a := ⟨_, rfl⟩
  obtain ⟨y, hy⟩ : ∃ y, y = Q.held b := ⟨_, rfl⟩
  have hv : Hid (Q.add a b = Q.held (x + y)) := Lib.hid (by rw [hx, hy]; rfl)
  rw [← hx] at ha hc r1
  rw [← hy] at hb hc r2
  clear hx hy
  go_enter Tryd.func94, Tryd.ntmps94
  go_wp2_with fail
  refine ha.mono ?_
  rintro e w' ⟨rfl, rfl⟩
  clear ha
  go_wp2_with fail
  refine hb.mono ?_
  rintro e w' ⟨rfl, rfl⟩
  clear hb
  go_wp2_with fail
  refine hc.mono ?_
  rintro e w' ⟨rfl, rfl⟩
  clear hc
  go_wp2_with fail
  go_ret
  exact ⟨ret_int hv.out.symm, rfl⟩
end Go.Proofs.YtjbggogbnckllaaDoor
end

section
set_option maxRecDepth 100000
namespace Go.Proofs.YtjbggogbnckllaaDoor
open Go.RowKit
set_option linter.unusedVariables false
set_option linter.unusedSimpArgs false

set_option maxHeartbeats 1000000 in
theorem heldR_any (x : Int) (w : World) : Calls Tryd.prog 62 #[.int .i64 x] w fun e w' => e = .returned (.int .i64 (Q.held x)) ∧ w = w' := by
  have hv : Hid (Q.held x = if x ≤ 1099511627776 then (if 0 ≤ x then x else 0) else 1099511627776) := Lib.hid (by unfold Q.held Q.M; split <;> (try split) <;> omega)
  by_cases h2 : 0 ≤ x
  · by_cases h1 : x ≤ 1099511627776
    · have hv2 : Hid (Q.held x = x) := Lib.hid (by rw [hv.out, if_pos h1, if_pos h2])
      have d1 : decide (x < 0) = false := by simp; omega
      have d2 : decide (1099511627776 < x) = false := by simp; omega
      clear h1 h2
      go_enter Tryd.func62, Tryd.ntmps62
      go_wp2_with fail
      go_ret
      exact ⟨ret_int hv2.out.symm, rfl⟩
    · have hv2 : Hid (Q.held x = 1099511627776) := Lib.hid (by rw [hv.out, if_neg h1])
      have d1 : decide (x < 0) = false := by simp; omega
      have d2 : decide (1099511627776 < x) = true := by simp; omega
      clear h1 h2
      go_enter Tryd.func62, Tryd.ntmps62
      go_wp2_with fail
      go_ret
      exact ⟨ret_int hv2.out.symm, rfl⟩
  · have hv2 : Hid (Q.held x = 0) := Lib.hid (by rw [hv.out, if_pos (by omega), if_neg h2])
    have d1 : decide (x < 0) = true := by simp; omega
    clear h2
    go_enter Tryd.func62, Tryd.ntmps62
    go_wp2_with fail
    go_ret
    exact ⟨ret_int hv2.out.symm, rfl⟩
set_option maxHeartbeats 1000000 in
theorem addR_any (a b : Int) (w : World) : Calls Tryd.prog 40 #[.int .i64 a, .int .i64 b] w fun e w' => e = .returned (.int .i64 (Q.add a b)) ∧ w = w' := by
  have ha := heldR_any a w
  have hb := heldR_any b w
  have hc := heldR_any (Q.held a + Q.held b) w
  have r1 := Q.held_range a
  have r2 := Q.held_range b
  unfold Q.M at r1 r2
  obtain ⟨x, hx⟩ : ∃ x, x = Q.held a := ⟨_, rfl⟩
  obtain ⟨y, hy⟩ : ∃ y, y = Q.held b := ⟨_, rfl⟩
  have hv : Hid (Q.add a b = Q.held (x + y)) := Lib.hid (by rw [hx, hy]; rfl)
  rw [← hx] at ha hc r1
  rw [← hy] at hb hc r2
  clear hx hy
  go_enter Tryd.func40, Tryd.ntmps40
  go_wp2_with fail
  refine ha.mono ?_
  rintro e w' ⟨rfl, rfl⟩
  clear ha
  go_wp2_with fail
  refine hb.mono ?_
  rintro e w' ⟨rfl, rfl⟩
  clear hb
  go_wp2_with fail
  refine hc.mono ?_
  rintro e w' ⟨rfl, rfl⟩
  clear hc
  go_wp2_with fail
  go_ret
  exact ⟨ret_int hv.out.symm, rfl⟩
section
variable {w : World} {v : Value} {p : Pl.Plan}
set_option maxRecDepth 100000 in
set_option maxHeartbeats 2000000 in
theorem accept_any (h : PnV w v p) (h1 : p.terms.length ≤ 1000) (h2 : p.vars.length ≤ 1000) :
    Calls Tryd.prog 56 #[v] w fun e w' => e = .returned (.int .i64 ((p.terms.length + p.vars.length : Nat) : Int)) ∧ Below w.heap.size w w' := by
  obtain ⟨ta, tc, va, vc, ra, rc, la, lc, aa, ac, ca, cc, rfl, h⟩ := h
  have HP := PB.new (tc := tc) (vc := vc) (rc := rc) (lc := lc) (ac := ac) (cc := cc) h
  have HB := Lib.hid ((Below.refl w.heap.size w).alloc (Nat.le_refl _) (.cells (pnC p ta va ra la aa ca tc vc rc lc ac cc) 32))
  unfold pnC at HP HB
  have c0 := HP.c0
  have c1 := HP.c1
  clear HP h
  go_enter Tryd.func56, Tryd.ntmps56
  go_wp2_with fail
  go_ret
  exact ⟨ret_int (by push_cast; rfl), HB.out⟩
set_option maxRecDepth 100000 in
set_option maxHeartbeats 2000000 in
theorem count_any (h : PnV w v p) (h1 : p.terms.length ≤ 1000) (h2 : p.vars.length ≤ 1000) :
    Calls Tryd.prog 36 #[v] w fun e w' => e = .returned (.int .i64 ((Q.cnt p : Nat) : Int)) ∧ Below w.heap.size w w' := by
  obtain ⟨ta, tc, va, vc, ra, rc, la, lc, aa, ac, ca, cc, rfl, h⟩ := h
  have HP := PB.new (tc := tc) (vc := vc) (rc := rc) (lc := lc) (ac := ac) (cc := cc) h
  have HB := Lib.hid ((Below.refl w.heap.size w).alloc (Nat.le_refl _) (.cells (pnC p ta va ra la aa ca tc vc rc lc ac cc) 32))
  unfold pnC at HP HB
  have c0 := HP.c0
  have c1 := HP.c1
  clear HP h
  go_enter Tryd.func36, Tryd.ntmps36
  go_wp2_with fail
  go_ret
  exact ⟨ret_int (by unfold Q.cnt; push_cast; rfl), HB.out⟩
set_option maxRecDepth 100000 in
set_option maxHeartbeats 2000000 in
theorem term_any (x : Int) (h : PnV w v p) (h1 : p.terms.length ≤ 1000) :
    Calls Tryd.prog 52 #[v, .int .i64 x] w fun e w' => e = .returned (.bool (decide (0 ≤ x ∧ x < (p.terms.length : Int)))) ∧ Below w.heap.size w w' := by
  obtain ⟨ta, tc, va, vc, ra, rc, la, lc, aa, ac, ca, cc, rfl, h⟩ := h
  have HP := PB.new (tc := tc) (vc := vc) (rc := rc) (lc := lc) (ac := ac) (cc := cc) h
  have HB := Lib.hid ((Below.refl w.heap.size w).alloc (Nat.le_refl _) (.cells (pnC p ta va ra la aa ca tc vc rc lc ac cc) 32))
  unfold pnC at HP HB
  have c0 := HP.c0
  clear HP h
  by_cases h0 : 0 ≤ x
  · have d0 : decide (0 ≤ x) = true := by simpa using h0
    by_cases h2 : x < (p.terms.length : Int)
    · have d2 : decide (x < (p.terms.length : Int)) = true := by simpa using h2
      have hv : Hid (decide (0 ≤ x ∧ x < (p.terms.length : Int)) = true) := Lib.hid (by simp; omega)
      rw [hv.out]
      clear h0 h2
      go_enter Tryd.func52, Tryd.ntmps52
      go_wp2_with fail
      go_ret
      exact ⟨rfl, HB.out⟩
    · have d2 : decide (x < (p.terms.length : Int)) = false := by simpa using h2
      have hv : Hid (decide (0 ≤ x ∧ x < (p.terms.length : Int)) = false) := Lib.hid (by simp; omega)
      rw [hv.out]
      clear h0 h2
      go_enter Tryd.func52, Tryd.ntmps52
      go_wp2_with fail
      go_ret
      exact ⟨rfl, HB.out⟩
  · have d0 : decide (0 ≤ x) = false := by simpa using h0
    have hv : Hid (decide (0 ≤ x ∧ x < (p.terms.length : Int)) = false) := Lib.hid (by simp; omega)
    rw [hv.out]
    clear h0
    go_enter Tryd.func52, Tryd.ntmps52
    go_wp2_with fail
    go_ret
    exact ⟨rfl, HB.out⟩
end
set_option maxRecDepth 100000 in
set_option maxHeartbeats 8000000 in
theorem sum_any {w : World} {lb bb n lc bc m rc : Nat} {long : Nat → Int} {ra : Option Addr} {r : List Int} {nv : Value} (h : Arr w lb n long) (hr : Ints w ra r) (hm : r.length ≤ 1000000) (hn : n ≤ 1000000) (hx : ∀ x ∈ r, 0 ≤ x ∧ x < (n : Int)) (hnv : nv.oneCell' = true) :
    Calls Tryd.prog 77 #[.agg #[.slice (some ⟨lb, 0, none⟩) n lc, nv], .slice ra r.length rc] w fun e w' => e = .returned (.int .i64 (Q.sumF long r 0)) ∧ Below w.heap.size w w' := by
  have k := (Below.refl w.heap.size w).alloc (Nat.le_refl _) (.cells #[.slice (some ⟨lb, 0, none⟩) n lc, nv] 103)
  have hP := heap_alloc_new w (.cells #[.slice (some ⟨lb, 0, none⟩) n lc, nv] 103)
  have c0 : (w.alloc (.cells #[.slice (some ⟨lb, 0, none⟩) n lc, nv] 103)).cell? ⟨w.heap.size, 0, none⟩ = some (.slice (some ⟨lb, 0, none⟩) n lc) := by rw [cell_of_row _ _ _ _ _ _ hP]; rfl
  have HA := Lib.hid (h.below k)
  have HR := Lib.hid (hr.below k)
  have HK := Lib.hid k
  have HX := Lib.hid hx
  obtain ⟨R, hR⟩ : ∃ R, R = Q.sumF long r 0 := ⟨_, rfl⟩
  have HV := Lib.hid hR.symm
  rw [← hR]
  clear h hr k hP hx hR
  go_enter Tryd.func77, Tryd.ntmps77
  go_wp2_with fail
  generalize w.alloc (.cells #[.slice (some ⟨lb, 0, none⟩) n lc, nv] 103) = W at HA HR HK c0 ⊢
  go_loop [5, 7, 10] (fun t x i => ∃ (k : Nat) (q : Int), i = .int .i64 k ∧ t = .int .i64 q ∧ k ≤ r.length ∧ 0 ≤ q ∧ q ≤ 1099511627776 ∧ Hid (Q.sumF long (r.drop k) q = R)) (fun _ _ i => r.length - (intOf i).toNat)
  case atStart => exact ⟨0, 0, rfl, rfl, by omega, by omega, by omega, HV⟩
  case round =>
    clear HV
    obtain ⟨k, q, rfl, rfl, hk, hq0, hq1, HS⟩ := hrel
    by_cases hlt : k < r.length
    · obtain ⟨b, off, rfl, t0⟩ := HR.out k hlt
      obtain ⟨hx0, hx1⟩ := HX.out r[k] (List.getElem_mem hlt)
      have hs := HS.out
      rw [List.drop_eq_getElem_cons hlt, Q.sumF] at hs
      generalize r[k] = x at t0 hx0 hx1 hs
      obtain ⟨y, rfl⟩ : ∃ y : Nat, x = y := ⟨x.toNat, by omega⟩
      rw [Int.toNat_natCast] at hs
      have hyn : y < n := by omega
      have c1 := HA.out.cell hyn
      clear HS
      by_cases hneg : long y < 0
      · have d : decide (long y < 0) = true := by simpa using hneg
        rw [if_pos hneg] at hs
        have HS := Lib.hid hs
        clear hs hneg
        go_wp2_with fail
        go_ret
        exact ⟨ret_int HS.out, HK.out⟩
      · have d : decide (long y < 0) = false := by simpa using hneg
        rw [if_neg hneg] at hs
        have HS := Lib.hid hs
        have hadd := add9_any q (long y) W
        have hr' := Q.add_range q (long y)
        unfold Q.M at hr'
        generalize Q.add q (long y) = z at HS hadd hr'
        clear hs hneg
        go_wp2_with fail
        refine hadd.mono ?_
        rintro e w' ⟨rfl, rfl⟩
        clear hadd
        go_wp2_with fail
        go_round
        case rel => exact ⟨k + 1, z, by go_num, rfl, by omega, hr'.1, hr'.2, HS⟩
        case measure => simp [intOf]; omega
    · have hs := HS.out
      rw [List.drop_eq_nil_of_le (by omega), Q.sumF] at hs
      have HE := Lib.hid hs
      clear HS hs
      go_wp2_with fail
      go_ret
      exact ⟨ret_int HE.out, HK.out⟩
end Go.Proofs.YtjbggogbnckllaaDoor
end

section
set_option maxRecDepth 100000
namespace Go.Proofs.YtjbggogbnckllaaDoor
open Go.RowKit
set_option linter.unusedVariables false
set_option linter.unusedSimpArgs false

theorem mask_small (n : Nat) (h : n < 4294967296) : bits .and .u64 (n : Int) 4294967295 = (n : Int) := by
  have h1 := bits_and_u64_nat n 4294967295 (by omega) (by omega)
  have e : n &&& 4294967295 = n % 4294967296 := Nat.and_two_pow_sub_one_eq_mod n 32
  rw [e, Nat.mod_eq_of_lt h] at h1
  exact h1
set_option maxHeartbeats 1000000 in
theorem mul64_one (n : Nat) (h : n < 1000000) (w : World) : Calls Tryd.prog 107 #[.int .u64 1, .int .u64 (n : Nat)] w fun e w' => e = .returned (.tuple #[.int .u64 0, .int .u64 (n : Nat)]) ∧ w = w' := by
  have h1 : bits .and .u64 1 4294967295 = 1 := mask_small 1 (by omega)
  have h2 := mask_small n (by omega)
  have h3 : (n : Int) / 4294967296 = 0 := by omega
  have h4 : bits .and .u64 0 4294967295 = 0 := mask_small 0 (by omega)
  go_enter Tryd.func107, Tryd.ntmps107
  go_wp2_with fail
  exact bodyPost_ret (v := .tuple #[.int .u64 0, .int .u64 (n : Nat)]) (by simp [results, Tryd.results107, go_sem]) rfl ⟨rfl, rfl⟩
set_option maxHeartbeats 1000000 in
theorem mul_one_any (n : Nat) (h : n < 1000000) (w : World) : Calls Tryd.prog 93 #[.int .u64 1, .int .u64 (n : Nat)] w fun e w' => e = .returned (.tuple #[.int .u64 0, .int .u64 (n : Nat)]) ∧ w = w' := by
  have hm := mul64_one n h w
  go_enter Tryd.func93, Tryd.ntmps93
  go_wp2_with fail
  refine hm.mono ?_
  rintro e w' ⟨rfl, rfl⟩
  clear hm
  go_wp2_with fail
  exact bodyPost_ret (v := .tuple #[.int .u64 0, .int .u64 (n : Nat)]) (by simp [results, Tryd.results93, go_sem]) rfl ⟨rfl, rfl⟩
theorem int_size : (Tryd.prog.info? 3).map (·.size) = some 1 := by kernel_rfl
/-- The row of a made slice of numbers. -/
theorem make_ints (n : Nat) (hn : n ≤ 100000) (w : World) :
    (Instr.makeSlice 30 (.int .i64 (n : Nat)) (.int .i64 (n : Nat))).run Tryd.prog w = .ok (.slice (some ⟨w.heap.size, 0, none⟩) n n) (w.alloc (.cells (madeCells #[.int .i64 0] n) 3)) := by
  obtain ⟨i0, hi, hz0, hz1, hz2⟩ := info_parts info3
  have hr := run_make (P := Tryd.prog) w 30 3 i0 (.int .i64 0) Tryd.underlying30 hi hz0 .i64 .i64 n n (by omega) (Int.le_refl _) (by rw [hz2]; omega) (by omega)
  rw [hr, hz1]
  simp [Value.cells]
theorem splice_get {α : Type} (L : List α) (off : Nat) (cs : List α) {i : Nat} (h : off ≤ L.length) : (splice L off cs)[i]? = if i < off then L[i]? else if i < off + cs.length then cs[i - off]? else L[i]? := by
  unfold splice
  by_cases h1 : i < off
  · rw [if_pos h1, List.getElem?_append_left (by simp; omega), List.getElem?_take_of_lt h1]
  · rw [if_neg h1, List.getElem?_append_right (by simp; omega), List.length_take, Nat.min_eq_left h]
    by_cases h2 : i < off + cs.length
    · rw [if_pos h2, List.getElem?_append_left (by omega)]
    · rw [if_neg h2, List.getElem?_append_right (by omega), List.getElem?_drop]
      congr 1
      omega
/-- The first m of n cells are v. -/
def Fill (w : World) (b n m : Nat) (v : Value) : Prop := ∃ cur : List Value, w.heap[b]? = some (.cells cur.toArray 3 (0, 0)) ∧ cur.length = n ∧ ∀ i, i < m → cur[i]? = some v
set_option maxRecDepth 100000 in
set_option maxHeartbeats 4000000 in
theorem repeat_any {w : World} {b c n : Nat} {x : Int} (hx : w.cell? ⟨b, 0, none⟩ = some (.int .i64 x)) (h1 : 1 ≤ n) (hn : n ≤ 100000) :
    Calls Tryd.prog 76 #[.slice (some ⟨b, 0, none⟩) 1 c, .int .i64 (n : Nat)] w fun e w' => ∃ g, e = .returned (.slice (some ⟨g, 0, none⟩) n n) ∧ w.heap.size ≤ g ∧ Arr w' g n (fun _ => x) ∧ Below w.heap.size w w' := by
  have hm := mul_one_any n (by omega) w
  have hmk := make_ints n hn w
  go_enter Tryd.func76, Tryd.ntmps76
  go_wp2_with fail
  refine hm.mono ?_
  rintro e w' ⟨rfl, rfl⟩
  clear hm
  have hk := (Below.refl w.heap.size w).alloc (Nat.le_refl _) (.cells (madeCells #[.int .i64 0] n) 3)
  have hg0 : (w.alloc (.cells (madeCells #[.int .i64 0] n) 3)).heap[w.heap.size]? = some (.cells (madeCells #[.int .i64 0] n).toList.toArray 3 (0, 0)) := by simpa using heap_alloc_new w (.cells (madeCells #[.int .i64 0] n) 3)
  have hsz : ((madeCells #[.int .i64 0] n).toList).length = n := by simp [madeCells]
  have hcx : (w.alloc (.cells (madeCells #[.int .i64 0] n) 3)).cell? ⟨b, 0, none⟩ = some (.int .i64 x) := ((bcell hk).1 _ _ (World.block_lt_of_cell? w _ hx)).trans hx
  have HK := Lib.hid hk
  have HG := Lib.hid hg0
  have HS := Lib.hid hsz
  have HC := Lib.hid hcx
  clear hk hg0 hsz hcx
  have hmin : ([Value.int .i64 x] : List Value).length = Nat.min 1 n := by show 1 = min 1 n; omega
  have hpos : ∀ j v, ([Value.int .i64 x] : List Value)[j]? = some v → (w.alloc (.cells (madeCells #[.int .i64 0] n) 3)).cell? ((⟨b, 0, none⟩ : Addr).add j) = some v := by
    intro j v hv
    have hj : j = 0 := by have := (List.getElem?_eq_some_iff.1 hv).1; simpa using this
    subst hj
    simp at hv
    subst hv
    exact HC.out
  have hfit : 0 + ([Value.int .i64 x] : List Value).length ≤ (madeCells #[.int .i64 0] n).toList.length := by rw [HS.out]; simp; omega
  have HP := Lib.hid (And.intro hmin (And.intro hpos hfit))
  clear hmin hpos hfit
  go_wp2_with (refine wpList_copy_splice rfl _ _ _ _ rfl 3 Tryd.underlying30 int_size (some ⟨w.heap.size, 0, none⟩) (some ⟨b, 0, none⟩) n n 1 c rfl rfl w.heap.size 0 (madeCells #[.int .i64 0] n).toList 3 HG.out [.int .i64 x] HP.out.1 (fun _ => ⟨rfl, _, rfl, HP.out.2.1⟩) HP.out.2.2 (by simp [Value.oneCell']) w.heap.size w HK.out (Nat.le_refl _) ?_; intro w1 hf1 hb1)
  have HPF := HP.out.2.2
  have HF : Hid (Fill w1 w.heap.size n 1 (.int .i64 x)) := Lib.hid ⟨_, hf1.out, by rw [length_splice _ _ _ HPF]; exact HS.out, fun i hi => by
    obtain rfl : i = 0 := by omega
    rfl⟩
  have HB := Lib.hid hb1
  clear HPF hf1 hb1 HP HC HG HK HS hmk
  generalize hgw : w.heap.size = g at HF HB ⊢
  have HGW := Lib.hid hgw
  clear hgw
  go_loopg [8] n (fun gk i wr => ∃ m : Nat, i = .int .i64 m ∧ 1 ≤ m ∧ m ≤ n ∧ Hid (n ≤ gk + m) ∧ Hid (Fill wr g n m (.int .i64 x)) ∧ Hid (Below g w wr))
  case atStart => exact ⟨1, rfl, by omega, by omega, Lib.hid (by omega), HF, HB⟩
  case round =>
    clear HF HB
    obtain ⟨m, rfl, hm1, hmn, HGK, HF, HB⟩ := hrel
    by_cases hlt : m < n
    · go_wp2_with fail
      refine region_gb [0, 1, 2, 3, 4, 5, 6] [7, 8, 9] 48 wr.heap.size ?_ (fun c a d v w h => by cases d <;> exact h) (Nat.le_refl _) (by kernel_rfl) (by kernel_rfl) (by rfl) ?_ ?_
      rotate_left
      · intro z
        simp only [pickL, List.getElem?_cons_zero, List.getElem?_cons_succ]
        repeat (go_big_quiet_step (fail))
        refine wpQuiet_nil ?_
        exact rfl
      simp only [pickL, List.getElem?_cons_zero, List.getElem?_cons_succ]
      obtain ⟨cur, hcur, hlen, hfill⟩ := HF.out
      have hk1 : min m (n - m) ≤ m := Nat.min_le_left _ _
      have hk2 : min m (n - m) ≤ n - m := Nat.min_le_right _ _
      have hk3 : 1 ≤ min m (n - m) := by omega
      obtain ⟨k, hk⟩ : ∃ k, k = min m (n - m) := ⟨_, rfl⟩
      rw [← hk] at hk1 hk2 hk3
      have hsrc : ∀ j v, (List.replicate k (Value.int .i64 x))[j]? = some v → wr.drew.cell? ((⟨g, 0, none⟩ : Addr).add j) = some v := by
        intro j v hv
        have hj : j < k := by have := (List.getElem?_eq_some_iff.1 hv).1; simpa using this
        rw [List.getElem?_replicate, if_pos hj] at hv
        rw [addr_add, cell_of_row wr.drew g j cur.toArray _ (0, 0) hcur, ← hv]
        simpa using hfill j (by omega)
      refine wpList_copy_splice (by rfl) _ _ _ _ (by rfl) 3 Tryd.underlying30 int_size (some ⟨g, m, none⟩) (some ⟨g, 0, none⟩) (n - m) (n - m) m n (by rfl) (by rfl) g m cur 3 hcur (List.replicate k (Value.int .i64 x)) (by rw [List.length_replicate]; exact hk) (fun _ => ⟨rfl, _, rfl, hsrc⟩) (by rw [List.length_replicate]; omega) (fun v hv => by rw [List.eq_of_mem_replicate hv]; rfl) g w HB.out.drew (Nat.le_refl _) ?_
      intro w2 hf2 hb2
      have HF2 : Hid (Fill w2 g n (m + k) (.int .i64 x)) := Lib.hid ⟨_, hf2.out, by rw [length_splice _ _ _ (by rw [List.length_replicate]; omega)]; exact hlen, fun i hi => by
        rw [splice_get _ _ _ (by omega), List.length_replicate]
        by_cases him : i < m
        · rw [if_pos him]; exact hfill i him
        · rw [if_neg him, if_pos (by omega), List.getElem?_replicate, if_pos (by omega)]⟩
      have HB2 := Lib.hid hb2
      rw [List.length_replicate]
      clear hf2 hb2 hsrc hfill hcur hlen HF HB hk
      go_wp2_with fail
      go_roundg (n - (m + k))
      case measure => have := HGK.out; omega
      case rel => exact ⟨m + k, by first | go_num | rfl, by omega, by omega, Lib.hid (by omega), HF2, HB2⟩
    · obtain rfl : m = n := by omega
      clear HGK hlt
      go_wp2_with fail
      go_ret
      refine ⟨g, rfl, by rw [HGW.out]; exact Nat.le_refl _, ?_, by rw [HGW.out]; exact HB.out⟩
      obtain ⟨cur, hcur, hlen, hfill⟩ := HF.out
      exact ⟨_, hcur, by simp [hlen], fun i hi => by simpa using hfill i hi⟩
end Go.Proofs.YtjbggogbnckllaaDoor
end
