/-
  append of one element onto a slice that is nil or the call's own, over any program: where the new slice lies, and what it owns; the room that is asked is what Go's own growth asks.
-/
import Derived.Test.YtccmmilbnfiacaaDoorKit
namespace Go.Proofs.YtccmmilbnfiacaaDoor
open Go.RowKit
set_option linter.unusedVariables false

/-- A slice type's element: its cells, its bytes. -/
structure Elt (P : Program) (t e : TypeId) (size bytes : Nat) : Prop where
  ht : P.underlying t = some (.slice e)
  hi : ∃ i z, P.info? e = some i ∧ i.zero = some z ∧ i.size = size ∧ i.bytes = bytes ∧ z.cells.size = size
  hsz : 0 < size

theorem nextcap_one {n : Nat} : Builtin.nextslicecap (n + 1) n ≤ n + n / 4 + 512 := by
  unfold Builtin.nextslicecap
  split
  · omega
  · split
    · omega
    · rw [growBy_four]
      rw [if_neg (by omega), if_pos (by omega)]
      omega

theorem row_grown {w : World} {base : Nat} {e : TypeId} {size : Nat} (old : Nat) (n : Nat) (xs news : List Value) (z : Value) (hl : xs.length = n * size) (hn : news.length = size) (hz : z.cells.size = size) (h63 : n + 1 ≤ maxLen) (hbase : base ≤ w.heap.size) :
    (w.drew.alloc (.cells (xs.toArray ++ news.toArray ++ Builtin.zeroCells z.cells (grownCap w (n + 1) old e - (n + 1))) e)).ownsRow base e size
      (.slice (some ⟨w.heap.size, 0, none⟩) (n + 1) (grownCap w (n + 1) old e)) (n + 1) (xs ++ news) := by
  have hge := grownCap_ge w (n + 1) old e
  have hcm : grownCap w (n + 1) old e ≤ maxLen := grownCap_le_maxLen w (n + 1) old e h63
  have hlen : (xs ++ news).length = (n + 1) * size := by rw [List.length_append, hl, hn, Nat.add_mul, Nat.one_mul]
  refine ⟨hlen, .inr ⟨w.heap.size, _, _, rfl, hbase, heap_alloc_new w.drew _, hge, hcm, ?_, ?_⟩⟩
  · simp only [Array.size_append, List.size_toArray, size_zeroCells, hz, hl, hn]
    rw [show n * size + size = (n + 1) * size from by rw [Nat.add_mul, Nat.one_mul], ← Nat.add_mul]
    congr 1
    omega
  · simp only [Array.toList_append, List.append_assoc]
    rw [← List.append_assoc, ← hlen]
    exact List.take_left

theorem run_append_one {P : Program} (w : World) (ty t e : TypeId) (base size bytes : Nat) (E : Elt P t e size bytes) (v : Value) (n : Nat) (xs : List Value) (hown : w.ownsRow base e size v n xs)
    (a : Addr) (c : Nat) (news : List Value) (hl : news.length = size) (hnews : ∀ j u, news[j]? = some u → w.cell? (a.add j) = some u) (h1 : ∀ u ∈ news, u.oneCell' = true)
    (h63 : n + 1 ≤ maxLen) (hroom : (n + n / 4 + 512) * bytes ≤ 281474976710656) (hbase : base ≤ w.heap.size) :
    ∃ g cap w', (Builtin.append_ #[t, t] ty #[v, .slice (some a) 1 c]).run P w = .ok (.slice (some ⟨g, 0, none⟩) (n + 1) cap) w' ∧
      w'.ownsRow base e size (.slice (some ⟨g, 0, none⟩) (n + 1) cap) (n + 1) (xs ++ news) ∧ w.grownBy w' v.ownBlock ∧ base ≤ g ∧ g < w'.heap.size ∧ (v.ownBlock = some g ∨ g = w.heap.size) := by
  obtain ⟨i, z, hi, hz, rfl, rfl, hzs⟩ := E.hi
  have h9 : n + 1 ≤ 9223372036854775807 := by unfold maxLen at h63; omega
  have hl' : news.length = 1 * i.size := by omega
  have hgrow : ∀ (old : Nat) (row : Option Nat), w.grownBy (w.drew.alloc (.cells (xs.toArray ++ news.toArray ++ Builtin.zeroCells z.cells (grownCap w (n + 1) old e - (n + 1))) e)) row := fun old row =>
    ⟨rfl, rfl, rfl, by simp, fun k hk _ => Below.heap_alloc w.drew _ k hk⟩
  rcases hown.2 with ⟨rfl, rfl⟩ | ⟨g, cap, cur, rfl, hbg, hg, hnc, hcm, hcs, htake⟩
  · have hx : xs = [] := List.eq_nil_of_length_eq_zero (by simpa using hown.1)
    subst hx
    have hr := run_append_nil (P := P) w t ty e i z E.ht hi hz a 1 c news hl' hnews (by omega) (by omega) (by omega)
    have hrow := row_grown (w := w) (base := base) (e := e) 0 0 [] news z (by simp) hl hzs (by omega) hbase
    simp only [Nat.zero_add, List.nil_append, Array.empty_append] at hrow hgrow ⊢
    exact ⟨_, _, _, hr, hrow, hgrow 0 _, hbase, by simp, .inr rfl⟩
  · by_cases hroomc : n + 1 ≤ cap
    · have hfit : n * i.size + news.length ≤ cur.size := by
        rw [hl, hcs, show n * i.size + i.size = (n + 1) * i.size from by rw [Nat.add_mul, Nat.one_mul]]
        exact Nat.mul_le_mul_right _ hroomc
      have hr := run_append_room (P := P) w t ty e i E.ht hi g n cap cur hg a 1 c news hl' hnews h1 hroomc hfit
      have hlen : (xs ++ news).length = (n + 1) * i.size := by rw [List.length_append, hown.1, hl, Nat.add_mul, Nat.one_mul]
      refine ⟨_, _, _, hr, ⟨hlen, .inr ⟨g, cap, _, rfl, hbg, setRow_heap w g cur _ e _ hg, hroomc, hcm, ?_, ?_⟩⟩, ⟨rfl, rfl, rfl, by simp, fun k _ hk => setRow_other w g k _ (fun e => hk (by simp [Value.ownBlock, e]))⟩, hbg, ?_, .inl rfl⟩
      · simp only [List.size_toArray, List.length_append, List.length_take, List.length_drop, Array.length_toList]
        omega
      · rw [htake, ← hlen]
        exact List.take_left
      · simp; exact (Array.getElem?_eq_some_iff.1 hg).1
    · obtain rfl : cap = n := by omega
      have holds : ∀ j u, xs[j]? = some u → w.cell? ((⟨g, 0, none⟩ : Addr).add j) = some u := hown.cells (g := g) rfl
      have hr := run_append_grow (P := P) w t ty e i z E.ht hi hz ⟨g, 0, none⟩ cap cap xs hown.1 holds a 1 c news hl' hnews (by omega) (by omega) (Nat.le_trans (Nat.mul_le_mul_right _ nextcap_one) hroom)
      exact ⟨_, _, _, hr, row_grown (w := w) (base := base) (e := e) cap cap xs news z hown.1 hl hzs h63 hbase, hgrow cap _, hbase, by simp, .inr rfl⟩

theorem wp_append_one {P : Program} {w : World} {o : Oper} {a : Act} {K : Act → World → Prop} {Q : Exit → Act → World → Prop} (s x : Operand) (t : TypeId)
    (ho : o.op = .call { callee := .builtin .append, args := #[s, x], argTypes := #[t, t] }) (e : TypeId) (base size bytes : Nat) (E : Elt P t e size bytes) (v : Value) (n : Nat) (xs : List Value) (hs : a.eval s = v) (hown : w.ownsRow base e size v n xs)
    (ad : Addr) (c : Nat) (news : List Value) (hx : a.eval x = .slice (some ad) 1 c) (hl : news.length = size) (hnews : ∀ j u, news[j]? = some u → w.cell? (ad.add j) = some u) (h1 : ∀ u ∈ news, u.oneCell' = true)
    (h63 : n + 1 ≤ maxLen) (hroom : (n + n / 4 + 512) * bytes ≤ 281474976710656) (hbase : base ≤ w.heap.size)
    (h : ∀ g cap w', w'.ownsRow base e size (.slice (some ⟨g, 0, none⟩) (n + 1) cap) (n + 1) (xs ++ news) → w.grownBy w' v.ownBlock → base ≤ g → g < w'.heap.size → (v.ownBlock = some g ∨ g = w.heap.size) → K (a.put o.dst (.slice (some ⟨g, 0, none⟩) (n + 1) cap)) w') : o.wp P a w K Q := by
  obtain ⟨g, cap, w', hr, h2, h3, h4, h5, h6⟩ := run_append_one (P := P) w o.type t e base size bytes E v n xs hown ad c news hl hnews h1 h63 hroom hbase
  unfold Oper.wp execOp
  simp only [ho, resolve, invoke, builtin, Sem.run_bind, Sem.run_pure, Result.andThen_ok, List.map_toArray, List.map_cons, List.map_nil, hs, hx, hr]
  exact h g cap w' h2 h3 h4 h5 h6

/-- At the list of a plain region's operations. -/
theorem list_append_one {P : Program} {w : World} {ops : Array Oper} {rest : List Oper} {o : Oper} {a : Act} {Q : Exit → Act → World → Prop} (hgd : o.guard = none) (s x : Operand) (t : TypeId)
    (ho : o.op = .call { callee := .builtin .append, args := #[s, x], argTypes := #[t, t] }) (e : TypeId) (base size bytes : Nat) (E : Elt P t e size bytes) (v : Value) (n : Nat) (xs : List Value) (hs : a.eval s = v) (hown : w.ownsRow base e size v n xs)
    (ad : Addr) (c : Nat) (news : List Value) (hx : a.eval x = .slice (some ad) 1 c) (hl : news.length = size) (hnews : ∀ j u, news[j]? = some u → w.cell? (ad.add j) = some u) (h1 : ∀ u ∈ news, u.oneCell' = true)
    (h63 : n + 1 ≤ maxLen) (hroom : (n + n / 4 + 512) * bytes ≤ 281474976710656) (hbase : base ≤ w.heap.size)
    (h : ∀ g cap w', w'.ownsRow base e size (.slice (some ⟨g, 0, none⟩) (n + 1) cap) (n + 1) (xs ++ news) → w.grownBy w' v.ownBlock → base ≤ g → g < w'.heap.size → (v.ownBlock = some g ∨ g = w.heap.size) → wpList P ops Q rest (a.put o.dst (.slice (some ⟨g, 0, none⟩) (n + 1) cap)) w') :
    wpList P ops Q (o :: rest) a w :=
  wpList_plain hgd fun _ hK => wp_append_one s x t ho e base size bytes E v n xs hs hown ad c news hx hl hnews h1 h63 hroom hbase fun g cap w' h2 h3 h4 h5 h6 => hK _ _ (h g cap w' h2 h3 h4 h5 h6)

/-- At a step of a region that draws its order. -/
theorem step_append_one {P : Program} {w : World} {ops : Array Oper} {o : Oper} {a : Act} {K : Act → World → Prop} {Q : Exit → Act → World → Prop} {F : Prop} (hgd : o.guard = none) (s x : Operand) (t : TypeId)
    (ho : o.op = .call { callee := .builtin .append, args := #[s, x], argTypes := #[t, t] }) (e : TypeId) (base size bytes : Nat) (E : Elt P t e size bytes) (v : Value) (n : Nat) (xs : List Value) (hs : a.eval s = v) (hown : w.ownsRow base e size v n xs)
    (ad : Addr) (c : Nat) (news : List Value) (hx : a.eval x = .slice (some ad) 1 c) (hl : news.length = size) (hnews : ∀ j u, news[j]? = some u → w.cell? (ad.add j) = some u) (h1 : ∀ u ∈ news, u.oneCell' = true)
    (h63 : n + 1 ≤ maxLen) (hroom : (n + n / 4 + 512) * bytes ≤ 281474976710656) (hbase : base ≤ w.heap.size)
    (h : ∀ g cap w', w'.ownsRow base e size (.slice (some ⟨g, 0, none⟩) (n + 1) cap) (n + 1) (xs ++ news) → w.grownBy w' v.ownBlock → base ≤ g → g < w'.heap.size → (v.ownBlock = some g ∨ g = w.heap.size) → K (a.put o.dst (.slice (some ⟨g, 0, none⟩) (n + 1) cap)) w') :
    if Region.wanted o (yielded ops a.tmps) = true then Oper.wp P o a w K Q else F := by
  rw [if_pos (by simp [Region.wanted, hgd])]
  exact wp_append_one s x t ho e base size bytes E v n xs hs hown ad c news hx hl hnews h1 h63 hroom hbase h
end Go.Proofs.YtccmmilbnfiacaaDoor
