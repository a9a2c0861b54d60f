/-
  Walks of the comparisons of lists: Ints, slices.Equal; and of In.
-/
import Derived.Test.YtccmmilbnfiacaaDoorBsC
namespace Go.Proofs.YtccmmilbnfiacaaDoor
open Go.RowKit
set_option linter.unusedVariables false

def eqI (x y : List Int) : Bool := decide (x = y)
theorem eqI_len {x y : List Int} (h : x.length ≠ y.length) : eqI x y = false := by
  unfold eqI; rw [decide_eq_false]; intro e; exact h (by rw [e])
theorem eqI_at {x y : List Int} {k : Nat} (h1 : k < x.length) (h2 : k < y.length) (h : x[k] ≠ y[k]) : eqI x y = false := by
  unfold eqI; rw [decide_eq_false]; intro e; subst e; exact h rfl
theorem eqI_all {x y : List Int} (hl : x.length = y.length) (h : x.take x.length = y.take x.length) : eqI x y = true := by
  unfold eqI; rw [List.take_length] at h; rw [decide_eq_true]; rw [h, hl, List.take_length]
theorem take_same {x y : List Int} {k : Nat} (h1 : k < x.length) (h2 : k < y.length) (h : x.take k = y.take k) (e : x[k] = y[k]) : x.take (k + 1) = y.take (k + 1) := by
  rw [List.take_succ_eq_append_getElem h1, List.take_succ_eq_append_getElem h2, h, e]

theorem Wd.ints {B : Nat} {w : World} {a : Option Addr} {l : List Int} (hB : w.heap.size ≤ B) (h : Ints w a l) (z : Wd B w) : Ints z.w a l := h.below (z.ok.mono hB)

set_option maxRecDepth 100000 in
set_option maxHeartbeats 1000000 in
theorem ints_any (a b : Option Addr) (x y : List Int) (c d : Nat) (w : World) (hx : Ints w a x) (hy : Ints w b y) (lx : x.length ≤ maxLen) (ly : y.length ≤ maxLen) :
    Calls Tryd.prog 16 #[.slice a x.length c, .slice b y.length d] w fun e w' => e = .returned (.bool (eqI x y)) ∧ Below w.heap.size w w' := by
  unfold maxLen at lx ly
  have X := Lib.hid hx
  have Y := Lib.hid hy
  clear hx hy
  by_cases hl : x.length = y.length
  case neg =>
    have hv := Lib.hid (eqI_len hl)
    have hne : (((x.length : Int)) != (y.length : Int)) = true := by simp; omega
    clear hl
    go_enter Tryd.func16, Tryd.ntmps16
    go_wp2_with fail
    go_ret
    exact ⟨ret_bool hv.out.symm, Below.refl _ _⟩
  have hne : (((x.length : Int)) != (y.length : Int)) = false := by simp; omega
  have HL := Lib.hid hl
  go_enter Tryd.func16, Tryd.ntmps16
  clear hl
  go_wp2_with fail
  clear hne
  go_loopw [5] (fun i wr => ∃ k : Nat, i = .int .i64 k ∧ k ≤ x.length ∧ Hid (x.take k = y.take k) ∧ Hid (Below w.heap.size w wr)) (fun i _ => x.length - (intOf i).toNat)
  case atStart => exact ⟨0, rfl, by omega, Lib.hid rfl, Lib.hid (Below.refl _ _)⟩
  case round =>
    obtain ⟨k, rfl, hk, T, L⟩ := hrel
    by_cases hlt : k < x.length
    · have hlt2 : k < y.length := by have := HL.out; omega
      obtain ⟨g1, o1, rfl, _⟩ := X.out k hlt
      obtain ⟨g2, o2, rfl, _⟩ := Y.out k hlt2
      have X1 := X.out.below L.out
      have Y1 := Y.out.below L.out
      have ez1 : ∀ z : Wd wr.heap.size wr, z.w.cell? ⟨g1, o1 + k, none⟩ = some (.int .i64 x[k]) := fun z => by
        obtain ⟨g, o, e, h⟩ := (X1.below z.ok) k hlt; cases e; exact h
      have ez2 : ∀ z : Wd wr.heap.size wr, z.w.cell? ⟨g2, o2 + k, none⟩ = some (.int .i64 y[k]) := fun z => by
        obtain ⟨g, o, e, h⟩ := (Y1.below z.ok) k hlt2; cases e; exact h
      have hkn : (0 : Int) ≤ k := by omega
      clear X1 Y1
      go_wp2_with fail
      refine region_cls wr.heap.size (by kernel_rfl) (by kernel_rfl) ?_
      repeat (go_big_quiet_step (fail))
      refine wpQuiet_nil ?_
      intro z
      have L2 := Lib.hid (L.out.trans (z.ok.mono L.out.size))
      clear ez1 ez2
      by_cases he : x[k] = y[k]
      · have heq : (x[k] != y[k]) = false := by simpa using he
        have T2 := Lib.hid (take_same hlt hlt2 T.out he)
        clear he
        go_wp2_with fail
        go_roundw
        case rel => exact ⟨k + 1, by go_num, by omega, T2, L2⟩
        case measure => simp [intOf]; omega
      · have heq : (x[k] != y[k]) = true := by simpa using he
        have hv := Lib.hid (eqI_at hlt hlt2 he)
        clear he
        go_wp2_with fail
        go_ret
        exact ⟨ret_bool hv.out.symm, L2.out⟩
    · obtain rfl : k = x.length := by omega
      have hv := Lib.hid (eqI_all HL.out T.out)
      go_wp2_with fail
      go_ret
      exact ⟨ret_bool hv.out.symm, L.out⟩

set_option maxRecDepth 100000 in
set_option maxHeartbeats 1000000 in
theorem equal_any (a b : Option Addr) (x y : List Int) (c d : Nat) (w : World) (hx : Ints w a x) (hy : Ints w b y) (lx : x.length ≤ maxLen) (ly : y.length ≤ maxLen) :
    Calls Tryd.prog 35 #[.slice a x.length c, .slice b y.length d] w fun e w' => e = .returned (.bool (eqI x y)) ∧ Below w.heap.size w w' := by
  unfold maxLen at lx ly
  have X := Lib.hid hx
  have Y := Lib.hid hy
  clear hx hy
  by_cases hl : x.length = y.length
  case neg =>
    have hv := Lib.hid (eqI_len hl)
    have hne : (((x.length : Int)) != (y.length : Int)) = true := by simp; omega
    clear hl
    go_enter Tryd.func35, Tryd.ntmps35
    go_wp2_with fail
    go_ret
    exact ⟨ret_bool hv.out.symm, Below.refl _ _⟩
  have hne : (((x.length : Int)) != (y.length : Int)) = false := by simp; omega
  have HL := Lib.hid hl
  go_enter Tryd.func35, Tryd.ntmps35
  clear hl
  go_wp2_with fail
  clear hne
  go_loopw [13] (fun i wr => ∃ k : Nat, i = .int .i64 k ∧ k ≤ x.length ∧ Hid (x.take k = y.take k) ∧ Hid (Below w.heap.size w wr)) (fun i _ => x.length - (intOf i).toNat)
  case atStart => exact ⟨0, rfl, by omega, Lib.hid rfl, Lib.hid (Below.refl _ _)⟩
  case round =>
    obtain ⟨k, rfl, hk, T, L⟩ := hrel
    by_cases hlt : k < x.length
    · have hlt2 : k < y.length := by have := HL.out; omega
      obtain ⟨g1, o1, rfl, _⟩ := X.out k hlt
      obtain ⟨g2, o2, rfl, _⟩ := Y.out k hlt2
      have X1 := X.out.below L.out
      have Y1 := Y.out.below L.out
      have ez1 : ∀ z : Wd wr.heap.size wr, z.w.cell? ⟨g1, o1 + k, none⟩ = some (.int .i64 x[k]) := fun z => by
        obtain ⟨g, o, e, h⟩ := (X1.below z.ok) k hlt; cases e; exact h
      have ez2 : ∀ z : Wd wr.heap.size wr, z.w.cell? ⟨g2, o2 + k, none⟩ = some (.int .i64 y[k]) := fun z => by
        obtain ⟨g, o, e, h⟩ := (Y1.below z.ok) k hlt2; cases e; exact h
      have hkn : (0 : Int) ≤ k := by omega
      clear X1 Y1
      go_wp2_with fail
      refine region_cls wr.heap.size (by kernel_rfl) (by kernel_rfl) ?_
      repeat (go_big_quiet_step (fail))
      refine wpQuiet_nil ?_
      intro z
      have L2 := Lib.hid (L.out.trans (z.ok.mono L.out.size))
      clear ez1 ez2
      by_cases he : x[k] = y[k]
      · have heq : (x[k] != y[k]) = false := by simpa using he
        have T2 := Lib.hid (take_same hlt hlt2 T.out he)
        clear he
        go_wp2_with fail
        go_roundw
        case rel => exact ⟨k + 1, by go_num, by omega, T2, L2⟩
        case measure => simp [intOf]; omega
      · have heq : (x[k] != y[k]) = true := by simpa using he
        have hv := Lib.hid (eqI_at hlt hlt2 he)
        clear he
        go_wp2_with fail
        go_ret
        exact ⟨ret_bool hv.out.symm, L2.out⟩
    · obtain rfl : k = x.length := by omega
      have hv := Lib.hid (eqI_all HL.out T.out)
      go_wp2_with fail
      go_ret
      exact ⟨ret_bool hv.out.symm, L.out⟩

def inI (l : List Int) (x : Int) : Bool := l.contains x

set_option maxHeartbeats 400000 in
theorem in_any (a : Option Addr) (l : List Int) (c : Nat) (x : Int) (w : World) (hl : Ints w a l) (hn : l.length ≤ maxLen) :
    Calls Tryd.prog 25 #[.slice a l.length c, .int .i64 x] w fun e w' => e = .returned (.bool (inI l x)) ∧ w = w' := by
  unfold maxLen at hn
  have HL := Lib.hid hl
  clear hl
  go_enter Tryd.func25, Tryd.ntmps25
  go_wp2_with fail
  go_loop [5] (fun i => ∃ k : Nat, i = .int .i64 k ∧ k ≤ l.length ∧ Hid (inI (l.take k) x = false)) (fun i => l.length - (intOf i).toNat)
  case atStart => exact ⟨0, rfl, by omega, Lib.hid rfl⟩
  case round =>
    obtain ⟨k, rfl, hk, T⟩ := hrel
    by_cases hlt : k < l.length
    · obtain ⟨g, o, rfl, hc⟩ := HL.out k hlt
      by_cases he : l[k] = x
      · have heq : (l[k] == x) = true := by simpa using he
        have hv : Hid (inI l x = true) := Lib.hid (by unfold inI; rw [List.contains_iff_mem]; rw [← he]; exact List.getElem_mem hlt)
        clear he
        go_wp2_with fail
        go_ret
        exact ⟨ret_bool hv.out.symm, rfl⟩
      · have heq : (l[k] == x) = false := by simpa using he
        have T2 : Hid (inI (l.take (k + 1)) x = false) := by
          refine Lib.hid ?_
          have h1 := T.out
          unfold inI at h1 ⊢
          rw [Bool.eq_false_iff] at h1 ⊢
          intro h
          rw [ne_eq, List.contains_iff_mem] at h1
          rw [List.contains_iff_mem, List.take_succ_eq_append_getElem hlt] at h
          rcases List.mem_append.1 h with h | h
          · exact h1 h
          · simp at h; exact he h.symm
        clear he
        go_wp2_with fail
        go_round
        case rel => exact ⟨k + 1, by go_num, by omega, T2⟩
        case measure => simp [intOf]; omega
    · obtain rfl : k = l.length := by omega
      have hv := T.out
      rw [List.take_length] at hv
      have HV := Lib.hid hv
      clear hv
      go_wp2_with fail
      go_ret
      exact ⟨ret_bool HV.out.symm, rfl⟩
end Go.Proofs.YtccmmilbnfiacaaDoor
