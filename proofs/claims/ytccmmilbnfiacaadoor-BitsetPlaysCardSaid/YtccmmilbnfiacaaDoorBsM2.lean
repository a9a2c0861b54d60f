/-
  Walks of Meets and Same.
-/
import Derived.Test.YtccmmilbnfiacaaDoorBsA
namespace Go.Proofs.YtccmmilbnfiacaaDoor
open Go.RowKit
set_option linter.unusedVariables false

/-- Do two sets meet? -/
def meetB (X Y : Nat) : Bool := !decide (X &&& Y = 0)
theorem word_and (X Y k : Nat) : Bs.word X k &&& Bs.word Y k = Bs.word (X &&& Y) k := by
  apply Nat.eq_of_testBit_eq
  intro j
  rw [Nat.testBit_and, Bs.word_bit, Bs.word_bit, Bs.word_bit, Nat.testBit_and]
  by_cases h : j < 64 <;> simp [h]
theorem meet_yes {X Y k : Nat} (h : Bs.word X k &&& Bs.word Y k ≠ 0) : meetB X Y = true := by
  unfold meetB
  have : X &&& Y ≠ 0 := by
    intro e
    apply h
    rw [word_and, e, Bs.word_zero]
  simp [this]
theorem meet_no {n m X Y : Nat} (hX : X < 2 ^ n) (hY : Y < 2 ^ m) (h : ∀ k, k < min (Bs.nw n) (Bs.nw m) → Bs.word X k &&& Bs.word Y k = 0) : meetB X Y = false := by
  have : X &&& Y = 0 := by
    apply Nat.eq_of_testBit_eq
    intro j
    rw [Nat.zero_testBit]
    by_cases hj : j < n ∧ j < m
    · have h1 := h (j / 64) (by have := Bs.nw_lt hj.1; have := Bs.nw_lt hj.2; omega)
      have h2 := congrArg (fun W => W.testBit (j % 64)) h1
      rw [word_and] at h2
      simp only [Bs.word_bit, Nat.zero_testBit, Nat.div_add_mod] at h2
      simpa [Nat.mod_lt] using h2
    · rw [Nat.testBit_and]
      by_cases h1 : j < n
      · rw [Bs.bit_of_lt hY (by omega), Bool.and_false]
      · rw [Bs.bit_of_lt hX (by omega), Bool.false_and]
  simp [meetB, this]

theorem ne_law {a b : Nat} (ha : a < 18446744073709551616) (hb : b < 18446744073709551616) : (bits BinOp.and IntKind.u64 (a : Int) (b : Int) != 0) = !decide (a &&& b = 0) := by
  rw [bits_and_u64_nat a b ha hb]
  by_cases h : a &&& b = 0
  · rw [h]; rfl
  · simp [h]

set_option maxRecDepth 100000 in
set_option maxHeartbeats 2000000 in
theorem meets_any (p b n X q c m Y : Nat) (w : World) (hS : SetAt w p b n X) (hO : SetAt w q c m Y) :
    Calls Tryd.prog 21 #[.pointer (some ⟨p, 0, none⟩), .pointer (some ⟨q, 0, none⟩)] w fun e w' => e = .returned (.bool (meetB X Y)) ∧ Below w.heap.size w w' := by
  have S := Lib.hid hS
  have O := Lib.hid hO
  have hn := Bs.nw_le hS.le
  have hm := Bs.nw_le hO.le
  obtain ⟨_, ⟨cap1, hp1⟩, hr1, _⟩ := hS.cells
  obtain ⟨_, ⟨cap2, hp2⟩, hr2, _⟩ := hO.cells
  clear hr1 hr2
  have q1 := Lib.hid hp1
  have q2 := Lib.hid hp2
  have d1 : ∀ w', Below w.heap.size w w' → w'.cell? ⟨p, 1, none⟩ = some (.slice (some ⟨b, 0, none⟩) (Bs.nw n : Nat) cap1) := fun w' hb => ((bcell hb).1 _ _ S.out.plt).trans q1.out
  have d2 : ∀ w', Below w.heap.size w w' → w'.cell? ⟨q, 1, none⟩ = some (.slice (some ⟨c, 0, none⟩) (Bs.nw m : Nat) cap2) := fun w' hb => ((bcell hb).1 _ _ O.out.plt).trans q2.out
  have d3 : ∀ w' k, Below w.heap.size w w' → k < Bs.nw n → w'.cell? ⟨b, k, none⟩ = some (.int .u64 (Bs.word X k : Nat)) := fun w' k hb hk => (S.out.below hb).cells.2.2.1 k hk
  have d4 : ∀ w' k, Below w.heap.size w w' → k < Bs.nw m → w'.cell? ⟨c, k, none⟩ = some (.int .u64 (Bs.word Y k : Nat)) := fun w' k hb hk => (O.out.below hb).cells.2.2.1 k hk
  have D := Lib.hid (And.intro d1 (And.intro d2 (And.intro d3 d4)))
  clear hS hO hp1 hp2 d1 d2 d3 d4
  have ez1 : ∀ z : Wd w.heap.size w, z.w.cell? ⟨p, 1, none⟩ = some (.slice (some ⟨b, 0, none⟩) (Bs.nw n : Nat) cap1) := fun z => D.out.1 _ z.ok
  have ez2 : ∀ z : Wd w.heap.size w, z.w.cell? ⟨q, 1, none⟩ = some (.slice (some ⟨c, 0, none⟩) (Bs.nw m : Nat) cap2) := fun z => D.out.2.1 _ z.ok
  go_enter Tryd.func21, Tryd.ntmps21
  go_wp2_with fail
  refine region_cls w.heap.size (by kernel_rfl) (by kernel_rfl) ?_
  repeat (go_big_quiet_step (fail))
  refine wpQuiet_nil ?_
  intro z
  have L := Lib.hid z.ok
  clear ez1 ez2
  go_wp2_with fail
  go_loopw [17] (fun i wr => ∃ k : Nat, i = .int .i64 k ∧ k ≤ min (Bs.nw n) (Bs.nw m) ∧ Hid (∀ j, j < k → Bs.word X j &&& Bs.word Y j = 0) ∧ Hid (Below w.heap.size w wr)) (fun i _ => 16 - (intOf i).toNat)
  case atStart => exact ⟨0, rfl, Nat.zero_le _, Lib.hid (fun j hj => by omega), L⟩
  case round =>
    clear L
    obtain ⟨k, rfl, hk, T, L⟩ := hrel
    by_cases hlt : k < min (Bs.nw n) (Bs.nw m)
    · have h1 : k < Bs.nw n := by omega
      have h2 : k < Bs.nw m := by omega
      have hd : decide ((k : Int) < min (Bs.nw n : Int) (Bs.nw m : Int)) = true := by simp; omega
      have e1 : ∀ z : Wd w.heap.size wr, z.w.cell? ⟨p, 1, none⟩ = some (.slice (some ⟨b, 0, none⟩) (Bs.nw n : Nat) cap1) := fun z => D.out.1 _ (L.out.trans z.ok)
      have e2 : ∀ z : Wd w.heap.size wr, z.w.cell? ⟨q, 1, none⟩ = some (.slice (some ⟨c, 0, none⟩) (Bs.nw m : Nat) cap2) := fun z => D.out.2.1 _ (L.out.trans z.ok)
      have e3 : ∀ z : Wd w.heap.size wr, z.w.cell? ⟨b, k, none⟩ = some (.int .u64 (Bs.word X k : Nat)) := fun z => D.out.2.2.1 _ k (L.out.trans z.ok) h1
      have e4 : ∀ z : Wd w.heap.size wr, z.w.cell? ⟨c, k, none⟩ = some (.int .u64 (Bs.word Y k : Nat)) := fun z => D.out.2.2.2 _ k (L.out.trans z.ok) h2
      have hkn : (0 : Int) ≤ k := by omega
      have hx := Bs.word_lt X k
      have hy := Bs.word_lt Y k
      go_wp2_with fail
      refine region_cls w.heap.size (by kernel_rfl) (by kernel_rfl) ?_
      repeat (go_big_quiet_step (fail))
      refine wpQuiet_nil ?_
      intro z
      have L2 := Lib.hid (L.out.trans z.ok)
      clear e1 e2 e3 e4
      by_cases h0 : Bs.word X k &&& Bs.word Y k = 0
      · have hne : (bits BinOp.and IntKind.u64 (Bs.word X k : Int) (Bs.word Y k : Int) != 0) = false := by rw [ne_law hx hy]; simp [h0]
        have T2 : Hid (∀ j, j < k + 1 → Bs.word X j &&& Bs.word Y j = 0) := Lib.hid (fun j hj => by
          by_cases hjk : j = k
          · rw [hjk]; exact h0
          · exact T.out j (by omega))
        clear h0
        go_wp2_with fail
        go_roundw
        case rel => exact ⟨k + 1, by go_num, by omega, T2, L2⟩
        case measure => simp [intOf]; omega
      · have hne : (bits BinOp.and IntKind.u64 (Bs.word X k : Int) (Bs.word Y k : Int) != 0) = true := by rw [ne_law hx hy]; simp [h0]
        have hv := Lib.hid (meet_yes h0)
        clear h0
        go_wp2_with fail
        go_ret
        exact ⟨ret_bool hv.out.symm, L2.out⟩
    · have hkk : k = min (Bs.nw n) (Bs.nw m) := by omega
      have hd : decide ((k : Int) < min (Bs.nw n : Int) (Bs.nw m : Int)) = false := by simp; omega
      have hv := Lib.hid (meet_no S.out.lt O.out.lt (fun j hj => T.out j (by omega)))
      clear hkk
      go_wp2_with fail
      go_ret
      exact ⟨ret_bool hv.out.symm, L.out⟩

theorem lst_ext {n N X : Nat} (h : X < 2 ^ n) (hN : n ≤ N) : Bs.lst n X = Bs.lst N X := by
  unfold Bs.lst
  rw [show N = n + (N - n) from by omega, List.range_add, List.filter_append]
  have : ((List.range (N - n)).map (n + ·)).filter X.testBit = [] := by
    rw [List.filter_eq_nil_iff]
    intro a ha
    obtain ⟨b, _, rfl⟩ := List.mem_map.1 ha
    simp [Bs.bit_of_lt h (show n ≤ n + b by omega)]
  rw [this, List.append_nil]
theorem natI_max (n X : Nat) (h : n ≤ 1000) : (natI (Bs.lst n X)).length ≤ maxLen := by
  have := Bs.lst_len n X
  unfold maxLen natI
  rw [List.length_map]
  omega
/-- A list tells a set. -/
theorem lst_inj {n m X Y : Nat} (hX : X < 2 ^ n) (hY : Y < 2 ^ m) : eqI (natI (Bs.lst n X)) (natI (Bs.lst m Y)) = decide (X = Y) := by
  unfold eqI
  rw [decide_eq_decide]
  constructor
  · intro h
    apply Nat.eq_of_testBit_eq
    intro j
    have e : Bs.lst n X = Bs.lst m Y := by
      have := congrArg (List.map Int.toNat) h
      simpa [natI, Function.comp_def] using this
    have hx : j ∈ Bs.lst n X ↔ X.testBit j = true := by
      rw [Bs.mem_lst]
      constructor
      · exact fun h => h.2
      · intro h
        refine ⟨?_, h⟩
        rcases Nat.lt_or_ge j n with h1 | h1
        · exact h1
        · rw [Bs.bit_of_lt hX h1] at h; cases h
    have hy : j ∈ Bs.lst m Y ↔ Y.testBit j = true := by
      rw [Bs.mem_lst]
      constructor
      · exact fun h => h.2
      · intro h
        refine ⟨?_, h⟩
        rcases Nat.lt_or_ge j m with h1 | h1
        · exact h1
        · rw [Bs.bit_of_lt hY h1] at h; cases h
    rw [e] at hx
    have := hx.symm.trans hy
    cases hxj : X.testBit j <;> cases hyj : Y.testBit j <;> simp_all
  · rintro rfl
    rcases Nat.le_total n m with h | h
    · rw [lst_ext hX h]
    · rw [lst_ext hY h]

/-- Same. -/
def sameB (X Y : Nat) : Bool := decide (X = Y)
set_option maxRecDepth 100000 in
set_option maxHeartbeats 2000000 in
theorem same_any (p b n X q c m Y : Nat) (w : World) (hS : SetAt w p b n X) (hO : SetAt w q c m Y) (hT : Tab w) :
    Calls Tryd.prog 22 #[.pointer (some ⟨p, 0, none⟩), .pointer (some ⟨q, 0, none⟩)] w fun e w' => e = .returned (.bool (sameB X Y)) ∧ Below w.heap.size w w' := by
  have hv := Lib.hid (lst_inj hS.lt hO.lt)
  have S := Lib.hid hS
  have O := Lib.hid hO
  have T := Lib.hid hT
  have hn := hS.le
  have hm := hO.le
  clear hS hO hT
  go_enter Tryd.func22, Tryd.ntmps22
  go_wp2_with fail
  refine (list_any p b n X w S.out T.out).mono ?_
  rintro e w1 ⟨a1, c1, rfl, _, hi1, hB1⟩
  have I1 := Lib.hid hi1
  have L1 := Lib.hid hB1
  clear hi1 hB1
  go_wp2_with fail
  refine (list_any q c m Y w1 (O.out.below L1.out) (T.out.below L1.out)).mono ?_
  rintro e w2 ⟨a2, c2, rfl, _, hi2, hB2⟩
  have I2 := Lib.hid hi2
  have I1' := Lib.hid (I1.out.below hB2)
  have L2 := Lib.hid (L1.out.trans (hB2.mono L1.out.size))
  clear hi2 hB2
  go_wp2_with fail
  refine (equal_any a1 a2 _ _ c1 c2 w2 I1'.out I2.out (natI_max _ _ hn) (natI_max _ _ hm)).mono ?_
  rintro e w3 ⟨rfl, hB3⟩
  have L3 := Lib.hid (L2.out.trans (hB3.mono L2.out.size))
  clear hB3
  go_wp2_with fail
  go_ret
  exact ⟨ret_bool hv.out, L3.out⟩
end Go.Proofs.YtccmmilbnfiacaaDoor
