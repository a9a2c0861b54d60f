/-
  Walks of the reference's sets: Has, Union, Meets.
-/
import Derived.Test.YtccmmilbnfiacaaDoorBsR
import Derived.Test.YtccmmilbnfiacaaDoorBsM2
namespace Go.Proofs.YtccmmilbnfiacaaDoor
open Go.RowKit
set_option linter.unusedVariables false

set_option maxHeartbeats 1000000 in
theorem rhas_any (p b n X : Nat) (i : Int) (w : World) (h : RefAt w p b n X) :
    Calls Tryd.prog 37 #[.pointer (some ⟨p, 0, none⟩), .int .i64 i] w fun e w' => e = .returned (.bool (Bs.has X i)) ∧ w = w' := by
  obtain ⟨⟨cap, c0⟩, c1, _⟩ := h.cells
  have hle := h.le
  by_cases h0 : 0 ≤ i
  · by_cases h1 : i < n
    · obtain ⟨k, rfl⟩ : ∃ k : Nat, i = k := ⟨i.toNat, by omega⟩
      have hk : k < n := by omega
      have c2 := c1 k hk
      have hv : Hid (Bs.has X k = X.testBit k) := Lib.hid (by simp [Bs.has])
      have hd : decide ((k : Int) < (n : Int)) = true := by simp; omega
      have hd2 : decide (k < n) = true := by simpa using hk
      clear h c1
      go_enter Tryd.func37, Tryd.ntmps37
      go_wp2
      go_ret
      exact ⟨ret_bool hv.out.symm, rfl⟩
    · have hv : Hid (Bs.has X i = false) := Lib.hid (Bs.has_of_is h.lt (by simp [Bs.is]; omega))
      have hd : decide (i < (n : Int)) = false := by simpa using h1
      clear h c1
      go_enter Tryd.func37, Tryd.ntmps37
      go_wp2
      go_ret
      exact ⟨ret_bool hv.out.symm, rfl⟩
  · have hv : Hid (Bs.has X i = false) := Lib.hid (by simp [Bs.has]; omega)
    have hd : decide (0 ≤ i) = false := by simpa using h0
    clear h c1
    go_enter Tryd.func37, Tryd.ntmps37
    go_wp2
    go_ret
    exact ⟨ret_bool hv.out.symm, rfl⟩

def RUnionPost (w : World) (p b n X m Y : Nat) (e : Ending) (w' : World) : Prop := e = .returned (.bool (unB n X m Y)) ∧ RefAt w' p b n (un n X m Y) ∧ Upd b w w'

set_option maxRecDepth 100000 in
set_option maxHeartbeats 2000000 in
theorem runion_any (p b n X q c m Y : Nat) (w : World) (hS : RefAt w p b n X) (hO : RefAt w q c m Y) (h1 : q ≠ b) (h2 : c ≠ b) :
    Calls Tryd.prog 38 #[.pointer (some ⟨p, 0, none⟩), .pointer (some ⟨q, 0, none⟩)] w (RUnionPost w p b n X m Y) := by
  have S0 := Lib.hid hS
  have O0 := Lib.hid hO
  have hm := hO.le
  clear hS hO
  go_enter Tryd.func38, Tryd.ntmps38
  go_wp2_with fail
  go_loopw [5, 6] (fun g i wr => ∃ k : Nat, i = .int .i64 k ∧ k ≤ m ∧ g = .bool (gr n X (upto Y k)) ∧ Hid (RefAt wr p b n (Bs.adds n X (upto Y k))) ∧ Hid (Upd b w wr)) (fun _ i _ => m - (intOf i).toNat)
  case atStart => exact ⟨0, rfl, by omega, by simp [gr, upto, natI, Bs.lst, Bs.adds], by simpa [upto, natI, Bs.lst, Bs.adds] using S0, Lib.hid (Upd.refl _ _)⟩
  case round =>
    obtain ⟨k, rfl, hk, rfl, S, U⟩ := hrel
    obtain ⟨⟨cap, c0⟩, c1, _⟩ := (O0.out.upd U.out h1 h2).cells
    by_cases hlt : k < m
    · have c2 := c1 k hlt
      clear c1
      have hd : decide ((k : Int) < (m : Int)) = true := by simp; omega
      cases hy : Y.testBit k with
      | false =>
        rw [hy] at c2
        have hup := upto_no hy
        have S2 : Hid (RefAt wr p b n (Bs.adds n X (upto Y (k + 1)))) := by rw [hup]; exact S
        have hg : Hid (gr n X (upto Y (k + 1)) = gr n X (upto Y k)) := Lib.hid (by rw [hup])
        clear hy hup
        go_wp2_with fail
        go_roundw
        case rel => exact ⟨k + 1, by go_num, by omega, by rw [hg.out], S2, U⟩
        case measure => simp [intOf]; omega
      | true =>
        rw [hy] at c2
        have hup := upto_yes hy
        have hput := put_any p b n _ (k : Int) true wr S.out
        have hg := gr_snoc n X (upto Y k) (k : Int)
        rw [← hup] at hg
        have hX : putX n (Bs.adds n X (upto Y k)) (k : Int) true = Bs.adds n X (upto Y (k + 1)) := by rw [hup, adds_app, ← addX_eq]; rfl
        have hB : putB n (Bs.adds n X (upto Y k)) (k : Int) true = addB n (Bs.adds n X (upto Y k)) (k : Int) := rfl
        rw [hX, hB] at hput
        clear hy hup hX hB
        cases hab : addB n (Bs.adds n X (upto Y k)) (k : Int) <;> cases hgk : gr n X (upto Y k)
        all_goals
          rw [hab] at hput
          have HG : Hid (gr n X (upto Y (k + 1)) = _) := Lib.hid (hg.trans (by rw [hab, hgk]))
          clear hg hab hgk
          go_wp2_with fail
          refine hput.mono ?_
          rintro e w2 ⟨rfl, hs, hu⟩
          have S2 := Lib.hid hs
          have U2 := Lib.hid (U.out.trans hu)
          clear hs hu hput S U c2
          go_wp2_with fail
          go_roundw
          case rel => exact ⟨k + 1, by go_num, by omega, by rw [HG.out]; rfl, S2, U2⟩
          case measure => simp [intOf]; omega
    · obtain rfl : k = m := by omega
      go_wp2_with fail
      go_ret
      exact ⟨rfl, S.out, U.out⟩

set_option maxRecDepth 100000 in
set_option maxHeartbeats 2000000 in
theorem rmeets_any (p b n X q c m Y : Nat) (w : World) (hS : RefAt w p b n X) (hO : RefAt w q c m Y) :
    Calls Tryd.prog 39 #[.pointer (some ⟨p, 0, none⟩), .pointer (some ⟨q, 0, none⟩)] w fun e w' => e = .returned (.bool (meetB X Y)) ∧ w = w' := by
  obtain ⟨⟨cap, c0⟩, c1, _⟩ := hS.cells
  obtain ⟨⟨cap2, c2⟩, c3, _⟩ := hO.cells
  have hn := hS.le
  have hm := hO.le
  have lx := Lib.hid hS.lt
  have ly := Lib.hid hO.lt
  have C1 := Lib.hid c1
  have C3 := Lib.hid c3
  clear hS hO c1 c3
  go_enter Tryd.func39, Tryd.ntmps39
  go_wp2_with fail
  go_loop [5] (fun i => ∃ k : Nat, i = .int .i64 k ∧ k ≤ n ∧ Hid (∀ j, j < k → (X.testBit j && Y.testBit j) = false)) (fun i => n - (intOf i).toNat)
  case atStart => exact ⟨0, rfl, by omega, Lib.hid (fun j hj => by omega)⟩
  case round =>
    obtain ⟨k, rfl, hk, T⟩ := hrel
    have fin : (¬ k < n ∨ ¬ k < m) → Hid (meetB X Y = false) := fun hh => Lib.hid (by
      have : X &&& Y = 0 := by
        apply Nat.eq_of_testBit_eq
        intro j
        rw [Nat.testBit_and, Nat.zero_testBit]
        by_cases hj : j < k
        · exact T.out j hj
        · rcases hh with hh | hh
          · rw [Bs.bit_of_lt lx.out (by omega), Bool.false_and]
          · rw [Bs.bit_of_lt ly.out (by omega), Bool.and_false]
      simp [meetB, this])
    by_cases hlt : k < n
    · have hd : decide ((k : Int) < (n : Int)) = true := by simp; omega
      by_cases hlt2 : k < m
      · have hd2 : decide ((k : Int) < (m : Int)) = true := by simp; omega
        have e1 := C1.out k hlt
        have e2 := C3.out k hlt2
        clear fin
        cases hx : X.testBit k <;> cases hy : Y.testBit k
        case true.true =>
          rw [hx] at e1
          rw [hy] at e2
          have hv : Hid (meetB X Y = true) := Lib.hid (by
            have : X &&& Y ≠ 0 := by
              intro e
              have := congrArg (fun Z => Z.testBit k) e
              simp [Nat.testBit_and, hx, hy] at this
            simp [meetB, this])
          clear hx hy
          go_wp2_with fail
          go_ret
          exact ⟨ret_bool hv.out.symm, rfl⟩
        all_goals
          rw [hx] at e1
          rw [hy] at e2
          have T2 : Hid (∀ j, j < k + 1 → (X.testBit j && Y.testBit j) = false) := Lib.hid (fun j hj => by
            by_cases hjk : j = k
            · subst hjk; simp [hx, hy]
            · exact T.out j (by omega))
          clear hx hy
          go_wp2_with fail
          go_round
          case rel => exact ⟨k + 1, by go_num, by omega, T2⟩
          case measure => simp [intOf]; omega
      · have hd2 : decide ((k : Int) < (m : Int)) = false := by simp; omega
        have hv := fin (.inr hlt2)
        clear fin
        go_wp2_with fail
        go_ret
        exact ⟨ret_bool hv.out.symm, rfl⟩
    · have hd : decide ((k : Int) < (n : Int)) = false := by simp; omega
      have hv := fin (.inl hlt)
      clear fin
      go_wp2_with fail
      go_ret
      exact ⟨ret_bool hv.out.symm, rfl⟩
end Go.Proofs.YtccmmilbnfiacaaDoor
