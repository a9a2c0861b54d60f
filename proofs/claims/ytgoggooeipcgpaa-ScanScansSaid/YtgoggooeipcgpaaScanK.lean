/-
  Memory of chapter 17: slices of patterns and of tokens' patterns; the reference's Few.
-/
import Derived.Test.YtgoggooeipcgpaaLawA
import Derived.Test.YtgoggooeipcgpaaLawD
import Derived.Test.YtgoggooeipcgpaaScan
namespace Go.Proofs.Ytgoggooeipcgpaa
open Go.RowKit
set_option linter.unusedVariables false

/-- A slice that reads as a list of patterns. -/
def SlP (w : World) (a : Option Addr) (ps : List Pl.Pt) : Prop := ∀ i (h : i < ps.length), ∃ b off, a = some ⟨b, off, none⟩ ∧
  w.cell? ⟨b, off + i * 3, none⟩ = some (.string ps[i].t) ∧ w.cell? ⟨b, off + i * 3 + 1, none⟩ = some (.string ps[i].s) ∧ w.cell? ⟨b, off + i * 3 + 2, none⟩ = some (.bool ps[i].m)

/-- A slice of tokens of the name t, that reads as a list of patterns. -/
def SlT (w : World) (a : Option Addr) (ps : List Pl.Pt) : Prop := ∀ i (h : i < ps.length), ∃ b off, a = some ⟨b, off, none⟩ ∧ w.cell? ⟨b, off + i * 4, none⟩ = some (.string ⟨#[116]⟩) ∧
  w.cell? ⟨b, off + i * 4 + 1, none⟩ = some (.string ps[i].t) ∧ w.cell? ⟨b, off + i * 4 + 2, none⟩ = some (.string ps[i].s) ∧ w.cell? ⟨b, off + i * 4 + 3, none⟩ = some (.bool ps[i].m)

theorem SlP.below {w w1 : World} {a : Option Addr} {ps : List Pl.Pt} (h : SlP w a ps) (hb : Below w.heap.size w w1) : SlP w1 a ps := by
  intro i hi
  obtain ⟨b, off, rfl, h1, h2, h3⟩ := h i hi
  have hlt : b < w.heap.size := World.block_lt_of_cell? w _ h1
  have q := (bcell hb).1
  exact ⟨b, off, rfl, (q _ _ hlt).trans h1, (q _ _ hlt).trans h2, (q _ _ hlt).trans h3⟩

theorem SlT.below {w w1 : World} {a : Option Addr} {ps : List Pl.Pt} (h : SlT w a ps) (hb : Below w.heap.size w w1) : SlT w1 a ps := by
  intro i hi
  obtain ⟨b, off, rfl, h0, h1, h2, h3⟩ := h i hi
  have hlt : b < w.heap.size := World.block_lt_of_cell? w _ h1
  have q := (bcell hb).1
  exact ⟨b, off, rfl, (q _ _ hlt).trans h0, (q _ _ hlt).trans h1, (q _ _ hlt).trans h2, (q _ _ hlt).trans h3⟩

/-- Are all patterns small? -/
def smallP (l : List Pl.Pt) : Bool := l.all fun p => decide (p.t.size ≤ 40 ∧ p.s.size ≤ 300)

/-- Few. -/
def fewG (T S : List Pl.Pt) : Bool := decide (T.length ≤ 20 ∧ S.length ≤ 10) && (smallP T && smallP S)

theorem smallP_take (l : List Pl.Pt) (k : Nat) (h : k < l.length) : smallP (l.take (k + 1)) = (smallP (l.take k) && decide (l[k].t.size ≤ 40 ∧ l[k].s.size ≤ 300)) := by
  rw [List.take_succ_eq_append_getElem h]
  unfold smallP
  rw [List.all_append]
  simp

theorem smallP_no (l : List Pl.Pt) (k : Nat) (h : k < l.length) (h1 : ¬ (l[k].t.size ≤ 40 ∧ l[k].s.size ≤ 300)) : smallP l = false := by
  rw [Bool.eq_false_iff]
  intro hh
  have := List.all_eq_true.1 hh l[k] (List.getElem_mem h)
  simp at this
  exact h1 this

/-- Each pattern's texts have lengths that Go's int holds. -/
def OkP (l : List Pl.Pt) : Prop := ∀ p ∈ l, p.t.size ≤ maxLen ∧ p.s.size ≤ maxLen

set_option maxRecDepth 100000 in
set_option maxHeartbeats 1600000 in
theorem fewg_any (T S : List Pl.Pt) (ta sa : Option Addr) (tc sc : Nat) (w : World) (hT : SlT w ta T) (hS : SlP w sa S) (oT : OkP T) (oS : OkP S) (lT : T.length ≤ maxLen) (lS : S.length ≤ maxLen) :
    Calls Try.prog 26 #[.agg #[.slice ta T.length tc, .slice sa S.length sc, .slice none 0 0, .string ⟨#[]⟩, .slice none 0 0]] w fun e w' => e = .returned (.bool (fewG T S)) ∧ Below w.heap.size w w' := by
  unfold maxLen at lT lS
  by_cases h1 : T.length ≤ 20
  case neg =>
    have h1' : decide (20 < (T.length : Int)) = true := by simp; omega
    have hv : Hid (fewG T S = false) := Lib.hid (by simp [fewG]; omega)
    go_enter Try.func26, Try.ntmps26
    go_wp2_with fail
    go_ret
    exact ⟨ret_bool hv.out.symm, (Below.refl _ _).alloc (Nat.le_refl _) _⟩
  by_cases h2 : S.length ≤ 10
  case neg =>
    have h1' : decide (20 < (T.length : Int)) = false := by simp; omega
    have h2' : decide (10 < (S.length : Int)) = true := by simp; omega
    have hv : Hid (fewG T S = false) := Lib.hid (by simp [fewG]; omega)
    go_enter Try.func26, Try.ntmps26
    go_wp2_with fail
    go_ret
    exact ⟨ret_bool hv.out.symm, (Below.refl _ _).alloc (Nat.le_refl _) _⟩
  have h1' : decide (20 < (T.length : Int)) = false := by simp; omega
  have h2' : decide (10 < (S.length : Int)) = false := by simp; omega
  go_enter Try.func26, Try.ntmps26
  go_wp2_with fail
  have hB : Below w.heap.size w (w.alloc (.cells #[.slice ta T.length tc, .slice sa S.length sc, .slice none 0 0, .string ⟨#[]⟩, .slice none 0 0] 40)) := (Below.refl _ _).alloc (Nat.le_refl _) _
  have hT1 := Lib.hid (hT.below hB)
  have hS1 := Lib.hid (hS.below hB)
  have g0 : (w.alloc (.cells #[.slice ta T.length tc, .slice sa S.length sc, .slice none 0 0, .string ⟨#[]⟩, .slice none 0 0] 40)).cell? ⟨w.heap.size, 0, none⟩ = some (.slice ta T.length tc) := by go_simp
  have g1 : (w.alloc (.cells #[.slice ta T.length tc, .slice sa S.length sc, .slice none 0 0, .string ⟨#[]⟩, .slice none 0 0] 40)).cell? ⟨w.heap.size, 1, none⟩ = some (.slice sa S.length sc) := by go_simp
  generalize (w.alloc (.cells #[.slice ta T.length tc, .slice sa S.length sc, .slice none 0 0, .string ⟨#[]⟩, .slice none 0 0] 40)) = W at hB hT1 hS1 g0 g1 ⊢
  clear hT hS
  have HoT := Lib.hid oT
  have HoS := Lib.hid oS
  clear oT oS
  go_loop [3] (fun i => ∃ k : Nat, i = .int .i64 k ∧ k ≤ T.length ∧ Hid (smallP (T.take k) = true)) (fun i => T.length - (intOf i).toNat)
  case atStart => exact ⟨0, rfl, by omega, Lib.hid rfl⟩
  case round =>
    obtain ⟨k, rfl, hk, H⟩ := hrel
    by_cases hlt : k < T.length
    · obtain ⟨b, off, rfl, c0, c1, c2, c3⟩ := hT1.out k hlt
      obtain ⟨o1, o2⟩ := HoT.out T[k] (List.getElem_mem hlt)
      unfold maxLen at o1 o2
      by_cases p1 : T[k].t.size ≤ 40
      case neg =>
        have d1 : decide (40 < (T[k].t.size : Int)) = true := by simp; omega
        have hv : Hid (fewG T S = false) := Lib.hid (by simp [fewG, smallP_no T k hlt (fun h => p1 h.1)])
        go_wp2_with fail
        go_ret
        exact ⟨ret_bool hv.out.symm, hB⟩
      have d1 : decide (40 < (T[k].t.size : Int)) = false := by simp; omega
      by_cases p2 : T[k].s.size ≤ 300
      case neg =>
        have d2 : decide (300 < (T[k].s.size : Int)) = true := by simp; omega
        have hv : Hid (fewG T S = false) := Lib.hid (by simp [fewG, smallP_no T k hlt (fun h => p2 h.2)])
        go_wp2_with fail
        go_ret
        exact ⟨ret_bool hv.out.symm, hB⟩
      have d2 : decide (300 < (T[k].s.size : Int)) = false := by simp; omega
      have Hn : Hid (smallP (T.take (k + 1)) = true) := Lib.hid (by rw [smallP_take T k hlt, H.out]; simp [p1, p2])
      go_wp2_with fail
      go_round
      case rel => exact ⟨k + 1, by go_num, by omega, Hn⟩
      case measure => simp [intOf]; omega
    · obtain rfl : k = T.length := by omega
      rw [List.take_length] at H
      clear hlt
      go_wp2_with fail
      go_loop [4] (fun i => ∃ k : Nat, i = .int .i64 k ∧ k ≤ S.length ∧ Hid (smallP (S.take k) = true)) (fun i => S.length - (intOf i).toNat)
      case atStart => exact ⟨0, rfl, by omega, Lib.hid rfl⟩
      case round =>
        have HT := H
        clear H
        obtain ⟨k, rfl, hk, H⟩ := hrel
        by_cases hlt : k < S.length
        · obtain ⟨b, off, rfl, c1, c2, c3⟩ := hS1.out k hlt
          obtain ⟨o1, o2⟩ := HoS.out S[k] (List.getElem_mem hlt)
          unfold maxLen at o1 o2
          by_cases p1 : S[k].t.size ≤ 40
          case neg =>
            have d1 : decide (40 < (S[k].t.size : Int)) = true := by simp; omega
            have hv : Hid (fewG T S = false) := Lib.hid (by simp [fewG, smallP_no S k hlt (fun h => p1 h.1)])
            go_wp2_with fail
            go_ret
            exact ⟨ret_bool hv.out.symm, hB⟩
          have d1 : decide (40 < (S[k].t.size : Int)) = false := by simp; omega
          by_cases p2 : S[k].s.size ≤ 300
          case neg =>
            have d2 : decide (300 < (S[k].s.size : Int)) = true := by simp; omega
            have hv : Hid (fewG T S = false) := Lib.hid (by simp [fewG, smallP_no S k hlt (fun h => p2 h.2)])
            go_wp2_with fail
            go_ret
            exact ⟨ret_bool hv.out.symm, hB⟩
          have d2 : decide (300 < (S[k].s.size : Int)) = false := by simp; omega
          have Hn : Hid (smallP (S.take (k + 1)) = true) := Lib.hid (by rw [smallP_take S k hlt, H.out]; simp [p1, p2])
          go_wp2_with fail
          go_round
          case rel => exact ⟨k + 1, by go_num, by omega, Hn⟩
          case measure => simp [intOf]; omega
        · obtain rfl : k = S.length := by omega
          rw [List.take_length] at H
          clear hlt
          have hv : Hid (fewG T S = true) := Lib.hid (by unfold fewG; rw [HT.out, H.out]; simp [h1, h2])
          go_wp2_with fail
          go_ret
          exact ⟨ret_bool hv.out.symm, hB⟩
end Go.Proofs.Ytgoggooeipcgpaa
