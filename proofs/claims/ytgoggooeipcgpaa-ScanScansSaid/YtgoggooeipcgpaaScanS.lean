/-
  Walks of chapter 17: a token's text, the scanner's place, how many it skipped.
-/
import Derived.Test.YtgoggooeipcgpaaScanR
namespace Go.Proofs.Ytgoggooeipcgpaa
open Go.RowKit
set_option linter.unusedVariables false

set_option maxRecDepth 100000 in
theorem at_any (g : Nat) (ta : Option Addr) (T : List Pl.Pt) (tc : Nat) (sa : Option Addr) (S : List Pl.Pt) (sc : Nat) (x : ByteArray) (i k : Nat) (w : World) (hg : ScB w g ta T tc sa S sc x i k) :
    Calls Try.prog 33 #[.pointer (some ⟨g, 0, none⟩)] w fun e w' => e = .returned (.int .i64 (i : Nat)) ∧ Below w.heap.size w w' := by
  obtain ⟨c0, c1, c5, c6, c7, z6, z7⟩ := hg.cells
  go_enter Try.func33, Try.ntmps33
  go_wp2_with fail
  go_ret
  exact ⟨rfl, .refl _ _⟩

set_option maxRecDepth 100000 in
theorem skipped_any (g : Nat) (ta : Option Addr) (T : List Pl.Pt) (tc : Nat) (sa : Option Addr) (S : List Pl.Pt) (sc : Nat) (x : ByteArray) (i k : Nat) (w : World) (hg : ScB w g ta T tc sa S sc x i k) :
    Calls Try.prog 32 #[.pointer (some ⟨g, 0, none⟩)] w fun e w' => e = .returned (.int .i64 (k : Nat)) ∧ Below w.heap.size w w' := by
  obtain ⟨c0, c1, c5, c6, c7, z6, z7⟩ := hg.cells
  go_enter Try.func32, Try.ntmps32
  go_wp2_with fail
  go_ret
  exact ⟨rfl, .refl _ _⟩

set_option maxRecDepth 100000 in
set_option maxHeartbeats 1600000 in
theorem text_any (s : ByteArray) (t f u : Int) (w : World) (hs : s.size ≤ maxLen) :
    Calls Try.prog 34 #[.string s, .agg #[.int .i64 t, .int .i64 f, .int .i64 u]] w
      fun e w' => e = .returned (.string (if f < 0 ∨ u < f ∨ (s.size : Int) < u then ⟨#[]⟩ else s.extract f.toNat u.toNat)) ∧ Below w.heap.size w w' := by
  go_enter Try.func34, Try.ntmps34
  go_wp2_with fail
  all_goals
    go_ret
    exact ⟨rfl, (Below.refl _ _).alloc (Nat.le_refl _) _⟩

theorem eqTok (a b c d e f : Int) (w : World) : (Op.equalIn 10000 48 (.agg #[.int .i64 a, .int .i64 b, .int .i64 c]) (.agg #[.int .i64 d, .int .i64 e, .int .i64 f])).run Try.prog w = .ok (a == d && (b == e && c == f)) w := by
  have u3 := Try.underlying3
  have a3 := Try.isAgg3
  have z3 := Try.sizeOf3
  have hS : Try.prog.underlying 48 = some (.struct (Try.prog.fieldsOf 48)) := by kernel_rfl
  rw [show (10000 : Nat) = 9999 + 1 from rfl, run_equalIn_agg w 9999 48 _ _ hS (by kernel_rfl)]
  simp only [Program.fieldsOf, Try.underlying48]
  go_simp
  by_cases h1 : a = d <;> by_cases h2 : b = e <;> by_cases h3 : c = f <;> simp [h1, h2, h3]

set_option maxRecDepth 100000 in
set_option maxHeartbeats 1600000 in
theorem toks_same (l : List Pl.Tk) (a b : Option Addr) (ca cb : Nat) (w : World) (ha : SlK w a l) (hb : SlK w b l) (hl : l.length ≤ 1000) :
    Calls Try.prog 28 #[.slice a l.length ca, .slice b l.length cb] w fun e w' => e = .returned (.bool true) ∧ Below w.heap.size w w' := by
  have HA := Lib.hid ha
  have HB := Lib.hid hb
  clear ha hb
  go_enter Try.func28, Try.ntmps28
  go_wp2_with fail
  have L0 : Hid (Below w.heap.size w w) := Lib.hid (.refl _ _)
  go_loopw [5] (fun i wr => ∃ k : Nat, i = .int .i64 k ∧ k ≤ l.length ∧ Hid (Below w.heap.size w wr)) (fun i _ => l.length - (intOf i).toNat)
  case atStart => exact ⟨0, rfl, by omega, L0⟩
  case round =>
    clear L0
    obtain ⟨k, rfl, hk, L0⟩ := hrel
    by_cases hlt : k < l.length
    · obtain ⟨b1, o1, rfl, a0, a1, a2⟩ := (HA.out.below L0.out) k hlt
      obtain ⟨b2, o2, rfl, c0, c1, c2⟩ := (HB.out.below L0.out) k hlt
      have l1 : b1 < wr.heap.size := World.block_lt_of_cell? wr _ a0
      have l2 : b2 < wr.heap.size := World.block_lt_of_cell? wr _ c0
      generalize l[k] = t at a0 a1 a2 c0 c1 c2
      have f0 := fun z : Wd wr.heap.size wr => ((bcell z.ok).1 _ _ l1).trans a0
      have f1 := fun z : Wd wr.heap.size wr => ((bcell z.ok).1 _ _ l1).trans a1
      have f2 := fun z : Wd wr.heap.size wr => ((bcell z.ok).1 _ _ l1).trans a2
      have g0 := fun z : Wd wr.heap.size wr => ((bcell z.ok).1 _ _ l2).trans c0
      have g1 := fun z : Wd wr.heap.size wr => ((bcell z.ok).1 _ _ l2).trans c1
      have g2 := fun z : Wd wr.heap.size wr => ((bcell z.ok).1 _ _ l2).trans c2
      have h := fun w => eqTok (t.term : Nat) (t.fr : Nat) (t.to : Nat) (t.term : Nat) (t.fr : Nat) (t.to : Nat) w
      simp only [beq_self_eq_true, Bool.and_self] at h
      clear a0 a1 a2 c0 c1 c2
      go_wp2_with fail
      refine region_cls wr.heap.size (by kernel_rfl) (by kernel_rfl) ?_
      repeat (go_big_quiet_step (fail))
      refine wpQuiet_nil ?_
      intro z
      have L1 : Hid (Below w.heap.size w z.w) := Lib.hid (L0.out.trans (z.ok.mono L0.out.size))
      go_wp2_with fail
      go_roundw
      case rel => exact ⟨k + 1, by go_num, by omega, L1⟩
      case measure => simp [intOf]; omega
    · obtain rfl : k = l.length := by omega
      clear hlt
      go_wp2_with fail
      go_ret
      exact ⟨rfl, L0.out⟩
end Go.Proofs.Ytgoggooeipcgpaa
