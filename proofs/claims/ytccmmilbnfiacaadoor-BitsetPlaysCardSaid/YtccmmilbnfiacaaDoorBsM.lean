/-
  Walks of New, Width and Of.
-/
import Derived.Test.YtccmmilbnfiacaaDoorBsL
import Derived.Laws.NewBlocks
import Derived.Laws.MakeOwn
import Derived.Laws.Rows
namespace Go.Proofs.YtccmmilbnfiacaaDoor
open Go.RowKit
set_option linter.unusedVariables false

/-- Words of nothing. -/
def noWords (c : Nat) : Array Value := madeCells #[.int .u64 0] c
theorem noWords_get {c k : Nat} (h : k < c) : (noWords c)[k]? = some (.int .u64 0) := by
  unfold noWords madeCells
  simp [h, Nat.mod_one]
theorem noWords_size (c : Nat) : (noWords c).size = c := by simp [noWords, madeCells]
theorem info54 : (Tryd.prog.info? 54).map (fun i => (i.zero, i.size, i.bytes)) = some (some (.int .u64 0), 1, 8) := by kernel_rfl

theorem make_words (z : Int) (c : Nat) (hz : z = c) (hc : c ≤ 16) (w : World) :
    (Instr.makeSlice 52 (.int .i64 z) (.int .i64 z)).run Tryd.prog w = .ok (.slice (some ⟨w.heap.size, 0, none⟩) c c) (w.alloc (.cells (noWords c) 54)) := by
  obtain ⟨i0, hi, hz0, hz1, hz2⟩ := info_parts info54
  have hr := run_make (P := Tryd.prog) w 52 54 i0 (.int .u64 0) Tryd.underlying52 hi hz0 .i64 .i64 c c (by omega) (Int.le_refl _) (by rw [hz2]; omega) (by omega)
  subst hz
  rw [hr, hz1]
  simp [noWords, Value.cells]

/-- The set that a New leaves. -/
theorem new_set (w : World) (m : Nat) (hm : m ≤ 1000) (v : Value) (hv : v = .int .i64 m) :
    SetAt ((w.alloc (.cells (noWords (Bs.nw m)) 54)).alloc (.cells #[v, .slice (some ⟨w.heap.size, 0, none⟩) (Bs.nw m : Nat) (Bs.nw m : Nat)] 56)) (w.heap.size + 1) w.heap.size m 0 := by
  subst hv
  refine ⟨⟨Bs.nw m, ?_⟩, ⟨noWords (Bs.nw m), ?_, by rw [noWords_size]; exact Nat.le_refl _, fun k hk => by rw [noWords_get hk, Bs.word_zero]; rfl⟩, by omega, hm, Nat.two_pow_pos m⟩
  · have := heap_alloc_new (w.alloc (.cells (noWords (Bs.nw m)) 54)) (.cells #[.int .i64 m, .slice (some ⟨w.heap.size, 0, none⟩) (Bs.nw m : Nat) (Bs.nw m : Nat)] 56)
    rw [World.size_alloc] at this
    exact this
  · exact (Below.heap_alloc _ _ _ (by simp)).trans (heap_alloc_new w _)

def NewPost (w : World) (n : Nat) (e : Ending) (w' : World) : Prop :=
  ∃ p b, e = .returned (.pointer (some ⟨p, 0, none⟩)) ∧ w.heap.size ≤ p ∧ w.heap.size ≤ b ∧ SetAt w' p b n 0 ∧ Below w.heap.size w w'

set_option maxHeartbeats 1000000 in
theorem new_any (n : Int) (w : World) :
    Calls Tryd.prog 26 #[.int .i64 n] w (NewPost w (Bs.wid n)) := by
  have fin : ∀ (m : Nat) (v : Value), m ≤ 1000 → v = .int .i64 m → Hid (∀ e, e = .returned (.pointer (some ⟨w.heap.size + 1, 0, none⟩)) → NewPost w m e ((w.alloc (.cells (noWords (Bs.nw m)) 54)).alloc (.cells #[v, .slice (some ⟨w.heap.size, 0, none⟩) (Bs.nw m : Nat) (Bs.nw m : Nat)] 56))) :=
    fun m v hm hv => Lib.hid fun e he => ⟨_, _, he, by omega, Nat.le_refl _, new_set w m hm v hv, ((Below.refl _ _).alloc (Nat.le_refl _) _).alloc (by simp) _⟩
  by_cases h0 : n ≤ 0
  · have f := fin 0 (.int .i64 0) (by omega) rfl
    have e0 : Bs.wid n = 0 := by unfold Bs.wid; omega
    rw [e0]
    have hmk := make_words 0 0 rfl (by omega)
    have h1 : n ≤ 1000 := by omega
    clear fin e0
    go_enter Tryd.func26, Tryd.ntmps26
    go_wp2
    go_ret
    exact f.out _ rfl
  by_cases h1 : n ≤ 1000
  · obtain ⟨m, rfl⟩ : ∃ m : Nat, n = m := ⟨n.toNat, by omega⟩
    have f := fin m (.int .i64 m) (by omega) rfl
    have e0 : Bs.wid (m : Int) = m := by unfold Bs.wid; omega
    rw [e0]
    have hmk := make_words (((m : Int) + 64 - 1) / 64) (Bs.nw m) (by unfold Bs.nw; omega) (Bs.nw_le (by omega))
    have hm : 0 < m := by omega
    have hm1 : m ≤ 1000 := by omega
    clear fin e0 h0 h1
    go_enter Tryd.func26, Tryd.ntmps26
    go_wp2
    go_ret
    exact f.out _ rfl
  · have f := fin 1000 (.int .i64 1000) (by omega) rfl
    have e0 : Bs.wid n = 1000 := by unfold Bs.wid; omega
    rw [e0]
    have hmk := make_words 16 16 rfl (by omega)
    have h2 : 1000 < n := by omega
    clear fin e0 h0 h1
    go_enter Tryd.func26, Tryd.ntmps26
    go_wp2
    go_ret
    exact f.out _ rfl

theorem width_any (p b n X : Nat) (w : World) (h : SetAt w p b n X) : Calls Tryd.prog 19 #[.pointer (some ⟨p, 0, none⟩)] w fun e w' => e = .returned (.int .i64 (n : Nat)) ∧ w = w' := by
  obtain ⟨c0, _, _, _⟩ := h.cells
  clear h
  go_enter Tryd.func19, Tryd.ntmps19
  go_wp2
  go_ret
  exact ⟨rfl, rfl⟩

/-- A slice of numbers. -/
def Ints (w : World) (a : Option Addr) (l : List Int) : Prop := ∀ i (h : i < l.length), ∃ b off, a = some ⟨b, off, none⟩ ∧ w.cell? ⟨b, off + i, none⟩ = some (.int .i64 l[i])
theorem Ints.below {w w' : World} {a : Option Addr} {l : List Int} (h : Ints w a l) (k : Below w.heap.size w w') : Ints w' a l := by
  intro i hi
  obtain ⟨b, off, rfl, hc⟩ := h i hi
  have hlt : b < w.heap.size := World.block_lt_of_cell? w _ hc
  exact ⟨b, off, rfl, ((bcell k).1 _ _ hlt).trans hc⟩

/-- What a call that makes a set leaves. -/
def SetPost (w : World) (n X : Nat) (e : Ending) (w' : World) : Prop :=
  ∃ p b, e = .returned (.pointer (some ⟨p, 0, none⟩)) ∧ w.heap.size ≤ p ∧ w.heap.size ≤ b ∧ SetAt w' p b n X ∧ Below w.heap.size w w'

set_option maxRecDepth 100000 in
set_option maxHeartbeats 1000000 in
theorem of_any (n : Int) (a : Option Addr) (l : List Int) (c : Nat) (w : World) (hl : Ints w a l) (hn : l.length ≤ maxLen) :
    Calls Tryd.prog 10 #[.int .i64 n, .slice a l.length c] w (SetPost w (Bs.wid n) (Bs.of (Bs.wid n) l)) := by
  unfold maxLen at hn
  have Hl := Lib.hid hl
  clear hl
  go_enter Tryd.func10, Tryd.ntmps10
  go_wp2_with fail
  refine (new_any n w).mono ?_
  rintro e w1 ⟨p, b, rfl, hp, hb, hs, hB⟩
  have H1 := Lib.hid hs
  have L1 := Lib.hid hB
  clear hs hB
  go_wp2_with fail
  go_loopw [12] (fun i wr => ∃ k : Nat, i = .int .i64 k ∧ k ≤ l.length ∧ Hid (SetAt wr p b (Bs.wid n) (Bs.adds (Bs.wid n) 0 (l.take k))) ∧ Hid (Below w.heap.size w wr)) (fun i _ => l.length - (intOf i).toNat)
  case atStart => exact ⟨0, rfl, by omega, by simpa [Bs.adds] using H1, L1⟩
  case round =>
    obtain ⟨k, rfl, hk, S, L⟩ := hrel
    by_cases hlt : k < l.length
    · obtain ⟨g, off, rfl, hc⟩ := (Hl.out.below L.out) k hlt
      go_wp2_with fail
      refine (add_any p b _ _ l[k] _ S.out).mono ?_
      rintro e w2 ⟨rfl, hs, hu⟩
      have L2 := Lib.hid (L.out.trans (hu.below hb L.out.size))
      have S2 : Hid (SetAt w2 p b (Bs.wid n) (Bs.adds (Bs.wid n) 0 (l.take (k + 1)))) := by
        refine Lib.hid ?_
        rw [List.take_succ_eq_append_getElem hlt, Bs.adds_snoc]
        exact hs
      clear hs hu S L hc
      go_wp2_with fail
      go_roundw
      case rel => exact ⟨k + 1, by go_num, by omega, S2, L2⟩
      case measure => simp [intOf]; omega
    · obtain rfl : k = l.length := by omega
      rw [List.take_length] at S
      clear hlt
      go_wp2_with fail
      go_ret
      exact ⟨p, b, rfl, hp, hb, S.out, L.out⟩
end Go.Proofs.YtccmmilbnfiacaaDoor
