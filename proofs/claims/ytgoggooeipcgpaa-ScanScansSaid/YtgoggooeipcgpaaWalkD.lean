/-
  Walks: pattern.Len.
-/
import Derived.Test.YtgoggooeipcgpaaWalkC
import Derived.Lib.IndexBytes
namespace Go.Proofs.Ytgoggooeipcgpaa
open Go.RowKit
set_option linter.unusedVariables false

set_option maxHeartbeats 400000 in
theorem len_out (t s x : ByteArray) (m : Bool) (i : Int) (w : World) (hx : x.size ≤ maxLen) (hi : i < 0 ∨ (x.size : Int) ≤ i) :
    Calls Try.prog 16 #[.agg #[.string t, .string s, .bool m], .string x, .int .i64 i] w fun e w' => e = .returned (.int .i64 (Pl.len t.data.toList s.data.toList m x.data.toList i : Nat)) ∧ Below w.heap.size w w' := by
  unfold maxLen at hx
  have hz : Hid (Pl.len t.data.toList s.data.toList m x.data.toList i = 0) := by
    rcases hi with hi | hi
    · exact Pl.len_neg _ _ _ _ _ hi
    · exact Pl.len_out _ _ _ _ _ (by simpa using hi)
  by_cases h : i < 0
  · have h' : decide (i < 0) = true := by simpa using h
    go_enter Try.func16, Try.ntmps16
    go_wp2
    go_ret
    exact ⟨by rw [hz.out]; rfl, (Below.refl _ _).alloc (Nat.le_refl _) _⟩
  · have h' : decide (i < 0) = false := by simpa using h
    have h2 : (x.size : Int) ≤ i := by omega
    have h2' : decide ((x.size : Int) ≤ i) = true := by simpa using h2
    go_enter Try.func16, Try.ntmps16
    go_wp2
    go_ret
    exact ⟨by rw [hz.out]; rfl, (Below.refl _ _).alloc (Nat.le_refl _) _⟩

theorem len_text_val (t s x : ByteArray) (m : Bool) (i : Nat) (hne : t.data.toList ≠ []) :
    Pl.len t.data.toList s.data.toList m x.data.toList (i : Int) = if pre t.data.toList (x.extract i x.size).data.toList = true then t.size else 0 := by
  have ht : t.data.toList.isEmpty = false := by cases hh : t.data.toList <;> simp_all
  rw [Lib.extract_to_end]
  unfold Pl.len Pl.lenc pre
  rw [if_neg (by omega), ht, Int.toNat_natCast]
  simp only [Bool.false_eq_true, if_false]
  congr 1

set_option maxHeartbeats 400000 in
theorem len_text (t s x : ByteArray) (m : Bool) (i : Nat) (w : World) (hx : x.size ≤ maxLen) (ht : t.size ≤ maxLen) (hi : i < x.size) (hne : t.data.toList ≠ []) :
    Calls Try.prog 16 #[.agg #[.string t, .string s, .bool m], .string x, .int .i64 (i : Int)] w fun e w' => e = .returned (.int .i64 (Pl.len t.data.toList s.data.toList m x.data.toList (i : Int) : Nat)) ∧ Below w.heap.size w w' := by
  unfold maxLen at hx ht
  have h1 : decide ((i : Int) < 0) = false := by simp
  have h2 : decide (x.size ≤ i) = false := by simp; omega
  have h3 : (0 : Int) ≤ (i : Int) := by omega
  have h4 : (i : Int) ≤ (x.size : Int) := by omega
  have hne' : t.toList.isEmpty = false := by rw [ByteArray.toList_eq]; cases hh : t.data.toList <;> simp_all
  have hsl : (x.extract i x.size).size ≤ maxLen := by rw [ByteArray.size_extract]; unfold maxLen; omega
  have hbox : ∀ y : Wd (w.heap.size + 1) (w.alloc (.cells #[.string t, .string s, .bool m] 23)), y.w.cell? ⟨w.heap.size, 0, none⟩ = some (.string t) := by
    intro y
    rw [(bcell y.ok).1 _ _ (by omega)]
    go_simp
  go_enter Try.func16, Try.ntmps16
  go_wp2_with fail
  refine region_cls (w.heap.size + 1) (by kernel_rfl) (by kernel_rfl) ?_
  repeat (go_big_quiet_step ((refine calls_cls_same _ (hasPrefix_any _ _ _ hsl ht))))
  refine wpQuiet_nil ?_
  intro y
  have hB : Below w.heap.size w y.w := ((Below.refl _ _).alloc (Nat.le_refl _) _).trans (y.ok.mono (by simp))
  have hy := hbox y
  clear hbox
  have hv := Lib.hid (len_text_val t s x m i hne)
  cases hp : pre t.data.toList (x.extract i x.size).data.toList
  · have hv2 := Lib.hid (hv.out.trans (by rw [hp]))
    clear hv
    go_wp2_with fail
    go_ret
    exact ⟨ret_int (by rw [hv2.out]; rfl), hB⟩
  · have hv2 := Lib.hid (hv.out.trans (by rw [hp]))
    clear hv
    go_wp2_with fail
    go_ret
    exact ⟨ret_int (by rw [hv2.out]; rfl), hB⟩

/-- the set's bytes from a place on, as far as they go: the loop of pattern.Len. -/
theorem len_set_val (t s x : ByteArray) (m : Bool) (i : Nat) (hne : t.data.toList = []) :
    Pl.len t.data.toList s.data.toList m x.data.toList (i : Int) = if m = true then Pl.run s.data.toList (x.data.toList.drop i) else min 1 (Pl.run s.data.toList (x.data.toList.drop i)) := by
  unfold Pl.len Pl.lenc
  rw [if_neg (by omega), hne, Int.toNat_natCast]
  rfl

theorem run_at (s x : ByteArray) (i k : Nat) (h : i + k < x.size) (hk : k ≤ Pl.run s.data.toList (x.data.toList.drop i)) :
    (Pl.has s.data.toList (x[i + k].toNat : Int) = true ↔ k < Pl.run s.data.toList (x.data.toList.drop i)) := by
  have := Pl.run_step s.data.toList (x.data.toList.drop i) k (by simp; omega) hk
  rw [Pl.has_toNat, ← this, List.getElem_drop]
  rfl

set_option maxRecDepth 100000 in
set_option maxHeartbeats 400000 in
theorem len_set (t s x : ByteArray) (m : Bool) (i : Nat) (w : World) (hx : x.size ≤ maxLen) (hs : s.size ≤ maxLen) (hi : i < x.size) (hne : t.data.toList = []) :
    Calls Try.prog 16 #[.agg #[.string t, .string s, .bool m], .string x, .int .i64 (i : Int)] w fun e w' => e = .returned (.int .i64 (Pl.len t.data.toList s.data.toList m x.data.toList (i : Int) : Nat)) ∧ Below w.heap.size w w' := by
  have hv := Lib.hid (len_set_val t s x m i hne)
  have hrl := Pl.run_le s.data.toList (x.data.toList.drop i)
  simp at hrl
  have hrun := fun k h hk => run_at s x i k h hk
  generalize Pl.run s.data.toList (x.data.toList.drop i) = r at hv hrun hrl
  unfold maxLen at hx
  have h1 : decide ((i : Int) < 0) = false := by simp
  have h2 : decide (x.size ≤ i) = false := by simp; omega
  have hne' : t.toList.isEmpty = true := by rw [ByteArray.toList_eq, hne]; rfl
  clear hne
  go_enter Try.func16, Try.ntmps16
  go_wp2_with (first | (go_at_call 36; refine (of_any _ _ hs).mono ?_; rintro e w1 ⟨rfl, hb⟩) | (with_reducible refine list_alloc_row rfl 64 rfl noneA zero64 ?_) | (refine list_store_row rfl 64 _ _ rfl w1.heap.size rfl _ rfl noneA 64 (heap_alloc_new _ _) (by rw [setA_size, noneA_size]) (by rw [size64, setA_size]) (setA_one _) ?_))
  obtain ⟨W, hW⟩ : ∃ W, W = (w1.alloc (.cells noneA 64)).setRow w1.heap.size (setA s.data.toList) := ⟨_, rfl⟩
  rw [← hW]
  have hsz : w.heap.size < w1.heap.size := by have := hb.size; simp at this; omega
  have hmany : W.cell? ⟨w.heap.size, 2, none⟩ = some (.bool m) := by
    rw [hW, cell_setRow_other _ _ _ _ (by simp; omega), World.cell?_alloc_past _ _ _ hsz, (bcell hb).1 _ _ (by simp)]
    go_simp
  have hin : ∀ c : UInt8, W.cell? ⟨w1.heap.size, c.toNat, none⟩ = some (.bool (Pl.has s.data.toList (c.toNat : Nat))) := by
    intro c
    rw [hW, cell_setRow_same _ _ _ _ _ _ _ (heap_alloc_new _ _)]
    exact setA_get _ _ c.toNat_lt
  have hB : Below w.heap.size w W := by
    rw [hW]
    refine (((Below.refl _ _).alloc (Nat.le_refl _) _).trans (hb.mono (by simp))).trans ?_
    exact ((Below.refl _ _).alloc (by omega) _).trans ⟨rfl, rfl, rfl, by simp, fun i hi => setRow_other _ _ _ _ (by omega)⟩
  clear hW hb hs
  go_loop [8] (fun n => ∃ k : Nat, n = .int .i64 k ∧ k ≤ r ∧ (m = false → k ≤ 1)) (fun n => x.size - (intOf n).toNat)
  case atStart => exact ⟨0, rfl, Nat.zero_le _, fun _ => Nat.zero_le _⟩
  case round =>
    obtain ⟨k, rfl, hk, hm⟩ := hrel
    have Hm := Lib.hid hm
    have Hrun := Lib.hid hrun
    have Hin := Lib.hid hin
    clear hm hrun hin
    by_cases hlt : i + k < x.size
    · have hc := Hin.out x[i + k]
      have h256 : (x[i + k].toNat : Int) < 256 := by have := x[i + k].toNat_lt; omega
      have hr := Hrun.out k hlt hk
      cases hh : Pl.has s.data.toList (x[i + k].toNat : Int) with
      | false =>
        have hkr : k = r := by rw [hh] at hr; simp at hr; omega
        have Hkr := Lib.hid hkr
        rw [hh] at hc
        clear hh hr hkr
        go_wp2
        go_ret
        refine ⟨ret_int ?_, hB⟩
        rw [hv.out]
        have h1 := Hkr.out
        cases m
        · have := Hm.out rfl; simp; omega
        · simp; omega
      | true =>
        have hkr : k < r := by rw [hh] at hr; simpa using hr
        rw [hh] at hc
        clear hh hr
        by_cases hk0 : k = 0
        · subst hk0
          simp only [Nat.add_zero] at hc h256 hlt
          go_wp2
          go_round
          case rel => exact ⟨1, by go_num, by omega, fun _ => Nat.le_refl _⟩
          case measure => simp [intOf]; omega
        · have hk0' : ((k : Int) == 0) = false := by simp; omega
          cases m with
          | true =>
            go_wp2
            go_round
            case rel => exact ⟨k + 1, by go_num, by omega, fun h => by cases h⟩
            case measure => simp [intOf]; omega
          | false =>
            go_wp2
            go_ret
            refine ⟨ret_int ?_, hB⟩
            rw [hv.out]
            have := Hm.out trivial
            simp; omega
    · have hkr : k = r := by omega
      have Hkr := Lib.hid hkr
      clear hkr
      go_wp2
      go_ret
      refine ⟨ret_int ?_, hB⟩
      rw [hv.out]
      have h1 := Hkr.out
      cases m
      · have := Hm.out rfl; simp; omega
      · simp; omega

/-- pattern.Len, of whatever it is given. -/
theorem len_any (t s x : ByteArray) (m : Bool) (i : Int) (w : World) (ht : t.size ≤ maxLen) (hs : s.size ≤ maxLen) (hx : x.size ≤ maxLen) :
    Calls Try.prog 16 #[.agg #[.string t, .string s, .bool m], .string x, .int .i64 i] w fun e w' => e = .returned (.int .i64 (Pl.len t.data.toList s.data.toList m x.data.toList i : Nat)) ∧ Below w.heap.size w w' := by
  by_cases h : i < 0 ∨ (x.size : Int) ≤ i
  · exact len_out t s x m i w hx h
  · obtain ⟨n, rfl⟩ := Int.eq_ofNat_of_zero_le (show 0 ≤ i by omega)
    by_cases he : t.data.toList = []
    · exact len_set t s x m n w hx hs (by omega) he
    · exact len_text t s x m n w hx ht (by omega) he
end Go.Proofs.Ytgoggooeipcgpaa
