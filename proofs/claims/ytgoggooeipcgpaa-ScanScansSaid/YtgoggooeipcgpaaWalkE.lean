/-
  Walks: the reference's Len.
-/
import Derived.Test.YtgoggooeipcgpaaWalkD
namespace Go.Proofs.Ytgoggooeipcgpaa
open Go.RowKit
set_option linter.unusedVariables false

set_option maxRecDepth 100000 in
set_option maxHeartbeats 400000 in
theorem rlen_out (t s x : ByteArray) (m : Bool) (i : Int) (w : World) (hx : x.size ≤ maxLen) (hi : i < 0 ∨ (x.size : Int) ≤ i) :
    Calls Try.prog 17 #[.agg #[.string t, .string s, .bool m], .string x, .int .i64 i] w fun e w' => e = .returned (.int .i64 (Pl.len t.data.toList s.data.toList m x.data.toList i : Nat)) ∧ Below w.heap.size w w' := by
  unfold maxLen at hx
  have hz : Hid (Pl.len t.data.toList s.data.toList m x.data.toList i = 0) := by
    rcases hi with hi | hi
    · exact Pl.len_neg _ _ _ _ _ hi
    · exact Pl.len_out _ _ _ _ _ (by simpa using hi)
  by_cases h : i < 0
  · have h' : decide (i < 0) = true := by simpa using h
    go_enter Try.func17, Try.ntmps17
    go_wp2
    go_ret
    exact ⟨by rw [hz.out]; rfl, (Below.refl _ _).alloc (Nat.le_refl _) _⟩
  · have h' : decide (i < 0) = false := by simpa using h
    have h2 : (x.size : Int) ≤ i := by omega
    have h2' : decide ((x.size : Int) ≤ i) = true := by simpa using h2
    go_enter Try.func17, Try.ntmps17
    go_wp2
    go_ret
    exact ⟨by rw [hz.out]; rfl, (Below.refl _ _).alloc (Nat.le_refl _) _⟩

set_option maxRecDepth 100000 in
set_option maxHeartbeats 400000 in
theorem rlen_text (t s x : ByteArray) (m : Bool) (i : Nat) (w : World) (hx : x.size ≤ maxLen) (ht : t.size ≤ maxLen) (hi : i < x.size) (hne : t.data.toList ≠ []) :
    Calls Try.prog 17 #[.agg #[.string t, .string s, .bool m], .string x, .int .i64 (i : Int)] w fun e w' => e = .returned (.int .i64 (Pl.len t.data.toList s.data.toList m x.data.toList (i : Int) : Nat)) ∧ Below w.heap.size w w' := by
  have hv := Lib.hid (len_text_val t s x m i hne)
  have hpre := Lib.hid (prefix_of (x.extract i x.size) t)
  unfold maxLen at hx ht
  have h1 : decide ((i : Int) < 0) = false := by simp
  have h2 : decide (x.size ≤ i) = false := by simp; omega
  have h3 : (0 : Int) ≤ (i : Int) := by omega
  have h4 : (i : Int) ≤ (x.size : Int) := by omega
  have h5 : 0 < t.size := by
    have h : 0 < t.data.toList.length := List.length_pos_iff.2 hne
    have e : t.data.toList.length = t.size := rfl
    omega
  have h6 : (0 : Int) < (t.size : Int) := by omega
  go_enter Try.func17, Try.ntmps17
  go_wp2_with fail
  generalize x.extract i x.size = y at hv hpre
  have hbox : ∀ z : Wd (w.heap.size + 1) (w.alloc (.cells #[.string t, .string s, .bool m] 23)), z.w.cell? ⟨w.heap.size, 0, none⟩ = some (.string t) := by
    intro z
    rw [(bcell z.ok).1 _ _ (by omega)]
    go_simp
  by_cases hty : t.size ≤ y.size
  · have g1 : decide (t.size ≤ y.size) = true := by simpa using hty
    have g2 : (0 : Int) ≤ (t.size : Int) := by omega
    have g3 : (t.size : Int) ≤ (y.size : Int) := by omega
    cases hp : pre t.data.toList y.data.toList
    · have hv2 := Lib.hid (hv.out.trans (by rw [hp]))
      have hp2 := hpre.out.trans hp
      clear hv hp hpre
      refine region_cls (w.heap.size + 1) (by kernel_rfl) (by kernel_rfl) ?_
      repeat (go_big_quiet_step (fail))
      refine wpQuiet_nil ?_
      intro z
      have hB : Below w.heap.size w z.w := ((Below.refl _ _).alloc (Nat.le_refl _) _).trans (z.ok.mono (by simp))
      clear hbox
      go_wp2_with fail
      go_ret
      exact ⟨ret_int (by rw [hv2.out]; rfl), hB⟩
    · have hv2 := Lib.hid (hv.out.trans (by rw [hp]))
      have hp2 := hpre.out.trans hp
      clear hv hp hpre
      refine region_cls (w.heap.size + 1) (by kernel_rfl) (by kernel_rfl) ?_
      repeat (go_big_quiet_step (fail))
      refine wpQuiet_nil ?_
      intro z
      have hB : Below w.heap.size w z.w := ((Below.refl _ _).alloc (Nat.le_refl _) _).trans (z.ok.mono (by simp))
      clear hbox
      go_wp2_with fail
      go_ret
      exact ⟨ret_int (by rw [hv2.out]; rfl), hB⟩
  · have g1 : decide (t.size ≤ y.size) = false := by simpa using hty
    have hp : pre t.data.toList y.data.toList = false := by
      rw [Bool.eq_false_iff]
      intro hh
      unfold pre at hh
      have := (List.isPrefixOf_iff_prefix.1 hh).length_le
      simp at this
      exact hty this
    have hv2 := Lib.hid (hv.out.trans (by rw [hp]))
    clear hv hp hpre
    refine region_cls (w.heap.size + 1) (by kernel_rfl) (by kernel_rfl) ?_
    repeat (go_big_quiet_step (fail))
    refine wpQuiet_nil ?_
    intro z
    have hB : Below w.heap.size w z.w := ((Below.refl _ _).alloc (Nat.le_refl _) _).trans (z.ok.mono (by simp))
    clear hbox
    go_wp2_with fail
    go_ret
    exact ⟨ret_int (by rw [hv2.out]; rfl), hB⟩

set_option maxRecDepth 100000 in
set_option maxHeartbeats 400000 in
theorem rlen_set (s x : ByteArray) (m : Bool) (i : Nat) (w : World) (hx : x.size ≤ maxLen) (hs : s.size ≤ maxLen) (hi : i < x.size) :
    Calls Try.prog 17 #[.agg #[.string ⟨#[]⟩, .string s, .bool m], .string x, .int .i64 (i : Int)] w fun e w' => e = .returned (.int .i64 (Pl.len [] s.data.toList m x.data.toList (i : Int) : Nat)) ∧ Below w.heap.size w w' := by
  have hv := Lib.hid (len_set_val ⟨#[]⟩ s x m i rfl)
  have hrl := Pl.run_le s.data.toList (x.data.toList.drop i)
  simp at hrl
  have hrun := fun k h hk => Pl.run_step s.data.toList (x.data.toList.drop i) k h hk
  have hy : (x.extract i x.size).data.toList = x.data.toList.drop i := Lib.extract_to_end _ _
  rw [← hy] at hv hrun hrl
  have hys : (x.extract i x.size).size = x.size - i := by rw [ByteArray.size_extract]; omega
  rw [← hys] at hrl
  clear hy
  unfold maxLen at hx
  have h1 : decide ((i : Int) < 0) = false := by simp
  have h2 : decide (x.size ≤ i) = false := by simp; omega
  have h3 : (0 : Int) ≤ (i : Int) := by omega
  have h4 : (i : Int) ≤ (x.size : Int) := by omega
  have h5 : (ByteArray.mk #[]).size = 0 := rfl
  have hyl : (x.extract i x.size).size ≤ 9223372036854775807 := by rw [hys]; omega
  clear hys
  go_enter Try.func17, Try.ntmps17
  go_wp2_with fail
  have hs0 : (w.alloc (.cells #[.string ⟨#[]⟩, .string s, .bool m] 23)).cell? ⟨w.heap.size, 1, none⟩ = some (.string s) := by go_simp
  have hm0 : (w.alloc (.cells #[.string ⟨#[]⟩, .string s, .bool m] 23)).cell? ⟨w.heap.size, 2, none⟩ = some (.bool m) := by go_simp
  have hB0 : Below w.heap.size w (w.alloc (.cells #[.string ⟨#[]⟩, .string s, .bool m] 23)) := (Below.refl _ _).alloc (Nat.le_refl _) _
  generalize x.extract i x.size = y at hv hrl hrun hyl ⊢
  generalize w.alloc (.cells #[.string ⟨#[]⟩, .string s, .bool m] 23) = W at hs0 hm0 hB0 ⊢
  generalize Pl.run s.data.toList y.data.toList = r at hv hrl hrun
  have Hrun := Lib.hid hrun
  clear hrun
  go_loopw [8] (fun n wr => ∃ k : Nat, n = .int .i64 k ∧ k ≤ r ∧ wr.cell? ⟨w.heap.size, 1, none⟩ = some (.string s) ∧ wr.cell? ⟨w.heap.size, 2, none⟩ = some (.bool m) ∧ Below w.heap.size w wr) (fun n _ => y.size - (intOf n).toNat)
  case atStart => exact ⟨0, rfl, Nat.zero_le _, hs0, hm0, hB0⟩
  case round =>
    obtain ⟨k, rfl, hk, gs, gm, gB⟩ := hrel
    clear hs0 hm0 hB0
    have hbox : ∀ z : Wd (w.heap.size + 1) wr, z.w.cell? ⟨w.heap.size, 1, none⟩ = some (.string s) := by
      intro z
      rw [(bcell z.ok).1 _ _ (by omega)]; exact gs
    by_cases hlt : k < y.size
    · have hr := Hrun.out k (by simpa using hlt) hk
      have hin := fun w => in_any s (y[k].toNat : Int) w (by unfold maxLen; exact hs)
      rw [Pl.has_toNat] at hin
      have hg : y.data.toList[k]'(by simpa using hlt) = y[k] := rfl
      rw [hg] at hr
      clear hg
      cases hh : Pl.mem s.data.toList y[k] with
      | true =>
        have hkr : k < r := by rw [hh] at hr; simpa using hr
        rw [hh] at hin
        have Hin := Lib.hid hin
        clear hh hr hin
        go_wp2_with fail
        refine region_cls (w.heap.size + 1) (by kernel_rfl) (by kernel_rfl) ?_
        repeat (go_big_quiet_step ((refine calls_cls_same _ (Hin.out _))))
        refine wpQuiet_nil ?_
        intro z
        have gs' := hbox z
        have gm' : z.w.cell? ⟨w.heap.size, 2, none⟩ = some (.bool m) := by rw [(bcell z.ok).1 _ _ (by omega)]; exact gm
        have hB : Below w.heap.size w z.w := gB.trans (z.ok.mono (by simp))
        clear hbox gs gm gB
        go_wp2_with fail
        go_roundw
        case rel => exact ⟨k + 1, by go_num, by omega, gs', gm', hB⟩
        case measure => simp [intOf]; omega
      | false =>
        have hkr : k = r := by rw [hh] at hr; simp at hr; omega
        have Hkr := Lib.hid hkr
        rw [hh] at hin
        have Hin := Lib.hid hin
        clear hh hr hin hkr
        go_wp2_with fail
        refine region_cls (w.heap.size + 1) (by kernel_rfl) (by kernel_rfl) ?_
        repeat (go_big_quiet_step ((refine calls_cls_same _ (Hin.out _))))
        refine wpQuiet_nil ?_
        intro z
        have gm' : z.w.cell? ⟨w.heap.size, 2, none⟩ = some (.bool m) := by rw [(bcell z.ok).1 _ _ (by omega)]; exact gm
        have hB : Below w.heap.size w z.w := gB.trans (z.ok.mono (by simp))
        clear hbox gs gm gB
        by_cases h1k : 1 < k
        · have d1 : decide (1 < k) = true := by simpa using h1k
          cases m with
          | false =>
            go_wp2_with fail
            go_ret
            refine ⟨ret_int ?_, hB⟩
            rw [hv.out]
            have h9 := Hkr.out
            simp; omega
          | true =>
            go_wp2_with fail
            go_ret
            refine ⟨ret_int ?_, hB⟩
            rw [hv.out]
            have h9 := Hkr.out
            simp; omega
        · have d1 : decide (1 < k) = false := by simpa using h1k
          go_wp2_with fail
          go_ret
          refine ⟨ret_int ?_, hB⟩
          rw [hv.out]
          have h9 := Hkr.out
          cases m <;> simp <;> omega
    · have hkr : k = r := by omega
      have Hkr := Lib.hid hkr
      clear hkr
      go_wp2_with fail
      refine region_cls (w.heap.size + 1) (by kernel_rfl) (by kernel_rfl) ?_
      repeat (go_big_quiet_step (fail))
      refine wpQuiet_nil ?_
      intro z
      have gm' : z.w.cell? ⟨w.heap.size, 2, none⟩ = some (.bool m) := by rw [(bcell z.ok).1 _ _ (by omega)]; exact gm
      have hB : Below w.heap.size w z.w := gB.trans (z.ok.mono (by simp))
      clear hbox gs gm gB
      by_cases h1k : 1 < k
      · have d1 : decide (1 < k) = true := by simpa using h1k
        cases m with
        | false =>
          go_wp2_with fail
          go_ret
          refine ⟨ret_int ?_, hB⟩
          rw [hv.out]
          have h9 := Hkr.out
          simp; omega
        | true =>
          go_wp2_with fail
          go_ret
          refine ⟨ret_int ?_, hB⟩
          rw [hv.out]
          have h9 := Hkr.out
          simp; omega
      · have d1 : decide (1 < k) = false := by simpa using h1k
        go_wp2_with fail
        go_ret
        refine ⟨ret_int ?_, hB⟩
        rw [hv.out]
        have h9 := Hkr.out
        cases m <;> simp <;> omega

/-- The reference's Len, of whatever it is given: it is pattern.Len. -/
theorem rlen_any (t s x : ByteArray) (m : Bool) (i : Int) (w : World) (ht : t.size ≤ maxLen) (hs : s.size ≤ maxLen) (hx : x.size ≤ maxLen) :
    Calls Try.prog 17 #[.agg #[.string t, .string s, .bool m], .string x, .int .i64 i] w fun e w' => e = .returned (.int .i64 (Pl.len t.data.toList s.data.toList m x.data.toList i : Nat)) ∧ Below w.heap.size w w' := by
  by_cases h : i < 0 ∨ (x.size : Int) ≤ i
  · exact rlen_out t s x m i w hx h
  · obtain ⟨n, rfl⟩ := Int.eq_ofNat_of_zero_le (show 0 ≤ i by omega)
    by_cases he : t.data.toList = []
    · obtain rfl : t = ⟨#[]⟩ := by
        cases t with
        | mk d => simp at he; subst he; rfl
      exact rlen_set s x m n w hx hs (by omega)
    · exact rlen_text t s x m n w hx ht (by omega) he
end Go.Proofs.Ytgoggooeipcgpaa
