/-
  The walk of the law PatternTells: it answers true, and turns nothing that was there.
-/
import Derived.Test.YtgoggooeipcgpaaWalkJ
namespace Go.Proofs.Ytgoggooeipcgpaa
open Go.RowKit
set_option linter.unusedVariables false

theorem Boxed2.cls {w : World} {b : Nat} {t s : ByteArray} {m : Bool} {t' s' : ByteArray} {m' : Bool} (h : Boxed2 w b t s m t' s' m') (z : Wd (b + 2) w) : Boxed2 z.w b t s m t' s' m' := by
  obtain ⟨h1, h2, h3, h4, h5, h6⟩ := h
  have q := (bcell z.ok).1
  exact ⟨(q _ _ (by omega)).trans h1, (q _ _ (by omega)).trans h2, (q _ _ (by omega)).trans h3, (q _ _ (by omega)).trans h4, (q _ _ (by omega)).trans h5, (q _ _ (by omega)).trans h6⟩

set_option maxRecDepth 100000 in
set_option maxHeartbeats 1600000 in
theorem tells_any (t s t' s' x : ByteArray) (m m' : Bool) (at' : Int) (w : World) (ht : t.size ≤ maxLen) (hs : s.size ≤ maxLen) (ht' : t'.size ≤ maxLen) (hs' : s'.size ≤ maxLen) (hx : x.size ≤ maxLen) :
    Calls Try.prog 3 #[.agg #[.string t, .string s, .bool m], .agg #[.string t', .string s', .bool m'], .string x, .int .i64 at'] w fun e w' => e = .returned (.bool true) ∧ Below w.heap.size w w' := by
  have hx0 := hx
  unfold maxLen at hx0
  go_enter Try.func3, Try.ntmps3
  go_wp2_with fail
  have B0 : Hid (Boxed2 ((w.alloc (.cells #[.string t, .string s, .bool m] 23)).alloc (.cells #[.string t', .string s', .bool m'] 23)) w.heap.size t s m t' s' m') := by
    refine Lib.hid ⟨?_, ?_, ?_, ?_, ?_, ?_⟩ <;> go_simp
  have L0 : Hid (Below w.heap.size w ((w.alloc (.cells #[.string t, .string s, .bool m] 23)).alloc (.cells #[.string t', .string s', .bool m'] 23))) := Lib.hid (((Below.refl _ _).alloc (Nat.le_refl _) _).alloc (by simp) _)
  have hz0 : w.heap.size + 2 ≤ ((w.alloc (.cells #[.string t, .string s, .bool m] 23)).alloc (.cells #[.string t', .string s', .bool m'] 23)).heap.size := by simp
  generalize (w.alloc (.cells #[.string t, .string s, .bool m] 23)).alloc (.cells #[.string t', .string s', .bool m'] 23) = W at B0 L0 hz0 ⊢
  refine (awake_any _).mono ?_
  rintro e w1 ⟨rfl, hb⟩
  have B1 := Lib.hid (B0.out.below hb hz0)
  have L1 := Lib.hid (L0.out.trans (hb.mono (by omega)))
  have hz1 : w.heap.size + 2 ≤ w1.heap.size := Nat.le_trans hz0 hb.size
  clear hb
  obtain ⟨c0, c1, c2, d0, d1, d2⟩ := B1.out
  go_wp2_with fail
  refine (few_any t s m _ ht hs).mono ?_
  rintro e w2 ⟨rfl, hb⟩
  have B2 := Lib.hid (B1.out.below hb hz1)
  have L2 := Lib.hid (L1.out.trans (hb.mono (by omega)))
  have hz2 : w.heap.size + 2 ≤ w2.heap.size := Nat.le_trans hz1 hb.size
  clear c0 c1 c2 d0 d1 d2 hb
  obtain ⟨c0, c1, c2, d0, d1, d2⟩ := B2.out
  go_wp2_with fail
  refine (few_any t' s' m' _ ht' hs').mono ?_
  rintro e w3 ⟨rfl, hb⟩
  have B3 := Lib.hid (B2.out.below hb hz2)
  have L3 := Lib.hid (L2.out.trans (hb.mono (by omega)))
  have hz3 : w.heap.size + 2 ≤ w3.heap.size := Nat.le_trans hz2 hb.size
  clear c0 c1 c2 d0 d1 d2 hb
  cases fewB t s with
  | false =>
    go_wp2_with fail
    go_ret
    exact ⟨rfl, L3.out⟩
  | true =>
  cases fewB t' s' with
  | false =>
    go_wp2_with fail
    go_ret
    exact ⟨rfl, L3.out⟩
  | true =>
  by_cases h100 : x.size ≤ 100
  case neg =>
    have h1' : decide (100 < (x.size : Int)) = true := by simp; omega
    go_wp2_with fail
    go_ret
    exact ⟨rfl, L3.out⟩
  have h1' : decide (100 < (x.size : Int)) = false := by simp; omega
  go_wp2_with fail
  go_loopw [12] (fun i wr => ∃ q : Int, i = .int .i64 q ∧ -1 ≤ q ∧ q ≤ x.size + 1 ∧ Hid (Boxed2 wr w.heap.size t s m t' s' m') ∧ Hid (Below w.heap.size w wr) ∧ w.heap.size + 2 ≤ wr.heap.size) (fun i _ => (x.size + 1 - intOf i).toNat)
  case atStart => exact ⟨-1, rfl, by omega, by omega, B3, L3, hz3⟩
  case round =>
    obtain ⟨q, rfl, hq1, hq2, B, L, hz⟩ := hrel
    clear B0 B1 B2 B3 L0 L1 L2 L3 hz0 hz1 hz2 hz3
    have e0 := fun z : Wd (w.heap.size + 2) wr => (B.out.cls z).1
    have e1 := fun z : Wd (w.heap.size + 2) wr => (B.out.cls z).2.1
    have e2 := fun z : Wd (w.heap.size + 2) wr => (B.out.cls z).2.2.1
    have g0 := fun z : Wd (w.heap.size + 2) wr => (B.out.cls z).2.2.2.1
    have g1 := fun z : Wd (w.heap.size + 2) wr => (B.out.cls z).2.2.2.2.1
    have g2 := fun z : Wd (w.heap.size + 2) wr => (B.out.cls z).2.2.2.2.2
    by_cases hq : q ≤ x.size
    · go_wp2_with fail
      refine region_cls (w.heap.size + 2) (by kernel_rfl) (by kernel_rfl) ?_
      repeat (go_big_quiet_step (first | (go_at_call 16; exact calls_cls _ hz (len_any t s x m q _ ht hs hx)) | (go_at_call 17; exact calls_cls _ hz (rlen_any t s x m q _ ht hs hx))))
      refine wpQuiet_nil ?_
      intro z
      have Bz := Lib.hid (B.out.cls z)
      have Lz := Lib.hid (L.out.trans (z.ok.mono (by omega)))
      have hzz : w.heap.size + 2 ≤ z.w.heap.size := Nat.le_trans hz z.ok.size
      clear e0 e1 e2 g0 g1 g2
      go_wp2_with fail
      go_roundw
      case rel => exact ⟨q + 1, rfl, by omega, by omega, Bz, Lz, hzz⟩
      case measure => simp [intOf]; omega
    · go_wp2_with fail
      refine region_cls (w.heap.size + 2) (by kernel_rfl) (by kernel_rfl) ?_
      repeat (go_big_quiet_step (first | (go_at_call 16; exact calls_cls _ hz (len_any t s x m at' _ ht hs hx)) | (go_at_call 17; exact calls_cls _ hz (rlen_any t s x m at' _ ht hs hx)) |
        (go_at_call 18; exact calls_cls _ hz (is_any t s x m _ ht hs hx)) | (go_at_call 19; exact calls_cls _ hz (ris_any t s x m _ ht hs hx)) |
        (go_at_call 20; exact calls_cls _ hz (meets_any t s t' s' m m' _ ht hs ht' hs')) | (go_at_call 21; exact calls_cls _ hz (rmeets_any t s t' s' m m' _ ht hs ht' hs')) |
        (go_at_call 22; exact calls_cls _ hz (example_any t s m _ hs)) | (go_at_call 23; exact calls_cls _ hz (rexample_any t s m _ hs))))
      refine wpQuiet_nil ?_
      intro z
      have Lz := Lib.hid (L.out.trans (z.ok.mono (by omega)))
      clear e0 e1 e2 g0 g1 g2
      go_wp2_with fail
      go_ret
      exact ⟨rfl, Lz.out⟩
end Go.Proofs.Ytgoggooeipcgpaa
