/-
  The walk of the law PatternLongest: it answers true, and turns nothing that was there.
-/
import Derived.Test.YtgoggooeipcgpaaWalkJ
namespace Go.Proofs.Ytgoggooeipcgpaa
open Go.RowKit
set_option linter.unusedVariables false

/-- A pattern in its box. -/
def Boxed1 (w : World) (b : Nat) (t s : ByteArray) (m : Bool) : Prop :=
  w.cell? ⟨b, 0, none⟩ = some (.string t) ∧ w.cell? ⟨b, 1, none⟩ = some (.string s) ∧ w.cell? ⟨b, 2, none⟩ = some (.bool m)

theorem Boxed1.below {w w1 : World} {b : Nat} {t s : ByteArray} {m : Bool} (h : Boxed1 w b t s m) (hb : Below w.heap.size w w1) (hs : b + 1 ≤ w.heap.size) : Boxed1 w1 b t s m := by
  obtain ⟨h1, h2, h3⟩ := h
  have q := (bcell hb).1
  exact ⟨(q _ _ (by omega)).trans h1, (q _ _ (by omega)).trans h2, (q _ _ (by omega)).trans h3⟩

theorem Boxed1.cls {w : World} {b : Nat} {t s : ByteArray} {m : Bool} (h : Boxed1 w b t s m) (z : Wd (b + 1) w) : Boxed1 z.w b t s m := by
  obtain ⟨h1, h2, h3⟩ := h
  have q := (bcell z.ok).1
  exact ⟨(q _ _ (by omega)).trans h1, (q _ _ (by omega)).trans h2, (q _ _ (by omega)).trans h3⟩

theorem cut_is (t s x : ByteArray) (m : Bool) (i : Nat) (h : 0 < Pl.len t.data.toList s.data.toList m x.data.toList (i : Int)) :
    Pl.is t.data.toList s.data.toList m (x.extract i (i + Pl.len t.data.toList s.data.toList m x.data.toList (i : Int))).data.toList = true := by
  have e : Pl.len t.data.toList s.data.toList m x.data.toList (i : Int) = Pl.lenc t.data.toList s.data.toList m (x.data.toList.drop i) := by
    unfold Pl.len; rw [if_neg (by omega), Int.toNat_natCast]
  rw [e] at h ⊢
  rw [Lib.extract_data, Nat.add_sub_cancel_left]
  exact Pl.longest_is h

theorem cut_not (t s x : ByteArray) (m : Bool) (i k : Nat) (h : Pl.len t.data.toList s.data.toList m x.data.toList (i : Int) < k) (hk : i + k ≤ x.size) :
    Pl.is t.data.toList s.data.toList m (x.extract i (i + k)).data.toList = false := by
  have e : Pl.len t.data.toList s.data.toList m x.data.toList (i : Int) = Pl.lenc t.data.toList s.data.toList m (x.data.toList.drop i) := by
    unfold Pl.len; rw [if_neg (by omega), Int.toNat_natCast]
  rw [e] at h
  rw [Lib.extract_data, Nat.add_sub_cancel_left]
  refine Pl.longest_not h ?_
  have h8 : x.data.toList.length = x.size := rfl
  rw [List.length_drop, h8]
  omega

theorem len_room (t s x : ByteArray) (m : Bool) (i : Nat) (hi : i ≤ x.size) : i + Pl.len t.data.toList s.data.toList m x.data.toList (i : Int) ≤ x.size := by
  have e : Pl.len t.data.toList s.data.toList m x.data.toList (i : Int) = Pl.lenc t.data.toList s.data.toList m (x.data.toList.drop i) := by
    unfold Pl.len; rw [if_neg (by omega), Int.toNat_natCast]
  have h8 : x.data.toList.length = x.size := rfl
  have := Pl.lenc_le t.data.toList s.data.toList m (x.data.toList.drop i)
  rw [List.length_drop, h8] at this
  omega

set_option maxRecDepth 100000 in
set_option maxHeartbeats 1600000 in
theorem longest_any (t s x : ByteArray) (m : Bool) (at' : Int) (w : World) (ht : t.size ≤ maxLen) (hs : s.size ≤ maxLen) (hx : x.size ≤ maxLen) :
    Calls Try.prog 4 #[.agg #[.string t, .string s, .bool m], .string x, .int .i64 at'] w fun e w' => e = .returned (.bool true) ∧ Below w.heap.size w w' := by
  have hx0 := hx
  unfold maxLen at hx0
  go_enter Try.func4, Try.ntmps4
  go_wp2_with fail
  have B0 : Hid (Boxed1 (w.alloc (.cells #[.string t, .string s, .bool m] 23)) w.heap.size t s m) := by
    refine Lib.hid ⟨?_, ?_, ?_⟩ <;> go_simp
  have L0 : Hid (Below w.heap.size w (w.alloc (.cells #[.string t, .string s, .bool m] 23))) := Lib.hid ((Below.refl _ _).alloc (Nat.le_refl _) _)
  have hz0 : w.heap.size + 1 ≤ (w.alloc (.cells #[.string t, .string s, .bool m] 23)).heap.size := by simp
  generalize w.alloc (.cells #[.string t, .string s, .bool m] 23) = W at B0 L0 hz0 ⊢
  refine (awake_any _).mono ?_
  rintro e w1 ⟨rfl, hb⟩
  have B1 := Lib.hid (B0.out.below hb hz0)
  have L1 := Lib.hid (L0.out.trans (hb.mono (by omega)))
  have hz1 : w.heap.size + 1 ≤ w1.heap.size := Nat.le_trans hz0 hb.size
  clear hb
  obtain ⟨c0, c1, c2⟩ := B1.out
  go_wp2_with fail
  refine (few_any t s m _ ht hs).mono ?_
  rintro e w2 ⟨rfl, hb⟩
  have B2 := Lib.hid (B1.out.below hb hz1)
  have L2 := Lib.hid (L1.out.trans (hb.mono (by omega)))
  have hz2 : w.heap.size + 1 ≤ w2.heap.size := Nat.le_trans hz1 hb.size
  clear c0 c1 c2 hb
  obtain ⟨c0, c1, c2⟩ := B2.out
  cases fewB t s with
  | false =>
    go_wp2_with fail
    go_ret
    exact ⟨rfl, L2.out⟩
  | true =>
  by_cases h100 : x.size ≤ 100
  case neg =>
    have h1' : decide (100 < (x.size : Int)) = true := by simp; omega
    go_wp2_with fail
    go_ret
    exact ⟨rfl, L2.out⟩
  have h1' : decide (100 < (x.size : Int)) = false := by simp; omega
  by_cases hneg : at' < 0
  case pos =>
    have h2' : decide (at' < 0) = true := by simpa using hneg
    go_wp2_with fail
    go_ret
    exact ⟨rfl, L2.out⟩
  obtain ⟨i, rfl⟩ := Int.eq_ofNat_of_zero_le (show 0 ≤ at' by omega)
  have h2' : decide ((i : Int) < 0) = false := by simp
  clear hneg
  by_cases hbig : x.size < i
  case pos =>
    have h3' : decide (x.size < i) = true := by simpa using hbig
    go_wp2_with fail
    go_ret
    exact ⟨rfl, L2.out⟩
  have h3' : decide (x.size < i) = false := by simpa using hbig
  go_wp2_with fail
  refine (len_any t s x m i _ ht hs hx).mono ?_
  rintro e w3 ⟨rfl, hb⟩
  have B3 := Lib.hid (B2.out.below hb hz2)
  have L3 := Lib.hid (L2.out.trans (hb.mono (by omega)))
  have hz3 : w.heap.size + 1 ≤ w3.heap.size := Nat.le_trans hz2 hb.size
  clear c0 c1 c2 hb
  have hroom := len_room t s x m i (by omega)
  have hcut := Lib.hid (cut_is t s x m i)
  have hnot := Lib.hid (cut_not t s x m i)
  generalize Pl.len t.data.toList s.data.toList m x.data.toList (i : Int) = n at hroom hcut hnot ⊢
  go_wp2_with fail
  have e0 := fun z : Wd (w.heap.size + 1) w3 => (B3.out.cls z).1
  have e1 := fun z : Wd (w.heap.size + 1) w3 => (B3.out.cls z).2.1
  have e2 := fun z : Wd (w.heap.size + 1) w3 => (B3.out.cls z).2.2
  have hix : i ≤ x.size := by omega
  have hn0 : decide ((n : Int) < 0) = false := by simp
  have hgt : decide ((x.size : Int) - (i : Int) < (n : Int)) = false := by simp; omega
  have hsum : IntKind.i64.wrap ((i : Int) + (n : Int)) = (i : Int) + (n : Int) := IntWalk.i64_in _ (by omega)
  have hdif : IntKind.i64.wrap ((x.size : Int) - (i : Int)) = (x.size : Int) - (i : Int) := IntWalk.i64_in _ (by omega)
  have hle1 : (i : Int) ≤ (i : Int) + (n : Int) := by omega
  have hle2 : (i : Int) + (n : Int) ≤ (x.size : Int) := by omega
  have hle3 : (0 : Int) ≤ (i : Int) + (n : Int) := by omega
  have htn : ((i : Int) + (n : Int)).toNat = i + n := by omega
  by_cases hn : 0 < n
  · have hn' : decide (0 < n) = true := by simpa using hn
    have hc := hcut.out hn
    have hcm : (x.extract i (i + n)).size ≤ maxLen := by rw [ByteArray.size_extract]; unfold maxLen; omega
    have hi := fun w => is_any t s (x.extract i (i + n)) m w ht hs hcm
    rw [hc] at hi
    have Hi := Lib.hid hi
    clear hi hc hcut
    refine region_cls (w.heap.size + 1) (by kernel_rfl) (by kernel_rfl) ?_
    repeat (go_big_quiet_step (exact calls_cls _ hz3 (Hi.out _)))
    refine wpQuiet_nil ?_
    intro z
    have B4 := Lib.hid (B3.out.cls z)
    have L4 := Lib.hid (L3.out.trans (z.ok.mono (by omega)))
    have hz4 : w.heap.size + 1 ≤ z.w.heap.size := Nat.le_trans hz3 z.ok.size
    clear e0 e1 e2 hsum hle1 hle2 hle3 htn hn0 hgt
    go_wp2_with fail
    go_loopw [10] (fun k wr => ∃ q : Nat, k = .int .i64 q ∧ n < q ∧ i + q ≤ x.size + 1 ∧ Hid (Boxed1 wr w.heap.size t s m) ∧ Hid (Below w.heap.size w wr) ∧ w.heap.size + 1 ≤ wr.heap.size) (fun k _ => (x.size + 1 - intOf k).toNat)
    case atStart => exact ⟨n + 1, by go_num, by omega, by omega, B4, L4, hz4⟩
    case round =>
      obtain ⟨q, rfl, hq1, hq2, B, L, hz⟩ := hrel
      clear B0 B1 B2 B3 B4 L0 L1 L2 L3 L4 hz0 hz1 hz2 hz3 hz4
      have e0 := fun z : Wd (w.heap.size + 1) wr => (B.out.cls z).1
      have e1 := fun z : Wd (w.heap.size + 1) wr => (B.out.cls z).2.1
      have e2 := fun z : Wd (w.heap.size + 1) wr => (B.out.cls z).2.2
      by_cases hlt : i + q ≤ x.size
      · have hqd : (q : Int) ≤ (x.size : Int) - (i : Int) := by omega
        have hsum : IntKind.i64.wrap ((i : Int) + (q : Int)) = (i : Int) + (q : Int) := IntWalk.i64_in _ (by omega)
        have hle1 : (i : Int) ≤ (i : Int) + (q : Int) := by omega
        have hle2 : (i : Int) + (q : Int) ≤ (x.size : Int) := by omega
        have hle3 : (0 : Int) ≤ (i : Int) + (q : Int) := by omega
        have htn : ((i : Int) + (q : Int)).toNat = i + q := by omega
        have hc := hnot.out q hq1 hlt
        have hcm : (x.extract i (i + q)).size ≤ maxLen := by rw [ByteArray.size_extract]; unfold maxLen; omega
        have hi := fun w => is_any t s (x.extract i (i + q)) m w ht hs hcm
        rw [hc] at hi
        have Hi := Lib.hid hi
        clear hi hc
        go_wp2_with fail
        refine region_cls (w.heap.size + 1) (by kernel_rfl) (by kernel_rfl) ?_
        repeat (go_big_quiet_step (exact calls_cls _ hz (Hi.out _)))
        refine wpQuiet_nil ?_
        intro z
        have Bz := Lib.hid (B.out.cls z)
        have Lz := Lib.hid (L.out.trans (z.ok.mono (by omega)))
        have hzz : w.heap.size + 1 ≤ z.w.heap.size := Nat.le_trans hz z.ok.size
        clear e0 e1 e2 hsum hle1 hle2 hle3 htn
        go_wp2_with fail
        go_roundw
        case rel => exact ⟨q + 1, by go_num, by omega, by omega, Bz, Lz, hzz⟩
        case measure => simp [intOf]; omega
      · have hqd : (x.size : Int) - (i : Int) < (q : Int) := by omega
        clear e0 e1 e2
        go_wp2_with fail
        go_ret
        exact ⟨rfl, L.out⟩
  · have hn' : decide (0 < n) = false := by simpa using hn
    clear hcut
    refine region_cls (w.heap.size + 1) (by kernel_rfl) (by kernel_rfl) ?_
    repeat (go_big_quiet_step (fail))
    refine wpQuiet_nil ?_
    intro z
    have B4 := Lib.hid (B3.out.cls z)
    have L4 := Lib.hid (L3.out.trans (z.ok.mono (by omega)))
    have hz4 : w.heap.size + 1 ≤ z.w.heap.size := Nat.le_trans hz3 z.ok.size
    clear e0 e1 e2 hsum hle1 hle2 hle3 htn hn0 hgt
    go_wp2_with fail
    go_loopw [10] (fun k wr => ∃ q : Nat, k = .int .i64 q ∧ n < q ∧ i + q ≤ x.size + 1 ∧ Hid (Boxed1 wr w.heap.size t s m) ∧ Hid (Below w.heap.size w wr) ∧ w.heap.size + 1 ≤ wr.heap.size) (fun k _ => (x.size + 1 - intOf k).toNat)
    case atStart => exact ⟨n + 1, by go_num, by omega, by omega, B4, L4, hz4⟩
    case round =>
      obtain ⟨q, rfl, hq1, hq2, B, L, hz⟩ := hrel
      clear B0 B1 B2 B3 B4 L0 L1 L2 L3 L4 hz0 hz1 hz2 hz3 hz4
      have e0 := fun z : Wd (w.heap.size + 1) wr => (B.out.cls z).1
      have e1 := fun z : Wd (w.heap.size + 1) wr => (B.out.cls z).2.1
      have e2 := fun z : Wd (w.heap.size + 1) wr => (B.out.cls z).2.2
      by_cases hlt : i + q ≤ x.size
      · have hqd : (q : Int) ≤ (x.size : Int) - (i : Int) := by omega
        have hsum : IntKind.i64.wrap ((i : Int) + (q : Int)) = (i : Int) + (q : Int) := IntWalk.i64_in _ (by omega)
        have hle1 : (i : Int) ≤ (i : Int) + (q : Int) := by omega
        have hle2 : (i : Int) + (q : Int) ≤ (x.size : Int) := by omega
        have hle3 : (0 : Int) ≤ (i : Int) + (q : Int) := by omega
        have htn : ((i : Int) + (q : Int)).toNat = i + q := by omega
        have hc := hnot.out q hq1 hlt
        have hcm : (x.extract i (i + q)).size ≤ maxLen := by rw [ByteArray.size_extract]; unfold maxLen; omega
        have hi := fun w => is_any t s (x.extract i (i + q)) m w ht hs hcm
        rw [hc] at hi
        have Hi := Lib.hid hi
        clear hi hc
        go_wp2_with fail
        refine region_cls (w.heap.size + 1) (by kernel_rfl) (by kernel_rfl) ?_
        repeat (go_big_quiet_step (exact calls_cls _ hz (Hi.out _)))
        refine wpQuiet_nil ?_
        intro z
        have Bz := Lib.hid (B.out.cls z)
        have Lz := Lib.hid (L.out.trans (z.ok.mono (by omega)))
        have hzz : w.heap.size + 1 ≤ z.w.heap.size := Nat.le_trans hz z.ok.size
        clear e0 e1 e2 hsum hle1 hle2 hle3 htn
        go_wp2_with fail
        go_roundw
        case rel => exact ⟨q + 1, by go_num, by omega, by omega, Bz, Lz, hzz⟩
        case measure => simp [intOf]; omega
      · have hqd : (x.size : Int) - (i : Int) < (q : Int) := by omega
        clear e0 e1 e2
        go_wp2_with fail
        go_ret
        exact ⟨rfl, L.out⟩
end Go.Proofs.Ytgoggooeipcgpaa
