/-
  The walk of the law PatternSets: it answers true, and turns nothing that was there.
-/
import Derived.Test.YtgoggooeipcgpaaLawA
import Derived.Test.YtgoggooeipcgpaaLawD
namespace Go.Proofs.Ytgoggooeipcgpaa
open Go.RowKit
set_option linter.unusedVariables false

set_option maxRecDepth 100000 in
set_option maxHeartbeats 1600000 in
theorem sets_law (a b x : ByteArray) (m : Bool) (w : World) (ha : a.size ≤ maxLen) (hb' : b.size ≤ maxLen) (hx : x.size ≤ maxLen) :
    Calls Try.prog 8 #[.string a, .string b, .bool m, .string x] w fun e w' => e = .returned (.bool true) ∧ Below w.heap.size w w' := by
  go_enter Try.func8, Try.ntmps8
  go_wp2_with fail
  refine (awake_any _).mono ?_
  rintro e v0 ⟨rfl, hb0⟩
  by_cases h300 : a.size ≤ 100
  case neg =>
    have h1' : decide (100 < (a.size : Int)) = true := by simp; omega
    go_wp2_with fail
    go_ret
    exact ⟨rfl, hb0⟩
  have h1' : decide (100 < (a.size : Int)) = false := by simp; omega
  by_cases h50 : b.size ≤ 100
  case neg =>
    have h2' : decide (100 < (b.size : Int)) = true := by simp; omega
    go_wp2_with fail
    go_ret
    exact ⟨rfl, hb0⟩
  have h2' : decide (100 < (b.size : Int)) = false := by simp; omega
  by_cases h51 : x.size ≤ 50
  case neg =>
    have h3' : decide (50 < (x.size : Int)) = true := by simp; omega
    go_wp2_with fail
    go_ret
    exact ⟨rfl, hb0⟩
  have h3' : decide (50 < (x.size : Int)) = false := by simp; omega
  have hab : (a ++ b).size ≤ maxLen := by rw [ByteArray.size_append]; unfold maxLen; omega
  have hbab : (b ++ a ++ b).size ≤ maxLen := by rw [ByteArray.size_append, ByteArray.size_append]; unfold maxLen; omega
  have hadd : a.size + b.size ≤ 9223372036854775807 := by omega
  have hadd2 : b.size + a.size ≤ 9223372036854775807 := by omega
  have hadd3 : (b ++ a).size + b.size ≤ 9223372036854775807 := by rw [ByteArray.size_append]; omega
  have h0 : (ByteArray.mk #[]).size ≤ maxLen := by show 0 ≤ maxLen; omega
  have ez : (ByteArray.mk #[]).data.toList = [] := rfl
  have e1 : (a ++ b).data.toList = a.data.toList ++ b.data.toList := by rw [ByteArray.data_append, Array.toList_append]
  have e2 : (b ++ a ++ b).data.toList = b.data.toList ++ a.data.toList ++ b.data.toList := by rw [ByteArray.data_append, Array.toList_append, ByteArray.data_append, Array.toList_append]
  have hP := fun (i : Int) w => len_any ⟨#[]⟩ (a ++ b) x m i w h0 hab hx
  have hQ := fun (i : Int) w => len_any ⟨#[]⟩ (b ++ a ++ b) x m i w h0 hbab hx
  have hA := fun (i : Int) w => len_any ⟨#[]⟩ a x m i w h0 ha hx
  have hB := fun (i : Int) w => len_any ⟨#[]⟩ b x m i w h0 hb' hx
  have hE := fun w => example_any ⟨#[]⟩ (a ++ b) m w hab
  have hG := fun w => example_any ⟨#[]⟩ (b ++ a ++ b) m w hbab
  rw [ez, e1] at hP hE
  rw [ez, e2] at hQ hG
  rw [ez] at hA hB
  rw [← Pl.sets_ex] at hG
  have kQ := fun i => Pl.sets_len a.data.toList b.data.toList m x.data.toList i
  have kA := fun i => Pl.sets_left a.data.toList b.data.toList m x.data.toList i
  have kB := fun i => Pl.sets_right a.data.toList b.data.toList m x.data.toList i
  obtain ⟨E, hEE⟩ : ∃ E : ByteArray, E = ⟨(Pl.ex [] (a.data.toList ++ b.data.toList)).toArray⟩ := ⟨_, rfl⟩
  rw [← hEE] at hE hG
  clear hEE ez e1 e2
  have CP := Lib.hid hP
  clear hP
  have CQ := Lib.hid hQ
  clear hQ
  have CA := Lib.hid hA
  clear hA
  have CB := Lib.hid hB
  clear hB
  have CE := Lib.hid hE
  clear hE
  have CG := Lib.hid hG
  clear hG
  have ZQ := Lib.hid kQ
  clear kQ
  have ZA := Lib.hid kA
  clear kA
  have ZB := Lib.hid kB
  clear kB
  have hL0 := Lib.hid hb0
  clear hb0
  go_wp2_with fail
  have B0 : Hid (Boxed2 ((v0.alloc (.cells #[.string ⟨#[]⟩, .string (a ++ b), .bool m] 23)).alloc (.cells #[.string ⟨#[]⟩, .string (b ++ a ++ b), .bool m] 23)) v0.heap.size ⟨#[]⟩ (a ++ b) m ⟨#[]⟩ (b ++ a ++ b) m) := by
    refine Lib.hid ⟨?_, ?_, ?_, ?_, ?_, ?_⟩ <;> go_simp
  have L0 : Hid (Below v0.heap.size v0 ((v0.alloc (.cells #[.string ⟨#[]⟩, .string (a ++ b), .bool m] 23)).alloc (.cells #[.string ⟨#[]⟩, .string (b ++ a ++ b), .bool m] 23))) := Lib.hid ((((Below.refl _ _).alloc (Nat.le_refl _) _).alloc (by simp) _))
  have hz0 : v0.heap.size + 2 ≤ ((v0.alloc (.cells #[.string ⟨#[]⟩, .string (a ++ b), .bool m] 23)).alloc (.cells #[.string ⟨#[]⟩, .string (b ++ a ++ b), .bool m] 23)).heap.size := by simp
  generalize ((v0.alloc (.cells #[.string ⟨#[]⟩, .string (a ++ b), .bool m] 23)).alloc (.cells #[.string ⟨#[]⟩, .string (b ++ a ++ b), .bool m] 23)) = W at B0 L0 hz0 ⊢
  obtain ⟨c0, c1, c2, d0, d1, d2⟩ := B0.out
  go_loopw [12] (fun i wr => ∃ k : Nat, i = .int .i64 k ∧ k ≤ x.size + 1 ∧ Hid (Boxed2 wr v0.heap.size ⟨#[]⟩ (a ++ b) m ⟨#[]⟩ (b ++ a ++ b) m) ∧ Hid (Below v0.heap.size v0 wr) ∧ v0.heap.size + 2 ≤ wr.heap.size) (fun i _ => x.size + 1 - (intOf i).toNat)
  case atStart => exact ⟨0, rfl, by omega, B0, L0, hz0⟩
  case round =>
    obtain ⟨k, rfl, hk, B10, L10, hz10⟩ := hrel
    clear c0 c1 c2 d0 d1 d2 B0 L0 hz0
    obtain ⟨c0, c1, c2, d0, d1, d2⟩ := B10.out
    by_cases hlt : k ≤ x.size
    case pos =>
      have hP := CP.out (k : Int)
      have hQ := CQ.out (k : Int)
      have hA := CA.out (k : Int)
      have hB := CB.out (k : Int)
      have kA := ZA.out (k : Int)
      have kB := ZB.out (k : Int)
      rw [← ZQ.out (k : Int)] at hQ
      generalize Pl.len [] (a.data.toList ++ b.data.toList) m x.data.toList (k : Int) = n at hP hQ kA kB
      generalize Pl.len [] a.data.toList m x.data.toList (k : Int) = na at hA kA
      generalize Pl.len [] b.data.toList m x.data.toList (k : Int) = nb at hB kB
      have kA' : decide (n < na) = false := by simp; omega
      have kB' : decide (n < nb) = false := by simp; omega
      have DP := Lib.hid hP
      have DQ := Lib.hid hQ
      have DA := Lib.hid hA
      have DB := Lib.hid hB
      clear hP hQ hA hB
      go_wp2_with fail
      refine (DP.out _).mono ?_
      rintro e u11 ⟨rfl, hb⟩
      have B11 := Lib.hid (B10.out.below hb hz10)
      have L11 := Lib.hid (L10.out.trans (hb.mono (by omega)))
      have hz11 : v0.heap.size + 2 ≤ u11.heap.size := Nat.le_trans hz10 hb.size
      clear c0 c1 c2 d0 d1 d2 hb
      obtain ⟨c0, c1, c2, d0, d1, d2⟩ := B11.out
      go_wp2_with fail
      refine (DQ.out _).mono ?_
      rintro e u12 ⟨rfl, hb⟩
      have B12 := Lib.hid (B11.out.below hb hz11)
      have L12 := Lib.hid (L11.out.trans (hb.mono (by omega)))
      have hz12 : v0.heap.size + 2 ≤ u12.heap.size := Nat.le_trans hz11 hb.size
      clear c0 c1 c2 d0 d1 d2 hb
      obtain ⟨c0, c1, c2, d0, d1, d2⟩ := B12.out
      go_wp2_with fail
      refine (DA.out _).mono ?_
      rintro e u13 ⟨rfl, hb⟩
      have B13 := Lib.hid (B12.out.below hb hz12)
      have L13 := Lib.hid (L12.out.trans (hb.mono (by omega)))
      have hz13 : v0.heap.size + 2 ≤ u13.heap.size := Nat.le_trans hz12 hb.size
      clear c0 c1 c2 d0 d1 d2 hb
      obtain ⟨c0, c1, c2, d0, d1, d2⟩ := B13.out
      go_wp2_with fail
      refine (DB.out _).mono ?_
      rintro e u14 ⟨rfl, hb⟩
      have B14 := Lib.hid (B13.out.below hb hz13)
      have L14 := Lib.hid (L13.out.trans (hb.mono (by omega)))
      have hz14 : v0.heap.size + 2 ≤ u14.heap.size := Nat.le_trans hz13 hb.size
      clear c0 c1 c2 d0 d1 d2 hb
      obtain ⟨c0, c1, c2, d0, d1, d2⟩ := B14.out
      go_wp2_with fail
      go_roundw
      case rel => exact ⟨k + 1, by go_num, by omega, B14, L14, hz14⟩
      case measure => simp [intOf]; omega
    go_wp2_with fail
    have ez0 := fun z : Wd (v0.heap.size + 2) wr => (B10.out.cls z).1
    have ez1 := fun z : Wd (v0.heap.size + 2) wr => (B10.out.cls z).2.1
    have ez2 := fun z : Wd (v0.heap.size + 2) wr => (B10.out.cls z).2.2.1
    have ez3 := fun z : Wd (v0.heap.size + 2) wr => (B10.out.cls z).2.2.2.1
    have ez4 := fun z : Wd (v0.heap.size + 2) wr => (B10.out.cls z).2.2.2.2.1
    have ez5 := fun z : Wd (v0.heap.size + 2) wr => (B10.out.cls z).2.2.2.2.2
    clear c0 c1 c2 d0 d1 d2
    refine region_cls (v0.heap.size + 2) (by kernel_rfl) (by kernel_rfl) ?_
    repeat (go_big_quiet_step (first | (go_at_call_of 22 (b ++ a ++ b); exact calls_cls _ hz10 (CG.out _)) | (go_at_call 22; exact calls_cls _ hz10 (CE.out _))))
    refine wpQuiet_nil ?_
    intro z
    have B11 := Lib.hid (B10.out.cls z)
    have L11 := Lib.hid (L10.out.trans (z.ok.mono (by omega)))
    have hz11 : v0.heap.size + 2 ≤ z.w.heap.size := Nat.le_trans hz10 z.ok.size
    clear ez0 ez1 ez2 ez3 ez4 ez5 
    obtain ⟨u11, hw11⟩ : ∃ u11, u11 = z.w := ⟨_, rfl⟩
    rw [← hw11] at B11 L11 hz11 ⊢
    clear hw11
    obtain ⟨c0, c1, c2, d0, d1, d2⟩ := B11.out
    go_wp2_with fail
    go_ret
    exact ⟨rfl, hL0.out.trans (L11.out.mono hL0.out.size)⟩

end Go.Proofs.Ytgoggooeipcgpaa
