/-
  The walk of the law PatternJoins: it answers true, and turns nothing that was there.
-/
import Derived.Test.YtgoggooeipcgpaaLawA
import Derived.Test.YtgoggooeipcgpaaLawD
namespace Go.Proofs.Ytgoggooeipcgpaa
open Go.RowKit
set_option linter.unusedVariables false

set_option maxRecDepth 100000 in
set_option maxHeartbeats 1600000 in
theorem joins_law (s x y : ByteArray) (w : World) (hs : s.size ≤ maxLen) (hx : x.size ≤ maxLen) (hy : y.size ≤ maxLen) :
    Calls Try.prog 7 #[.string s, .string x, .string y] w fun e w' => e = .returned (.bool true) ∧ Below w.heap.size w w' := by
  go_enter Try.func7, Try.ntmps7
  go_wp2_with fail
  refine (awake_any _).mono ?_
  rintro e v0 ⟨rfl, hb0⟩
  by_cases h300 : s.size ≤ 300
  case neg =>
    have h1' : decide (300 < (s.size : Int)) = true := by simp; omega
    go_wp2_with fail
    go_ret
    exact ⟨rfl, hb0⟩
  have h1' : decide (300 < (s.size : Int)) = false := by simp; omega
  by_cases h50 : x.size ≤ 50
  case neg =>
    have h2' : decide (50 < (x.size : Int)) = true := by simp; omega
    go_wp2_with fail
    go_ret
    exact ⟨rfl, hb0⟩
  have h2' : decide (50 < (x.size : Int)) = false := by simp; omega
  by_cases h51 : y.size ≤ 50
  case neg =>
    have h3' : decide (50 < (y.size : Int)) = true := by simp; omega
    go_wp2_with fail
    go_ret
    exact ⟨rfl, hb0⟩
  have h3' : decide (50 < (y.size : Int)) = false := by simp; omega
  have hxy : (x ++ y).size ≤ maxLen := by rw [ByteArray.size_append]; unfold maxLen; omega
  have hadd : x.size + y.size ≤ 9223372036854775807 := by omega
  have h0 : (ByteArray.mk #[]).size ≤ maxLen := by show 0 ≤ maxLen; omega
  have hX := fun w => is_any ⟨#[]⟩ s x true w h0 hs hx
  have hY := fun w => is_any ⟨#[]⟩ s y true w h0 hs hy
  have hZ := fun w => is_any ⟨#[]⟩ s (x ++ y) true w h0 hs hxy
  have hQ := fun w => is_any ⟨#[]⟩ s (x ++ y) false w h0 hs hxy
  have hL := fun w => len_any ⟨#[]⟩ s (x ++ y) false 0 w h0 hs hxy
  have hA := fun w => len_any ⟨#[]⟩ s (x ++ y) true 0 w h0 hs hxy
  have hB := fun w => len_any ⟨#[]⟩ s x true 0 w h0 hs hx
  have ez : (ByteArray.mk #[]).data.toList = [] := rfl
  have exy : (x ++ y).data.toList = x.data.toList ++ y.data.toList := by rw [ByteArray.data_append, Array.toList_append]
  rw [ez] at hX hY hZ hQ hL hA hB
  rw [exy] at hZ hQ hL hA
  rw [Pl.len_zero] at hL hA hB
  have kJ := Pl.joins_many (s := s.data.toList) (x := x.data.toList) (y := y.data.toList)
  have kK := Pl.joins_one (s := s.data.toList) (x := x.data.toList) (y := y.data.toList)
  have kL := Pl.joins_len s.data.toList x.data.toList y.data.toList
  generalize Pl.is [] s.data.toList true x.data.toList = rx at hX kJ kK
  generalize Pl.is [] s.data.toList true y.data.toList = ry at hY kJ kK
  generalize Pl.is [] s.data.toList true (x.data.toList ++ y.data.toList) = rz at hZ kJ
  generalize Pl.is [] s.data.toList false (x.data.toList ++ y.data.toList) = rq at hQ kK
  generalize Pl.lenc [] s.data.toList false (x.data.toList ++ y.data.toList) = nl at hL kK
  generalize Pl.lenc [] s.data.toList true (x.data.toList ++ y.data.toList) = na at hA kL
  generalize Pl.lenc [] s.data.toList true x.data.toList = nb at hB kL
  clear ez exy
  have CX := Lib.hid hX
  clear hX
  have CY := Lib.hid hY
  clear hY
  have CZ := Lib.hid hZ
  clear hZ
  have CQ := Lib.hid hQ
  clear hQ
  have CL := Lib.hid hL
  clear hL
  have CA := Lib.hid hA
  clear hA
  have CB := Lib.hid hB
  clear hB
  have ZJ := Lib.hid kJ
  clear kJ
  have ZK := Lib.hid kK
  clear kK
  have kL' : decide (nb ≤ na) = true := by simpa using kL
  clear kL
  have hL0 := Lib.hid hb0
  clear hb0
  go_wp2_with fail
  have B0 : Hid (Boxed2 ((v0.alloc (.cells #[.string ⟨#[]⟩, .string s, .bool true] 23)).alloc (.cells #[.string ⟨#[]⟩, .string s, .bool false] 23)) v0.heap.size ⟨#[]⟩ s true ⟨#[]⟩ s false) := by
    refine Lib.hid ⟨?_, ?_, ?_, ?_, ?_, ?_⟩ <;> go_simp
  have L0 : Hid (Below v0.heap.size v0 ((v0.alloc (.cells #[.string ⟨#[]⟩, .string s, .bool true] 23)).alloc (.cells #[.string ⟨#[]⟩, .string s, .bool false] 23))) := Lib.hid ((((Below.refl _ _).alloc (Nat.le_refl _) _).alloc (by simp) _))
  have hz0 : v0.heap.size + 2 ≤ ((v0.alloc (.cells #[.string ⟨#[]⟩, .string s, .bool true] 23)).alloc (.cells #[.string ⟨#[]⟩, .string s, .bool false] 23)).heap.size := by simp
  generalize ((v0.alloc (.cells #[.string ⟨#[]⟩, .string s, .bool true] 23)).alloc (.cells #[.string ⟨#[]⟩, .string s, .bool false] 23)) = W at B0 L0 hz0 ⊢
  obtain ⟨c0, c1, c2, d0, d1, d2⟩ := B0.out
  refine (CX.out _).mono ?_
  rintro e u1 ⟨rfl, hb⟩
  have B1 := Lib.hid (B0.out.below hb hz0)
  have L1 := Lib.hid (L0.out.trans (hb.mono (by omega)))
  have hz1 : v0.heap.size + 2 ≤ u1.heap.size := Nat.le_trans hz0 hb.size
  clear c0 c1 c2 d0 d1 d2 hb
  obtain ⟨c0, c1, c2, d0, d1, d2⟩ := B1.out
  cases rx with
  | false =>
    go_wp2_with fail
    have ez0 := fun z : Wd (v0.heap.size + 2) u1 => (B1.out.cls z).1
    have ez1 := fun z : Wd (v0.heap.size + 2) u1 => (B1.out.cls z).2.1
    have ez2 := fun z : Wd (v0.heap.size + 2) u1 => (B1.out.cls z).2.2.1
    have ez3 := fun z : Wd (v0.heap.size + 2) u1 => (B1.out.cls z).2.2.2.1
    have ez4 := fun z : Wd (v0.heap.size + 2) u1 => (B1.out.cls z).2.2.2.2.1
    have ez5 := fun z : Wd (v0.heap.size + 2) u1 => (B1.out.cls z).2.2.2.2.2
    clear c0 c1 c2 d0 d1 d2
    refine region_cls (v0.heap.size + 2) (by kernel_rfl) (by kernel_rfl) ?_
    repeat (go_big_quiet_step (first | (go_at_call_of 16 (y); exact calls_cls _ hz1 (CA.out _)) | (go_at_call 16; exact calls_cls _ hz1 (CB.out _))))
    refine wpQuiet_nil ?_
    intro z
    have B2 := Lib.hid (B1.out.cls z)
    have L2 := Lib.hid (L1.out.trans (z.ok.mono (by omega)))
    have hz2 : v0.heap.size + 2 ≤ z.w.heap.size := Nat.le_trans hz1 z.ok.size
    clear ez0 ez1 ez2 ez3 ez4 ez5 
    obtain ⟨u2, hw2⟩ : ∃ u2, u2 = z.w := ⟨_, rfl⟩
    rw [← hw2] at B2 L2 hz2 ⊢
    clear hw2
    obtain ⟨c0, c1, c2, d0, d1, d2⟩ := B2.out
    go_wp2_with fail
    go_ret
    exact ⟨rfl, hL0.out.trans (L2.out.mono hL0.out.size)⟩
  | true =>
  go_wp2_with fail
  refine (CY.out _).mono ?_
  rintro e u2 ⟨rfl, hb⟩
  have B2 := Lib.hid (B1.out.below hb hz1)
  have L2 := Lib.hid (L1.out.trans (hb.mono (by omega)))
  have hz2 : v0.heap.size + 2 ≤ u2.heap.size := Nat.le_trans hz1 hb.size
  clear c0 c1 c2 d0 d1 d2 hb
  obtain ⟨c0, c1, c2, d0, d1, d2⟩ := B2.out
  cases ry with
  | false =>
    go_wp2_with fail
    have ez0 := fun z : Wd (v0.heap.size + 2) u2 => (B2.out.cls z).1
    have ez1 := fun z : Wd (v0.heap.size + 2) u2 => (B2.out.cls z).2.1
    have ez2 := fun z : Wd (v0.heap.size + 2) u2 => (B2.out.cls z).2.2.1
    have ez3 := fun z : Wd (v0.heap.size + 2) u2 => (B2.out.cls z).2.2.2.1
    have ez4 := fun z : Wd (v0.heap.size + 2) u2 => (B2.out.cls z).2.2.2.2.1
    have ez5 := fun z : Wd (v0.heap.size + 2) u2 => (B2.out.cls z).2.2.2.2.2
    clear c0 c1 c2 d0 d1 d2
    refine region_cls (v0.heap.size + 2) (by kernel_rfl) (by kernel_rfl) ?_
    repeat (go_big_quiet_step (first | (go_at_call_of 16 (y); exact calls_cls _ hz2 (CA.out _)) | (go_at_call 16; exact calls_cls _ hz2 (CB.out _))))
    refine wpQuiet_nil ?_
    intro z
    have B3 := Lib.hid (B2.out.cls z)
    have L3 := Lib.hid (L2.out.trans (z.ok.mono (by omega)))
    have hz3 : v0.heap.size + 2 ≤ z.w.heap.size := Nat.le_trans hz2 z.ok.size
    clear ez0 ez1 ez2 ez3 ez4 ez5 
    obtain ⟨u3, hw3⟩ : ∃ u3, u3 = z.w := ⟨_, rfl⟩
    rw [← hw3] at B3 L3 hz3 ⊢
    clear hw3
    obtain ⟨c0, c1, c2, d0, d1, d2⟩ := B3.out
    go_wp2_with fail
    go_ret
    exact ⟨rfl, hL0.out.trans (L3.out.mono hL0.out.size)⟩
  | true =>
  obtain rfl : rz = true := ZJ.out (by simp) (by simp)
  obtain ⟨rfl, rfl⟩ := ZK.out (by simp) (by simp)
  go_wp2_with fail
  refine (CZ.out _).mono ?_
  rintro e u3 ⟨rfl, hb⟩
  have B3 := Lib.hid (B2.out.below hb hz2)
  have L3 := Lib.hid (L2.out.trans (hb.mono (by omega)))
  have hz3 : v0.heap.size + 2 ≤ u3.heap.size := Nat.le_trans hz2 hb.size
  clear c0 c1 c2 d0 d1 d2 hb
  obtain ⟨c0, c1, c2, d0, d1, d2⟩ := B3.out
  go_wp2_with fail
  refine (CQ.out _).mono ?_
  rintro e u4 ⟨rfl, hb⟩
  have B4 := Lib.hid (B3.out.below hb hz3)
  have L4 := Lib.hid (L3.out.trans (hb.mono (by omega)))
  have hz4 : v0.heap.size + 2 ≤ u4.heap.size := Nat.le_trans hz3 hb.size
  clear c0 c1 c2 d0 d1 d2 hb
  obtain ⟨c0, c1, c2, d0, d1, d2⟩ := B4.out
  go_wp2_with fail
  refine (CL.out _).mono ?_
  rintro e u5 ⟨rfl, hb⟩
  have B5 := Lib.hid (B4.out.below hb hz4)
  have L5 := Lib.hid (L4.out.trans (hb.mono (by omega)))
  have hz5 : v0.heap.size + 2 ≤ u5.heap.size := Nat.le_trans hz4 hb.size
  clear c0 c1 c2 d0 d1 d2 hb
  obtain ⟨c0, c1, c2, d0, d1, d2⟩ := B5.out
  go_wp2_with fail
  have ez0 := fun z : Wd (v0.heap.size + 2) u5 => (B5.out.cls z).1
  have ez1 := fun z : Wd (v0.heap.size + 2) u5 => (B5.out.cls z).2.1
  have ez2 := fun z : Wd (v0.heap.size + 2) u5 => (B5.out.cls z).2.2.1
  have ez3 := fun z : Wd (v0.heap.size + 2) u5 => (B5.out.cls z).2.2.2.1
  have ez4 := fun z : Wd (v0.heap.size + 2) u5 => (B5.out.cls z).2.2.2.2.1
  have ez5 := fun z : Wd (v0.heap.size + 2) u5 => (B5.out.cls z).2.2.2.2.2
  clear c0 c1 c2 d0 d1 d2
  refine region_cls (v0.heap.size + 2) (by kernel_rfl) (by kernel_rfl) ?_
  repeat (go_big_quiet_step (first | (go_at_call_of 16 (y); exact calls_cls _ hz5 (CA.out _)) | (go_at_call 16; exact calls_cls _ hz5 (CB.out _))))
  refine wpQuiet_nil ?_
  intro z
  have B6 := Lib.hid (B5.out.cls z)
  have L6 := Lib.hid (L5.out.trans (z.ok.mono (by omega)))
  have hz6 : v0.heap.size + 2 ≤ z.w.heap.size := Nat.le_trans hz5 z.ok.size
  clear ez0 ez1 ez2 ez3 ez4 ez5 
  obtain ⟨u6, hw6⟩ : ∃ u6, u6 = z.w := ⟨_, rfl⟩
  rw [← hw6] at B6 L6 hz6 ⊢
  clear hw6
  obtain ⟨c0, c1, c2, d0, d1, d2⟩ := B6.out
  go_wp2_with fail
  go_ret
  exact ⟨rfl, hL0.out.trans (L6.out.mono hL0.out.size)⟩

end Go.Proofs.Ytgoggooeipcgpaa
