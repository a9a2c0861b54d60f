/-
  The walk of the law ScanLongest: it answers true, and turns nothing that was there.
-/
import Derived.Test.YtgoggooeipcgpaaScanT
import Derived.Test.YtgoggooeipcgpaaScanW
namespace Go.Proofs.Ytgoggooeipcgpaa
open Go.RowKit
set_option linter.unusedVariables false

theorem Pl.cut_len (T S : List Pl.Pt) (x : Pl.B) : ∀ (f i k : Nat), i ≤ x.length → (Pl.cut T S x f i k).1.length + i ≤ x.length + 1
  | 0, i, k, hi => by simp [Pl.cut]; omega
  | f + 1, i, k, hi => by
    have hr := Pl.step_room T S x i hi
    rw [Pl.cut]
    split
    · split
      · simp; omega
      · split
        · have := Pl.cut_len T S x f (i + (Pl.step T S x i).2) (k + 1) hr
          omega
        · have := Pl.cut_len T S x f (i + (Pl.step T S x i).2) k hr
          simp only [List.length_cons]
          omega
    · simp; omega

set_option maxRecDepth 100000 in
set_option maxHeartbeats 3200000 in
theorem longest_law (T S : List Pl.Pt) (ta sa : Option Addr) (tc sc : Nat) (x : ByteArray) (w : World) (hT : SlP w ta T) (hS : SlP w sa S) (oT : OkP T) (oS : OkP S) (lT : T.length * 40 ≤ 140737488355328) (lS : S.length ≤ 9223372036854775806) (hx : x.size ≤ maxLen) :
    Calls Try.prog 10 #[.slice ta T.length tc, .slice sa S.length sc, .string x] w fun e w' => e = .returned (.bool true) ∧ Below w.heap.size w w' := by
  have lT' : T.length ≤ 9223372036854775806 := by omega
  have T0 := Lib.hid hT
  have S0 := Lib.hid hS
  have OT := Lib.hid oT
  have OS := Lib.hid oS
  clear hT hS oT oS
  go_enter Try.func10, Try.ntmps10
  go_wp2_with fail
  refine (awake17_any _).mono ?_
  rintro e v0 ⟨rfl, hb⟩
  have T1 := Lib.hid (T0.out.below hb)
  have S1 := Lib.hid (S0.out.below hb)
  have L1 := Lib.hid hb
  clear hb T0 S0
  go_wp2_with fail
  refine (made_any T S ta sa tc sc v0 T1.out lT).mono ?_
  rintro e v1 ⟨ga, gc, rfl, hg, hb⟩
  have G2 := Lib.hid hg
  have T2 := Lib.hid (T1.out.below hb)
  have S2 := Lib.hid (S1.out.below hb)
  have L2 := Lib.hid (L1.out.trans (hb.mono L1.out.size))
  clear hb hg T1 S1 L1
  go_wp2_with fail
  have hbx := ((Below.refl v1.heap.size v1).alloc (Nat.le_refl _) (.cells #[.slice ga T.length gc, .slice sa S.length sc, .slice none 0 0, .string ⟨#[]⟩, .slice none 0 0] 40))
  have G3 := Lib.hid (G2.out.below hbx)
  have T3 := Lib.hid (T2.out.below hbx)
  have S3 := Lib.hid (S2.out.below hbx)
  have L3 := Lib.hid (L2.out.trans (hbx.mono L2.out.size))
  have hz3 : v1.heap.size < (v1.alloc (.cells #[.slice ga T.length gc, .slice sa S.length sc, .slice none 0 0, .string ⟨#[]⟩, .slice none 0 0] 40)).heap.size := by simp
  have B3 := Lib.hid (heap_alloc_new v1 (.cells #[.slice ga T.length gc, .slice sa S.length sc, .slice none 0 0, .string ⟨#[]⟩, .slice none 0 0] 40))
  have hw1 : w.heap.size ≤ v1.heap.size := L2.out.size
  generalize (v1.alloc (.cells #[.slice ga T.length gc, .slice sa S.length sc, .slice none 0 0, .string ⟨#[]⟩, .slice none 0 0] 40)) = V at hbx G3 T3 S3 L3 hz3 B3 ⊢
  clear hbx G2 T2 S2 L2
  refine (fewg_any T S ga sa gc sc V G3.out S3.out OT.out OS.out (by unfold maxLen; omega) (by unfold maxLen; omega)).mono ?_
  rintro e v2 ⟨rfl, hb⟩
  have G4 := Lib.hid (G3.out.below hb)
  have T4 := Lib.hid (T3.out.below hb)
  have S4 := Lib.hid (S3.out.below hb)
  have L4 := Lib.hid (L3.out.trans (hb.mono L3.out.size))
  have B4 := Lib.hid ((hb.block _ hz3).trans B3.out)
  have hz4 : v1.heap.size < v2.heap.size := Nat.lt_of_lt_of_le hz3 hb.size
  clear hb G3 T3 S3 L3 B3 hz3
  have hfew : fewG T S = true → T.length ≤ 20 ∧ S.length ≤ 10 := fun h => by simp [fewG] at h; omega
  cases hfw : fewG T S with
  | false =>
    clear hfew
    go_wp2_with fail
    go_ret
    exact ⟨rfl, L4.out⟩
  | true =>
  obtain ⟨l20, l10⟩ := hfew hfw
  clear hfew hfw
  by_cases h100 : x.size ≤ 100
  case neg =>
    have h1' : decide (100 < (x.size : Int)) = true := by simp; omega
    go_wp2_with fail
    go_ret
    exact ⟨rfl, L4.out⟩
  have h1' : decide (100 < (x.size : Int)) = false := by simp; omega
  have c0 := cell_of_row _ _ 0 _ _ _ B4.out
  have c1 := cell_of_row _ _ 1 _ _ _ B4.out
  have c2 := cell_of_row _ _ 2 _ _ _ B4.out
  have c3 := cell_of_row _ _ 3 _ _ _ B4.out
  have c4 := cell_of_row _ _ 4 _ _ _ B4.out
  simp at c0 c1 c2 c3 c4
  go_wp2_with fail
  refine (sall_any T S ga sa gc sc x v2 G4.out S4.out OT.out OS.out (by omega) (by omega) (by omega)).mono ?_
  rintro e v3 ⟨la, lc, rfl, hl, hb⟩
  have K5 := Lib.hid hl
  have G5 := Lib.hid (G4.out.below hb)
  have T5 := Lib.hid (T4.out.below hb)
  have S5 := Lib.hid (S4.out.below hb)
  have L5 := Lib.hid (L4.out.trans (hb.mono L4.out.size))
  have B5 := Lib.hid ((hb.block _ hz4).trans B4.out)
  have hz5 : v1.heap.size < v3.heap.size := Nat.lt_of_lt_of_le hz4 hb.size
  clear hb hl G4 T4 S4 L4 B4 hz4 c0 c1 c2 c3 c4 h1'
  obtain ⟨kOk, kEr, kNe⟩ := Pl.cut_ok T S x.data.toList x.size 0 0 (Nat.zero_le _) (by show x.size ≤ 0 + x.size; omega)
  have kLast := Pl.cut_last T S x.data.toList x.size 0 0 (Nat.zero_le _) (by show x.size ≤ 0 + x.size; omega)
  have kLen := Pl.cut_len T S x.data.toList x.size 0 0 (Nat.zero_le _)
  generalize Pl.cut T S x.data.toList x.size 0 0 = R at K5 kOk kEr kNe kLast kLen ⊢
  obtain ⟨l, er, sk⟩ := R
  simp only [] at K5 kOk kEr kNe kLast kLen ⊢
  have KO := Lib.hid kOk
  have KL := Lib.hid kLast
  have KN := Lib.hid (List.length_pos_iff.2 kNe)
  clear kOk kLast kNe G5 B5 hz5
  have hx8 : x.data.toList.length = x.size := rfl
  rw [hx8] at KL kLen
  have lL : l.length ≤ 101 := by omega
  clear kLen
  go_wp2_with fail
  have R0 := Lib.hid (Below.refl v3.heap.size v3)
  have E0 : Hid (er = 0 → 0 < l.length) := Lib.hid (fun _ => KN.out)
  go_loopw [12] (fun i wr => ∃ j : Nat, i = .int .i64 j ∧ j ≤ l.length ∧ Hid (er = 0 → j < l.length) ∧ Hid (Below v3.heap.size v3 wr)) (fun i _ => l.length - (intOf i).toNat)
  case atStart => exact ⟨0, rfl, by omega, E0, R0⟩
  case round =>
    clear R0 E0
    obtain ⟨j, rfl, hj, E0, R0⟩ := hrel
    by_cases hlt : j < l.length
    case neg =>
      have hje : j = l.length := by omega
      have her : er = 21 := by
        rcases kEr with h | h
        · exact absurd (E0.out h) hlt
        · exact h
      have hl0 : decide (0 < l.length) = true := by have := KN.out; simp; omega
      subst hje her
      clear hlt
      go_wp2_with fail
      go_ret
      exact ⟨rfl, L5.out.trans (R0.out.mono L5.out.size)⟩
    have K6 := K5.out.below R0.out
    obtain ⟨kb, ko, rfl, k0, k1, k2⟩ := K6 j hlt
    have HT := KO.out l[j] (List.getElem_mem hlt)
    have HL := fun e => KL.out e j hlt
    generalize l[j] = t at k0 k1 k2 HT HL
    have Ht := Lib.hid HT
    have HL2 := Lib.hid HL
    have tl1 := HT.le
    have tl2 := HT.room
    rw [hx8] at tl2
    clear HT HL K6
    have hbx := ((Below.refl wr.heap.size wr).alloc (Nat.le_refl _) (.cells #[.int .i64 (t.term : Nat), .int .i64 (t.fr : Nat), .int .i64 (t.to : Nat)] 48))
    have X1 := Lib.hid (heap_alloc_new wr (.cells #[.int .i64 (t.term : Nat), .int .i64 (t.fr : Nat), .int .i64 (t.to : Nat)] 48))
    have R1 := Lib.hid (R0.out.trans (hbx.mono R0.out.size))
    have hz6 : wr.heap.size + 1 ≤ (wr.alloc (.cells #[.int .i64 (t.term : Nat), .int .i64 (t.fr : Nat), .int .i64 (t.to : Nat)] 48)).heap.size := by simp
    have hw6 : v3.heap.size ≤ wr.heap.size := R0.out.size
    clear hbx
    by_cases hq : j + 1 = l.length ∧ er = 0
    case pos =>
      obtain ⟨hq1, hq2⟩ := hq
      have q1 : ((j : Int) == (l.length : Int) - 1) = true := by simp; omega
      have q2 : ((er : Int) == 0) = true := by simp; omega
      have q3 : ((t.fr : Int) == (x.size : Int)) = true := by have := HL2.out hq2 hq1; simp; omega
      clear hq1 hq2
      go_wp2_with fail
      go_ret
      exact ⟨ret_bool (by simp), L5.out.trans (R1.out.mono L5.out.size)⟩
    have E1 : Hid (er = 0 → j + 1 < l.length) := Lib.hid (fun h => by have := E0.out h; omega)
    have hq' : (((j : Int) == (l.length : Int) - 1) = false) ∨ (((j : Int) == (l.length : Int) - 1) = true ∧ ((er : Int) == 0) = false) := by
      by_cases h : j + 1 = l.length
      · right; exact ⟨by simp; omega, by simp; omega⟩
      · left; simp; omega
    clear hq
    rcases hq' with q1 | ⟨q1, q2⟩
    all_goals
      go_wp2_with fail
      generalize (wr.alloc (.cells #[.int .i64 (t.term : Nat), .int .i64 (t.fr : Nat), .int .i64 (t.to : Nat)] 48)) = W at X1 R1 hz6 ⊢
      have R2 : Hid (Below (wr.heap.size + 1) W W) := Lib.hid (.refl _ _)
      have hj6 : j + 1 ≤ l.length := hlt
      have TT := Lib.hid (T5.out.below R1.out)
      have SS := Lib.hid (S5.out.below R1.out)
      clear R0 k0 k1 k2 hlt
      generalize wr.heap.size = bx at X1 hz6 hw6 R2 ⊢
      have CT := Lib.hid (fun (k : Nat) (h : k < T.length) ww => rlp_any OT.out x hx t.fr k h ww)
      go_loopw [15] (fun i wr => ∃ k : Nat, i = .int .i64 k ∧ k ≤ T.length ∧ Hid (Below (bx + 1) W wr)) (fun i _ => T.length - (intOf i).toNat)
      case atStart => exact ⟨0, rfl, by omega, R2⟩
      case round =>
        clear R2
        obtain ⟨k, rfl, hk, R2⟩ := hrel
        have hz7 : bx + 1 ≤ wr.heap.size := Nat.le_trans hz6 R2.out.size
        have hxb := (R2.out.block _ (by omega)).trans X1.out
        have y0 := cell_of_row _ _ 0 _ _ _ hxb
        have y1 := cell_of_row _ _ 1 _ _ _ hxb
        have y2 := cell_of_row _ _ 2 _ _ _ hxb
        simp at y0 y1 y2
        by_cases hk2 : k < T.length
        case pos =>
          obtain ⟨b1, o1, rfl, c0, c1, c2⟩ := T5.out k hk2
          have hlb : b1 < v3.heap.size := World.block_lt_of_cell? v3 _ c0
          have g0 := (bcell (R1.out.trans (R2.out.mono (by omega)))).1 _ (o1 + k * 3) hlb |>.trans c0
          have g1 := (bcell (R1.out.trans (R2.out.mono (by omega)))).1 _ (o1 + k * 3 + 1) hlb |>.trans c1
          have g2 := (bcell (R1.out.trans (R2.out.mono (by omega)))).1 _ (o1 + k * 3 + 2) hlb |>.trans c2
          have f0 := fun z : Wd (bx + 1) wr => ((bcell z.ok).1 _ _ (show b1 < bx + 1 by omega)).trans g0
          have f1 := fun z : Wd (bx + 1) wr => ((bcell z.ok).1 _ _ (show b1 < bx + 1 by omega)).trans g1
          have f2 := fun z : Wd (bx + 1) wr => ((bcell z.ok).1 _ _ (show b1 < bx + 1 by omega)).trans g2
          have e0 := fun z : Wd (bx + 1) wr => ((bcell z.ok).1 _ _ (show bx < bx + 1 by omega)).trans y0
          have e1 := fun z : Wd (bx + 1) wr => ((bcell z.ok).1 _ _ (show bx < bx + 1 by omega)).trans y1
          have hP := CT.out k hk2
          obtain ⟨h1, h2⟩ := Ht.out.tok k hk2
          generalize Pl.lp x.data.toList t.fr T[k] = m at hP h1 h2
          clear c0 c1 c2 g0 g1 g2 y0 y1 y2
          have p1 : decide ((t.to : Int) - (t.fr : Int) < (m : Int)) = false := by simp; omega
          have HP := Lib.hid hP
          have Hh2 := Lib.hid h2
          clear hP h2
          go_wp2_with fail
          refine region_cls (bx + 1) (by kernel_rfl) (by kernel_rfl) ?_
          repeat (go_big_quiet_step (first | (go_at_call 17; exact calls_cls _ hz7 (HP.out _))))
          refine wpQuiet_nil ?_
          intro z
          have R4 := Lib.hid (R2.out.trans (z.ok.mono (by omega)))
          by_cases p2 : m = t.to - t.fr
          · by_cases p3 : 0 < m
            · have p4 : decide ((k : Int) + 1 < (t.term : Int)) = false := by have := Hh2.out p2 p3; simp; omega
              have p2' : ((m : Int) == (t.to : Int) - (t.fr : Int)) = true := by simp; omega
              have p3' : decide (0 < m) = true := by simpa using p3
              go_wp2_with fail
              go_roundw
              case rel => exact ⟨k + 1, by go_num, by omega, R4⟩
              case measure => simp [intOf]; omega
            · have p2' : ((m : Int) == (t.to : Int) - (t.fr : Int)) = true := by simp; omega
              have p3' : decide (0 < m) = false := by simpa using p3
              go_wp2_with fail
              go_roundw
              case rel => exact ⟨k + 1, by go_num, by omega, R4⟩
              case measure => simp [intOf]; omega
          · have p2' : ((m : Int) == (t.to : Int) - (t.fr : Int)) = false := by simp; omega
            go_wp2_with fail
            go_roundw
            case rel => exact ⟨k + 1, by go_num, by omega, R4⟩
            case measure => simp [intOf]; omega
        case neg =>
          obtain rfl : k = T.length := by omega
          clear hk2
          go_wp2_with fail
          clear y0 y1 y2 hxb CT
          have CT := Lib.hid (fun (k : Nat) (h : k < S.length) ww => rlp_any OS.out x hx t.fr k h ww)
          go_loopw [17] (fun i wr => ∃ k : Nat, i = .int .i64 k ∧ k ≤ S.length ∧ Hid (Below (bx + 1) W wr)) (fun i _ => S.length - (intOf i).toNat)
          case atStart => exact ⟨0, rfl, by omega, R2⟩
          case round =>
            clear R2
            obtain ⟨k, rfl, hk, R2⟩ := hrel
            have hz7 : bx + 1 ≤ wr.heap.size := Nat.le_trans hz6 R2.out.size
            have hxb := (R2.out.block _ (by omega)).trans X1.out
            have y0 := cell_of_row _ _ 0 _ _ _ hxb
            have y1 := cell_of_row _ _ 1 _ _ _ hxb
            have y2 := cell_of_row _ _ 2 _ _ _ hxb
            simp at y0 y1 y2
            by_cases hk2 : k < S.length
            case pos =>
              obtain ⟨b1, o1, rfl, c0, c1, c2⟩ := S5.out k hk2
              have hlb : b1 < v3.heap.size := World.block_lt_of_cell? v3 _ c0
              have g0 := (bcell (R1.out.trans (R2.out.mono (by omega)))).1 _ (o1 + k * 3) hlb |>.trans c0
              have g1 := (bcell (R1.out.trans (R2.out.mono (by omega)))).1 _ (o1 + k * 3 + 1) hlb |>.trans c1
              have g2 := (bcell (R1.out.trans (R2.out.mono (by omega)))).1 _ (o1 + k * 3 + 2) hlb |>.trans c2
              have f0 := fun z : Wd (bx + 1) wr => ((bcell z.ok).1 _ _ (show b1 < bx + 1 by omega)).trans g0
              have f1 := fun z : Wd (bx + 1) wr => ((bcell z.ok).1 _ _ (show b1 < bx + 1 by omega)).trans g1
              have f2 := fun z : Wd (bx + 1) wr => ((bcell z.ok).1 _ _ (show b1 < bx + 1 by omega)).trans g2
              have e0 := fun z : Wd (bx + 1) wr => ((bcell z.ok).1 _ _ (show bx < bx + 1 by omega)).trans y0
              have e1 := fun z : Wd (bx + 1) wr => ((bcell z.ok).1 _ _ (show bx < bx + 1 by omega)).trans y1
              have hP := CT.out k hk2
              have h1 := Ht.out.skip k hk2
              generalize Pl.lp x.data.toList t.fr S[k] = m at hP h1
              clear c0 c1 c2 g0 g1 g2 y0 y1 y2
              have p1 : decide ((t.to : Int) - (t.fr : Int) < (m : Int)) = false := by simp; omega
              have HP := Lib.hid hP
              clear hP
              go_wp2_with fail
              refine region_cls (bx + 1) (by kernel_rfl) (by kernel_rfl) ?_
              repeat (go_big_quiet_step (first | (go_at_call 17; exact calls_cls _ hz7 (HP.out _))))
              refine wpQuiet_nil ?_
              intro z
              have R4 := Lib.hid (R2.out.trans (z.ok.mono (by omega)))
              go_wp2_with fail
              go_roundw
              case rel => exact ⟨k + 1, by go_num, by omega, R4⟩
              case measure => simp [intOf]; omega
            case neg =>
              obtain rfl : k = S.length := by omega
              clear hk2
              go_wp2_with fail
              have R5 := Lib.hid (R1.out.trans (R2.out.mono (by omega)))
              go_roundw
              case rel => exact ⟨j + 1, by go_num, by omega, E1, R5⟩
              case measure => simp [intOf]; omega
end Go.Proofs.Ytgoggooeipcgpaa
