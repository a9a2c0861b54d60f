/-
  The walk of the law ScanScans: it answers true, and turns nothing that was there.
-/
import Derived.Test.YtgoggooeipcgpaaScanX
namespace Go.Proofs.Ytgoggooeipcgpaa
open Go.RowKit
set_option linter.unusedVariables false

/-- Behind the last token: the scanner stays. -/
def Fin (T S : List Pl.Pt) (x : ByteArray) (l : List Pl.Tk) (er sk p k : Nat) : Prop :=
  ∃ h : l.length - 1 < l.length, Pl.next T S x.data.toList x.size p k = (l[l.length - 1], er, p, k) ∧ k = sk ∧ l[l.length - 1].fr = p

set_option maxRecDepth 100000 in
set_option maxHeartbeats 3200000 in
theorem scans_law (T S : List Pl.Pt) (ta sa : Option Addr) (tc sc : Nat) (x : ByteArray) (w : World) (hT : SlP w ta T) (hS : SlP w sa S) (oT : OkP T) (oS : OkP S) (lT : T.length * 40 ≤ 140737488355328) (lS : S.length ≤ 9223372036854775806) (hx : x.size ≤ maxLen) :
    Calls Try.prog 12 #[.slice ta T.length tc, .slice sa S.length sc, .string x] w fun e w' => e = .returned (.bool true) ∧ Below w.heap.size w w' := by
  have lT' : T.length ≤ 9223372036854775806 := by omega
  have T0 := Lib.hid hT
  have S0 := Lib.hid hS
  have OT := Lib.hid oT
  have OS := Lib.hid oS
  clear hT hS oT oS
  go_enter Try.func12, Try.ntmps12
  go_wp2_with fail
  refine (awake17_any _).mono ?_
  rintro e v0 ⟨rfl, hb⟩
  have T1 := Lib.hid (T0.out.below hb)
  have S1 := Lib.hid (S0.out.below hb)
  have L1 := Lib.hid hb
  clear hb T0 S0
  go_wp2_with fail
  refine (made_any T S ta sa tc sc v0 T1.out lT).mono ?_
  rintro e v1 ⟨ga, gc, rfl, hg, hb⟩
  have G2 := Lib.hid hg
  have T2 := Lib.hid (T1.out.below hb)
  have S2 := Lib.hid (S1.out.below hb)
  have L2 := Lib.hid (L1.out.trans (hb.mono L1.out.size))
  clear hb hg T1 S1 L1
  go_wp2_with fail
  have hbx := ((Below.refl v1.heap.size v1).alloc (Nat.le_refl _) (.cells #[.slice ga T.length gc, .slice sa S.length sc, .slice none 0 0, .string ⟨#[]⟩, .slice none 0 0] 40))
  have G3 := Lib.hid (G2.out.below hbx)
  have T3 := Lib.hid (T2.out.below hbx)
  have S3 := Lib.hid (S2.out.below hbx)
  have L3 := Lib.hid (L2.out.trans (hbx.mono L2.out.size))
  have hz3 : v1.heap.size < (v1.alloc (.cells #[.slice ga T.length gc, .slice sa S.length sc, .slice none 0 0, .string ⟨#[]⟩, .slice none 0 0] 40)).heap.size := by simp
  have B3 := Lib.hid (heap_alloc_new v1 (.cells #[.slice ga T.length gc, .slice sa S.length sc, .slice none 0 0, .string ⟨#[]⟩, .slice none 0 0] 40))
  have hw1 : w.heap.size ≤ v1.heap.size := L2.out.size
  generalize (v1.alloc (.cells #[.slice ga T.length gc, .slice sa S.length sc, .slice none 0 0, .string ⟨#[]⟩, .slice none 0 0] 40)) = V at hbx G3 T3 S3 L3 hz3 B3 ⊢
  clear hbx G2 T2 S2 L2
  refine (fewg_any T S ga sa gc sc V G3.out S3.out OT.out OS.out (by unfold maxLen; omega) (by unfold maxLen; omega)).mono ?_
  rintro e v2 ⟨rfl, hb⟩
  have G4 := Lib.hid (G3.out.below hb)
  have T4 := Lib.hid (T3.out.below hb)
  have S4 := Lib.hid (S3.out.below hb)
  have L4 := Lib.hid (L3.out.trans (hb.mono L3.out.size))
  have B4 := Lib.hid ((hb.block _ hz3).trans B3.out)
  have hz4 : v1.heap.size < v2.heap.size := Nat.lt_of_lt_of_le hz3 hb.size
  clear hb G3 T3 S3 L3 B3 hz3
  have hfew : fewG T S = true → T.length ≤ 20 ∧ S.length ≤ 10 := fun h => by simp [fewG] at h; omega
  cases hfw : fewG T S with
  | false =>
    clear hfew
    go_wp2_with fail
    go_ret
    exact ⟨rfl, L4.out⟩
  | true =>
  obtain ⟨l20, l10⟩ := hfew hfw
  clear hfew hfw
  by_cases h100 : x.size ≤ 100
  case neg =>
    have h1' : decide (100 < (x.size : Int)) = true := by simp; omega
    go_wp2_with fail
    go_ret
    exact ⟨rfl, L4.out⟩
  have h1' : decide (100 < (x.size : Int)) = false := by simp; omega
  have c0 := cell_of_row _ _ 0 _ _ _ B4.out
  have c1 := cell_of_row _ _ 1 _ _ _ B4.out
  have c2 := cell_of_row _ _ 2 _ _ _ B4.out
  have c3 := cell_of_row _ _ 3 _ _ _ B4.out
  have c4 := cell_of_row _ _ 4 _ _ _ B4.out
  simp at c0 c1 c2 c3 c4
  go_wp2_with fail
  refine (sall_any T S ga sa gc sc x v2 G4.out S4.out OT.out OS.out (by omega) (by omega) (by omega)).mono ?_
  rintro e v3 ⟨la, lc, rfl, hl, hb⟩
  have K5 := Lib.hid hl
  have G5 := Lib.hid (G4.out.below hb)
  have T5 := Lib.hid (T4.out.below hb)
  have S5 := Lib.hid (S4.out.below hb)
  have L5 := Lib.hid (L4.out.trans (hb.mono L4.out.size))
  have B5 := Lib.hid ((hb.block _ hz4).trans B4.out)
  have hz5 : v1.heap.size < v3.heap.size := Nat.lt_of_lt_of_le hz4 hb.size
  clear hb hl G4 T4 S4 L4 B4 hz4 c0 c1 c2 c3 c4 h1'
  obtain ⟨-, kEr, kNe⟩ := Pl.cut_ok T S x.data.toList x.size 0 0 (Nat.zero_le _) (by show x.size ≤ 0 + x.size; omega)
  have kLen := Pl.cut_len T S x.data.toList x.size 0 0 (Nat.zero_le _)
  have A0 := Lib.hid (Pl.Ahead.start T S x.data.toList)
  have kNe := List.length_pos_iff.2 kNe
  have hx8 : x.data.toList.length = x.size := rfl
  rw [hx8] at kLen A0
  have CR := Lib.hid (fun W (h1 : SlT W ga T) (h2 : SlP W sa S) => rall_any T S ga sa gc sc x W h1 h2 OT.out OS.out (by unfold maxLen; omega) (by unfold maxLen; omega) (by omega))
  unfold RAllP at CR
  generalize Pl.cut T S x.data.toList x.size 0 0 = R at K5 kEr kNe kLen A0 CR ⊢
  obtain ⟨l, er, sk⟩ := R
  simp only [] at K5 kEr kNe kLen A0 CR ⊢
  have lL : l.length ≤ 101 := by omega
  clear kLen
  have c0 := cell_of_row _ _ 0 _ _ _ B5.out
  have c1 := cell_of_row _ _ 1 _ _ _ B5.out
  have c2 := cell_of_row _ _ 2 _ _ _ B5.out
  have c3 := cell_of_row _ _ 3 _ _ _ B5.out
  have c4 := cell_of_row _ _ 4 _ _ _ B5.out
  simp at c0 c1 c2 c3 c4
  go_wp2_with fail
  refine (CR.out _ G5.out S5.out).mono ?_
  rintro e v4 ⟨ma, mc, rfl, hm, hb⟩
  have M6 := Lib.hid hm
  have K6 := Lib.hid (K5.out.below hb)
  have G6 := Lib.hid (G5.out.below hb)
  have S6 := Lib.hid (S5.out.below hb)
  have L6 := Lib.hid (L5.out.trans (hb.mono L5.out.size))
  have B6 := Lib.hid ((hb.block _ hz5).trans B5.out)
  have hz6 : v1.heap.size < v4.heap.size := Nat.lt_of_lt_of_le hz5 hb.size
  clear hb hm G5 S5 T5 L5 B5 K5 CR c0 c1 c2 c3 c4 hz5
  have c0 := cell_of_row _ _ 0 _ _ _ B6.out
  have c1 := cell_of_row _ _ 1 _ _ _ B6.out
  have c2 := cell_of_row _ _ 2 _ _ _ B6.out
  have c3 := cell_of_row _ _ 3 _ _ _ B6.out
  have c4 := cell_of_row _ _ 4 _ _ _ B6.out
  simp at c0 c1 c2 c3 c4
  go_wp2_with fail
  refine (new_any ga T gc sa S sc x v4).mono ?_
  rintro e v5 ⟨g, rfl, hg, hg4, hb⟩
  have P7 := Lib.hid hg
  have M7 := Lib.hid (M6.out.below hb)
  have K7 := Lib.hid (K6.out.below hb)
  have G7 := Lib.hid (G6.out.below hb)
  have S7 := Lib.hid (S6.out.below hb)
  have L7 := Lib.hid (L6.out.trans (hb.mono L6.out.size))
  have W7 := Lib.hid hb
  have L6F' := Lib.hid L6.out
  clear hb hg L6 B6 K6 c0 c1 c2 c3 c4
  have r1 : ((er : Int) != (er : Int)) = false := by simp
  go_wp2_with fail
  refine (toks_same l la ma lc mc v5 K7.out M7.out (by omega)).mono ?_
  rintro e v6 ⟨rfl, hb⟩
  have P8 := Lib.hid ((hb.block _ P7.out.lt).trans P7.out)
  have W8 := Lib.hid (W7.out.trans (hb.mono W7.out.size))
  have L8 := Lib.hid (L7.out.trans (hb.mono L7.out.size))
  clear hb P7 W7 L7 K7 M7 G7 S7
  have CN := Lib.hid (fun i k W (hg : ScB W g ga T gc sa S sc x i k) hB0 hi hk => next_any g ga T gc sa S sc x i k v4 W hg G6.out S6.out hB0 hg4 OT.out OS.out (by omega) (by omega) (by omega) hi hk)
  go_wp2_with fail
  have hxs : x.data.toList.length = x.size := rfl
  go_loopw [16] (fun i wr => ∃ j p k : Nat, i = .int .i64 j ∧ j ≤ l.length ∧ p ≤ x.size ∧ k ≤ p ∧ Hid (j < l.length → Pl.Ahead T S x.data.toList l er sk j p k) ∧ Hid (j = l.length → Fin T S x l er sk p k) ∧ Hid (ScB wr g ga T gc sa S sc x p k) ∧ Hid (Below v4.heap.size v4 wr)) (fun i _ => l.length - (intOf i).toNat)
  case atStart => exact ⟨0, 0, 0, rfl, by omega, by omega, by omega, Lib.hid (fun _ => A0.out), Lib.hid (fun h => by omega), P8, W8⟩
  case round =>
    clear A0 P8 W8
    obtain ⟨j, p, k, rfl, hj, hp, hkp, A0, F0, P8, W8⟩ := hrel
    by_cases hlt : j < l.length
    case pos =>
      obtain ⟨n1, n2, n3, n4, n5⟩ := (A0.out hlt).next hlt
      have DN := Lib.hid (CN.out p k wr P8.out W8.out hp hkp)
      rw [hxs] at n1 n2 n3 n4 n5
      have HL : Hid (j + 1 = l.length → l[l.length - 1]'(by omega) = l[j]) := Lib.hid (fun h => by congr 1; omega)
      obtain ⟨b1, o1, hma, k0, k1, k2⟩ := (M6.out.below W8.out) j hlt
      subst hma
      have hlb : b1 < wr.heap.size := World.block_lt_of_cell? wr _ k0
      obtain ⟨t, ht⟩ : ∃ t, t = l[j] := ⟨_, rfl⟩
      rw [← ht] at n1 n5 HL
      have HTJ := Lib.hid ht
      clear k0 k1 k2
      generalize hr : Pl.next T S x.data.toList x.size p k = r at DN n1 n2 n3 n4 n5
      obtain ⟨tok, e1, p', k'⟩ := r
      simp only [] at DN n1 n2 n3 n4 n5
      subst n1
      have lt8 := P8.out.lt
      have hE := fun w => eqTok (tok.term : Nat) (tok.fr : Nat) (tok.to : Nat) (tok.term : Nat) (tok.fr : Nat) (tok.to : Nat) w
      simp only [beq_self_eq_true, Bool.and_self] at hE
      by_cases hlast : j + 1 = l.length
      case pos =>
        obtain ⟨m1, m2, m3, m4⟩ := n5 hlast
        have FIN : Hid (j + 1 = l.length → Fin T S x l er sk p' k') := Lib.hid (fun _ => ⟨by omega, by rw [HL.out hlast, ← m1, m4], m2, by rw [HL.out hlast]; exact m3⟩)
        have AH : Hid (j + 1 < l.length → Pl.Ahead T S x.data.toList l er sk (j + 1) p' k') := Lib.hid (fun h => by omega)
        have q1 : ((j : Int) == (l.length : Int) - 1) = true := by simp; omega
        subst m1
        clear n4 n5 m2 m3 m4 HL ht
        rcases kEr with hee | hee
        all_goals
          first | (have e0 : ((e1 : Int) != 0) = false := by simp; omega) | (have e0 : ((e1 : Int) != 0) = true := by simp; omega)
          have HEE := Lib.hid hee
          clear hee
          go_wp2_with fail
          refine DN.out.mono ?_
          rintro e u ⟨rfl, hg, hb⟩
          have hbx := (Below.refl u.heap.size u).alloc (Nat.le_refl _) (.cells #[.int .i64 (tok.term : Nat), .int .i64 (tok.fr : Nat), .int .i64 (tok.to : Nat)] 48)
          have X9 := heap_alloc_new u (.cells #[.int .i64 (tok.term : Nat), .int .i64 (tok.fr : Nat), .int .i64 (tok.to : Nat)] 48)
          have hzU : u.heap.size + 1 ≤ (u.alloc (.cells #[.int .i64 (tok.term : Nat), .int .i64 (tok.fr : Nat), .int .i64 (tok.to : Nat)] 48)).heap.size := by simp
          have P9 := Lib.hid ((hbx.block _ hg.lt).trans hg)
          have hgu := hg.lt
          have W9' := W8.out.trans (hb.below (by omega) (by omega) W8.out.size)
          have W9 := Lib.hid (W9'.trans (hbx.mono W9'.size))
          have hw4 := W9'.size
          obtain ⟨b2, o2, hma, c0, c1, c2⟩ := (M6.out.below W9.out) j hlt
          rw [← HTJ.out] at c0 c1 c2
          have l2 : b2 < u.heap.size + 1 := by have := World.block_lt_of_cell? _ _ c0; simpa using this
          injection hma with hma
          injection hma with hma1 hma2
          subst hma1 hma2
          have y0 : (u.alloc (.cells #[.int .i64 (tok.term : Nat), .int .i64 (tok.fr : Nat), .int .i64 (tok.to : Nat)] 48)).cell? ⟨u.heap.size, 0, none⟩ = some (.int .i64 (tok.term : Nat)) := by rw [cell_of_row _ _ _ _ _ _ X9]; rfl
          have y1 : (u.alloc (.cells #[.int .i64 (tok.term : Nat), .int .i64 (tok.fr : Nat), .int .i64 (tok.to : Nat)] 48)).cell? ⟨u.heap.size, 1, none⟩ = some (.int .i64 (tok.fr : Nat)) := by rw [cell_of_row _ _ _ _ _ _ X9]; rfl
          have y2 : (u.alloc (.cells #[.int .i64 (tok.term : Nat), .int .i64 (tok.fr : Nat), .int .i64 (tok.to : Nat)] 48)).cell? ⟨u.heap.size, 2, none⟩ = some (.int .i64 (tok.to : Nat)) := by rw [cell_of_row _ _ _ _ _ _ X9]; rfl
          have f0 := fun z : Wd (u.heap.size + 1) (u.alloc (.cells #[.int .i64 (tok.term : Nat), .int .i64 (tok.fr : Nat), .int .i64 (tok.to : Nat)] 48)) => ((bcell z.ok).1 _ _ l2).trans c0
          have f1 := fun z : Wd (u.heap.size + 1) (u.alloc (.cells #[.int .i64 (tok.term : Nat), .int .i64 (tok.fr : Nat), .int .i64 (tok.to : Nat)] 48)) => ((bcell z.ok).1 _ _ l2).trans c1
          have f2 := fun z : Wd (u.heap.size + 1) (u.alloc (.cells #[.int .i64 (tok.term : Nat), .int .i64 (tok.fr : Nat), .int .i64 (tok.to : Nat)] 48)) => ((bcell z.ok).1 _ _ l2).trans c2
          have e0' := fun z : Wd (u.heap.size + 1) (u.alloc (.cells #[.int .i64 (tok.term : Nat), .int .i64 (tok.fr : Nat), .int .i64 (tok.to : Nat)] 48)) => ((bcell z.ok).1 _ _ (show u.heap.size < u.heap.size + 1 by omega)).trans y0
          have e1' := fun z : Wd (u.heap.size + 1) (u.alloc (.cells #[.int .i64 (tok.term : Nat), .int .i64 (tok.fr : Nat), .int .i64 (tok.to : Nat)] 48)) => ((bcell z.ok).1 _ _ (show u.heap.size < u.heap.size + 1 by omega)).trans y1
          have e2' := fun z : Wd (u.heap.size + 1) (u.alloc (.cells #[.int .i64 (tok.term : Nat), .int .i64 (tok.fr : Nat), .int .i64 (tok.to : Nat)] 48)) => ((bcell z.ok).1 _ _ (show u.heap.size < u.heap.size + 1 by omega)).trans y2
          clear hg hb c0 c1 c2 W9' y0 y1 y2 hbx X9
          go_wp2_with fail
          generalize (u.alloc (.cells #[.int .i64 (tok.term : Nat), .int .i64 (tok.fr : Nat), .int .i64 (tok.to : Nat)] 48)) = U at f0 f1 f2 e0' e1' e2' P9 W9 hzU ⊢
          refine region_cls (u.heap.size + 1) (by kernel_rfl) (by kernel_rfl) ?_
          repeat (go_big_quiet_step (fail))
          refine wpQuiet_nil ?_
          intro z
          have P10 := Lib.hid ((z.ok.block _ (by omega)).trans P9.out)
          have W10 := Lib.hid (W9.out.trans (z.ok.mono (by omega)))
          go_wp2_with fail
          go_roundw
          case rel => exact ⟨j + 1, p', k', by go_num, by omega, n2, n3, AH, FIN, P10, W10⟩
          case measure => simp [intOf]; omega
      case neg =>
        obtain ⟨m1, m2⟩ := n4 hlast
        have AH : Hid (j + 1 < l.length → Pl.Ahead T S x.data.toList l er sk (j + 1) p' k') := Lib.hid (fun _ => m2)
        have FIN : Hid (j + 1 = l.length → Fin T S x l er sk p' k') := Lib.hid (fun h => absurd h hlast)
        have q1 : ((j : Int) == (l.length : Int) - 1) = false := by simp; omega
        subst m1
        clear n4 n5 m2 HL ht
        rcases kEr with hee | hee
        all_goals
          first | (have e0 : ((er : Int) != 0) = false := by simp; omega) | (have e0 : ((er : Int) != 0) = true := by simp; omega)
          have HEE := Lib.hid hee
          clear hee
          go_wp2_with fail
          refine DN.out.mono ?_
          rintro e u ⟨rfl, hg, hb⟩
          have hbx := (Below.refl u.heap.size u).alloc (Nat.le_refl _) (.cells #[.int .i64 (tok.term : Nat), .int .i64 (tok.fr : Nat), .int .i64 (tok.to : Nat)] 48)
          have X9 := heap_alloc_new u (.cells #[.int .i64 (tok.term : Nat), .int .i64 (tok.fr : Nat), .int .i64 (tok.to : Nat)] 48)
          have hzU : u.heap.size + 1 ≤ (u.alloc (.cells #[.int .i64 (tok.term : Nat), .int .i64 (tok.fr : Nat), .int .i64 (tok.to : Nat)] 48)).heap.size := by simp
          have P9 := Lib.hid ((hbx.block _ hg.lt).trans hg)
          have hgu := hg.lt
          have W9' := W8.out.trans (hb.below (by omega) (by omega) W8.out.size)
          have W9 := Lib.hid (W9'.trans (hbx.mono W9'.size))
          have hw4 := W9'.size
          obtain ⟨b2, o2, hma, c0, c1, c2⟩ := (M6.out.below W9.out) j hlt
          rw [← HTJ.out] at c0 c1 c2
          have l2 : b2 < u.heap.size + 1 := by have := World.block_lt_of_cell? _ _ c0; simpa using this
          injection hma with hma
          injection hma with hma1 hma2
          subst hma1 hma2
          have y0 : (u.alloc (.cells #[.int .i64 (tok.term : Nat), .int .i64 (tok.fr : Nat), .int .i64 (tok.to : Nat)] 48)).cell? ⟨u.heap.size, 0, none⟩ = some (.int .i64 (tok.term : Nat)) := by rw [cell_of_row _ _ _ _ _ _ X9]; rfl
          have y1 : (u.alloc (.cells #[.int .i64 (tok.term : Nat), .int .i64 (tok.fr : Nat), .int .i64 (tok.to : Nat)] 48)).cell? ⟨u.heap.size, 1, none⟩ = some (.int .i64 (tok.fr : Nat)) := by rw [cell_of_row _ _ _ _ _ _ X9]; rfl
          have y2 : (u.alloc (.cells #[.int .i64 (tok.term : Nat), .int .i64 (tok.fr : Nat), .int .i64 (tok.to : Nat)] 48)).cell? ⟨u.heap.size, 2, none⟩ = some (.int .i64 (tok.to : Nat)) := by rw [cell_of_row _ _ _ _ _ _ X9]; rfl
          have f0 := fun z : Wd (u.heap.size + 1) (u.alloc (.cells #[.int .i64 (tok.term : Nat), .int .i64 (tok.fr : Nat), .int .i64 (tok.to : Nat)] 48)) => ((bcell z.ok).1 _ _ l2).trans c0
          have f1 := fun z : Wd (u.heap.size + 1) (u.alloc (.cells #[.int .i64 (tok.term : Nat), .int .i64 (tok.fr : Nat), .int .i64 (tok.to : Nat)] 48)) => ((bcell z.ok).1 _ _ l2).trans c1
          have f2 := fun z : Wd (u.heap.size + 1) (u.alloc (.cells #[.int .i64 (tok.term : Nat), .int .i64 (tok.fr : Nat), .int .i64 (tok.to : Nat)] 48)) => ((bcell z.ok).1 _ _ l2).trans c2
          have e0' := fun z : Wd (u.heap.size + 1) (u.alloc (.cells #[.int .i64 (tok.term : Nat), .int .i64 (tok.fr : Nat), .int .i64 (tok.to : Nat)] 48)) => ((bcell z.ok).1 _ _ (show u.heap.size < u.heap.size + 1 by omega)).trans y0
          have e1' := fun z : Wd (u.heap.size + 1) (u.alloc (.cells #[.int .i64 (tok.term : Nat), .int .i64 (tok.fr : Nat), .int .i64 (tok.to : Nat)] 48)) => ((bcell z.ok).1 _ _ (show u.heap.size < u.heap.size + 1 by omega)).trans y1
          have e2' := fun z : Wd (u.heap.size + 1) (u.alloc (.cells #[.int .i64 (tok.term : Nat), .int .i64 (tok.fr : Nat), .int .i64 (tok.to : Nat)] 48)) => ((bcell z.ok).1 _ _ (show u.heap.size < u.heap.size + 1 by omega)).trans y2
          clear hg hb c0 c1 c2 W9' y0 y1 y2 hbx X9
          go_wp2_with fail
          generalize (u.alloc (.cells #[.int .i64 (tok.term : Nat), .int .i64 (tok.fr : Nat), .int .i64 (tok.to : Nat)] 48)) = U at f0 f1 f2 e0' e1' e2' P9 W9 hzU ⊢
          refine region_cls (u.heap.size + 1) (by kernel_rfl) (by kernel_rfl) ?_
          repeat (go_big_quiet_step (fail))
          refine wpQuiet_nil ?_
          intro z
          have P10 := Lib.hid ((z.ok.block _ (by omega)).trans P9.out)
          have W10 := Lib.hid (W9.out.trans (z.ok.mono (by omega)))
          go_wp2_with fail
          go_roundw
          case rel => exact ⟨j + 1, p', k', by go_num, by omega, n2, n3, AH, FIN, P10, W10⟩
          case measure => simp [intOf]; omega
    case neg =>
      have hje : j = l.length := by omega
      obtain ⟨hl1, hnx, hks, hfr⟩ := F0.out hje
      have DN := Lib.hid (CN.out p k wr P8.out W8.out hp hkp)
      rw [hnx] at DN
      obtain ⟨b1, o1, hma, k0, k1, k2⟩ := (M6.out.below W8.out) (l.length - 1) hl1
      subst hma
      obtain ⟨tok, ht⟩ : ∃ t, t = l[l.length - 1] := ⟨_, rfl⟩
      rw [← ht] at DN hfr
      have HTJ := Lib.hid ht
      clear k0 k1 k2 ht hnx
      obtain ⟨tm, fr, tt⟩ := tok
      simp only [] at DN hfr
      subst hje hks hfr
      have lt8 := P8.out.lt
      have hE := fun w => eqTok (tm : Nat) (fr : Nat) (tt : Nat) (tm : Nat) (fr : Nat) (tt : Nat) w
      simp only [beq_self_eq_true, Bool.and_self] at hE
      clear hlt
      go_wp2_with fail
      refine DN.out.mono ?_
      rintro e u ⟨rfl, hg, hb⟩
      have hbx := (Below.refl u.heap.size u).alloc (Nat.le_refl _) (.cells #[.int .i64 (tm : Nat), .int .i64 (fr : Nat), .int .i64 (tt : Nat)] 48)
      have X9 := heap_alloc_new u (.cells #[.int .i64 (tm : Nat), .int .i64 (fr : Nat), .int .i64 (tt : Nat)] 48)
      have hzU : u.heap.size + 1 ≤ (u.alloc (.cells #[.int .i64 (tm : Nat), .int .i64 (fr : Nat), .int .i64 (tt : Nat)] 48)).heap.size := by simp
      have P9 := Lib.hid ((hbx.block _ hg.lt).trans hg)
      have hgu := hg.lt
      have W9' := W8.out.trans (hb.below (by omega) (by omega) W8.out.size)
      have W9 := Lib.hid (W9'.trans (hbx.mono W9'.size))
      have hw4 := W9'.size
      obtain ⟨b2, o2, hma, c0, c1, c2⟩ := (M6.out.below W9.out) (l.length - 1) hl1
      rw [← HTJ.out] at c0 c1 c2
      have l2 : b2 < u.heap.size + 1 := by have := World.block_lt_of_cell? _ _ c0; simpa using this
      injection hma with hma
      injection hma with hma1 hma2
      subst hma1 hma2
      have y0 : (u.alloc (.cells #[.int .i64 (tm : Nat), .int .i64 (fr : Nat), .int .i64 (tt : Nat)] 48)).cell? ⟨u.heap.size, 0, none⟩ = some (.int .i64 (tm : Nat)) := by rw [cell_of_row _ _ _ _ _ _ X9]; rfl
      have y1 : (u.alloc (.cells #[.int .i64 (tm : Nat), .int .i64 (fr : Nat), .int .i64 (tt : Nat)] 48)).cell? ⟨u.heap.size, 1, none⟩ = some (.int .i64 (fr : Nat)) := by rw [cell_of_row _ _ _ _ _ _ X9]; rfl
      have y2 : (u.alloc (.cells #[.int .i64 (tm : Nat), .int .i64 (fr : Nat), .int .i64 (tt : Nat)] 48)).cell? ⟨u.heap.size, 2, none⟩ = some (.int .i64 (tt : Nat)) := by rw [cell_of_row _ _ _ _ _ _ X9]; rfl
      have f0 := fun z : Wd (u.heap.size + 1) (u.alloc (.cells #[.int .i64 (tm : Nat), .int .i64 (fr : Nat), .int .i64 (tt : Nat)] 48)) => ((bcell z.ok).1 _ _ l2).trans c0
      have f1 := fun z : Wd (u.heap.size + 1) (u.alloc (.cells #[.int .i64 (tm : Nat), .int .i64 (fr : Nat), .int .i64 (tt : Nat)] 48)) => ((bcell z.ok).1 _ _ l2).trans c1
      have f2 := fun z : Wd (u.heap.size + 1) (u.alloc (.cells #[.int .i64 (tm : Nat), .int .i64 (fr : Nat), .int .i64 (tt : Nat)] 48)) => ((bcell z.ok).1 _ _ l2).trans c2
      have e0' := fun z : Wd (u.heap.size + 1) (u.alloc (.cells #[.int .i64 (tm : Nat), .int .i64 (fr : Nat), .int .i64 (tt : Nat)] 48)) => ((bcell z.ok).1 _ _ (show u.heap.size < u.heap.size + 1 by omega)).trans y0
      have e1' := fun z : Wd (u.heap.size + 1) (u.alloc (.cells #[.int .i64 (tm : Nat), .int .i64 (fr : Nat), .int .i64 (tt : Nat)] 48)) => ((bcell z.ok).1 _ _ (show u.heap.size < u.heap.size + 1 by omega)).trans y1
      have e2' := fun z : Wd (u.heap.size + 1) (u.alloc (.cells #[.int .i64 (tm : Nat), .int .i64 (fr : Nat), .int .i64 (tt : Nat)] 48)) => ((bcell z.ok).1 _ _ (show u.heap.size < u.heap.size + 1 by omega)).trans y2
      have PZ : ∀ z : Wd (u.heap.size + 1) (u.alloc (.cells #[.int .i64 (tm : Nat), .int .i64 (fr : Nat), .int .i64 (tt : Nat)] 48)), ScB z.w g ga T gc sa S sc x fr k := fun z : Wd (u.heap.size + 1) (u.alloc (.cells #[.int .i64 (tm : Nat), .int .i64 (fr : Nat), .int .i64 (tt : Nat)] 48)) => (z.ok.block g (by omega)).trans P9.out
      have HPZ := Lib.hid PZ
      clear hg hb c0 c1 c2 W9' y0 y1 y2 hbx X9 PZ
      go_wp2_with fail
      generalize (u.alloc (.cells #[.int .i64 (tm : Nat), .int .i64 (fr : Nat), .int .i64 (tt : Nat)] 48)) = U at f0 f1 f2 e0' e1' e2' P9 W9 hzU HPZ ⊢
      refine region_cls (u.heap.size + 1) (by kernel_rfl) (by kernel_rfl) ?_
      repeat (go_big_quiet_step (first | (go_at_call 32; exact calls_cls _ hzU (skipped_any g ga T gc sa S sc x fr k _ (HPZ.out _))) | (go_at_call 33; exact calls_cls _ hzU (at_any g ga T gc sa S sc x fr k _ (HPZ.out _)))))
      refine wpQuiet_nil ?_
      intro z
      have W10 := Lib.hid (W9.out.trans (z.ok.mono (by omega)))
      go_wp2_with fail
      go_ret
      exact ⟨rfl, L6F'.out.trans (W10.out.mono L6F'.out.size)⟩
end Go.Proofs.Ytgoggooeipcgpaa
