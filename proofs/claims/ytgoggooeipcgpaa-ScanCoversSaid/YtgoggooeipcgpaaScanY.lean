/-
  The walk of the law ScanCovers: it answers true, and turns nothing that was there.
-/
import Derived.Test.YtgoggooeipcgpaaScanX
namespace Go.Proofs.Ytgoggooeipcgpaa
open Go.RowKit
set_option linter.unusedVariables false

set_option maxRecDepth 100000 in
set_option maxHeartbeats 3200000 in
theorem covers_law (T S : List Pl.Pt) (ta sa : Option Addr) (tc sc : Nat) (x : ByteArray) (w : World) (hT : SlP w ta T) (hS : SlP w sa S) (oT : OkP T) (oS : OkP S) (lT : T.length * 40 ≤ 140737488355328) (lS : S.length ≤ 9223372036854775806) (hx : x.size ≤ maxLen) :
    Calls Try.prog 9 #[.slice ta T.length tc, .slice sa S.length sc, .string x] w fun e w' => e = .returned (.bool true) ∧ Below w.heap.size w w' := by
  have lT' : T.length ≤ 9223372036854775806 := by omega
  have T0 := Lib.hid hT
  have S0 := Lib.hid hS
  have OT := Lib.hid oT
  have OS := Lib.hid oS
  clear hT hS oT oS
  go_enter Try.func9, Try.ntmps9
  go_wp2_with fail
  refine (awake17_any _).mono ?_
  rintro e v0 ⟨rfl, hb⟩
  have T1 := Lib.hid (T0.out.below hb)
  have S1 := Lib.hid (S0.out.below hb)
  have L1 := Lib.hid hb
  clear hb T0 S0
  go_wp2_with fail
  refine (made_any T S ta sa tc sc v0 T1.out lT).mono ?_
  rintro e v1 ⟨ga, gc, rfl, hg, hb⟩
  have G2 := Lib.hid hg
  have T2 := Lib.hid (T1.out.below hb)
  have S2 := Lib.hid (S1.out.below hb)
  have L2 := Lib.hid (L1.out.trans (hb.mono L1.out.size))
  clear hb hg T1 S1 L1
  go_wp2_with fail
  have hbx := ((Below.refl v1.heap.size v1).alloc (Nat.le_refl _) (.cells #[.slice ga T.length gc, .slice sa S.length sc, .slice none 0 0, .string ⟨#[]⟩, .slice none 0 0] 40))
  have G3 := Lib.hid (G2.out.below hbx)
  have T3 := Lib.hid (T2.out.below hbx)
  have S3 := Lib.hid (S2.out.below hbx)
  have L3 := Lib.hid (L2.out.trans (hbx.mono L2.out.size))
  have hz3 : v1.heap.size < (v1.alloc (.cells #[.slice ga T.length gc, .slice sa S.length sc, .slice none 0 0, .string ⟨#[]⟩, .slice none 0 0] 40)).heap.size := by simp
  have B3 := Lib.hid (heap_alloc_new v1 (.cells #[.slice ga T.length gc, .slice sa S.length sc, .slice none 0 0, .string ⟨#[]⟩, .slice none 0 0] 40))
  have hw1 : w.heap.size ≤ v1.heap.size := L2.out.size
  generalize (v1.alloc (.cells #[.slice ga T.length gc, .slice sa S.length sc, .slice none 0 0, .string ⟨#[]⟩, .slice none 0 0] 40)) = V at hbx G3 T3 S3 L3 hz3 B3 ⊢
  clear hbx G2 T2 S2 L2
  refine (fewg_any T S ga sa gc sc V G3.out S3.out OT.out OS.out (by unfold maxLen; omega) (by unfold maxLen; omega)).mono ?_
  rintro e v2 ⟨rfl, hb⟩
  have G4 := Lib.hid (G3.out.below hb)
  have T4 := Lib.hid (T3.out.below hb)
  have S4 := Lib.hid (S3.out.below hb)
  have L4 := Lib.hid (L3.out.trans (hb.mono L3.out.size))
  have B4 := Lib.hid ((hb.block _ hz3).trans B3.out)
  have hz4 : v1.heap.size < v2.heap.size := Nat.lt_of_lt_of_le hz3 hb.size
  clear hb G3 T3 S3 L3 B3 hz3
  have hfew : fewG T S = true → T.length ≤ 20 ∧ S.length ≤ 10 := fun h => by simp [fewG] at h; omega
  cases hfw : fewG T S with
  | false =>
    clear hfew
    go_wp2_with fail
    go_ret
    exact ⟨rfl, L4.out⟩
  | true =>
  obtain ⟨l20, l10⟩ := hfew hfw
  clear hfew hfw
  by_cases h100 : x.size ≤ 100
  case neg =>
    have h1' : decide (100 < (x.size : Int)) = true := by simp; omega
    go_wp2_with fail
    go_ret
    exact ⟨rfl, L4.out⟩
  have h1' : decide (100 < (x.size : Int)) = false := by simp; omega
  have c0 := cell_of_row _ _ 0 _ _ _ B4.out
  have c1 := cell_of_row _ _ 1 _ _ _ B4.out
  have c2 := cell_of_row _ _ 2 _ _ _ B4.out
  have c3 := cell_of_row _ _ 3 _ _ _ B4.out
  have c4 := cell_of_row _ _ 4 _ _ _ B4.out
  simp at c0 c1 c2 c3 c4
  go_wp2_with fail
  refine (sall_any T S ga sa gc sc x v2 G4.out S4.out OT.out OS.out (by omega) (by omega) (by omega)).mono ?_
  rintro e v3 ⟨la, lc, rfl, hl, hb⟩
  have K5 := Lib.hid hl
  have G5 := Lib.hid (G4.out.below hb)
  have T5 := Lib.hid (T4.out.below hb)
  have S5 := Lib.hid (S4.out.below hb)
  have L5 := Lib.hid (L4.out.trans (hb.mono L4.out.size))
  have B5 := Lib.hid ((hb.block _ hz4).trans B4.out)
  have hz5 : v1.heap.size < v3.heap.size := Nat.lt_of_lt_of_le hz4 hb.size
  clear hb hl G4 T4 S4 L4 B4 hz4 c0 c1 c2 c3 c4 h1'
  have F0 := Lib.hid (Pl.From.start T S x.data.toList)
  have kLen := Pl.cut_len T S x.data.toList x.size 0 0 (Nat.zero_le _)
  have hx8 : x.data.toList.length = x.size := rfl
  rw [hx8] at F0
  generalize Pl.cut T S x.data.toList x.size 0 0 = R at K5 F0 kLen ⊢
  obtain ⟨l, er, sk⟩ := R
  simp only [] at K5 F0 kLen ⊢
  rw [hx8] at kLen
  have lL : l.length ≤ 101 := by omega
  clear G5 B5 hz5 kLen
  go_wp2_with fail
  have R0 := Lib.hid (Below.refl v3.heap.size v3)
  go_loopw [12, 13] (fun p i wr => ∃ j q : Nat, i = .int .i64 j ∧ p = .int .i64 q ∧ Hid (Pl.From T S x.data.toList l er j q) ∧ Hid (Below v3.heap.size v3 wr)) (fun _ i _ => l.length - (intOf i).toNat)
  case atStart => exact ⟨0, 0, rfl, rfl, F0, R0⟩
  case round =>
    clear R0 F0
    obtain ⟨j, q, rfl, rfl, F0, R0⟩ := hrel
    have hlt : j < l.length := F0.out.2.1
    have K6 := K5.out.below R0.out
    obtain ⟨kb, ko, rfl, k0, k1, k2⟩ := K6 j hlt
    have HA := Lib.hid (fun p (h : Pl.From T S x.data.toList l er j p) => h.at hlt)
    generalize l[j] = t at k0 k1 k2 HA
    obtain ⟨tm, fr, tt⟩ := t
    dsimp only at k0 k1 k2 HA
    obtain ⟨a1, a2, a3, -, -, -⟩ := HA.out q F0.out
    rw [hx8] at a3
    have p1 : decide (fr < q) = false := by simp; omega
    have p2 : decide (tt < fr) = false := by simp; omega
    have p3 : decide (x.size < tt) = false := by simp; omega
    clear K6
    have hbx := ((Below.refl wr.heap.size wr).alloc (Nat.le_refl _) (.cells #[.int .i64 (tm : Nat), .int .i64 (fr : Nat), .int .i64 (tt : Nat)] 48))
    have X1 := Lib.hid (heap_alloc_new wr (.cells #[.int .i64 (tm : Nat), .int .i64 (fr : Nat), .int .i64 (tt : Nat)] 48))
    have R1 := Lib.hid (R0.out.trans (hbx.mono R0.out.size))
    have hz6 : wr.heap.size + 1 ≤ (wr.alloc (.cells #[.int .i64 (tm : Nat), .int .i64 (fr : Nat), .int .i64 (tt : Nat)] 48)).heap.size := by simp
    have hw6 : v3.heap.size ≤ wr.heap.size := R0.out.size
    clear hbx
    go_wp2_with fail
    generalize (wr.alloc (.cells #[.int .i64 (tm : Nat), .int .i64 (fr : Nat), .int .i64 (tt : Nat)] 48)) = W at X1 R1 hz6 ⊢
    have R2 : Hid (Below (wr.heap.size + 1) W W) := Lib.hid (.refl _ _)
    have hj6 : j + 1 ≤ l.length := hlt
    clear R0 k0 k1 k2 p1 a1
    generalize wr.heap.size = bx at X1 hz6 hw6 R2 ⊢
    go_loopw [12] (fun p wr => ∃ q : Nat, p = .int .i64 q ∧ Hid (Pl.From T S x.data.toList l er j q) ∧ q ≤ fr ∧ Hid (Below (bx + 1) W wr)) (fun p _ => fr - (intOf p).toNat)
    case atStart => exact ⟨q, rfl, F0, (HA.out q F0.out).1, R2⟩
    case round =>
      clear R2 F0
      obtain ⟨q, rfl, F0, hq, R2⟩ := hrel
      have hz7 : bx + 1 ≤ wr.heap.size := Nat.le_trans hz6 R2.out.size
      have hxb := (R2.out.block _ (by omega)).trans X1.out
      have y0 := cell_of_row _ _ 0 _ _ _ hxb
      have y1 := cell_of_row _ _ 1 _ _ _ hxb
      have y2 := cell_of_row _ _ 2 _ _ _ hxb
      simp at y0 y1 y2
      by_cases hlt2 : q < fr
      case pos =>
        obtain ⟨-, -, -, b1, -, -⟩ := HA.out q F0.out
        obtain ⟨b1, b2, b3⟩ := b1 hlt2
        have HM : Hid (∃ M, M = Pl.most x.data.toList q S ∧ 0 < M ∧ q + M ≤ fr ∧ Pl.From T S x.data.toList l er j (q + M)) := Lib.hid ⟨_, rfl, b1, b2, b3⟩
        clear b1 b2 b3
        have CT := Lib.hid (fun (k : Nat) (h : k < S.length) ww => rlp_any OS.out x hx q k h ww)
        go_wp2_with fail
        go_loopw [15, 16] (fun nn i wr => ∃ k n : Nat, i = .int .i64 k ∧ k ≤ S.length ∧ nn = .int .i64 n ∧ Hid (n = Pl.most x.data.toList q (S.take k)) ∧ Hid (Below (bx + 1) W wr)) (fun _ i _ => S.length - (intOf i).toNat)
        case atStart => exact ⟨0, 0, rfl, by omega, rfl, Lib.hid rfl, R2⟩
        case round =>
          clear R2 y0 y1 y2 hxb hz7
          obtain ⟨k, n, rfl, hk, rfl, Hn, R2⟩ := hrel
          have hz7 : bx + 1 ≤ wr.heap.size := Nat.le_trans hz6 R2.out.size
          have hxb := (R2.out.block _ (by omega)).trans X1.out
          have y0 := cell_of_row _ _ 0 _ _ _ hxb
          have y1 := cell_of_row _ _ 1 _ _ _ hxb
          have y2 := cell_of_row _ _ 2 _ _ _ hxb
          simp at y0 y1 y2
          by_cases hk2 : k < S.length
          case pos =>
            obtain ⟨b1, o1, rfl, c0, c1, c2⟩ := S5.out k hk2
            have hlb : b1 < v3.heap.size := World.block_lt_of_cell? v3 _ c0
            have g0 := (bcell (R1.out.trans (R2.out.mono (by omega)))).1 _ (o1 + k * 3) hlb |>.trans c0
            have g1 := (bcell (R1.out.trans (R2.out.mono (by omega)))).1 _ (o1 + k * 3 + 1) hlb |>.trans c1
            have g2 := (bcell (R1.out.trans (R2.out.mono (by omega)))).1 _ (o1 + k * 3 + 2) hlb |>.trans c2
            have Hm := Lib.hid (most_take x.data.toList q S k hk2)
            have DT := Lib.hid (CT.out k hk2)
            generalize Pl.lp x.data.toList q S[k] = r at Hm DT
            clear c0 c1 c2
            go_wp2_with fail
            refine (DT.out _).mono ?_
            rintro e w2 ⟨rfl, hb⟩
            have R3 := Lib.hid (R2.out.trans (hb.mono (by omega)))
            clear g0 g1 g2 y0 y1 y2 hxb hb
            go_wp2_with fail
            go_roundw
            case rel => exact ⟨k + 1, max n r, by go_num, by omega, by congr 1; split <;> omega, Lib.hid (by rw [Hm.out, Hn.out]), R3⟩
            case measure => simp [intOf]; omega
          case neg =>
            obtain rfl : k = S.length := by omega
            rw [List.take_length] at Hn
            obtain ⟨M, hM, b1, b2, b3⟩ := HM.out
            obtain rfl : n = M := by rw [hM, Hn.out]
            have HF := Lib.hid b3
            have n0 : ((n : Int) == 0) = false := by simp; omega
            clear hk2 b3 hM HM
            go_wp2_with fail
            go_roundw
            case rel => exact ⟨q + n, by go_num, HF, by omega, R2⟩
            case measure => simp [intOf]; omega
      case neg =>
        have hqf : fr = q := by omega
        subst hqf
        clear hlt2
        obtain ⟨-, -, -, -, b1, b2⟩ := HA.out _ F0.out
        by_cases hlast : j + 1 = l.length
        case pos =>
          obtain ⟨d1, d2, d3⟩ := b1 rfl hlast
          rw [hx8] at d3
          have q1 : ((j : Int) == (l.length : Int) - 1) = true := by simp; omega
          have q2 : ((tm : Int) == 0) = true := by simp; omega
          have q3 : ((tt : Int) == (fr : Int)) = true := by simp; omega
          have q4 : (((er : Int) == 0) == ((fr : Int) == (x.size : Int))) = true := by
            by_cases h : er = 0
            · have := d3.1 h; simp [h, this]
            · have : ¬ fr = x.size := fun e => h (d3.2 e)
              have h' : ((er : Int) == 0) = false := by simp; omega
              have h2 : ((fr : Int) == (x.size : Int)) = false := by simp; omega
              rw [h', h2]; rfl
          clear b1 b2 d1 d2 d3 hlast
          go_wp2_with fail
          go_ret
          exact ⟨rfl, L5.out.trans ((R1.out.trans (R2.out.mono (by omega))).mono L5.out.size)⟩
        case neg =>
          obtain ⟨d1, ⟨d2, d3⟩, d4, d5⟩ := b2 rfl hlast
          have q1 : ((j : Int) == (l.length : Int) - 1) = false := by simp; omega
          have HF := Lib.hid d5
          have CT := Lib.hid (rlp_any OT.out x hx fr (tm - 1) d2)
          rw [d3] at CT
          obtain ⟨c0, c1, c2⟩ : True ∧ True ∧ True := ⟨trivial, trivial, trivial⟩
          have SL := T5.out (tm - 1) d2
          clear b1 b2 d3 d5 HA c0 c1 c2
          obtain ⟨g, rfl⟩ : ∃ g, tm = g + 1 := ⟨tm - 1, by omega⟩
          simp only [Nat.add_sub_cancel] at SL CT d2
          obtain ⟨b1, o1, rfl, c0, c1, c2⟩ := SL
          have hlb : b1 < v3.heap.size := World.block_lt_of_cell? v3 _ c0
          have g0 := (bcell (R1.out.trans (R2.out.mono (by omega)))).1 _ (o1 + g * 3) hlb |>.trans c0
          have g1 := (bcell (R1.out.trans (R2.out.mono (by omega)))).1 _ (o1 + g * 3 + 1) hlb |>.trans c1
          have g2 := (bcell (R1.out.trans (R2.out.mono (by omega)))).1 _ (o1 + g * 3 + 2) hlb |>.trans c2
          clear c0 c1 c2
          have s1 : decide ((g : Int) + 1 < 1) = false := by simp; omega
          have s2 : decide ((T.length : Int) < (g : Int) + 1) = false := by simp; omega
          have s3 : ((tt : Int) == (fr : Int)) = false := by simp; omega
          have s4 : (((tt - fr : Nat) : Int) != (tt : Int) - (fr : Int)) = false := by simp; omega
          have f0 := fun z : Wd (bx + 1) wr => ((bcell z.ok).1 _ _ (show b1 < bx + 1 by omega)).trans g0
          have f1 := fun z : Wd (bx + 1) wr => ((bcell z.ok).1 _ _ (show b1 < bx + 1 by omega)).trans g1
          have f2 := fun z : Wd (bx + 1) wr => ((bcell z.ok).1 _ _ (show b1 < bx + 1 by omega)).trans g2
          have e0 := fun z : Wd (bx + 1) wr => ((bcell z.ok).1 _ _ (show bx < bx + 1 by omega)).trans y0
          have e1 := fun z : Wd (bx + 1) wr => ((bcell z.ok).1 _ _ (show bx < bx + 1 by omega)).trans y1
          have e2 := fun z : Wd (bx + 1) wr => ((bcell z.ok).1 _ _ (show bx < bx + 1 by omega)).trans y2
          go_wp2_with fail
          clear g0 g1 g2 y0 y1 y2 hxb
          refine region_cls (bx + 1) (by kernel_rfl) (by kernel_rfl) ?_
          repeat (go_big_quiet_step (first | (go_at_call 17; exact calls_cls _ hz7 (CT.out _))))
          refine wpQuiet_nil ?_
          intro z
          have R4 := Lib.hid (R1.out.trans ((R2.out.trans (z.ok.mono (by omega))).mono (by omega)))
          have y2 := e2 z
          go_wp2_with fail
          go_roundw
          case rel => exact ⟨j + 1, tt, by go_num, rfl, HF, R4⟩
          case measure => simp [intOf]; omega
end Go.Proofs.Ytgoggooeipcgpaa
