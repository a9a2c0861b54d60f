/-
  The law BitsetPlays: the walk.
-/
import Derived.Test.YtccmmilbnfiacaaDoorBsO
import Derived.Test.YtccmmilbnfiacaaDoorBsOp
namespace Go.Proofs.YtccmmilbnfiacaaDoor
open Go.RowKit
set_option linter.unusedVariables false

theorem eqI_same {n m X Y : Nat} (hX : X < 2 ^ n) (hY : Y < 2 ^ m) : eqI (natI (Bs.lst n X)) (natI (Bs.lst m Y)) = sameB X Y := lst_inj hX hY
theorem natI_len (l : List Nat) : (natI l).length = l.length := by simp [natI]
theorem PI.copied {w0 W W' : World} {ps bs pt bt pr br po bo N X M Y p b : Nat} (h : PI w0 W ps bs pt bt pr br po bo N X M Y) (hs : SetAt W' p b N X) (k : Below W.heap.size W W') (hb : W.heap.size ≤ b) : PI w0 W' p b pt bt pr br po bo N X M Y := by
  have h2 := h.below k
  have hbt := h.t.blt
  have hsz := h.low.size
  exact ⟨hs, h2.t, h2.r, h2.o, h2.low, h2.tab, by omega, h.dr, ⟨by omega, h.lo.2⟩, h.gt⟩

set_option maxRecDepth 100000 in
set_option maxHeartbeats 6400000 in
theorem plays_law (n k0 : Int) (a a2 : Option Addr) (l : List Int) (l2 : List (Int × Int)) (c c2 : Nat) (w : World) (hT : Tab w) (hl : Ints w a l) (hn : l.length ≤ maxLen) (hl2 : Ops w a2 l2) (hn2 : l2.length ≤ maxLen) :
    Calls Tryd.prog 8 #[.int .i64 n, .int .i64 k0, .slice a l.length c, .slice a2 l2.length c2] w fun e w' => e = .returned (.bool true) ∧ Below w.heap.size w w' := by
  have hT0 := hT.lt
  have T_0 := Lib.hid hT
  clear hT
  unfold maxLen at hn hn2
  have OL := Lib.hid hl2
  clear hl2
  have A_0 := Lib.hid hl
  clear hl
  go_enter Tryd.func8, Tryd.ntmps8
  have L_0 := Lib.hid (Below.refl w.heap.size w)
  go_wp2_with fail
  refine (awake03_any w T_0.out).mono ?_
  rintro e v1 ⟨rfl, hB⟩
  have T_1 := Lib.hid (T_0.out.below hB)
  have A_1 := Lib.hid (A_0.out.below hB)
  have L_1 := Lib.hid (L_0.out.trans (hB.mono L_0.out.size))
  clear T_0 A_0 L_0
  have zz1 := L_1.out.size
  have zq1 : w.heap.size ≤ v1.heap.size := hB.size
  clear hB
  by_cases h100 : 100 < l2.length
  · have hd : decide (100 < (l2.length : Int)) = true := by simp; omega
    go_wp2_with fail
    go_ret
    exact ⟨rfl, L_1.out⟩
  have hd : decide (100 < (l2.length : Int)) = false := by simp; omega
  have hd2 : decide (100 < l2.length) = false := by simp; omega
  by_cases h100' : 100 < l.length
  · have hd3 : decide (100 < (l.length : Int)) = true := by simp; omega
    go_wp2_with fail
    go_ret
    exact ⟨rfl, L_1.out⟩
  have hd3 : decide (100 < (l.length : Int)) = false := by simp; omega
  have hd4 : decide (100 < l.length) = false := by simp; omega
  go_wp2_with fail
  refine (of_any n a l c v1 A_1.out (by unfold maxLen; omega)).mono ?_
  rintro e v2 ⟨ps, bs, rfl, hps, hbs, hs, hB⟩
  have T_2 := Lib.hid (T_1.out.below hB)
  have A_2 := Lib.hid (A_1.out.below hB)
  have L_2 := Lib.hid (L_1.out.trans (hB.mono L_1.out.size))
  clear T_1 A_1 L_1
  have zz2 := L_2.out.size
  have zq2 : v1.heap.size ≤ v2.heap.size := hB.size
  have Ss_2 := Lib.hid hs
  have lps := Ss_2.out.plt
  have lbs := Ss_2.out.blt
  have zs := Ss_2.out.le
  clear hs hB
  clear hd hd2 hd3 hd4
  go_wp2_with fail
  refine (new_any k0 v2).mono ?_
  rintro e v3 ⟨pt, bt, rfl, hpt, hbt, hs, hB⟩
  have T_3 := Lib.hid (T_2.out.below hB)
  have A_3 := Lib.hid (A_2.out.below hB)
  have L_3 := Lib.hid (L_2.out.trans (hB.mono L_2.out.size))
  have Ss_3 := Lib.hid (Ss_2.out.below hB)
  clear T_2 A_2 L_2 Ss_2
  have zz3 := L_3.out.size
  have zq3 : v2.heap.size ≤ v3.heap.size := hB.size
  have St_3 := Lib.hid hs
  have lpt := St_3.out.plt
  have lbt := St_3.out.blt
  have zt := St_3.out.le
  clear hs hB
  go_wp2_with fail
  refine (rof_any n a l c v3 A_3.out (by unfold maxLen; omega)).mono ?_
  rintro e v4 ⟨pr, br, rfl, hpr, hbr, hs, hB⟩
  have T_4 := Lib.hid (T_3.out.below hB)
  have A_4 := Lib.hid (A_3.out.below hB)
  have L_4 := Lib.hid (L_3.out.trans (hB.mono L_3.out.size))
  have Ss_4 := Lib.hid (Ss_3.out.below hB)
  have St_4 := Lib.hid (St_3.out.below hB)
  clear T_3 A_3 L_3 Ss_3 St_3
  have zz4 := L_4.out.size
  have zq4 : v3.heap.size ≤ v4.heap.size := hB.size
  have R_4 := Lib.hid hs
  clear hs hB
  have lpr := R_4.out.plt
  have lbr := R_4.out.blt
  clear A_4
  go_wp2_with fail
  refine (rnew_any k0 v4).mono ?_
  rintro e v5 ⟨po, bo, rfl, hpo, hbo, hs, hB⟩
  have T_5 := Lib.hid (T_4.out.below hB)
  have L_5 := Lib.hid (L_4.out.trans (hB.mono L_4.out.size))
  have Ss_5 := Lib.hid (Ss_4.out.below hB)
  have St_5 := Lib.hid (St_4.out.below hB)
  have R_5 := Lib.hid (R_4.out.below hB)
  clear T_4 L_4 Ss_4 St_4 R_4
  have zz5 := L_5.out.size
  have zq5 : v4.heap.size ≤ v5.heap.size := hB.size
  have O_5 := Lib.hid hs
  clear hs hB
  go_wp2_with fail
  have PZ := Lib.hid (show PI w v5 ps bs pt bt pr br po bo (Bs.wid n) (Bs.of (Bs.wid n) l) (Bs.wid k0) 0 from
    ⟨Ss_5.out, St_5.out, R_5.out, O_5.out, L_5.out, T_5.out, by omega, by omega, ⟨by omega, by omega, by omega, by omega⟩, hT0⟩)
  clear T_5 L_5 Ss_5 St_5 R_5 O_5
  clear hps hbs hpt hbt hpr hbr hpo hbo lps lbs lpt lbt lpr lbr zs zt
  go_loopw [10, 11, 12, 13, 14] (fun s t r o i wr => ∃ k ps bs pt bt pr br po bo N X M Y : Nat, i = .int .i64 k ∧ k ≤ l2.length ∧ s = .pointer (some ⟨ps, 0, none⟩) ∧ t = .pointer (some ⟨pt, 0, none⟩) ∧ r = .pointer (some ⟨pr, 0, none⟩) ∧ o = .pointer (some ⟨po, 0, none⟩) ∧ Hid (PI w wr ps bs pt bt pr br po bo N X M Y)) (fun _ _ _ _ i _ => l2.length - (intOf i).toNat)
  case atStart => exact ⟨0, _, _, _, _, _, _, _, _, _, _, _, _, rfl, by omega, rfl, rfl, rfl, rfl, PZ⟩
  case round =>
    clear PZ
    obtain ⟨k, ps, bs, pt, bt, pr, br, po, bo, N, X, M, Y, rfl, hk, rfl, rfl, rfl, rfl, PW⟩ := hrel
    by_cases hlt : k < l2.length
    · obtain ⟨g, off, rfl, hc1, hc2⟩ := (OL.out.below PW.out.low) k hlt
      go_wp2_with fail
      refine (done_any l2[k].1 l2[k].2 PW.out).mono ?_
      rintro e v9 ⟨rfl, hp⟩
      have PD := Lib.hid hp
      clear hp PW hc1 hc2
      obtain ⟨g', off', e', hc1, hc2⟩ := (OL.out.below PD.out.low) k hlt
      cases e'
      obtain ⟨X1, hX1⟩ : ∃ X1, X1 = opX l2[k].1 l2[k].2 N X M Y := ⟨_, rfl⟩
      rw [← hX1] at PD
      clear hX1
      obtain ⟨d, hd⟩ : ∃ d, d = l2[k].1 := ⟨_, rfl⟩
      rw [← hd] at hc1
      clear hd
      by_cases h6 : d = 6
      · subst h6
        go_wp2_with fail
        refine (copy_any ps bs N X1 v9 PD.out.s).mono ?_
        rintro e v10 ⟨p', b', rfl, hp', hb', hs', hB⟩
        have PC := Lib.hid (PD.out.copied hs' hB hb')
        obtain ⟨g', off', e', hc3, hc4⟩ := (OL.out.below PC.out.low) k hlt
        cases e'
        have hc5 : v10.cell? ⟨g, off + k * 2, none⟩ = some (.int .i64 6) := ((bcell hB).1 _ _ (World.block_lt_of_cell? v9 _ hc1)).trans hc1
        clear hs' hB PD hc1 hc2 hc3 hc4
        have hNx := PC.out.s.le
        have hMx := PC.out.t.le
        have llx := Bs.lst_len N X1
        have hEx := eqI_same PC.out.s.lt PC.out.t.lt
        have HE := Lib.hid hEx
        clear hEx
        go_wp2_with fail
        refine (list_any p' b' N X1 v10 PC.out.s PC.out.tab).mono ?_
        rintro e ux1 ⟨a1, c1, rfl, _, hi1, hB⟩
        have P1 := Lib.hid (PC.out.below hB)
        have I1 := Lib.hid hi1
        clear hB hi1 PC
        go_wp2_with fail
        refine (width_any p' b' N X1 ux1 P1.out.s).mono ?_
        rintro e ux2 ⟨rfl, rfl⟩
        go_wp2_with fail
        refine (len_any p' b' N X1 ux1 P1.out.s).mono ?_
        rintro e ux3 ⟨rfl, rfl⟩
        go_wp2_with fail
        refine (rlist_any pr br N X1 ux1 P1.out.r).mono ?_
        rintro e ux4 ⟨a2, c2, rfl, _, hi2, hB⟩
        have P2 := Lib.hid (P1.out.below hB)
        have I2 := Lib.hid hi2
        have I1b := Lib.hid (I1.out.below hB)
        clear hB hi2 P1 I1
        go_wp2_with fail
        refine (ints_any a1 a2 _ _ c1 c2 ux4 I1b.out I2.out (natI_max _ _ (by omega)) (natI_max _ _ (by omega))).mono ?_
        rintro e ux5 ⟨rfl, hB⟩
        have P3 := Lib.hid (P2.out.below hB)
        clear hB P2 I1b I2
        have es : ∀ l, eqI l l = true := fun l => by simp [eqI]
        simp only [es]
        clear es
        obtain ⟨⟨capr, cr⟩, _, _⟩ := P3.out.r.cells
        have hne1 : (((Bs.lst N X1).length : Int) != ((natI (Bs.lst N X1)).length : Int)) = false := by rw [natI_len]; simp
        go_wp2_with fail
        refine (same_any p' b' N X1 pt bt M Y ux5 P3.out.s P3.out.t P3.out.tab).mono ?_
        rintro e ux6 ⟨rfl, hB⟩
        have P4 := Lib.hid (P3.out.below hB)
        clear hB P3 cr hne1
        go_wp2_with fail
        refine (rlist_any pr br N X1 ux6 P4.out.r).mono ?_
        rintro e ux7 ⟨a3, c3, rfl, _, hi3, hB⟩
        have P5 := Lib.hid (P4.out.below hB)
        have I3 := Lib.hid hi3
        clear hB hi3 P4
        go_wp2_with fail
        refine (rlist_any po bo M Y ux7 P5.out.o).mono ?_
        rintro e ux8 ⟨a4, c4, rfl, _, hi4, hB⟩
        have P6 := Lib.hid (P5.out.below hB)
        have I4 := Lib.hid hi4
        have I3b := Lib.hid (I3.out.below hB)
        clear hB hi4 P5 I3
        go_wp2_with fail
        refine (ints_any a3 a4 _ _ c3 c4 ux8 I3b.out I4.out (natI_max _ _ (by omega)) (natI_max _ _ (by omega))).mono ?_
        rintro e ux9 ⟨rfl, hB⟩
        have P7 := Lib.hid (P6.out.below hB)
        clear hB P6 I3b I4
        have hE := HE.out
        simp only [hE]
        clear hE HE
        have hbb : (sameB X1 Y != sameB X1 Y) = false := by simp
        go_wp2_with fail
        go_roundw
        case rel => exact ⟨k + 1, p', b', pt, bt, pr, br, po, bo, N, X1, M, Y, by go_num, by omega, rfl, rfl, rfl, rfl, P7⟩
        case measure => simp [intOf]; omega
      by_cases h7 : d = 7
      · subst h7
        have PS := Lib.hid PD.out.swap
        clear PD
        have hNy := PS.out.s.le
        have hMy := PS.out.t.le
        have lly := Bs.lst_len M Y
        have hEy := eqI_same PS.out.s.lt PS.out.t.lt
        have HE := Lib.hid hEy
        clear hEy
        go_wp2_with fail
        refine (list_any pt bt M Y v9 PS.out.s PS.out.tab).mono ?_
        rintro e uy1 ⟨a1, c1, rfl, _, hi1, hB⟩
        have P1 := Lib.hid (PS.out.below hB)
        have I1 := Lib.hid hi1
        clear hB hi1 PS
        go_wp2_with fail
        refine (width_any pt bt M Y uy1 P1.out.s).mono ?_
        rintro e uy2 ⟨rfl, rfl⟩
        go_wp2_with fail
        refine (len_any pt bt M Y uy1 P1.out.s).mono ?_
        rintro e uy3 ⟨rfl, rfl⟩
        go_wp2_with fail
        refine (rlist_any po bo M Y uy1 P1.out.r).mono ?_
        rintro e uy4 ⟨a2, c2, rfl, _, hi2, hB⟩
        have P2 := Lib.hid (P1.out.below hB)
        have I2 := Lib.hid hi2
        have I1b := Lib.hid (I1.out.below hB)
        clear hB hi2 P1 I1
        go_wp2_with fail
        refine (ints_any a1 a2 _ _ c1 c2 uy4 I1b.out I2.out (natI_max _ _ (by omega)) (natI_max _ _ (by omega))).mono ?_
        rintro e uy5 ⟨rfl, hB⟩
        have P3 := Lib.hid (P2.out.below hB)
        clear hB P2 I1b I2
        have es : ∀ l, eqI l l = true := fun l => by simp [eqI]
        simp only [es]
        clear es
        obtain ⟨⟨capr, cr⟩, _, _⟩ := P3.out.r.cells
        have hne1 : (((Bs.lst M Y).length : Int) != ((natI (Bs.lst M Y)).length : Int)) = false := by rw [natI_len]; simp
        go_wp2_with fail
        refine (same_any pt bt M Y ps bs N X1 uy5 P3.out.s P3.out.t P3.out.tab).mono ?_
        rintro e uy6 ⟨rfl, hB⟩
        have P4 := Lib.hid (P3.out.below hB)
        clear hB P3 cr hne1
        go_wp2_with fail
        refine (rlist_any po bo M Y uy6 P4.out.r).mono ?_
        rintro e uy7 ⟨a3, c3, rfl, _, hi3, hB⟩
        have P5 := Lib.hid (P4.out.below hB)
        have I3 := Lib.hid hi3
        clear hB hi3 P4
        go_wp2_with fail
        refine (rlist_any pr br N X1 uy7 P5.out.o).mono ?_
        rintro e uy8 ⟨a4, c4, rfl, _, hi4, hB⟩
        have P6 := Lib.hid (P5.out.below hB)
        have I4 := Lib.hid hi4
        have I3b := Lib.hid (I3.out.below hB)
        clear hB hi4 P5 I3
        go_wp2_with fail
        refine (ints_any a3 a4 _ _ c3 c4 uy8 I3b.out I4.out (natI_max _ _ (by omega)) (natI_max _ _ (by omega))).mono ?_
        rintro e uy9 ⟨rfl, hB⟩
        have P7 := Lib.hid (P6.out.below hB)
        clear hB P6 I3b I4
        have hE := HE.out
        simp only [hE]
        clear hE HE
        have hbb : (sameB Y X1 != sameB Y X1) = false := by simp
        go_wp2_with fail
        go_roundw
        case rel => exact ⟨k + 1, pt, bt, ps, bs, po, bo, pr, br, M, Y, N, X1, by go_num, by omega, rfl, rfl, rfl, rfl, P7⟩
        case measure => simp [intOf]; omega
      have e6 : (d == 6) = false := by simpa using h6
      have e7 : (d == 7) = false := by simpa using h7
      clear h6 h7
      have hNz := PD.out.s.le
      have hMz := PD.out.t.le
      have llz := Bs.lst_len N X1
      have hEz := eqI_same PD.out.s.lt PD.out.t.lt
      have HE := Lib.hid hEz
      clear hEz
      go_wp2_with fail
      refine (list_any ps bs N X1 v9 PD.out.s PD.out.tab).mono ?_
      rintro e uz1 ⟨a1, c1, rfl, _, hi1, hB⟩
      have P1 := Lib.hid (PD.out.below hB)
      have I1 := Lib.hid hi1
      clear hB hi1 PD
      go_wp2_with fail
      refine (width_any ps bs N X1 uz1 P1.out.s).mono ?_
      rintro e uz2 ⟨rfl, rfl⟩
      go_wp2_with fail
      refine (len_any ps bs N X1 uz1 P1.out.s).mono ?_
      rintro e uz3 ⟨rfl, rfl⟩
      go_wp2_with fail
      refine (rlist_any pr br N X1 uz1 P1.out.r).mono ?_
      rintro e uz4 ⟨a2, c2, rfl, _, hi2, hB⟩
      have P2 := Lib.hid (P1.out.below hB)
      have I2 := Lib.hid hi2
      have I1b := Lib.hid (I1.out.below hB)
      clear hB hi2 P1 I1
      go_wp2_with fail
      refine (ints_any a1 a2 _ _ c1 c2 uz4 I1b.out I2.out (natI_max _ _ (by omega)) (natI_max _ _ (by omega))).mono ?_
      rintro e uz5 ⟨rfl, hB⟩
      have P3 := Lib.hid (P2.out.below hB)
      clear hB P2 I1b I2
      have es : ∀ l, eqI l l = true := fun l => by simp [eqI]
      simp only [es]
      clear es
      obtain ⟨⟨capr, cr⟩, _, _⟩ := P3.out.r.cells
      have hne1 : (((Bs.lst N X1).length : Int) != ((natI (Bs.lst N X1)).length : Int)) = false := by rw [natI_len]; simp
      go_wp2_with fail
      refine (same_any ps bs N X1 pt bt M Y uz5 P3.out.s P3.out.t P3.out.tab).mono ?_
      rintro e uz6 ⟨rfl, hB⟩
      have P4 := Lib.hid (P3.out.below hB)
      clear hB P3 cr hne1
      go_wp2_with fail
      refine (rlist_any pr br N X1 uz6 P4.out.r).mono ?_
      rintro e uz7 ⟨a3, c3, rfl, _, hi3, hB⟩
      have P5 := Lib.hid (P4.out.below hB)
      have I3 := Lib.hid hi3
      clear hB hi3 P4
      go_wp2_with fail
      refine (rlist_any po bo M Y uz7 P5.out.o).mono ?_
      rintro e uz8 ⟨a4, c4, rfl, _, hi4, hB⟩
      have P6 := Lib.hid (P5.out.below hB)
      have I4 := Lib.hid hi4
      have I3b := Lib.hid (I3.out.below hB)
      clear hB hi4 P5 I3
      go_wp2_with fail
      refine (ints_any a3 a4 _ _ c3 c4 uz8 I3b.out I4.out (natI_max _ _ (by omega)) (natI_max _ _ (by omega))).mono ?_
      rintro e uz9 ⟨rfl, hB⟩
      have P7 := Lib.hid (P6.out.below hB)
      clear hB P6 I3b I4
      have hE := HE.out
      simp only [hE]
      clear hE HE
      have hbb : (sameB X1 Y != sameB X1 Y) = false := by simp
      go_wp2_with fail
      go_roundw
      case rel => exact ⟨k + 1, ps, bs, pt, bt, pr, br, po, bo, N, X1, M, Y, by go_num, by omega, rfl, rfl, rfl, rfl, P7⟩
      case measure => simp [intOf]; omega
    · obtain rfl : k = l2.length := by omega
      go_wp2_with fail
      go_ret
      exact ⟨rfl, PW.out.low⟩
end Go.Proofs.YtccmmilbnfiacaaDoor
