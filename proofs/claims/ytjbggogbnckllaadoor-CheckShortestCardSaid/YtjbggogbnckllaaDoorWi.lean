/-
  The walk of the law CheckShortest.
-/
import Derived.Test.YtjbggogbnckllaaDoorAs
import Derived.Test.YtjbggogbnckllaaDoorSh
import Derived.Test.YtjbggogbnckllaaDoorAp
namespace Go.Proofs.YtjbggogbnckllaaDoor
open Go.RowKit
set_option linter.unusedVariables false
set_option linter.unusedSimpArgs false
set_option maxRecDepth 100000 in
set_option maxHeartbeats 16000000 in
theorem shortest9_law {w : World} {v : Value} {m : Pl.Sm}  (h : SmV w v m) (hz : SmSz m) (hT : Tab w)  :
    Calls Tryd.prog 10 #[v] w fun e w' => e = .returned (.bool true) ∧ Below w.heap.size w w' := by
  obtain ⟨sla, sra, spa, saa, sva, slc, src, spc, sac, svc, rfl, h⟩ := h
  have HS := SB.new (lc := slc) (rc := src) (pc := spc) (ac := sac) (vc := svc) h
  have k := (Below.refl w.heap.size w).alloc (Nat.le_refl _) (.cells (smC m sla sra spa saa sva slc src spc sac svc) 25)
  have HT0 := Lib.hid (hT.below k)
  have HB0 := Lib.hid k
  unfold smC at HS HB0 HT0 ⊢
  have HS0 := Lib.hid HS
  
  clear HS k h hT
  go_enter Tryd.func10, Tryd.ntmps10
  go_wp2_with fail
  generalize w.alloc (.cells #[.int .u8 (m.tokens : Nat), .int .u8 (m.vars : Nat), .slice sla m.lefts.length slc, .slice sra m.rights.length src, .slice spa m.precs.length spc, .slice saa m.assocs.length sac, .slice sva m.levels.length svc] 25) = W at HS0 HB0 HT0  ⊢
  refine (awake09_any W HT0.out).mono ?_
  rintro e W1 ⟨rfl, k⟩
  have HT1 := Lib.hid (HT0.out.below k)
  have HB1 := Lib.hid (HB0.out.trans (k.mono HB0.out.size))
  have HS1 := Lib.hid (HS0.out.below k)
  have HFW := few_any 20 8 (w := W1) (v := .agg #[.int .u8 (m.tokens : Nat), .int .u8 (m.vars : Nat), .slice sla m.lefts.length slc, .slice sra m.rights.length src, .slice spa m.precs.length spc, .slice saa m.assocs.length sac, .slice sva m.levels.length svc]) ⟨sla, sra, spa, saa, sva, slc, src, spc, sac, svc, rfl, HS1.out.a⟩ hz (by omega) (by omega)
  have c0 := HS1.out.c0
  have c1 := HS1.out.c1
  have c2 := HS1.out.c2
  have c3 := HS1.out.c3
  have c4 := HS1.out.c4
  have c5 := HS1.out.c5
  have c6 := HS1.out.c6
  clear HT0 HB0 HS0 k
  go_wp2_with fail
  refine HFW.mono ?_
  rintro e W2 ⟨rfl, k⟩
  have HT2 := Lib.hid (HT1.out.below k)
  have HB2 := Lib.hid (HB1.out.trans (k.mono HB1.out.size))
  have HS2 := Lib.hid (HS1.out.below k)
  clear HFW k HT1 HB1 HS1 c0 c1 c2 c3 c4 c5 c6
  cases hf : Pl.few m 20 8
  case false =>
    go_wp2_with fail
    go_ret
    exact ⟨rfl, HB2.out⟩
  case true =>
    have HPN := plan_any (w := W2) (v := .agg #[.int .u8 (m.tokens : Nat), .int .u8 (m.vars : Nat), .slice sla m.lefts.length slc, .slice sra m.rights.length src, .slice spa m.precs.length spc, .slice saa m.assocs.length sac, .slice sva m.levels.length svc]) ⟨sla, sra, spa, saa, sva, slc, src, spc, sac, svc, rfl, HS2.out.a⟩ hz hf
    have hplan := Q.plan_ok (hf)
    obtain ⟨p, hp⟩ : ∃ p, p = Pl.plan m := ⟨_, rfl⟩
    rw [← hp] at HPN hplan
    have HPL := Lib.hid hp
    have HO := Lib.hid hplan.1
    have HCN := Lib.hid hplan.2.1
    have HRU := Lib.hid hplan.2.2.1
    have HRL := Lib.hid hplan.2.2.2
    have HFEW := Lib.hid hf
    have c0 := HS2.out.c0
    have c1 := HS2.out.c1
    have c2 := HS2.out.c2
    have c3 := HS2.out.c3
    have c4 := HS2.out.c4
    have c5 := HS2.out.c5
    have c6 := HS2.out.c6
    clear hplan hp hf
    go_wp2_with fail
    refine HPN.mono ?_
    rintro e W3 ⟨pv, rfl, hpv, k⟩
    obtain ⟨ta, tc, va, vc, ra, rc, la, lc, aa, ac, ca, cc, rfl, hpa⟩ := hpv
    have AL := (Below.refl W3.heap.size W3).alloc (Nat.le_refl _) (.cells #[.slice ta p.terms.length tc, .slice va p.vars.length vc, .slice ra p.rules.length rc, .slice la p.levels.length lc, .slice aa p.assocs.length ac, .slice ca p.acts.length cc] 32)
    have HP0 := PB.new (tc := tc) (vc := vc) (rc := rc) (lc := lc) (ac := ac) (cc := cc) hpa
    unfold pnC at HP0
    have HP := Lib.hid HP0
    have hB3 := HB2.out.trans (k.mono HB2.out.size)
    have HB := Lib.hid (hB3.trans (AL.mono hB3.size))
    have HT := Lib.hid ((HT2.out.below k).below AL)
    have HS := Lib.hid ((HS2.out.below k).below AL)
    clear HPN k AL HP0 hpa hB3 HT2 HB2 HS2 c0 c1 c2 c3 c4 c5 c6
    have HSH := shortest_any (w := _) (v := .agg #[.slice ta p.terms.length tc, .slice va p.vars.length vc, .slice ra p.rules.length rc, .slice la p.levels.length lc, .slice aa p.assocs.length ac, .slice ca p.acts.length cc]) ⟨ta, tc, va, vc, ra, rc, la, lc, aa, ac, ca, cc, rfl, HP.out.a⟩ HO.out
    have d0 := HP.out.c0
    have d1 := HP.out.c1
    have d2 := HP.out.c2
    have d3 := HP.out.c3
    have d4 := HP.out.c4
    have d5 := HP.out.c5
    have hnb := HO.out.nb
    have hmb := HO.out.m
    have hnr := HO.out.r
    have hr41 := HRU.out
    go_wp2_with fail
    generalize W3.alloc (.cells #[.slice ta p.terms.length tc, .slice va p.vars.length vc, .slice ra p.rules.length rc, .slice la p.levels.length lc, .slice aa p.assocs.length ac, .slice ca p.acts.length cc] 32) = V at HP HB HT HS HSH d0 d1 d2 d3 d4 d5 ⊢
    generalize W3.heap.size = pb at HP d0 d1 d2 d3 d4 d5 ⊢
    refine HSH.mono ?_
    rintro e U1 ⟨g1, rfl, hA, hg1, k⟩
    have HP1 := Lib.hid (HP.out.below k)
    have HB1 := Lib.hid (HB.out.trans (k.mono HB.out.size))
    have HA1 := Lib.hid hA
    clear HSH k HP HB hA d0 d1 d2 d3 d4 d5 HT HS hg1
    have HPR := productive_any (w := U1) (v := .agg #[.slice ta p.terms.length tc, .slice va p.vars.length vc, .slice ra p.rules.length rc, .slice la p.levels.length lc, .slice aa p.assocs.length ac, .slice ca p.acts.length cc]) ⟨ta, tc, va, vc, ra, rc, la, lc, aa, ac, ca, cc, rfl, HP1.out.a⟩ HO.out
    have d0 := HP1.out.c0
    have d1 := HP1.out.c1
    have d2 := HP1.out.c2
    have d3 := HP1.out.c3
    have d4 := HP1.out.c4
    have d5 := HP1.out.c5
    go_wp2_with fail
    refine HPR.mono ?_
    rintro e U ⟨ma, mc, rfl, hM, k⟩
    have hlen := Q.ofB_len (Q.prodB p) (Q.cnt p)
    have HIN : Hid (∀ i : Nat, p.terms.length ≤ i → i < p.terms.length + p.vars.length → inI (Q.ofB (Q.prodB p) (Q.cnt p)) (i : Int) = decide (0 ≤ (Q.lens p).long i)) := Lib.hid (fun i h1 h2 => Q.inI_prod HO.out h1 h2)
    have HSL : Hid (∀ i : Nat, i < Q.cnt p → (0 ≤ (Q.lens p).long i → (Q.lens p).long i ≤ 1000 → ((Q.sent p i).length : Int) = (Q.lens p).long i) ∧ ((Q.lens p).long i < 0 → Q.sent p i = []) ∧ (∀ x ∈ Q.sent p i, 0 ≤ x ∧ x < (p.terms.length : Int)) ∧ (Q.sent p i).length ≤ 1000) := Lib.hid (fun i h => Q.sent_len HO.out i h)
    have HSU : Hid (∀ r ∈ p.rules, 0 ≤ Q.sumL (Q.lens p).long r.right 0 → 0 ≤ (Q.lens p).long r.left ∧ (Q.lens p).long r.left ≤ Q.sumL (Q.lens p).long r.right 0) := Lib.hid (fun r hr h => Q.sum_left HO.out hr h)
    obtain ⟨L, hL⟩ : ∃ L, L = Q.ofB (Q.prodB p) (Q.cnt p) := ⟨_, rfl⟩
    rw [← hL] at hM hlen HIN ⊢
    have hLn : L.length ≤ 62 := by have := HCN.out; omega
    have HMU := Lib.hid hM
    have HPU := Lib.hid (HP1.out.below k)
    have HAU := Lib.hid (HA1.out.below k)
    have HBU := Lib.hid (HB1.out.trans (k.mono HB1.out.size))
    have HCT : Hid (Q.cnt p = p.terms.length + p.vars.length + 1) := Lib.hid rfl
    have HN62 := HCN
    obtain ⟨N, hN⟩ : ∃ N, N = Q.cnt p := ⟨_, rfl⟩
    obtain ⟨f, hf⟩ : ∃ f, f = (Q.lens p).long := ⟨_, rfl⟩
    rw [← hN, ← hf] at HAU
    rw [← hN] at HCT HN62
    rw [← hf] at HIN HSU
    rw [← hN, ← hf] at HSL
    rw [← hN]
    clear HPR k hlen hL hM HP1 HB1 HA1 d0 d1 d2 d3 d4 d5 hN hf
    have d0 := HPU.out.c0
    have d1 := HPU.out.c1
    have hN1 : (N : Int) = (p.terms.length : Int) + (p.vars.length : Int) + 1 := by have := HCT.out; omega
    have n1 : ((N : Int) == (p.terms.length : Int) + (p.vars.length : Int) + 1) = true := by simpa using hN1
    have n2 : ((N : Int) != (p.terms.length : Int) + (p.vars.length : Int) + 1) = false := by simpa using hN1
    have n3 : decide ((N : Int) = (p.terms.length : Int) + (p.vars.length : Int) + 1) = true := by simpa using hN1
    have hN6 : N ≤ 62 := HN62.out
    go_wp2_with fail
    clear d0 d1 n1 n2 n3
    go_loopg [9] N (fun gk iv wr => ∃ i : Nat, iv = .int .i64 i ∧ i ≤ N ∧ Hid (gk + i = N) ∧ Hid (Below U.heap.size U wr))
    case atStart => exact ⟨0, rfl, by omega, Lib.hid (by omega), Lib.hid (Below.refl _ _)⟩
    case round =>
      obtain ⟨i, rfl, hi, HK, HW⟩ := hrel
      by_cases hlt : i < N
      · have HSE := sentence9_any (w := wr) (v := .agg #[.slice ta p.terms.length tc, .slice va p.vars.length vc, .slice ra p.rules.length rc, .slice la p.levels.length lc, .slice aa p.assocs.length ac, .slice ca p.acts.length cc]) (i : Int) ⟨ta, tc, va, vc, ra, rc, la, lc, aa, ac, ca, cc, rfl, (HPU.out.below HW.out).a⟩ HO.out
        obtain ⟨s1, s2, s3, hsl⟩ := HSL.out i hlt
        have SL : Hid (∀ x ∈ Q.sent p i, 0 ≤ x ∧ x < (p.terms.length : Int)) := Lib.hid s3
        obtain ⟨S, hS⟩ : ∃ S, S = Q.sent p (i : Int) := ⟨_, rfl⟩
        rw [← hS] at HSE SL hsl s1 s2
        have a0 := (HAU.out.below HW.out).cell hlt
        have d0 := (HPU.out.below HW.out).c0
        have d1 := (HPU.out.below HW.out).c1
        have d2 := (HPU.out.below HW.out).c2
        have d3 := (HPU.out.below HW.out).c3
        have d4 := (HPU.out.below HW.out).c4
        have d5 := (HPU.out.below HW.out).c5
        clear s3 hS
        go_wp2_with fail
        refine HSE.mono ?_
        rintro e w5 ⟨sa, sc, rfl, hS, k⟩
        have hW5 := HW.out.trans (k.mono HW.out.size)
        have HW5 := Lib.hid hW5
        have HS5 := Lib.hid hS
        have a0 := (HAU.out.below hW5).cell hlt
        have HIY : Hid (p.terms.length ≤ i → i < p.terms.length + p.vars.length → inI L (i : Int) = decide (0 ≤ f i)) := Lib.hid (HIN.out i)
        have HFI : Hid (f i = f i) := Lib.hid rfl
        clear HSE k hS hW5 d0 d1 d2 d3 d4 d5 HW
        obtain ⟨y, hy⟩ : ∃ y, y = f i := ⟨_, rfl⟩
        rw [← hy] at a0 s1 s2 HIY
        have HY := Lib.hid hy
        clear hy HFI
        obtain ⟨W6, hW6⟩ : ∃ W6, W6 = w5 := ⟨_, rfl⟩
        subst hW6
        rcases Int.lt_or_le y 0 with hy0 | hy0
        · have hS0 : S.length = 0 := by rw [s2 hy0]; rfl
          have t5 : decide (0 < (S.length : Int)) = false := by simp [hS0]
          have t8 : decide (0 < S.length) = false := by simp [hS0]
          clear hS0
          have t0 : decide (0 ≤ y) = false := by simp; omega
          have t3 : decide (y < 0) = true := by simp; omega
          clear s1 s2
          go_wp2_with fail
          clear a0
          go_loopg [11] S.length (fun gk kv wr => ∃ k : Nat, kv = .int .i64 k ∧ k ≤ S.length ∧ Hid (gk + k = S.length) ∧ Hid (Below W6.heap.size W6 wr))
          case atStart => exact ⟨0, rfl, by omega, Lib.hid (by omega), Lib.hid (Below.refl _ _)⟩
          case round =>
            obtain ⟨k, rfl, hk, HJ, HX⟩ := hrel
            by_cases hkl : k < S.length
            · obtain ⟨nb, no, hna, q5⟩ := HS5.out k hkl
              obtain ⟨z0, z1⟩ := SL.out _ (List.getElem_mem hkl)
              subst hna
              generalize S[k] = z at q5 z0 z1
              have bl := World.block_lt_of_cell? W6 _ q5
              have hPZ := HPU.out.below (HW5.out.trans (HX.out.mono HW5.out.size))
              have q0 := fun x : Wd wr.heap.size wr => ((bcell (HX.out.trans (x.ok.mono HX.out.size))).1 nb (no + k) bl).trans q5
              have e0 := fun x : Wd wr.heap.size wr => (hPZ.below x.ok).c0
              have t1 : decide (z < 0) = false := by simp; omega
              have t2 : decide ((p.terms.length : Int) ≤ z) = false := by simp; omega
              clear q5 bl hPZ z0 z1
              go_wp2_with fail
              refine region_cls wr.heap.size (by kernel_rfl) (by kernel_rfl) ?_
              repeat (go_big_quiet_step (fail))
              refine wpQuiet_nil ?_
              intro x
              have HX2 := Lib.hid (HX.out.trans (x.ok.mono HX.out.size))
              generalize x.w = X at HX2 ⊢
              clear x q0 e0 t1 t2
              go_wp2_with fail
              go_roundg (S.length - (k + 1))
              case measure => have := HJ.out; omega
              case rel => exact ⟨k + 1, by go_num, by omega, Lib.hid (by omega), HX2⟩
            · obtain rfl : k = S.length := by omega
              clear hkl HJ
              have hX := HW5.out.trans (HX.out.mono HW5.out.size)
              have HXU := Lib.hid hX
              have a1 := fun x : Wd wr.heap.size wr => ((HAU.out.below hX).below x.ok).cell hlt
              rw [← HY.out] at a1
              have e0 := fun x : Wd wr.heap.size wr => ((HPU.out.below hX).below x.ok).c0
              have HMX := fun x : Wd wr.heap.size wr => (HMU.out.below hX).below x.ok
              rcases Nat.lt_or_ge i p.terms.length with hc1 | hc1
              · have g1 : decide ((p.terms.length : Int) ≤ (i : Int)) = false := by simp; omega
                have g3 : decide (p.terms.length ≤ i) = false := by simp; omega
                clear a1 HMX
                go_wp2_with fail
                refine region_cls wr.heap.size (by kernel_rfl) (by kernel_rfl) ?_
                repeat (go_big_quiet_step (fail))
                refine wpQuiet_nil ?_
                intro x
                have HX2 := Lib.hid (hX.trans (x.ok.mono hX.size))
                generalize x.w = X at HX2 ⊢
                clear x e0 g1
                go_wp2_with fail
                go_roundg (N - (i + 1))
                case measure => have := HK.out; omega
                case rel => exact ⟨i + 1, by go_num, by omega, Lib.hid (by omega), HX2⟩
              have g1 : decide ((p.terms.length : Int) ≤ (i : Int)) = true := by simp; omega
              have g3 : decide (p.terms.length ≤ i) = true := by simp; omega
              rcases Nat.lt_or_ge i (p.terms.length + p.vars.length) with hc2 | hc2
              · have g2 : decide ((i : Int) < (p.terms.length : Int) + (p.vars.length : Int) + 1 - 1) = true := by simp; omega
                have g4 : decide ((i : Int) < (p.terms.length : Int) + (p.vars.length : Int)) = true := by simp; omega
                have hin := HIY.out hc1 hc2
                rw [t0] at hin
                have HIC := fun x : Wd wr.heap.size wr => in_any ma L mc (i : Int) x.w (HMX x) (by unfold maxLen; omega)
                rw [hin] at HIC
                clear hin HMX
                go_wp2_with fail
                refine region_cls wr.heap.size (by kernel_rfl) (by kernel_rfl) ?_
                repeat (go_big_quiet_step (first | (go_at_call 21; exact calls_cls_same _ (HIC _))))
                refine wpQuiet_nil ?_
                intro x
                have HX2 := Lib.hid (hX.trans (x.ok.mono hX.size))
                generalize x.w = X at HX2 ⊢
                clear x e0 g1 g2 a1 HIC
                go_wp2_with fail
                go_roundg (N - (i + 1))
                case measure => have := HK.out; omega
                case rel => exact ⟨i + 1, by go_num, by omega, Lib.hid (by omega), HX2⟩
              · have g2 : decide ((i : Int) < (p.terms.length : Int) + (p.vars.length : Int) + 1 - 1) = false := by simp; omega
                have g4 : decide ((i : Int) < (p.terms.length : Int) + (p.vars.length : Int)) = false := by simp; omega
                clear a1 HMX
                go_wp2_with fail
                refine region_cls wr.heap.size (by kernel_rfl) (by kernel_rfl) ?_
                repeat (go_big_quiet_step (fail))
                refine wpQuiet_nil ?_
                intro x
                have HX2 := Lib.hid (hX.trans (x.ok.mono hX.size))
                generalize x.w = X at HX2 ⊢
                clear x e0 g1 g2
                go_wp2_with fail
                go_roundg (N - (i + 1))
                case measure => have := HK.out; omega
                case rel => exact ⟨i + 1, by go_num, by omega, Lib.hid (by omega), HX2⟩
        have t0 : decide (0 ≤ y) = true := by simp; omega
        have t3 : decide (y < 0) = false := by simp; omega
        rcases Int.lt_or_le 1000 y with hy1 | hy1
        · have t4 : decide (y ≤ 1000) = false := by simp; omega
          clear s1 s2
          go_wp2_with fail
          clear a0
          go_loopg [11] S.length (fun gk kv wr => ∃ k : Nat, kv = .int .i64 k ∧ k ≤ S.length ∧ Hid (gk + k = S.length) ∧ Hid (Below W6.heap.size W6 wr))
          case atStart => exact ⟨0, rfl, by omega, Lib.hid (by omega), Lib.hid (Below.refl _ _)⟩
          case round =>
            obtain ⟨k, rfl, hk, HJ, HX⟩ := hrel
            by_cases hkl : k < S.length
            · obtain ⟨nb, no, hna, q5⟩ := HS5.out k hkl
              obtain ⟨z0, z1⟩ := SL.out _ (List.getElem_mem hkl)
              subst hna
              generalize S[k] = z at q5 z0 z1
              have bl := World.block_lt_of_cell? W6 _ q5
              have hPZ := HPU.out.below (HW5.out.trans (HX.out.mono HW5.out.size))
              have q0 := fun x : Wd wr.heap.size wr => ((bcell (HX.out.trans (x.ok.mono HX.out.size))).1 nb (no + k) bl).trans q5
              have e0 := fun x : Wd wr.heap.size wr => (hPZ.below x.ok).c0
              have t1 : decide (z < 0) = false := by simp; omega
              have t2 : decide ((p.terms.length : Int) ≤ z) = false := by simp; omega
              clear q5 bl hPZ z0 z1
              go_wp2_with fail
              refine region_cls wr.heap.size (by kernel_rfl) (by kernel_rfl) ?_
              repeat (go_big_quiet_step (fail))
              refine wpQuiet_nil ?_
              intro x
              have HX2 := Lib.hid (HX.out.trans (x.ok.mono HX.out.size))
              generalize x.w = X at HX2 ⊢
              clear x q0 e0 t1 t2
              go_wp2_with fail
              go_roundg (S.length - (k + 1))
              case measure => have := HJ.out; omega
              case rel => exact ⟨k + 1, by go_num, by omega, Lib.hid (by omega), HX2⟩
            · obtain rfl : k = S.length := by omega
              clear hkl HJ
              have hX := HW5.out.trans (HX.out.mono HW5.out.size)
              have HXU := Lib.hid hX
              have a1 := fun x : Wd wr.heap.size wr => ((HAU.out.below hX).below x.ok).cell hlt
              rw [← HY.out] at a1
              have e0 := fun x : Wd wr.heap.size wr => ((HPU.out.below hX).below x.ok).c0
              have HMX := fun x : Wd wr.heap.size wr => (HMU.out.below hX).below x.ok
              rcases Nat.lt_or_ge i p.terms.length with hc1 | hc1
              · have g1 : decide ((p.terms.length : Int) ≤ (i : Int)) = false := by simp; omega
                have g3 : decide (p.terms.length ≤ i) = false := by simp; omega
                clear a1 HMX
                go_wp2_with fail
                refine region_cls wr.heap.size (by kernel_rfl) (by kernel_rfl) ?_
                repeat (go_big_quiet_step (fail))
                refine wpQuiet_nil ?_
                intro x
                have HX2 := Lib.hid (hX.trans (x.ok.mono hX.size))
                generalize x.w = X at HX2 ⊢
                clear x e0 g1
                go_wp2_with fail
                go_roundg (N - (i + 1))
                case measure => have := HK.out; omega
                case rel => exact ⟨i + 1, by go_num, by omega, Lib.hid (by omega), HX2⟩
              have g1 : decide ((p.terms.length : Int) ≤ (i : Int)) = true := by simp; omega
              have g3 : decide (p.terms.length ≤ i) = true := by simp; omega
              rcases Nat.lt_or_ge i (p.terms.length + p.vars.length) with hc2 | hc2
              · have g2 : decide ((i : Int) < (p.terms.length : Int) + (p.vars.length : Int) + 1 - 1) = true := by simp; omega
                have g4 : decide ((i : Int) < (p.terms.length : Int) + (p.vars.length : Int)) = true := by simp; omega
                have hin := HIY.out hc1 hc2
                rw [t0] at hin
                have HIC := fun x : Wd wr.heap.size wr => in_any ma L mc (i : Int) x.w (HMX x) (by unfold maxLen; omega)
                rw [hin] at HIC
                clear hin HMX
                go_wp2_with fail
                refine region_cls wr.heap.size (by kernel_rfl) (by kernel_rfl) ?_
                repeat (go_big_quiet_step (first | (go_at_call 21; exact calls_cls_same _ (HIC _))))
                refine wpQuiet_nil ?_
                intro x
                have HX2 := Lib.hid (hX.trans (x.ok.mono hX.size))
                generalize x.w = X at HX2 ⊢
                clear x e0 g1 g2 a1 HIC
                go_wp2_with fail
                go_roundg (N - (i + 1))
                case measure => have := HK.out; omega
                case rel => exact ⟨i + 1, by go_num, by omega, Lib.hid (by omega), HX2⟩
              · have g2 : decide ((i : Int) < (p.terms.length : Int) + (p.vars.length : Int) + 1 - 1) = false := by simp; omega
                have g4 : decide ((i : Int) < (p.terms.length : Int) + (p.vars.length : Int)) = false := by simp; omega
                clear a1 HMX
                go_wp2_with fail
                refine region_cls wr.heap.size (by kernel_rfl) (by kernel_rfl) ?_
                repeat (go_big_quiet_step (fail))
                refine wpQuiet_nil ?_
                intro x
                have HX2 := Lib.hid (hX.trans (x.ok.mono hX.size))
                generalize x.w = X at HX2 ⊢
                clear x e0 g1 g2
                go_wp2_with fail
                go_roundg (N - (i + 1))
                case measure => have := HK.out; omega
                case rel => exact ⟨i + 1, by go_num, by omega, Lib.hid (by omega), HX2⟩
        · have t4 : decide (y ≤ 1000) = true := by simp; omega
          have e1 := s1 hy0 hy1
          have t5 : ((S.length : Int) == y) = true := by simpa using e1
          have t6 : ((S.length : Int) != y) = false := by simpa using e1
          have t7 : decide ((S.length : Int) = y) = true := by simpa using e1
          clear s1 s2 e1
          go_wp2_with fail
          clear a0
          go_loopg [11] S.length (fun gk kv wr => ∃ k : Nat, kv = .int .i64 k ∧ k ≤ S.length ∧ Hid (gk + k = S.length) ∧ Hid (Below W6.heap.size W6 wr))
          case atStart => exact ⟨0, rfl, by omega, Lib.hid (by omega), Lib.hid (Below.refl _ _)⟩
          case round =>
            obtain ⟨k, rfl, hk, HJ, HX⟩ := hrel
            by_cases hkl : k < S.length
            · obtain ⟨nb, no, hna, q5⟩ := HS5.out k hkl
              obtain ⟨z0, z1⟩ := SL.out _ (List.getElem_mem hkl)
              subst hna
              generalize S[k] = z at q5 z0 z1
              have bl := World.block_lt_of_cell? W6 _ q5
              have hPZ := HPU.out.below (HW5.out.trans (HX.out.mono HW5.out.size))
              have q0 := fun x : Wd wr.heap.size wr => ((bcell (HX.out.trans (x.ok.mono HX.out.size))).1 nb (no + k) bl).trans q5
              have e0 := fun x : Wd wr.heap.size wr => (hPZ.below x.ok).c0
              have t1 : decide (z < 0) = false := by simp; omega
              have t2 : decide ((p.terms.length : Int) ≤ z) = false := by simp; omega
              clear q5 bl hPZ z0 z1
              go_wp2_with fail
              refine region_cls wr.heap.size (by kernel_rfl) (by kernel_rfl) ?_
              repeat (go_big_quiet_step (fail))
              refine wpQuiet_nil ?_
              intro x
              have HX2 := Lib.hid (HX.out.trans (x.ok.mono HX.out.size))
              generalize x.w = X at HX2 ⊢
              clear x q0 e0 t1 t2
              go_wp2_with fail
              go_roundg (S.length - (k + 1))
              case measure => have := HJ.out; omega
              case rel => exact ⟨k + 1, by go_num, by omega, Lib.hid (by omega), HX2⟩
            · obtain rfl : k = S.length := by omega
              clear hkl HJ
              have hX := HW5.out.trans (HX.out.mono HW5.out.size)
              have HXU := Lib.hid hX
              have a1 := fun x : Wd wr.heap.size wr => ((HAU.out.below hX).below x.ok).cell hlt
              rw [← HY.out] at a1
              have e0 := fun x : Wd wr.heap.size wr => ((HPU.out.below hX).below x.ok).c0
              have HMX := fun x : Wd wr.heap.size wr => (HMU.out.below hX).below x.ok
              rcases Nat.lt_or_ge i p.terms.length with hc1 | hc1
              · have g1 : decide ((p.terms.length : Int) ≤ (i : Int)) = false := by simp; omega
                have g3 : decide (p.terms.length ≤ i) = false := by simp; omega
                clear a1 HMX
                go_wp2_with fail
                refine region_cls wr.heap.size (by kernel_rfl) (by kernel_rfl) ?_
                repeat (go_big_quiet_step (fail))
                refine wpQuiet_nil ?_
                intro x
                have HX2 := Lib.hid (hX.trans (x.ok.mono hX.size))
                generalize x.w = X at HX2 ⊢
                clear x e0 g1
                go_wp2_with fail
                go_roundg (N - (i + 1))
                case measure => have := HK.out; omega
                case rel => exact ⟨i + 1, by go_num, by omega, Lib.hid (by omega), HX2⟩
              have g1 : decide ((p.terms.length : Int) ≤ (i : Int)) = true := by simp; omega
              have g3 : decide (p.terms.length ≤ i) = true := by simp; omega
              rcases Nat.lt_or_ge i (p.terms.length + p.vars.length) with hc2 | hc2
              · have g2 : decide ((i : Int) < (p.terms.length : Int) + (p.vars.length : Int) + 1 - 1) = true := by simp; omega
                have g4 : decide ((i : Int) < (p.terms.length : Int) + (p.vars.length : Int)) = true := by simp; omega
                have hin := HIY.out hc1 hc2
                rw [t0] at hin
                have HIC := fun x : Wd wr.heap.size wr => in_any ma L mc (i : Int) x.w (HMX x) (by unfold maxLen; omega)
                rw [hin] at HIC
                clear hin HMX
                go_wp2_with fail
                refine region_cls wr.heap.size (by kernel_rfl) (by kernel_rfl) ?_
                repeat (go_big_quiet_step (first | (go_at_call 21; exact calls_cls_same _ (HIC _))))
                refine wpQuiet_nil ?_
                intro x
                have HX2 := Lib.hid (hX.trans (x.ok.mono hX.size))
                generalize x.w = X at HX2 ⊢
                clear x e0 g1 g2 a1 HIC
                go_wp2_with fail
                go_roundg (N - (i + 1))
                case measure => have := HK.out; omega
                case rel => exact ⟨i + 1, by go_num, by omega, Lib.hid (by omega), HX2⟩
              · have g2 : decide ((i : Int) < (p.terms.length : Int) + (p.vars.length : Int) + 1 - 1) = false := by simp; omega
                have g4 : decide ((i : Int) < (p.terms.length : Int) + (p.vars.length : Int)) = false := by simp; omega
                clear a1 HMX
                go_wp2_with fail
                refine region_cls wr.heap.size (by kernel_rfl) (by kernel_rfl) ?_
                repeat (go_big_quiet_step (fail))
                refine wpQuiet_nil ?_
                intro x
                have HX2 := Lib.hid (hX.trans (x.ok.mono hX.size))
                generalize x.w = X at HX2 ⊢
                clear x e0 g1 g2
                go_wp2_with fail
                go_roundg (N - (i + 1))
                case measure => have := HK.out; omega
                case rel => exact ⟨i + 1, by go_num, by omega, Lib.hid (by omega), HX2⟩
      · obtain rfl : N = i := by omega
        clear hlt HK
        have d2 := (HPU.out.below HW.out).c2
        go_wp2_with fail
        clear d2 hN1
        have HWU := HW
        clear HW HIN HSL HMU
        obtain ⟨W5, hW5⟩ : ∃ W5, W5 = wr := ⟨_, rfl⟩
        subst hW5
        go_loopg [12] p.rules.length (fun gk iv w2 => ∃ i : Nat, iv = .int .i64 i ∧ i ≤ p.rules.length ∧ Hid (gk + i = p.rules.length) ∧ Hid (w2 = W5))
        case atStart => exact ⟨0, rfl, by omega, Lib.hid (by omega), Lib.hid rfl⟩
        case round =>
          obtain ⟨i, rfl, hi, HK, HW⟩ := hrel
          have hWe := HW.out
          subst hWe
          have hPW := HPU.out.below HWU.out
          have d2 := hPW.c2
          by_cases hlt : i < p.rules.length
          · obtain ⟨rb, ro, xa, xc, rfl, v0, v1, v2, vin⟩ := hPW.a.r i hlt
            have hxl := HO.out.left _ (List.getElem_mem hlt)
            have hxr := HO.out.right _ (List.getElem_mem hlt)
            have hx8 := HRL.out _ (List.getElem_mem hlt)
            have hsum := HSU.out _ (List.getElem_mem hlt)
            generalize p.rules[i] = x at v0 v1 v2 vin hxl hxr hx8 hsum
            have HXR := Lib.hid hxr
            have HSX := Lib.hid hsum
            have HXI := Lib.hid vin
            clear hxr vin hsum
            go_wp2_with fail
            go_loopg [13, 14] x.right.length (fun gk sv jv w3 => ∃ j : Nat, jv = .int .i64 j ∧ j ≤ x.right.length ∧ Hid (gk + j = x.right.length) ∧ sv = .int .i64 (Q.sumL f (x.right.take j) 0) ∧ Hid (w3 = wr))
            case atStart => exact ⟨0, rfl, by omega, Lib.hid (by omega), by simp [Q.sumL], Lib.hid rfl⟩
            case round =>
              obtain ⟨j, rfl, hj, HJ, rfl, HW⟩ := hrel
              have hWe := HW.out
              subst hWe
              by_cases hltj : j < x.right.length
              · obtain ⟨nb, no, hna, q0⟩ := HXI.out j hltj
                obtain ⟨y0, y1⟩ := HXR.out _ (List.getElem_mem hltj)
                have htj := List.take_succ_eq_append_getElem hltj
                subst hna
                generalize x.right[j] = y at q0 y0 y1 htj
                obtain ⟨n, rfl⟩ : ∃ n : Nat, y = n := ⟨y.toNat, by omega⟩
                have hnN : n < N := by have := HCT.out; omega
                have a0 := (HAU.out.below HWU.out).cell hnN
                have hsn : Q.sumL f (x.right.take (j + 1)) 0 = if f n < 0 ∨ Q.sumL f (x.right.take j) 0 < 0 then -1 else Q.add (Q.sumL f (x.right.take j) 0) (f n) := by rw [htj, Q.sumL_snoc, Int.toNat_natCast]
                obtain ⟨s, hs⟩ : ∃ s, s = Q.sumL f (x.right.take j) 0 := ⟨_, rfl⟩
                obtain ⟨fn, hfn⟩ : ∃ fn, fn = f n := ⟨_, rfl⟩
                rw [← hfn] at a0
                rw [← hs, ← hfn] at hsn
                rw [← hs]
                have HSN := Lib.hid hsn
                clear htj y0 y1 hsn hs hfn
                rcases Int.lt_or_le fn 0 with h1 | h1
                · have t1 : decide (fn < 0) = true := by simpa using h1
                  have e1 : Q.sumL f (x.right.take (j + 1)) 0 = -1 := by rw [HSN.out, if_pos (.inl h1)]
                  have HE := Lib.hid e1
                  clear h1 e1
                  go_wp2_with fail
                  go_roundg (x.right.length - (j + 1))
                  case measure => have := HJ.out; omega
                  case rel => exact ⟨j + 1, by go_num, by omega, Lib.hid (by omega), by rw [HE.out], Lib.hid rfl⟩
                · have t1 : decide (fn < 0) = false := by simp; omega
                  rcases Int.lt_or_le s 0 with h2 | h2
                  · have t2 : decide (s < 0) = true := by simpa using h2
                    have e1 : Q.sumL f (x.right.take (j + 1)) 0 = -1 := by rw [HSN.out, if_pos (.inr h2)]
                    have HE := Lib.hid e1
                    clear h1 h2 e1
                    go_wp2_with fail
                    go_roundg (x.right.length - (j + 1))
                    case measure => have := HJ.out; omega
                    case rel => exact ⟨j + 1, by go_num, by omega, Lib.hid (by omega), by rw [HE.out], Lib.hid rfl⟩
                  · have t2 : decide (s < 0) = false := by simp; omega
                    have e1 : Q.sumL f (x.right.take (j + 1)) 0 = Q.add s fn := by rw [HSN.out, if_neg (by omega)]
                    have HE := Lib.hid e1
                    have had := addR_any s fn wr
                    clear h1 h2 e1
                    go_wp2_with fail
                    refine had.mono ?_
                    rintro e w6 ⟨rfl, rfl⟩
                    clear had
                    go_wp2_with fail
                    go_roundg (x.right.length - (j + 1))
                    case measure => have := HJ.out; omega
                    case rel => exact ⟨j + 1, by go_num, by omega, Lib.hid (by omega), by rw [HE.out], Lib.hid rfl⟩
              · obtain rfl : j = x.right.length := by omega
                have hsx := HSX.out
                rw [List.take_length]
                have hlN : x.left < N := by have := HCT.out; omega
                have a0 := (HAU.out.below HWU.out).cell hlN
                generalize Q.sumL f x.right 0 = s at hsx ⊢
                generalize f x.left = l at hsx a0
                clear hltj HJ
                rcases Int.lt_or_le s 0 with h2 | h2
                · have t2 : decide (0 ≤ s) = false := by simp; omega
                  clear hsx h2
                  go_wp2_with fail
                  go_roundg (p.rules.length - (i + 1))
                  case measure => have := HK.out; omega
                  case rel => exact ⟨i + 1, by go_num, by omega, Lib.hid (by omega), Lib.hid rfl⟩
                · obtain ⟨l0, l1⟩ := hsx h2
                  have t2 : decide (0 ≤ s) = true := by simpa using h2
                  have t3 : decide (l < 0) = false := by simp; omega
                  have t4 : decide (s < l) = false := by simp; omega
                  clear h2 l0 l1
                  go_wp2_with fail
                  go_roundg (p.rules.length - (i + 1))
                  case measure => have := HK.out; omega
                  case rel => exact ⟨i + 1, by go_num, by omega, Lib.hid (by omega), Lib.hid rfl⟩
          · obtain rfl : i = p.rules.length := by omega
            clear hlt HK hPW
            go_wp2_with fail
            go_ret
            exact ⟨rfl, HBU.out.trans (HWU.out.mono HBU.out.size)⟩
end Go.Proofs.YtjbggogbnckllaaDoor
