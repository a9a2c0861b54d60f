/-
  The walk of the law CheckCloses.
-/
import Derived.Test.YtjbggogbnckllaaDoorAs
namespace Go.Proofs.YtjbggogbnckllaaDoor
open Go.RowKit
set_option linter.unusedVariables false
set_option linter.unusedSimpArgs false
set_option maxRecDepth 100000 in
set_option maxHeartbeats 16000000 in
theorem closes9_law {w : World} {v : Value} {m : Pl.Sm}  (h : SmV w v m) (hz : SmSz m) (hT : Tab w)  :
    Calls Tryd.prog 12 #[v] w fun e w' => e = .returned (.bool true) ∧ Below w.heap.size w w' := by
  obtain ⟨sla, sra, spa, saa, sva, slc, src, spc, sac, svc, rfl, h⟩ := h
  have HS := SB.new (lc := slc) (rc := src) (pc := spc) (ac := sac) (vc := svc) h
  have k := (Below.refl w.heap.size w).alloc (Nat.le_refl _) (.cells (smC m sla sra spa saa sva slc src spc sac svc) 25)
  have HT0 := Lib.hid (hT.below k)
  have HB0 := Lib.hid k
  unfold smC at HS HB0 HT0 ⊢
  have HS0 := Lib.hid HS
  
  clear HS k h hT
  go_enter Tryd.func12, Tryd.ntmps12
  go_wp2_with fail
  generalize w.alloc (.cells #[.int .u8 (m.tokens : Nat), .int .u8 (m.vars : Nat), .slice sla m.lefts.length slc, .slice sra m.rights.length src, .slice spa m.precs.length spc, .slice saa m.assocs.length sac, .slice sva m.levels.length svc] 25) = W at HS0 HB0 HT0  ⊢
  refine (awake09_any W HT0.out).mono ?_
  rintro e W1 ⟨rfl, k⟩
  have HT1 := Lib.hid (HT0.out.below k)
  have HB1 := Lib.hid (HB0.out.trans (k.mono HB0.out.size))
  have HS1 := Lib.hid (HS0.out.below k)
  have HFW := few_any 20 8 (w := W1) (v := .agg #[.int .u8 (m.tokens : Nat), .int .u8 (m.vars : Nat), .slice sla m.lefts.length slc, .slice sra m.rights.length src, .slice spa m.precs.length spc, .slice saa m.assocs.length sac, .slice sva m.levels.length svc]) ⟨sla, sra, spa, saa, sva, slc, src, spc, sac, svc, rfl, HS1.out.a⟩ hz (by omega) (by omega)
  have c0 := HS1.out.c0
  have c1 := HS1.out.c1
  have c2 := HS1.out.c2
  have c3 := HS1.out.c3
  have c4 := HS1.out.c4
  have c5 := HS1.out.c5
  have c6 := HS1.out.c6
  clear HT0 HB0 HS0 k
  go_wp2_with fail
  refine HFW.mono ?_
  rintro e W2 ⟨rfl, k⟩
  have HT2 := Lib.hid (HT1.out.below k)
  have HB2 := Lib.hid (HB1.out.trans (k.mono HB1.out.size))
  have HS2 := Lib.hid (HS1.out.below k)
  clear HFW k HT1 HB1 HS1 c0 c1 c2 c3 c4 c5 c6
  cases hf : Pl.few m 20 8
  case false =>
    go_wp2_with fail
    go_ret
    exact ⟨rfl, HB2.out⟩
  case true =>
    have HPN := plan_any (w := W2) (v := .agg #[.int .u8 (m.tokens : Nat), .int .u8 (m.vars : Nat), .slice sla m.lefts.length slc, .slice sra m.rights.length src, .slice spa m.precs.length spc, .slice saa m.assocs.length sac, .slice sva m.levels.length svc]) ⟨sla, sra, spa, saa, sva, slc, src, spc, sac, svc, rfl, HS2.out.a⟩ hz hf
    have hplan := Q.plan_ok (hf)
    obtain ⟨p, hp⟩ : ∃ p, p = Pl.plan m := ⟨_, rfl⟩
    rw [← hp] at HPN hplan
    have HPL := Lib.hid hp
    have HO := Lib.hid hplan.1
    have HCN := Lib.hid hplan.2.1
    have HRU := Lib.hid hplan.2.2.1
    have HRL := Lib.hid hplan.2.2.2
    have HFEW := Lib.hid hf
    have c0 := HS2.out.c0
    have c1 := HS2.out.c1
    have c2 := HS2.out.c2
    have c3 := HS2.out.c3
    have c4 := HS2.out.c4
    have c5 := HS2.out.c5
    have c6 := HS2.out.c6
    clear hplan hp hf
    go_wp2_with fail
    refine HPN.mono ?_
    rintro e W3 ⟨pv, rfl, hpv, k⟩
    obtain ⟨ta, tc, va, vc, ra, rc, la, lc, aa, ac, ca, cc, rfl, hpa⟩ := hpv
    have AL := (Below.refl W3.heap.size W3).alloc (Nat.le_refl _) (.cells #[.slice ta p.terms.length tc, .slice va p.vars.length vc, .slice ra p.rules.length rc, .slice la p.levels.length lc, .slice aa p.assocs.length ac, .slice ca p.acts.length cc] 32)
    have HP0 := PB.new (tc := tc) (vc := vc) (rc := rc) (lc := lc) (ac := ac) (cc := cc) hpa
    unfold pnC at HP0
    have HP := Lib.hid HP0
    have hB3 := HB2.out.trans (k.mono HB2.out.size)
    have HB := Lib.hid (hB3.trans (AL.mono hB3.size))
    have HT := Lib.hid ((HT2.out.below k).below AL)
    have HS := Lib.hid ((HS2.out.below k).below AL)
    clear HPN k AL HP0 hpa hB3 HT2 HB2 HS2 c0 c1 c2 c3 c4 c5 c6
    have HRE := reachable_any (w := _) (v := .agg #[.slice ta p.terms.length tc, .slice va p.vars.length vc, .slice ra p.rules.length rc, .slice la p.levels.length lc, .slice aa p.assocs.length ac, .slice ca p.acts.length cc]) ⟨ta, tc, va, vc, ra, rc, la, lc, aa, ac, ca, cc, rfl, HP.out.a⟩ HO.out (by have := HCN.out; omega) HT.out
    have d0 := HP.out.c0
    have d1 := HP.out.c1
    have d2 := HP.out.c2
    have d3 := HP.out.c3
    have d4 := HP.out.c4
    have d5 := HP.out.c5
    have hnb := HO.out.nb
    have hmb := HO.out.m
    have hnr := HO.out.r
    go_wp2_with fail
    generalize W3.alloc (.cells #[.slice ta p.terms.length tc, .slice va p.vars.length vc, .slice ra p.rules.length rc, .slice la p.levels.length lc, .slice aa p.assocs.length ac, .slice ca p.acts.length cc] 32) = V at HP HB HT HS HRE d0 d1 d2 d3 d4 d5 ⊢
    generalize W3.heap.size = pb at HP d0 d1 d2 d3 d4 d5 ⊢
    refine HRE.mono ?_
    rintro e U ⟨na, nc, rfl, hi, k⟩
    have hlen := Q.ofB_len (Q.come p) (Q.cnt p)
    have hsort := Q.ofB_sorted (Q.come p) (Q.cnt p)
    obtain ⟨L, hL⟩ : ∃ L, L = Q.ofB (Q.come p) (Q.cnt p) := ⟨_, rfl⟩
    rw [← hL] at hi hlen hsort ⊢
    have hLn : L.length ≤ 62 := by have := HCN.out; omega
    have HIU := Lib.hid hi
    have HL := Lib.hid hL
    have HSO := Lib.hid hsort
    have HPU := Lib.hid (HP.out.below k)
    have HBU := Lib.hid (HB.out.trans (k.mono HB.out.size))
    have HSU : Hid (w.heap.size ≤ U.heap.size) := Lib.hid HBU.out.size
    have hcnt : Q.cnt p = p.terms.length + p.vars.length + 1 := rfl
    have HCT := Lib.hid hcnt
    have HIN : Hid (∀ i : Nat, i < Q.cnt p → inI L (i : Int) = Q.come p i) := Lib.hid (fun i hi => by rw [HL.out]; exact Q.inI_ofB hi)
    clear HRE hi hlen hsort hL k d0 d1 d2 d3 d4 d5 HB HP HT HS hcnt
    have d0 := HPU.out.c0
    have d1 := HPU.out.c1
    go_wp2_with fail
    clear d0 d1
    go_loopg [8, 9] p.rules.length (fun gk fv iv wr => ∃ (i : Nat) (F : List Int), iv = .int .i64 i ∧ i ≤ p.rules.length ∧ Hid (gk + i = p.rules.length) ∧ Hid (wr.ownsRow U.heap.size 3 1 fv F.length (intV F)) ∧ Hid (Below U.heap.size U wr) ∧ Hid (F.length ≤ i * 8) ∧ Hid (∀ r ∈ p.rules.take i, Q.come p r.left = true → ∀ x ∈ r.right, x ∈ F))
    case atStart => exact ⟨0, [], rfl, by omega, Lib.hid (by omega), Lib.hid (World.ownsRow_nil _ _ _ _), Lib.hid (Below.refl _ _), Lib.hid (by simp), Lib.hid (fun r hr => by simp at hr)⟩
    case round =>
      obtain ⟨i, F, rfl, hi, HK, HF, HW, HFL, HFP⟩ := hrel
      have hPW := HPU.out.below HW.out
      have d2 := hPW.c2
      by_cases hlt : i < p.rules.length
      · obtain ⟨rb, ro, xa, xc, rfl, v0, v1, v2, vin⟩ := HPU.out.a.r i hlt
        have hxl := HO.out.left _ (List.getElem_mem hlt)
        have hxr := HO.out.right _ (List.getElem_mem hlt)
        have hx8 := HRL.out _ (List.getElem_mem hlt)
        have hxm := List.getElem_mem hlt
        have htk := List.take_succ_eq_append_getElem hlt
        generalize p.rules[i] = x at v0 v1 v2 vin hxl hxr hx8 hxm htk
        have b0 := World.block_lt_of_cell? U _ v0
        have T1 : Hid (∀ W, Below U.heap.size U W → W.cell? ⟨rb, ro + i * 3 + 1, none⟩ = some (.slice xa x.right.length xc)) := Lib.hid (fun W k => ((bcell k).1 _ _ b0).trans v1)
        have t0 := ((bcell HW.out).1 rb (ro + i * 3) b0).trans v0
        have HXR := Lib.hid hxr
        have HXM := Lib.hid (And.intro hxm htk)
        have HXI := Lib.hid vin
        have hic := in_any na L nc (x.left : Int) wr (HIU.out.below HW.out) (by unfold maxLen; omega)
        rw [HIN.out x.left (by have := HCT.out; omega)] at hic
        obtain ⟨cb, hcb⟩ : ∃ cb, cb = Q.come p x.left := ⟨_, rfl⟩
        rw [← hcb] at hic
        have HCB := Lib.hid hcb
        clear hcb hxr vin hxm htk v0 v1 v2 b0
        go_wp2_with fail
        refine hic.mono ?_
        rintro e w5 ⟨rfl, rfl⟩
        clear hic t0 d2 hPW
        go_wp2_with fail
        have HF0 := HF
        have HW0 := HW
        have HFL0 : Hid (F.length ≤ i * 8 + 0) := HFL
        have HFP0 := HFP
        have HFX0 : Hid (Q.come p x.left = true → ∀ y ∈ x.right.take 0, y ∈ F) := Lib.hid (fun _ y hy => by simp at hy)
        clear HF HW HFL HFP
        go_loopg [8, 11] x.right.length (fun gk fv jv wr => ∃ (j : Nat) (F : List Int), jv = .int .i64 j ∧ j ≤ x.right.length ∧ Hid (gk + j = x.right.length) ∧ Hid (wr.ownsRow U.heap.size 3 1 fv F.length (intV F)) ∧ Hid (Below U.heap.size U wr) ∧ Hid (F.length ≤ i * 8 + j) ∧ Hid (∀ r ∈ p.rules.take i, Q.come p r.left = true → ∀ x ∈ r.right, x ∈ F) ∧ Hid (Q.come p x.left = true → ∀ y ∈ x.right.take j, y ∈ F))
        case atStart => exact ⟨0, F, rfl, by omega, Lib.hid (by omega), HF0, HW0, HFL0, HFP0, HFX0⟩
        case round =>
          clear HF0 HW0 HFL0 HFP0 HFX0
          obtain ⟨j, F, rfl, hj, HJ, HF, HW, HFL, HFP, HFX⟩ := hrel
          have d2 := (HPU.out.below HW.out).c2
          have t1 := T1.out _ HW.out
          by_cases hltj : j < x.right.length
          · obtain ⟨nb, no, rfl, q0⟩ := (HXI.out.below HW.out) j hltj
            obtain ⟨y0, y1⟩ := HXR.out _ (List.getElem_mem hltj)
            have hym := List.getElem_mem hltj
            have htj := List.take_succ_eq_append_getElem hltj
            generalize x.right[j] = y at q0 y0 y1 hym htj
            obtain ⟨n, rfl⟩ : ∃ n : Nat, y = n := ⟨y.toNat, by omega⟩
            have hic := in_any na L nc (n : Int) wr (HIU.out.below HW.out) (by unfold maxLen; omega)
            rw [HIN.out n (by have := HCT.out; omega)] at hic
            have hcn : Q.come p x.left = true → Q.come p n = true := fun h => by
              rw [Q.come_rch HO.out] at h ⊢
              have := Q.Rch.rule x HXM.out.1 h (n : Int) hym
              simpa using this
            have HTJ := Lib.hid htj
            clear hym htj y0 y1
            cases cb with
            | true =>
              rw [hcn HCB.out.symm] at hic
              have HO3 := Lib.hid (HF.out.alloc (.cells #[.int .i64 (n : Int)] 3))
              have hsz3 := HW.out.size
              have HW3 := Lib.hid (HW.out.alloc hsz3 (.cells #[.int .i64 (n : Int)] 3))
              have hFn : F.length ≤ 1000 := by have := HFL.out; have := HRU.out; omega
              clear hcn
              go_wp2_with fail
              refine hic.mono ?_
              rintro e w6 ⟨rfl, rfl⟩
              clear hic
              go_wp2_with (refine list_append_one rfl _ _ _ rfl 3 U.heap.size 1 8 elt_int _ F.length (intV F) rfl HO3.out ⟨wr.heap.size, 0, none⟩ 1 [.int .i64 (n : Int)] rfl rfl (World.news_of_block (cs := #[.int .i64 (n : Int)]) (t := 3) (fr := (0, 0)) (heap_alloc_new wr _)) (by simp [Value.oneCell']) (by unfold maxLen; omega) (by omega) (by simp; omega) ?_; intro bg bcap wg hog hgg hb1 hb2 hb3; have HW4 := Lib.hid (HW3.out.trans (below_own HO3.out (by simp; omega) hgg)); have HO4 := Lib.hid hog; clear hog hb3)
              go_roundg (x.right.length - (j + 1))
              case measure => have := HJ.out; omega
              case rel =>
                refine ⟨j + 1, F ++ [(n : Int)], by go_num, by omega, Lib.hid (by omega), Lib.hid (by rw [List.length_append, intV_snoc]; exact HO4.out), HW4, Lib.hid (by rw [List.length_append]; have := HFL.out; simp; omega), Lib.hid (fun r hr h z hz => List.mem_append_left _ (HFP.out r hr h z hz)), Lib.hid (fun h z hz => ?_)⟩
                rw [HTJ.out] at hz
                rcases List.mem_append.1 hz with hz | hz
                · exact List.mem_append_left _ (HFX.out h z hz)
                · exact List.mem_append_right _ hz
            | false =>
              obtain ⟨cn, hcn2⟩ : ∃ cn, cn = Q.come p n := ⟨_, rfl⟩
              rw [← hcn2] at hic
              have HFX2 : Hid (Q.come p x.left = true → ∀ y ∈ x.right.take (j + 1), y ∈ F) := Lib.hid (fun h => by rw [← HCB.out] at h; cases h)
              clear hcn hcn2
              go_wp2_with fail
              refine hic.mono ?_
              rintro e w6 ⟨rfl, rfl⟩
              clear hic
              go_wp2_with fail
              go_roundg (x.right.length - (j + 1))
              case measure => have := HJ.out; omega
              case rel => exact ⟨j + 1, F, by go_num, by omega, Lib.hid (by omega), HF, HW, Lib.hid (by have := HFL.out; omega), HFP, HFX2⟩
          · obtain rfl : j = x.right.length := by omega
            have hfx := HFX.out
            rw [List.take_length] at hfx
            have HFP2 : Hid (∀ r ∈ p.rules.take (i + 1), Q.come p r.left = true → ∀ x ∈ r.right, x ∈ F) := Lib.hid (fun r hr h => by
              rw [HXM.out.2] at hr
              rcases List.mem_append.1 hr with hr | hr
              · exact HFP.out r hr h
              · rw [List.mem_singleton.1 hr] at h ⊢; exact hfx h)
            clear hltj hfx HFX HFP
            go_wp2_with fail
            go_roundg (p.rules.length - (i + 1))
            case measure => have := HK.out; omega
            case rel => exact ⟨i + 1, F, by go_num, by omega, Lib.hid (by omega), HF, HW, Lib.hid (by have := HFL.out; omega), HFP2⟩
      · obtain rfl : i = p.rules.length := by omega
        rw [List.take_length] at HFP
        clear hlt HK
        go_wp2_with fail
        clear d2 hPW
        obtain ⟨fa, fc, rfl, hfi⟩ := own_ints HF.out
        have HFI := Lib.hid hfi
        have hFn : F.length ≤ 1000000 := by have := HFL.out; omega
        have HMEM : Hid (∀ y ∈ L, y ≠ ((p.terms.length : Int) + (p.vars.length : Int)) → inI F y = true) := Lib.hid (fun y hy hne => by
          rw [HL.out, Q.mem_ofB] at hy
          obtain ⟨n, hn, hc, rfl⟩ := hy
          rw [Q.come_rch HO.out] at hc
          rcases Q.rch_why hc with h1 | ⟨r, hr, hl, z, hz, e⟩
          · have := HCT.out; omega
          · have hz0 := (HO.out.right r hr z hz).1
            have hzn : z = (n : Int) := by omega
            rw [hzn] at hz
            exact Q.inI_mem (HFP.out r hr ((Q.come_rch HO.out _).2 hl) _ hz))
        have HWU := HW
        clear hfi HF HFL HFP HW
        obtain ⟨W5, hW5⟩ : ∃ W5, W5 = wr := ⟨_, rfl⟩
        subst hW5
        go_loopg [13] L.length (fun gk iv w2 => ∃ i : Nat, iv = .int .i64 i ∧ i ≤ L.length ∧ Hid (gk + i = L.length) ∧ Hid (Below W5.heap.size W5 w2))
        case atStart => exact ⟨0, rfl, by omega, Lib.hid (by omega), Lib.hid (Below.refl _ _)⟩
        case round =>
          obtain ⟨i, rfl, hi, HK, HW⟩ := hrel
          by_cases hlt : i < L.length
          · have hI5 := HIU.out.below HWU.out
            obtain ⟨nb, no, hna, q5⟩ := hI5 i hlt
            have hxm := List.getElem_mem hlt
            have hpv : i = 0 ∨ ∃ k, i = k + 1 ∧ ∃ z, z < L[i] ∧ W5.cell? ⟨nb, no + k, none⟩ = some (.int .i64 z) := by
              cases i with
              | zero => exact .inl rfl
              | succ k =>
                obtain ⟨nb', no', hna', q5'⟩ := hI5 k (by omega)
                rw [hna] at hna'
                simp only [Option.some.injEq, Addr.mk.injEq] at hna'
                obtain ⟨rfl, rfl, _⟩ := hna'
                exact .inr ⟨k, rfl, L[k], Q.sorted_at HSO.out hlt, q5'⟩
            subst hna
            have hmem := HMEM.out _ hxm
            have hib : i ≤ 62 := by omega
            generalize L[i] = y at q5 hxm hpv hmem
            have bl := World.block_lt_of_cell? W5 _ q5
            have q0 := fun z : Wd wr.heap.size wr => ((bcell (HW.out.trans (z.ok.mono HW.out.size))).1 nb (no + i) bl).trans q5
            have HFz := fun z : Wd wr.heap.size wr => (HFI.out.below HW.out).below z.ok
            have HIC := fun z : Wd wr.heap.size wr => in_any fa F fc y z.w (HFz z) (by unfold maxLen; omega)
            by_cases hy : y = ((p.terms.length : Int) + (p.vars.length : Int))
            · subst hy
              clear hmem HIC HFz hxm
              rcases hpv with rfl | ⟨k, rfl, z, hz, q6⟩
              · skip
                simp only [Nat.add_zero] at q0
                clear q5 bl
                go_wp2_with fail
                refine region_cls wr.heap.size (by kernel_rfl) (by kernel_rfl) ?_
                repeat (go_big_quiet_step (fail))
                refine wpQuiet_nil ?_
                intro x
                have HX := Lib.hid (HW.out.trans (x.ok.mono HW.out.size))
                generalize x.w = X at HX ⊢
                clear x q0
                go_wp2_with fail
                go_roundg (L.length - (0 + 1))
                case measure => have := HK.out; omega
                case rel => exact ⟨0 + 1, by go_num, by omega, Lib.hid (by omega), HX⟩
              · skip
                have bz := World.block_lt_of_cell? W5 _ q6
                have q1 := fun z : Wd wr.heap.size wr => ((bcell (HW.out.trans (z.ok.mono HW.out.size))).1 nb (no + k) bz).trans q6
                have d2 : decide ((p.terms.length : Int) + (p.vars.length : Int) ≤ z) = false := by simp; omega
                clear hz q6 bz
                clear q5 bl
                go_wp2_with fail
                refine region_cls wr.heap.size (by kernel_rfl) (by kernel_rfl) ?_
                repeat (go_big_quiet_step (fail))
                refine wpQuiet_nil ?_
                intro x
                have HX := Lib.hid (HW.out.trans (x.ok.mono HW.out.size))
                generalize x.w = X at HX ⊢
                clear x q0 q1
                go_wp2_with fail
                go_roundg (L.length - (k + 1 + 1))
                case measure => have := HK.out; omega
                case rel => exact ⟨k + 1 + 1, by go_num, by omega, Lib.hid (by omega), HX⟩
            · rw [hmem hy] at HIC
              have d1 : (y == ((p.terms.length : Int) + (p.vars.length : Int))) = false := by simpa using hy
              have d3 : (y != ((p.terms.length : Int) + (p.vars.length : Int))) = true := by simpa using hy
              have d4 : decide (y = ((p.terms.length : Int) + (p.vars.length : Int))) = false := by simpa using hy
              clear hmem
              rcases hpv with rfl | ⟨k, rfl, z, hz, q6⟩
              · skip
                simp only [Nat.add_zero] at q0
                clear q5 bl
                go_wp2_with fail
                refine region_cls wr.heap.size (by kernel_rfl) (by kernel_rfl) ?_
                repeat (go_big_quiet_step (first | (go_at_call 21; exact calls_cls_same _ (HIC _))))
                refine wpQuiet_nil ?_
                intro x
                have HX := Lib.hid (HW.out.trans (x.ok.mono HW.out.size))
                generalize x.w = X at HX ⊢
                clear x q0 HIC HFz hxm
                go_wp2_with fail
                go_roundg (L.length - (0 + 1))
                case measure => have := HK.out; omega
                case rel => exact ⟨0 + 1, by go_num, by omega, Lib.hid (by omega), HX⟩
              · skip
                have bz := World.block_lt_of_cell? W5 _ q6
                have q1 := fun z : Wd wr.heap.size wr => ((bcell (HW.out.trans (z.ok.mono HW.out.size))).1 nb (no + k) bz).trans q6
                have d2 : decide (y ≤ z) = false := by simp; omega
                clear hz q6 bz
                clear q5 bl
                go_wp2_with fail
                refine region_cls wr.heap.size (by kernel_rfl) (by kernel_rfl) ?_
                repeat (go_big_quiet_step (first | (go_at_call 21; exact calls_cls_same _ (HIC _))))
                refine wpQuiet_nil ?_
                intro x
                have HX := Lib.hid (HW.out.trans (x.ok.mono HW.out.size))
                generalize x.w = X at HX ⊢
                clear x q0 HIC HFz hxm q1
                go_wp2_with fail
                go_roundg (L.length - (k + 1 + 1))
                case measure => have := HK.out; omega
                case rel => exact ⟨k + 1 + 1, by go_num, by omega, Lib.hid (by omega), HX⟩
          · obtain rfl : i = L.length := by omega
            have hfin := in_any na L nc ((p.terms.length : Int) + (p.vars.length : Int)) wr ((HIU.out.below HWU.out).below HW.out) (by unfold maxLen; omega)
            have hacc : inI L ((p.terms.length : Int) + (p.vars.length : Int)) = true := by
              have h1 := HIN.out (p.terms.length + p.vars.length) (by have := HCT.out; omega)
              rw [← Int.natCast_add, h1, Q.come_rch HO.out]
              have := Q.Rch.start (p := p)
              rwa [HCT.out, Nat.add_sub_cancel] at this
            rw [hacc] at hfin
            clear hlt HK hacc
            go_wp2_with fail
            refine hfin.mono ?_
            rintro e w9 ⟨rfl, rfl⟩
            clear hfin
            go_wp2_with fail
            go_ret
            exact ⟨rfl, HBU.out.trans ((HWU.out.trans (HW.out.mono HWU.out.size)).mono HSU.out)⟩
end Go.Proofs.YtjbggogbnckllaaDoor
