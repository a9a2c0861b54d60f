/-
  The walk of the law CheckLoose.
-/
import Derived.Test.YtjbggogbnckllaaDoorAs
import Derived.Test.YtjbggogbnckllaaDoorGl
import Derived.Test.YtjbggogbnckllaaDoorGs
import Derived.Test.YtjbggogbnckllaaDoorSl
namespace Go.Proofs.YtjbggogbnckllaaDoor
open Go.RowKit
set_option linter.unusedVariables false
set_option linter.unusedSimpArgs false
set_option maxRecDepth 100000 in
set_option maxHeartbeats 16000000 in
theorem loose9_law {w : World} {v : Value} {m : Pl.Sm}  (h : SmV w v m) (hz : SmSz m) (hT : Tab w)  :
    Calls Tryd.prog 11 #[v] w fun e w' => e = .returned (.bool true) ∧ Below w.heap.size w w' := by
  obtain ⟨sla, sra, spa, saa, sva, slc, src, spc, sac, svc, rfl, h⟩ := h
  have HS := SB.new (lc := slc) (rc := src) (pc := spc) (ac := sac) (vc := svc) h
  have k := (Below.refl w.heap.size w).alloc (Nat.le_refl _) (.cells (smC m sla sra spa saa sva slc src spc sac svc) 25)
  have HT0 := Lib.hid (hT.below k)
  have HB0 := Lib.hid k
  unfold smC at HS HB0 HT0 ⊢
  have HS0 := Lib.hid HS
  
  clear HS k h hT
  go_enter Tryd.func11, Tryd.ntmps11
  go_wp2_with fail
  generalize w.alloc (.cells #[.int .u8 (m.tokens : Nat), .int .u8 (m.vars : Nat), .slice sla m.lefts.length slc, .slice sra m.rights.length src, .slice spa m.precs.length spc, .slice saa m.assocs.length sac, .slice sva m.levels.length svc] 25) = W at HS0 HB0 HT0  ⊢
  refine (awake09_any W HT0.out).mono ?_
  rintro e W1 ⟨rfl, k⟩
  have HT1 := Lib.hid (HT0.out.below k)
  have HB1 := Lib.hid (HB0.out.trans (k.mono HB0.out.size))
  have HS1 := Lib.hid (HS0.out.below k)
  have HFW := few_any 20 8 (w := W1) (v := .agg #[.int .u8 (m.tokens : Nat), .int .u8 (m.vars : Nat), .slice sla m.lefts.length slc, .slice sra m.rights.length src, .slice spa m.precs.length spc, .slice saa m.assocs.length sac, .slice sva m.levels.length svc]) ⟨sla, sra, spa, saa, sva, slc, src, spc, sac, svc, rfl, HS1.out.a⟩ hz (by omega) (by omega)
  have c0 := HS1.out.c0
  have c1 := HS1.out.c1
  have c2 := HS1.out.c2
  have c3 := HS1.out.c3
  have c4 := HS1.out.c4
  have c5 := HS1.out.c5
  have c6 := HS1.out.c6
  clear HT0 HB0 HS0 k
  go_wp2_with fail
  refine HFW.mono ?_
  rintro e W2 ⟨rfl, k⟩
  have HT2 := Lib.hid (HT1.out.below k)
  have HB2 := Lib.hid (HB1.out.trans (k.mono HB1.out.size))
  have HS2 := Lib.hid (HS1.out.below k)
  clear HFW k HT1 HB1 HS1 c0 c1 c2 c3 c4 c5 c6
  cases hf : Pl.few m 20 8
  case false =>
    go_wp2_with fail
    go_ret
    exact ⟨rfl, HB2.out⟩
  case true =>
    have HPN := plan_any (w := W2) (v := .agg #[.int .u8 (m.tokens : Nat), .int .u8 (m.vars : Nat), .slice sla m.lefts.length slc, .slice sra m.rights.length src, .slice spa m.precs.length spc, .slice saa m.assocs.length sac, .slice sva m.levels.length svc]) ⟨sla, sra, spa, saa, sva, slc, src, spc, sac, svc, rfl, HS2.out.a⟩ hz hf
    have hplan := Q.plan_ok (hf)
    obtain ⟨p, hp⟩ : ∃ p, p = Pl.plan m := ⟨_, rfl⟩
    rw [← hp] at HPN hplan
    have HPL := Lib.hid hp
    have HO := Lib.hid hplan.1
    have HCN := Lib.hid hplan.2.1
    have HRU := Lib.hid hplan.2.2.1
    have HRL := Lib.hid hplan.2.2.2
    have HFEW := Lib.hid hf
    have c0 := HS2.out.c0
    have c1 := HS2.out.c1
    have c2 := HS2.out.c2
    have c3 := HS2.out.c3
    have c4 := HS2.out.c4
    have c5 := HS2.out.c5
    have c6 := HS2.out.c6
    clear hplan hp hf
    go_wp2_with fail
    refine HPN.mono ?_
    rintro e W3 ⟨pv, rfl, hpv, k⟩
    obtain ⟨ta, tc, va, vc, ra, rc, la, lc, aa, ac, ca, cc, rfl, hpa⟩ := hpv
    have AL := (Below.refl W3.heap.size W3).alloc (Nat.le_refl _) (.cells #[.slice ta p.terms.length tc, .slice va p.vars.length vc, .slice ra p.rules.length rc, .slice la p.levels.length lc, .slice aa p.assocs.length ac, .slice ca p.acts.length cc] 32)
    have HP0 := PB.new (tc := tc) (vc := vc) (rc := rc) (lc := lc) (ac := ac) (cc := cc) hpa
    unfold pnC at HP0
    have HP := Lib.hid HP0
    have hB3 := HB2.out.trans (k.mono HB2.out.size)
    have HB := Lib.hid (hB3.trans (AL.mono hB3.size))
    have HT := Lib.hid ((HT2.out.below k).below AL)
    have HS := Lib.hid ((HS2.out.below k).below AL)
    clear HPN k AL HP0 hpa hB3 HT2 HB2 HS2 c0 c1 c2 c3 c4 c5 c6
    have HGR := grammar_any (w := W3.alloc (.cells #[.slice ta p.terms.length tc, .slice va p.vars.length vc, .slice ra p.rules.length rc, .slice la p.levels.length lc, .slice aa p.assocs.length ac, .slice ca p.acts.length cc] 32)) (v := .agg #[.int .u8 (m.tokens : Nat), .int .u8 (m.vars : Nat), .slice sla m.lefts.length slc, .slice sra m.rights.length src, .slice spa m.precs.length spc, .slice saa m.assocs.length sac, .slice sva m.levels.length svc]) ⟨sla, sra, spa, saa, sva, slc, src, spc, sac, svc, rfl, HS.out.a⟩ hz HFEW.out
    have c0 := HS.out.c0
    have c1 := HS.out.c1
    have c2 := HS.out.c2
    have c3 := HS.out.c3
    have c4 := HS.out.c4
    have c5 := HS.out.c5
    have c6 := HS.out.c6
    go_wp2_with fail
    generalize W3.alloc (.cells #[.slice ta p.terms.length tc, .slice va p.vars.length vc, .slice ra p.rules.length rc, .slice la p.levels.length lc, .slice aa p.assocs.length ac, .slice ca p.acts.length cc] 32) = V at HP HB HT HS HGR c0 c1 c2 c3 c4 c5 c6 ⊢
    generalize W3.heap.size = pb at HP ⊢
    refine HGR.mono ?_
    rintro e W4 ⟨gv, rfl, hg, k⟩
    obtain ⟨gta, gtc, gsa, gsc, gla, glc, gra, grc, rfl, hg1, hg2, hg3, hg4⟩ := hg
    have HP4 := Lib.hid (HP.out.below k)
    have HB4 := Lib.hid (HB.out.trans (k.mono HB.out.size))
    have HT4 := Lib.hid (HT.out.below k)
    obtain ⟨q, hq, L, hOq, hcq⟩ := Q.loose_plan HFEW.out
    obtain ⟨F, -⟩ := ofF (Pl.plan_of m HFEW.out)
    have hgl : (Pl.grammar m).rules.length ≤ 60 ∧ 0 < (Pl.grammar m).rules.length := ⟨by have h1 := F.len; have h2 := HRU.out; rw [HPL.out] at h2; omega, by
      have h1 := F.start
      rw [F.vars] at h1
      rcases Nat.eq_zero_or_pos (Pl.grammar m).rules.length with h | h
      · rw [List.eq_nil_of_length_eq_zero h] at h1; cases h1
      · exact h⟩
    have HG := Lib.hid (And.intro hg1 (And.intro hg2 (And.intro hg3 hg4)))
    have HQ := Lib.hid hq
    rw [← HPL.out] at L
    have HL := Lib.hid L
    have HOQ := Lib.hid hOq
    have HCQ := Lib.hid hcq
    have ht2 : 2 ≤ p.terms.length := by
      rw [HPL.out, F.terms]
      have := Pl.nTok_le m
      simp [Pl.grammar]
      omega
    obtain ⟨rb1, ro1, ns, hra, hns, hrc, hrs⟩ := rlV_cells hg4 hgl.2
    subst hra
    have hb1 : rb1 < W4.heap.size := by
      obtain ⟨e0, _⟩ := rlC_at (Pl.grammar m).rules ns 0 hgl.2 (by omega)
      exact World.block_lt_of_cell? W4 _ (hrc _ _ e0)
    have HONE := Lib.hid (rlC_one hns (fun i h h' => by obtain ⟨na, nc, e, hx⟩ := hrs i h h'; exact ⟨na, nc, e⟩))
    have HNS := Lib.hid (And.intro hns (And.intro hrs (And.intro hb1 hrc)))
    have HGL := Lib.hid hgl
    have HRL4 := Lib.hid (rlC_len _ _ hns)
    clear hg1 hg2 hg3 hg4 hq L hOq hcq hns hrs hb1 hrc hgl F HGR k HP HB HT HS c0 c1 c2 c3 c4 c5 c6
    have kg := (Below.refl W4.heap.size W4).alloc (Nat.le_refl _) (.cells #[.slice gta (Pl.grammar m).toks.length gtc, .slice gsa (Pl.grammar m).skips.length gsc, .slice gla (Pl.grammar m).levs.length glc, .string (Pl.grammar m).start, .slice (some ⟨rb1, ro1, none⟩) (Pl.grammar m).rules.length grc] 74)
    have HKG := Lib.hid kg
    have HGH := Lib.hid (heap_alloc_new W4 (.cells #[.slice gta (Pl.grammar m).toks.length gtc, .slice gsa (Pl.grammar m).skips.length gsc, .slice gla (Pl.grammar m).levs.length glc, .string (Pl.grammar m).start, .slice (some ⟨rb1, ro1, none⟩) (Pl.grammar m).rules.length grc] 74))
    have c4 : ∀ o, ((W4.alloc (.cells #[.slice gta (Pl.grammar m).toks.length gtc, .slice gsa (Pl.grammar m).skips.length gsc, .slice gla (Pl.grammar m).levs.length glc, .string (Pl.grammar m).start, .slice (some ⟨rb1, ro1, none⟩) (Pl.grammar m).rules.length grc] 74)).alloc o).cell? ⟨W4.heap.size, 4, none⟩ = some (.slice (some ⟨rb1, ro1, none⟩) (Pl.grammar m).rules.length grc) := fun o => by
      have k2 := (Below.refl _ (W4.alloc (.cells #[.slice gta (Pl.grammar m).toks.length gtc, .slice gsa (Pl.grammar m).skips.length gsc, .slice gla (Pl.grammar m).levs.length glc, .string (Pl.grammar m).start, .slice (some ⟨rb1, ro1, none⟩) (Pl.grammar m).rules.length grc] 74))).alloc (Nat.le_refl _) o
      rw [cell_of_row _ _ _ _ _ _ ((k2.block _ (by simp)).trans HGH.out)]; rfl
    clear kg
    have HN0 : Hid (((W4.alloc (.cells #[.slice gta (Pl.grammar m).toks.length gtc, .slice gsa (Pl.grammar m).skips.length gsc, .slice gla (Pl.grammar m).levs.length glc, .string (Pl.grammar m).start, .slice (some ⟨rb1, ro1, none⟩) (Pl.grammar m).rules.length grc] 74)).alloc (.cells #[] 77)).ownsRow (W4.heap.size + 1) 77 4 (.slice (some ⟨W4.heap.size + 1, 0, none⟩) 0 0) 0 []) := Lib.hid (by
      have := own_new (W4.alloc (.cells #[.slice gta (Pl.grammar m).toks.length gtc, .slice gsa (Pl.grammar m).skips.length gsc, .slice gla (Pl.grammar m).levs.length glc, .string (Pl.grammar m).start, .slice (some ⟨rb1, ro1, none⟩) (Pl.grammar m).rules.length grc] 74)) (W4.heap.size + 1) (by simp) 77 4 0 #[] (by simp) (Nat.zero_le _)
      rw [World.size_alloc] at this
      exact this)
    have HN5 : Hid (∀ j u, (rlC (Pl.grammar m).rules ns)[j]? = some u → ((W4.alloc (.cells #[.slice gta (Pl.grammar m).toks.length gtc, .slice gsa (Pl.grammar m).skips.length gsc, .slice gla (Pl.grammar m).levs.length glc, .string (Pl.grammar m).start, .slice (some ⟨rb1, ro1, none⟩) (Pl.grammar m).rules.length grc] 74)).alloc (.cells #[] 77)).cell? ((⟨rb1, ro1, none⟩ : Addr).add j) = some u) := Lib.hid (fun j u hj => by
      rw [Addr.add_lit]
      exact ((bcell (HKG.out.alloc HKG.out.size (.cells #[] 77))).1 _ _ HNS.out.2.2.1).trans (HNS.out.2.2.2 j u hj))
    have hs0 := Lib.hid (show ((W4.alloc (.cells #[.slice gta (Pl.grammar m).toks.length gtc, .slice gsa (Pl.grammar m).skips.length gsc, .slice gla (Pl.grammar m).levs.length glc, .string (Pl.grammar m).start, .slice (some ⟨rb1, ro1, none⟩) (Pl.grammar m).rules.length grc] 74)).alloc (.cells #[] 77)).heap.size = W4.heap.size + 1 + 1 by simp)
    have HGH1 := Lib.hid (((Below.refl _ (W4.alloc (.cells #[.slice gta (Pl.grammar m).toks.length gtc, .slice gsa (Pl.grammar m).skips.length gsc, .slice gla (Pl.grammar m).levs.length glc, .string (Pl.grammar m).start, .slice (some ⟨rb1, ro1, none⟩) (Pl.grammar m).rules.length grc] 74))).alloc (Nat.le_refl _) (.cells #[] 77)).block _ (by simp) |>.trans HGH.out)
    have HK1 := Lib.hid (HKG.out.alloc HKG.out.size (.cells #[] 77))
    have hgr60 := HGL.out.1
    clear HKG HGH
    go_wp2_with (first
      | (refine list_append_many rfl _ _ 72 rfl 77 (W4.heap.size + 1) 4 72 elt_rule (.slice (some ⟨W4.heap.size + 1, 0, none⟩) 0 0) 0 [] rfl HN0.out ⟨rb1, ro1, none⟩ (Pl.grammar m).rules.length grc (rlC (Pl.grammar m).rules ns) rfl HRL4.out HN5.out HONE.out HGL.out.2 (by unfold maxLen; omega) (by omega) (by rw [hs0.out]; omega) ?_; intro g2 cap2 w7 hog hgg hb1 hb2; simp only [Nat.zero_add, List.nil_append] at hog; have hbw := below_own HN0.out (by rw [hs0.out]; omega) hgg; have HGH7 := Lib.hid ((hbw.block W4.heap.size (by omega)).trans HGH1.out); have HK7 := Lib.hid (HK1.out.trans (hbw.mono (by omega))); have HO7 := Lib.hid hog; have HB7 := Lib.hid hb1; have hs7 := Lib.hid (show W4.heap.size + 1 + 1 ≤ w7.heap.size by have := hgg.size; rw [hs0.out] at this; exact this); have HO9 := Lib.hid ((hog.alloc (.cells #[.string ⟨#[97]⟩] 9)).alloc (.cells #[.string ⟨#[90]⟩, .slice (some ⟨w7.heap.size, 0, none⟩) 1 1, .string ⟨#[]⟩, .string ⟨#[]⟩] 77)); have HNW : Hid (∀ j u, [Value.string ⟨#[90]⟩, .slice (some ⟨w7.heap.size, 0, none⟩) 1 1, .string ⟨#[]⟩, .string ⟨#[]⟩][j]? = some u → ((w7.alloc (.cells #[.string ⟨#[97]⟩] 9)).alloc (.cells #[.string ⟨#[90]⟩, .slice (some ⟨w7.heap.size, 0, none⟩) 1 1, .string ⟨#[]⟩, .string ⟨#[]⟩] 77)).cell? ((⟨w7.heap.size + 1, 0, none⟩ : Addr).add j) = some u) := Lib.hid (by have hh := World.news_of_block (heap_alloc_new (w7.alloc (.cells #[.string ⟨#[97]⟩] 9)) (.cells #[.string ⟨#[90]⟩, .slice (some ⟨w7.heap.size, 0, none⟩) 1 1, .string ⟨#[]⟩, .string ⟨#[]⟩] 77)); rw [World.size_alloc] at hh; exact hh); have hk7 := ((Below.refl w7.heap.size w7).alloc (Nat.le_refl _) (.cells #[.string ⟨#[97]⟩] 9)).alloc (by simp) (.cells #[.string ⟨#[90]⟩, .slice (some ⟨w7.heap.size, 0, none⟩) 1 1, .string ⟨#[]⟩, .string ⟨#[]⟩] 77); have HGH8 := Lib.hid ((hk7.block W4.heap.size (by have := hs7.out; omega)).trans HGH7.out); have HK8 := Lib.hid (HK7.out.trans (hk7.mono (by have := hs7.out; omega))); have hs9 := Lib.hid (show ((w7.alloc (.cells #[.string ⟨#[97]⟩] 9)).alloc (.cells #[.string ⟨#[90]⟩, .slice (some ⟨w7.heap.size, 0, none⟩) 1 1, .string ⟨#[]⟩, .string ⟨#[]⟩] 77)).heap.size = w7.heap.size + 1 + 1 by simp); have HST := Lib.hid ((((Below.refl _ (w7.alloc (.cells #[.string ⟨#[97]⟩] 9))).alloc (Nat.le_refl _) (.cells #[.string ⟨#[90]⟩, .slice (some ⟨w7.heap.size, 0, none⟩) 1 1, .string ⟨#[]⟩, .string ⟨#[]⟩] 77)).block w7.heap.size (by simp)).trans (heap_alloc_new w7 (.cells #[.string ⟨#[97]⟩] 9))); clear hog hgg hb1 hb2 hbw hk7 c4)
      | (refine list_append_one rfl _ _ 72 rfl 77 (W4.heap.size + 1) 4 72 elt_rule (.slice (some ⟨g2, 0, none⟩) (Pl.grammar m).rules.length cap2) (Pl.grammar m).rules.length (rlC (Pl.grammar m).rules ns) rfl HO9.out ⟨w7.heap.size + 1, 0, none⟩ 1 [.string ⟨#[90]⟩, .slice (some ⟨w7.heap.size, 0, none⟩) 1 1, .string ⟨#[]⟩, .string ⟨#[]⟩] rfl rfl HNW.out (by simp [Value.oneCell']) (by unfold maxLen; omega) (by omega) (by rw [hs9.out]; have := hs7.out; omega) ?_; intro g3 cap3 w8 hog hgg hb1 hb2 hb3; have hbw := below_own HO9.out (by rw [hs9.out]; have := hs7.out; omega) hgg; have HG9 := Lib.hid ((hbw.block W4.heap.size (by omega)).trans HGH8.out); have HK9 := Lib.hid (HK8.out.trans (hbw.mono (by omega))); have HS9 := Lib.hid ((hgg.block w7.heap.size (by rw [hs9.out]; omega) (fun e => by have e' : w7.heap.size = g2 := Option.some.inj e; have := HB7.out; omega)).trans HST.out); have HO10 := Lib.hid hog; have f4 : w8.frozen? ⟨W4.heap.size, 4, none⟩ = false := frozen_of_row _ _ _ _ _ HG9.out; have c4 : w8.cell? ⟨W4.heap.size, 4, none⟩ = some (.slice (some ⟨rb1, ro1, none⟩) (Pl.grammar m).rules.length grc) := (by rw [cell_of_row _ _ _ _ _ _ HG9.out]; rfl); have HGZ := (fun v => heap_setCell_same w8 W4.heap.size 4 _ _ v HG9.out); have p0 : ∀ v, (w8.setCell ⟨W4.heap.size, 4, none⟩ v).cell? ⟨W4.heap.size, 0, none⟩ = some (.slice gta (Pl.grammar m).toks.length gtc) := (fun v => by rw [cell_of_row _ _ _ _ _ _ (HGZ v)]; rfl); have p1 : ∀ v, (w8.setCell ⟨W4.heap.size, 4, none⟩ v).cell? ⟨W4.heap.size, 1, none⟩ = some (.slice gsa (Pl.grammar m).skips.length gsc) := (fun v => by rw [cell_of_row _ _ _ _ _ _ (HGZ v)]; rfl); have p2 : ∀ v, (w8.setCell ⟨W4.heap.size, 4, none⟩ v).cell? ⟨W4.heap.size, 2, none⟩ = some (.slice gla (Pl.grammar m).levs.length glc) := (fun v => by rw [cell_of_row _ _ _ _ _ _ (HGZ v)]; rfl); have p3 : ∀ v, (w8.setCell ⟨W4.heap.size, 4, none⟩ v).cell? ⟨W4.heap.size, 3, none⟩ = some (.string (Pl.grammar m).start) := (fun v => by rw [cell_of_row _ _ _ _ _ _ (HGZ v)]; rfl); have p4 : ∀ v, (w8.setCell ⟨W4.heap.size, 4, none⟩ v).cell? ⟨W4.heap.size, 4, none⟩ = some v := (fun v => by rw [cell_of_row _ _ _ _ _ _ (HGZ v)]; rfl); clear hog hgg hb1 hb2 hb3 hbw HGZ))
    have hlw := HK9.out.setCell (p := ⟨W4.heap.size, 4, none⟩) (Nat.le_refl _) (.slice (some ⟨g3, 0, none⟩) ((Pl.grammar m).rules.length + 1) cap3)
    have hrl : RlV (w8.setCell ⟨W4.heap.size, 4, none⟩ (.slice (some ⟨g3, 0, none⟩) ((Pl.grammar m).rules.length + 1) cap3)) (some ⟨g3, 0, none⟩) ((Pl.grammar m).rules ++ [Pl.zRul]) := by
      have ho := owns_setB (i := 4) HO10.out (Nat.lt_succ_self W4.heap.size) (.slice (some ⟨g3, 0, none⟩) ((Pl.grammar m).rules.length + 1) cap3)
      refine rlV_more (x := Pl.zRul) (v := .slice (some ⟨w7.heap.size, 0, none⟩) 1 1) (na := some ⟨w7.heap.size, 0, none⟩) (nc := 1) HNS.out.1 rfl ho (fun i h h' => ?_) rfl ?_
      · obtain ⟨na, nc, e, hx⟩ := HNS.out.2.1 i h h'
        exact ⟨na, nc, e, hx.below hlw⟩
      · intro i hi
        have hi1 : i < 1 := hi
        obtain rfl : i = 0 := by omega
        refine ⟨_, _, rfl, ?_⟩
        rw [cell_of_row _ _ _ _ _ _ (row_setB (i := 4) HS9.out (by have := hs7.out; omega) _)]
        rfl
    have hgv : GrV (w8.setCell ⟨W4.heap.size, 4, none⟩ (.slice (some ⟨g3, 0, none⟩) ((Pl.grammar m).rules.length + 1) cap3)) (.agg #[.slice gta (Pl.grammar m).toks.length gtc, .slice gsa (Pl.grammar m).skips.length gsc, .slice gla (Pl.grammar m).levs.length glc, .string (Pl.grammar m).start, .slice (some ⟨g3, 0, none⟩) ((Pl.grammar m).rules.length + 1) cap3]) (Pl.loose m) :=
      ⟨gta, gtc, gsa, gsc, gla, glc, _, cap3, by simp [Pl.loose], HG.out.1.below hlw, HG.out.2.1.below hlw, HG.out.2.2.1.below hlw, hrl⟩
    have HOF := of_yes hgv HQ.out (loose_sz m)
    have HPY := Lib.hid (HP4.out.below hlw)
    have HTY := Lib.hid (HT4.out.below hlw)
    have HBY := Lib.hid (HB4.out.trans (hlw.mono HB4.out.size))
    generalize w8.setCell ⟨W4.heap.size, 4, none⟩ (.slice (some ⟨g3, 0, none⟩) ((Pl.grammar m).rules.length + 1) cap3) = Y at HOF HPY HTY HBY ⊢
    clear hlw hrl hgv p0 p1 p2 p3 p4 f4 c4 HG9 HK9 HS9 HO10 HST HGH8 HK8 HNW HO9 hs7 hs9 HB7 HO7 HK7 HGH7 HN0 HN5 hs0 HGH1 HK1 HONE HNS HGL HRL4 HG HP4 HT4 HB4 hgr60
    refine HOF.mono ?_
    rintro e Y1 ⟨qv, rfl, hqv, k⟩
    obtain ⟨qta, qtc, qva, qvc, qra, qrc, qla, qlc, qaa, qac, qca, qcc, rfl, hqa⟩ := hqv
    have AL := (Below.refl Y1.heap.size Y1).alloc (Nat.le_refl _) (.cells #[.slice qta q.terms.length qtc, .slice qva q.vars.length qvc, .slice qra q.rules.length qrc, .slice qla q.levels.length qlc, .slice qaa q.assocs.length qac, .slice qca q.acts.length qcc] 32)
    have HQ0 := PB.new (tc := qtc) (vc := qvc) (rc := qrc) (lc := qlc) (ac := qac) (cc := qcc) hqa
    unfold pnC at HQ0
    have HQ1 := Lib.hid HQ0
    have k1 := k.trans (AL.mono k.size)
    have HP1 := Lib.hid (HPY.out.below k1)
    have HT1 := Lib.hid (HTY.out.below k1)
    have HB1 := Lib.hid (HBY.out.trans (k1.mono HBY.out.size))
    have hqz : Hid (Q.cnt q ≤ 62) := HCQ
    have hc1 := HOQ.out.nb
    have hc2 := HOQ.out.m
    have HCK := check_any (w := Y1.alloc (.cells #[.slice qta q.terms.length qtc, .slice qva q.vars.length qvc, .slice qra q.rules.length qrc, .slice qla q.levels.length qlc, .slice qaa q.assocs.length qac, .slice qca q.acts.length qcc] 32)) (v := .agg #[.slice ta p.terms.length tc, .slice va p.vars.length vc, .slice ra p.rules.length rc, .slice la p.levels.length lc, .slice aa p.assocs.length ac, .slice ca p.acts.length cc]) ⟨ta, tc, va, vc, ra, rc, la, lc, aa, ac, ca, cc, rfl, HP1.out.a⟩ HO.out (by have := HCN.out; omega) HT1.out
    clear HOF hqa k k1 AL HQ0 HPY HTY HBY
    have d0 := HP1.out.c0
    have d1 := HP1.out.c1
    have d2 := HP1.out.c2
    have d3 := HP1.out.c3
    have d4 := HP1.out.c4
    have d5 := HP1.out.c5
    go_wp2_with fail
    generalize Y1.alloc (.cells #[.slice qta q.terms.length qtc, .slice qva q.vars.length qvc, .slice qra q.rules.length qrc, .slice qla q.levels.length qlc, .slice qaa q.assocs.length qac, .slice qca q.acts.length qcc] 32) = Y2 at HQ1 HP1 HT1 HB1 HCK d0 d1 d2 d3 d4 d5 ⊢
    generalize Y1.heap.size = qb at HQ1 ⊢
    refine HCK.mono ?_
    rintro e Y3 ⟨rfl, k⟩
    have hck := HL.out.check HO.out HOQ.out ht2
    obtain ⟨cp, hcp⟩ : ∃ cp, cp = Q.check p := ⟨_, rfl⟩
    obtain ⟨cq, hcq⟩ : ∃ cq, cq = Q.check q := ⟨_, rfl⟩
    rw [← hcp, ← hcq] at hck
    rw [← hcp]
    have HCQ2 := Lib.hid hcq
    have HCK2 := Lib.hid hck
    obtain ⟨X, F⟩ := cp
    have HP3 := Lib.hid (HP1.out.below k)
    have HQ3 := Lib.hid (HQ1.out.below k)
    have HT3 := Lib.hid (HT1.out.below k)
    have HB3 := Lib.hid (HB1.out.trans (k.mono HB1.out.size))
    clear hck hcp hcq k HCK HP1 HQ1 HT1 HB1 d0 d1 d2 d3 d4 d5
    have HCK := check_any (w := Y3) (v := .agg #[.slice qta q.terms.length qtc, .slice qva q.vars.length qvc, .slice qra q.rules.length qrc, .slice qla q.levels.length qlc, .slice qaa q.assocs.length qac, .slice qca q.acts.length qcc]) ⟨qta, qtc, qva, qvc, qra, qrc, qla, qlc, qaa, qac, qca, qcc, rfl, HQ3.out.a⟩ HOQ.out (by have := HCQ.out; omega) HT3.out
    rw [← HCQ2.out] at HCK
    obtain ⟨Xq, Fq⟩ := cq
    have d0 := HQ3.out.c0
    have d1 := HQ3.out.c1
    have d2 := HQ3.out.c2
    have d3 := HQ3.out.c3
    have d4 := HQ3.out.c4
    have d5 := HQ3.out.c5
    go_wp2_with fail
    refine HCK.mono ?_
    rintro e Y4 ⟨rfl, k⟩
    have HP4 := Lib.hid (HP3.out.below k)
    have HQ4 := Lib.hid (HQ3.out.below k)
    have HB4 := Lib.hid (HB3.out.trans (k.mono HB3.out.size))
    clear HCK k HP3 HQ3 HT3 HB3 d0 d1 d2 d3 d4 d5
    have e1 := HQ4.out.c0
    have e2 := HQ4.out.c1
    have HSH := shortest_any (w := Y4) (v := .agg #[.slice ta p.terms.length tc, .slice va p.vars.length vc, .slice ra p.rules.length rc, .slice la p.levels.length lc, .slice aa p.assocs.length ac, .slice ca p.acts.length cc]) ⟨ta, tc, va, vc, ra, rc, la, lc, aa, ac, ca, cc, rfl, HP4.out.a⟩ HO.out
    have d0 := HP4.out.c0
    have d1 := HP4.out.c1
    have d2 := HP4.out.c2
    have d3 := HP4.out.c3
    have d4 := HP4.out.c4
    have d5 := HP4.out.c5
    go_wp2_with fail
    refine HSH.mono ?_
    rintro e Y5 ⟨ga, rfl, hA, -, k⟩
    have HA5 := Lib.hid hA
    have HQ5 := Lib.hid (HQ4.out.below k)
    have HB5 := Lib.hid (HB4.out.trans (k.mono HB4.out.size))
    clear HSH hA k HP4 HQ4 HB4 d0 d1 d2 d3 d4 d5 e1 e2
    have HSH := shortest_any (w := Y5) (v := .agg #[.slice qta q.terms.length qtc, .slice qva q.vars.length qvc, .slice qra q.rules.length qrc, .slice qla q.levels.length qlc, .slice qaa q.assocs.length qac, .slice qca q.acts.length qcc]) ⟨qta, qtc, qva, qvc, qra, qrc, qla, qlc, qaa, qac, qca, qcc, rfl, HQ5.out.a⟩ HOQ.out
    have d0 := HQ5.out.c0
    have d1 := HQ5.out.c1
    have d2 := HQ5.out.c2
    have d3 := HQ5.out.c3
    have d4 := HQ5.out.c4
    have d5 := HQ5.out.c5
    go_wp2_with fail
    refine HSH.mono ?_
    rintro e Y6 ⟨gb, rfl, hA, -, k⟩
    have HB6 := Lib.hid hA
    have HA6 := Lib.hid (HA5.out.below k)
    have HE6 := Lib.hid (HB5.out.trans (k.mono HB5.out.size))
    clear HSH hA k HA5 HQ5 HB5 d0 d1 d2 d3 d4 d5
    obtain ⟨N, hN⟩ : ∃ N, N = p.terms.length + p.vars.length := ⟨_, rfl⟩
    obtain ⟨M, hM⟩ : ∃ M, M = Q.cnt p := ⟨_, rfl⟩
    obtain ⟨M2, hM2⟩ : ∃ M2, M2 = Q.cnt q := ⟨_, rfl⟩
    obtain ⟨f, hf⟩ : ∃ f, f = (Q.lens p).long := ⟨_, rfl⟩
    obtain ⟨f2, hf2⟩ : ∃ f2, f2 = (Q.lens q).long := ⟨_, rfl⟩
    have HLT : Hid (∀ i, i < N → f2 i = f i) := Lib.hid (fun i hi => by rw [hf, hf2]; exact HL.out.long_lt HO.out HOQ.out (by omega))
    have HLE : Hid (f2 (N + 1) = f N) := Lib.hid (by rw [hf, hf2, hN]; exact HL.out.long_end HO.out HOQ.out)
    have HLZ : Hid (f2 N = 1) := Lib.hid (by rw [hf2, hN]; exact HL.out.long_z HO.out HOQ.out ht2)
    have hMN : M = N + 1 := by rw [hM, hN]; rfl
    have hqt : q.terms.length = p.terms.length := by rw [HL.out.terms]
    have hqv := HL.out.vars
    have hM2N : M2 = N + 2 := by rw [hM2, hN]; unfold Q.cnt; omega
    have hN62 : N ≤ 62 := by have := HCN.out; omega
    have hz1 : (q.terms.length : Int) + (q.vars.length : Int) - 1 = (N : Nat) := by omega
    have hz2 : (M : Int) - 1 = (N : Nat) := by omega
    obtain ⟨K, hK⟩ : ∃ K, K = N + 1 := ⟨_, rfl⟩
    have hK63 : K ≤ 63 := by omega
    have hz3 : (M2 : Int) - 1 = (K : Nat) := by omega
    rw [← hM, ← hf] at HA6
    rw [← hM2, ← hf2] at HB6
    rw [← hM, ← hM2]
    have HHK := Lib.hid (And.intro hK (And.intro hMN (And.intro hM2N hN)))
    have a1 := HA6.out.cell (show N < M by omega)
    have b1 := HB6.out.cell (show N < M2 by omega)
    have b2 := HB6.out.cell (show K < M2 by omega)
    have hfe : f2 K = f N := by rw [hK]; exact HLE.out
    rw [HLZ.out] at b1
    rw [hfe] at b2
    have t1 : ((M2 : Int) == (M : Int) + 1) = true := by simp; omega
    have t2 : ((M2 : Int) != (M : Int) + 1) = false := by simp; omega
    have t3 : decide ((M2 : Int) = (M : Int) + 1) = true := by simp; omega
    have t4 : decide ((M : Int) < 1) = false := by simp; omega
    have t5 : decide (M < 1) = false := by simp; omega
    have s1 := fun w => arr_slice ga N M M (by omega) w
    have s2 := fun w => arr_slice gb N M2 M2 (by omega) w
    have hla : ((List.range N).map f).length = N := by simp
    have hlb : ((List.range N).map f2).length = N := by simp
    have hic : ∀ z : Wd Y6.heap.size Y6, Calls Tryd.prog 25 #[.slice (some ⟨ga, 0, none⟩) N M, .slice (some ⟨gb, 0, none⟩) N M2] z.w fun e w' => e = .returned (.bool true) ∧ Below z.w.heap.size z.w w' := fun z => by
      have hh := ints_any (some ⟨ga, 0, none⟩) (some ⟨gb, 0, none⟩) ((List.range N).map f) ((List.range N).map f2) M M2 z.w (((HA6.out.take (show N ≤ M by omega)).ints).below z.ok) (((HB6.out.take (show N ≤ M2 by omega)).ints).below z.ok) (by rw [hla]; unfold maxLen; omega) (by rw [hlb]; unfold maxLen; omega)
      rw [hla, hlb] at hh
      have he : eqI ((List.range N).map f) ((List.range N).map f2) = true := by
        unfold eqI
        rw [decide_eq_true]
        exact List.map_congr_left fun i hi => (HLT.out i (List.mem_range.1 hi)).symm
      rw [he] at hh
      exact hh
    have z1 := fun z : Wd Y6.heap.size Y6 => (HA6.out.below z.ok).cell (show N < M by omega)
    have z2 := fun z : Wd Y6.heap.size Y6 => (HB6.out.below z.ok).cell (show N < M2 by omega)
    have z3 := fun z : Wd Y6.heap.size Y6 => (HB6.out.below z.ok).cell (show K < M2 by omega)
    rw [HLZ.out] at z2
    rw [hfe] at z3
    have hNM : N < M ∧ N < M2 ∧ K < M2 := by omega
    obtain ⟨n1, n2, n3⟩ := hNM
    clear hfe hla hlb hN hM hM2 hf hf2 hMN hM2N hK hqt hqv a1 b1 b2
    have hck := HCK2.out
    by_cases hF : F = 0
    · subst hF
      simp only [if_true] at hck
      have e3 : Xq = (N : Nat) := by have := congrArg Prod.fst hck; simpa [HHK.out.2.2.2] using this
      have e4 : Fq = 17 := congrArg Prod.snd hck
      subst e3 e4
      clear hck
      go_wp2_with fail
      clear t1 t2 t3 t4 t5
      refine region_cls Y6.heap.size (by kernel_rfl) (by kernel_rfl) ?_
      repeat (go_big_quiet_step (first | (go_at_call 25; exact calls_cls _ (Nat.le_refl _) (hic _))))
      refine wpQuiet_nil ?_
      intro x
      have HX := Lib.hid (HE6.out.trans (x.ok.mono HE6.out.size))
      generalize x.w = X6 at HX ⊢
      clear x hic z1 z2 z3
      go_wp2_with fail
      go_ret
      exact ⟨rfl, HX.out⟩
    · simp only [if_neg hF] at hck
      obtain ⟨rfl, rfl⟩ := Prod.mk.inj hck
      have f1 : (Fq == 0) = false := by simpa using hF
      have f3 : (Fq != 0) = true := by simpa using hF
      have f4 : decide (Fq = 0) = false := by simpa using hF
      clear hck
      go_wp2_with fail
      clear t1 t2 t3 t4 t5
      refine region_cls Y6.heap.size (by kernel_rfl) (by kernel_rfl) ?_
      repeat (go_big_quiet_step (first | (go_at_call 25; exact calls_cls _ (Nat.le_refl _) (hic _))))
      refine wpQuiet_nil ?_
      intro x
      have HX := Lib.hid (HE6.out.trans (x.ok.mono HE6.out.size))
      generalize x.w = X6 at HX ⊢
      clear x hic z1 z2 z3
      go_wp2_with fail
      go_ret
      exact ⟨rfl, HX.out⟩
end Go.Proofs.YtjbggogbnckllaaDoor
