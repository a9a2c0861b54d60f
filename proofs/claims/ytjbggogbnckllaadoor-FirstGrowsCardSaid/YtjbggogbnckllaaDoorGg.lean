/-
  The walk of the law FirstGrows.
-/
import Derived.Test.YtjbggogbnckllaaDoorAx
import Derived.Test.YtjbggogbnckllaaDoorAy
import Derived.Test.YtjbggogbnckllaaDoorMz
namespace Go.Proofs.YtjbggogbnckllaaDoor
open Go.RowKit
set_option linter.unusedVariables false
set_option linter.unusedSimpArgs false
set_option maxRecDepth 100000 in
set_option maxHeartbeats 16000000 in
theorem grows10_law {w:World} {v:Value} {m:Pl.Sm} {lf:Nat} {rb:List Nat} {rba:Option Addr} {rbc:Nat} (h:SmV w v m) (hz:SmSz m) (hT:Tab w) (hlf:lf < 256) (hrb:Byts w rba rb) (hrl:rb.length≤maxLen) :
  Calls Tryd.prog 5 #[v,.int .u8 (lf:Nat),.slice rba rb.length rbc] w fun e w'=>e=.returned (.bool true)∧Below w.heap.size w w':=by
 obtain ⟨sla,sra,spa,saa,sva,slc,src,spc,sac,svc,rfl,h⟩:=h
 have HS:=SB.new (lc:=slc) (rc:=src) (pc:=spc) (ac:=sac) (vc:=svc) h
 have k:=(Below.refl w.heap.size w).alloc (Nat.le_refl _) (.cells (smC m sla sra spa saa sva slc src spc sac svc) 25)
 have HT0:=Lib.hid (hT.below k)
 have HB0:=Lib.hid k
 unfold smC at HS HB0 HT0 ⊢
 have HS0:=Lib.hid HS
 have HRB:=Lib.hid hrb
 unfold maxLen at hrl
 clear hrb
 clear HS k h hT
 go_enter Tryd.func5,Tryd.ntmps5
 go_wp2_with fail
 generalize w.alloc (.cells #[.int .u8 (m.tokens:Nat),.int .u8 (m.vars:Nat),.slice sla m.lefts.length slc,.slice sra m.rights.length src,.slice spa m.precs.length spc,.slice saa m.assocs.length sac,.slice sva m.levels.length svc] 25)=W at HS0 HB0 HT0  ⊢
 refine (awake10_any W HT0.out).mono ?_
 rintro e W1 ⟨rfl,k⟩
 have HT1:=Lib.hid (HT0.out.below k)
 have HB1:=Lib.hid (HB0.out.trans (k.mono HB0.out.size))
 have HS1:=Lib.hid (HS0.out.below k)
 have HFW:=few_any 18 8 (w:=W1) (v:=.agg #[.int .u8 (m.tokens:Nat),.int .u8 (m.vars:Nat),.slice sla m.lefts.length slc,.slice sra m.rights.length src,.slice spa m.precs.length spc,.slice saa m.assocs.length sac,.slice sva m.levels.length svc]) ⟨sla,sra,spa,saa,sva,slc,src,spc,sac,svc,rfl,HS1.out.a⟩ hz (by omega) (by omega)
 have c0:=HS1.out.c0
 have c1:=HS1.out.c1
 have c2:=HS1.out.c2
 have c3:=HS1.out.c3
 have c4:=HS1.out.c4
 have c5:=HS1.out.c5
 have c6:=HS1.out.c6
 clear HT0 HB0 HS0 k
 go_wp2_with fail
 refine HFW.mono ?_
 rintro e W2 ⟨rfl,k⟩
 have HT2:=Lib.hid (HT1.out.below k)
 have HB2:=Lib.hid (HB1.out.trans (k.mono HB1.out.size))
 have HS2:=Lib.hid (HS1.out.below k)
 clear HFW k HT1 HB1 HS1 c0 c1 c2 c3 c4 c5 c6
 cases hf:Pl.few m 18 8
 case false =>
  go_wp2_with fail
  go_ret
  exact ⟨rfl,HB2.out⟩
 case true =>
  rcases Nat.lt_or_ge 8 rb.length with h8 | h8
  ·have d8:decide (8 < (rb.length:Int))=true:=by simp; omega
   clear hf
   go_wp2_with fail
   go_ret
   exact ⟨rfl,HB2.out⟩
  have d8:decide (8 < (rb.length:Int))=false:=by simp; omega
  have HPN:=plan_any (w:=W2) (v:=.agg #[.int .u8 (m.tokens:Nat),.int .u8 (m.vars:Nat),.slice sla m.lefts.length slc,.slice sra m.rights.length src,.slice spa m.precs.length spc,.slice saa m.assocs.length sac,.slice sva m.levels.length svc]) ⟨sla,sra,spa,saa,sva,slc,src,spc,sac,svc,rfl,HS2.out.a⟩ hz (Pl.few_more hf)
  have hplan:=Q.plan_ok ((Pl.few_more hf))
  obtain ⟨p,hp⟩:∃ p,p=Pl.plan m:=⟨_,rfl⟩
  rw [← hp] at HPN hplan
  have HPL:=Lib.hid hp
  have HO:=Lib.hid hplan.1
  have HCN:=Lib.hid hplan.2.1
  have HRU:=Lib.hid hplan.2.2.1
  have HRL:=Lib.hid hplan.2.2.2
  have HFEW:=Lib.hid hf
  have c0:=HS2.out.c0
  have c1:=HS2.out.c1
  have c2:=HS2.out.c2
  have c3:=HS2.out.c3
  have c4:=HS2.out.c4
  have c5:=HS2.out.c5
  have c6:=HS2.out.c6
  clear hplan hp hf
  go_wp2_with fail
  refine HPN.mono ?_
  rintro e W3 ⟨pv,rfl,hpv,k⟩
  obtain ⟨ta,tc,va,vc,ra,rc,la,lc,aa,ac,ca,cc,rfl,hpa⟩:=hpv
  have AL:=(Below.refl W3.heap.size W3).alloc (Nat.le_refl _) (.cells #[.slice ta p.terms.length tc,.slice va p.vars.length vc,.slice ra p.rules.length rc,.slice la p.levels.length lc,.slice aa p.assocs.length ac,.slice ca p.acts.length cc] 32)
  have HP0:=PB.new (tc:=tc) (vc:=vc) (rc:=rc) (lc:=lc) (ac:=ac) (cc:=cc) hpa
  unfold pnC at HP0
  have HP:=Lib.hid HP0
  have hB3:=HB2.out.trans (k.mono HB2.out.size)
  have HB:=Lib.hid (hB3.trans (AL.mono hB3.size))
  have HT:=Lib.hid ((HT2.out.below k).below AL)
  have HS:=Lib.hid ((HS2.out.below k).below AL)
  clear HPN k AL HP0 hpa hB3 HT2 HB2 HS2 c0 c1 c2 c3 c4 c5 c6
  have hpm:=Q.plan_more (Pl.few_more HFEW.out)
  rw [← HPL.out] at hpm
  obtain ⟨hv1,hll,hr1,hal⟩:=hpm
  have HLL:=Lib.hid (And.intro hll hal)
  clear hll hal d8
  have hn1:=HO.out.n
  have hnb:=HO.out.nb
  have hmb:=HO.out.m
  have hnr:=HO.out.r
  have hr41:=HRU.out
  have d0:=HP.out.c0
  have d1:=HP.out.c1
  have d2:=HP.out.c2
  have d3:=HP.out.c3
  have d4:=HP.out.c4
  have d5:=HP.out.c5
  obtain ⟨V,hVd⟩:∃ V,V=W3.alloc (.cells #[.slice ta p.terms.length tc,.slice va p.vars.length vc,.slice ra p.rules.length rc,.slice la p.levels.length lc,.slice aa p.assocs.length ac,.slice ca p.acts.length cc] 32):=⟨_,rfl⟩
  have k2:=(Below.refl V.heap.size V).alloc (Nat.le_refl _) (.cells #[.slice ta p.terms.length tc,.slice va p.vars.length vc,.slice ra p.rules.length rc,.slice la p.levels.length lc,.slice aa p.assocs.length ac,.slice ca p.acts.length cc] 32)
  have hVs:V.heap.size=W3.heap.size+1:=by rw [hVd]; simp
  have HP2:=HP.out
  have HB3:=HB.out
  have HT3:=HT.out
  rw [← hVd] at HP2 HB3 HT3
  have HQ2:=Lib.hid (heap_alloc_new V (.cells #[.slice ta p.terms.length tc,.slice va p.vars.length vc,.slice ra p.rules.length rc,.slice la p.levels.length lc,.slice aa p.assocs.length ac,.slice ca p.acts.length cc] 32))
  have HPV:=Lib.hid HP2
  have HBV:=Lib.hid HB3
  have HTV:=Lib.hid HT3
  have HK2:=Lib.hid k2
  have hV2s:=Lib.hid (World.size_alloc V (.cells #[.slice ta p.terms.length tc,.slice va p.vars.length vc,.slice ra p.rules.length rc,.slice la p.levels.length lc,.slice aa p.assocs.length ac,.slice ca p.acts.length cc] 32))
  have e0:=(HP2.below k2).c0
  have e1:=(HP2.below k2).c1
  rw [hVd] at e0 e1
  clear HP2 HB3 HT3 HP HB HT HS k2
  go_wp2_with fail
  clear d0 d1 d2 d3 d4 d5 e0 e1
  rw [← hVd,← hVs]
  clear hVs hVd
  generalize V.alloc (.cells #[.slice ta p.terms.length tc,.slice va p.vars.length vc,.slice ra p.rules.length rc,.slice la p.levels.length lc,.slice aa p.assocs.length ac,.slice ca p.acts.length cc] 32)=V2 at HQ2 HK2 hV2s ⊢
  generalize W3.heap.size=pb at HPV ⊢
  obtain ⟨lm,hlm⟩:∃ lm,lm=lf % p.vars.length:=⟨_,rfl⟩
  have hq1:(lf:Int) % (p.vars.length:Int)=(lm:Nat):=by rw [hlm]; push_cast; rfl
  have hlmv:lm < p.vars.length:=by rw [hlm]; exact Nat.mod_lt _ (by omega)
  have y0:=fun z:Wd V2.heap.size V2=>((HPV.out.below HK2.out).below z.ok).c0
  have y1:=fun z:Wd V2.heap.size V2=>((HPV.out.below HK2.out).below z.ok).c1
  clear hlm
  refine region_ge [0,1,2,3,4,5,6,7,8,9,10] [11,12] 1 170 V2.heap.size ?_ (fun c a d v w h=>by cases d<;>exact h) (Nat.le_refl _) (by kernel_rfl) (by kernel_rfl) (by rfl) ?_ ?_
  rotate_left
  ·intro z
   simp only [pickL,List.getElem?_cons_zero,List.getElem?_cons_succ]
   repeat (go_big_quiet_step (fail))
   refine wpQuiet_nil ?_
   exact rfl
  simp only [pickL,List.getElem?_cons_zero,List.getElem?_cons_succ]
  rw [hq1]
  have hw0:Below V2.heap.size V2 V2.drew:=(Below.refl _ _).drew
  have hw1:=hw0.alloc (Nat.le_refl _) (.cells #[.int .i64 0,.slice none 0 0,.int .i64 0] 46)
  refine listE_alloc_row (by rfl) 46 (by rfl) #[.int .i64 0,.slice none 0 0,.int .i64 0] prod_zero ⟨⟨⟨_,hw1⟩,rfl⟩,?_⟩
  change wpList _ _ _ _ _ _
  have hr0:=heap_alloc_new V2.drew (.cells #[.int .i64 0,.slice none 0 0,.int .i64 0] 46)
  refine list_store_row (by rfl) 46 _ _ (by rfl) V2.drew.heap.size (by rfl) #[.int .i64 ((p.terms.length:Int)+(lm:Int)),.slice none 0 0,.int .i64 0] (by show Value.agg _=_; congr 4<;>(try rfl)<;>exact IntKind.wrap_id) #[.int .i64 0,.slice none 0 0,.int .i64 0] 46 hr0 rfl prod_size (by simp [Value.oneCell']) ?_
  have hx0:=setRow_heap _ _ _ #[.int .i64 ((p.terms.length:Int)+(lm:Int)),.slice none 0 0,.int .i64 0] _ _ hr0
  have hds:V2.drew.heap.size=V2.heap.size:=rfl
  have hvs:=hV2s.out
  have hlow:=Lib.hid (((HK2.out.trans (hw1.mono (by omega)))).trans (below_setRow (Below.refl V.heap.size _) (by rw [hds]; omega) #[.int .i64 ((p.terms.length:Int)+(lm:Int)),.slice none 0 0,.int .i64 0] (g:=V2.drew.heap.size)))
  have hqx:((V2.drew.alloc (.cells #[.int .i64 0,.slice none 0 0,.int .i64 0] 46)).setRow V2.drew.heap.size #[.int .i64 ((p.terms.length:Int)+(lm:Int)),.slice none 0 0,.int .i64 0]).heap[V.heap.size]?=some (.cells #[.slice ta p.terms.length tc,.slice va p.vars.length vc,.slice ra p.rules.length rc,.slice la p.levels.length lc,.slice aa p.assocs.length ac,.slice ca p.acts.length cc] 32 (0,0)) :=
   (setRow_other _ _ _ _ (by rw [hds]; omega)).trans ((hw1.block _ (by omega)).trans HQ2.out)
  have HX0:Hid (GX V ((V2.drew.alloc (.cells #[.int .i64 0,.slice none 0 0,.int .i64 0] 46)).setRow V2.drew.heap.size #[.int .i64 ((p.terms.length:Int)+(lm:Int)),.slice none 0 0,.int .i64 0]) V2.drew.heap.size #[.slice ta p.terms.length tc,.slice va p.vars.length vc,.slice ra p.rules.length rc,.slice la p.levels.length lc,.slice aa p.assocs.length ac,.slice ca p.acts.length cc] #[.int .i64 ((p.terms.length:Int)+(lm:Int)),.slice none 0 0,.int .i64 0]):=Lib.hid ⟨hlow.out,hqx,hx0,by rw [hds]; omega⟩
  clear hx0 hqx hlow hw0 hw1 hr0 hds hvs HQ2 hV2s HK2 y0 y1
  generalize (V2.drew.alloc (.cells #[.int .i64 0,.slice none 0 0,.int .i64 0] 46)).setRow V2.drew.heap.size #[.int .i64 ((p.terms.length:Int)+(lm:Int)),.slice none 0 0,.int .i64 0]=X0 at HX0 ⊢
  generalize V2.drew.heap.size=xb at HX0 ⊢
  simp only [Act.put,List.setIfInBounds_toArray,List.set_cons_succ,List.set_cons_zero]
  go_wp2_with fail
  have HV1:=Lib.hid (And.intro hlmv hv1)
  go_loopg [13] rb.length (fun gk iv wr=>∃ (i:Nat) (rr:List Int) (lvl:Nat) (fv:Value),iv=.int .i64 i∧i≤rb.length∧Hid (gk+i=rb.length)∧Hid (GX V wr xb #[.slice ta p.terms.length tc,.slice va p.vars.length vc,.slice ra p.rules.length rc,.slice la p.levels.length lc,.slice aa p.assocs.length ac,.slice ca p.acts.length cc] #[.int .i64 ((p.terms.length:Int)+(lm:Int)),fv,.int .i64 (lvl:Nat)])∧Hid (wr.ownsRow (xb+1) 3 1 fv rr.length (intV rr))∧Hid (rr.length=i)∧Hid (∀ y ∈ rr,0≤y∧y < ((p.terms.length+p.vars.length:Nat):Int)))
  case atStart=>exact ⟨0,[],0,.slice none 0 0,rfl,by omega,Lib.hid (by omega),HX0,Lib.hid (World.ownsRow_nil _ _ _ _),Lib.hid rfl,Lib.hid (fun y hy=>by cases hy)⟩
  case round =>
   clear HX0
   obtain ⟨i,rr,lvl,fv,rfl,hi,HK,HG,HF,HRR,HYY⟩:=hrel
   by_cases hlt:i < rb.length
   ·have hby:=(HRB.out.below HBV.out).below HG.out.low
    obtain ⟨bb,bo,hba,q0,q1⟩:=hby i hlt
    generalize rb[i]=y8 at q0 q1
    obtain ⟨s,hs⟩:∃ s,s=1+y8 % (p.terms.length+p.vars.length - 1):=⟨_,rfl⟩
    have hml:=Nat.mod_lt y8 (show p.terms.length+p.vars.length - 1 > 0 by omega)
    have hs1:1≤s∧s < p.terms.length+p.vars.length:=by omega
    have hq2:1+(y8:Int) % ((p.terms.length:Int)+(p.vars.length:Int) - 1)=(s:Nat):=by
     rw [hs]
     have e:(p.terms.length:Int)+(p.vars.length:Int) - 1=((p.terms.length+p.vars.length - 1:Nat):Int):=by omega
     rw [e]
     push_cast
     rfl
    have hns:rr.length≤1000:=by have:=HRR.out; omega
    have c1:=HG.out.cx 1
    simp only [List.getElem?_toArray,List.getElem?_cons_succ,List.getElem?_cons_zero] at c1
    have HO3:=Lib.hid (HF.out.alloc (.cells #[.int .i64 (s:Int)] 3))
    have HG3:=Lib.hid (HG.out.belowB ((Below.refl wr.heap.size wr).alloc (Nat.le_refl _) (.cells #[.int .i64 (s:Int)] 3)) HG.out.lt)
    have hxl:=HG.out.lt
    obtain ⟨s0,s2⟩:=hs1
    subst hba
    clear hby hml hs
    rcases Nat.lt_or_ge s p.terms.length with hst | hst
    ·have t1:decide ((s:Int) < (p.terms.length:Int))=true:=by simp; omega
     have hlv:=HPV.out.a.l s (by unfold natI'; rw [List.length_map,HLL.out.1]; exact hst)
     obtain ⟨lb,lo,hla,l0⟩:=hlv
     subst hla
     have hsl:s < p.levels.length:=by rw [HLL.out.1]; exact hst
     have el:(natI' p.levels)[s]'(by unfold natI'; rw [List.length_map]; exact hsl)=((p.levels[s]:Nat):Int):=by unfold natI'; rw [List.getElem_map]
     rw [el] at l0
     generalize p.levels[s]=lv2 at l0
     have bl:=World.block_lt_of_cell? V _ l0
     clear el
     go_wp2_with (refine list_append_one rfl _ _ _ rfl 3 (xb+1) 1 8 elt_int _ rr.length (intV rr) rfl HO3.out ⟨wr.heap.size,0,none⟩ 1 [.int .i64 (s:Int)] rfl rfl (World.news_of_block (cs:=#[.int .i64 (s:Int)]) (t:=3) (fr:=(0,0)) (heap_alloc_new wr _)) (by simp [Value.oneCell']) (by unfold maxLen; omega) (by omega) (by simp; omega) ?_; intro bg bcap wg hog hgg hb1 hb2 hb3; have HG4:=Lib.hid (HG3.out.belowB (below_own HO3.out (by simp; omega) hgg) (Nat.lt_succ_self xb)); have HO4:=Lib.hid hog; have f1:=HG4.out.fx 1; have c2:wg.cell? ⟨xb,1,none⟩=some fv:=HG4.out.cx 1; have p0:∀ v,(wg.setCell ⟨xb,1,none⟩ v).cell? ⟨pb,0,none⟩=some (.slice ta p.terms.length tc):=(fun v=>(HPV.out.below (HG4.out.setX 1 v).low).c0); have p3:∀ v,(wg.setCell ⟨xb,1,none⟩ v).cell? ⟨pb,3,none⟩=some (.slice (some ⟨lb,lo,none⟩) p.levels.length lc):=(fun v=>(HPV.out.below (HG4.out.setX 1 v).low).c3); have p4:∀ v,(wg.setCell ⟨xb,1,none⟩ v).cell? ⟨lb,lo+s,none⟩=some (.int .i64 (lv2:Nat)):=(fun v=>((bcell (HG4.out.setX 1 v).low).1 _ _ bl).trans l0); have f2:∀ v,(wg.setCell ⟨xb,1,none⟩ v).frozen? ⟨xb,2,none⟩=false:=(fun v=>(HG4.out.setX 1 v).fx 2); have c3:∀ v,(wg.setCell ⟨xb,1,none⟩ v).cell? ⟨xb,2,none⟩=some (.int .i64 (lvl:Nat)):=(fun v=>(HG4.out.setX 1 v).cx 2); clear hog hb3 hgg c1 q0)
     have HG5:=Lib.hid ((HG4.out.setX 1 (.slice (some ⟨bg,0,none⟩) (rr.length+1) bcap)).setX 2 (.int .i64 (lv2:Nat)))
     have HO5:=Lib.hid (owns_setB (i:=2) (owns_setB (i:=1) HO4.out (Nat.lt_succ_self xb) (.slice (some ⟨bg,0,none⟩) (rr.length+1) bcap)) (Nat.lt_succ_self xb) (.int .i64 (lv2:Nat)))
     clear p0 p3 p4 f1 f2 c2 c3 HG4 HO4
     go_roundg (rb.length - (i+1))
     case measure=>have:=HK.out; omega
     case rel =>
      refine ⟨i+1,rr++[(s:Int)],lv2,.slice (some ⟨bg,0,none⟩) (rr.length+1) bcap,by go_num,by omega,Lib.hid (by omega),HG5,Lib.hid (by rw [List.length_append,intV_snoc]; exact HO5.out),Lib.hid (by rw [List.length_append,HRR.out]; rfl),Lib.hid (fun z hz=>?_)⟩
      rcases List.mem_append.1 hz with hz | hz
      ·exact HYY.out z hz
      ·obtain rfl:=List.mem_singleton.1 hz
       omega
    ·have t1:decide ((s:Int) < (p.terms.length:Int))=false:=by simp; omega
     go_wp2_with (refine list_append_one rfl _ _ _ rfl 3 (xb+1) 1 8 elt_int _ rr.length (intV rr) rfl HO3.out ⟨wr.heap.size,0,none⟩ 1 [.int .i64 (s:Int)] rfl rfl (World.news_of_block (cs:=#[.int .i64 (s:Int)]) (t:=3) (fr:=(0,0)) (heap_alloc_new wr _)) (by simp [Value.oneCell']) (by unfold maxLen; omega) (by omega) (by simp; omega) ?_; intro bg bcap wg hog hgg hb1 hb2 hb3; have HG4:=Lib.hid (HG3.out.belowB (below_own HO3.out (by simp; omega) hgg) (Nat.lt_succ_self xb)); have HO4:=Lib.hid hog; have f1:=HG4.out.fx 1; have c2:wg.cell? ⟨xb,1,none⟩=some fv:=HG4.out.cx 1; have p0:∀ v,(wg.setCell ⟨xb,1,none⟩ v).cell? ⟨pb,0,none⟩=some (.slice ta p.terms.length tc):=(fun v=>(HPV.out.below (HG4.out.setX 1 v).low).c0); clear hog hb3 hgg c1 q0)
     have HG5:=Lib.hid (HG4.out.setX 1 (.slice (some ⟨bg,0,none⟩) (rr.length+1) bcap))
     have HO5:=Lib.hid (owns_setB (i:=1) HO4.out (Nat.lt_succ_self xb) (.slice (some ⟨bg,0,none⟩) (rr.length+1) bcap))
     clear p0 f1 c2 HG4 HO4
     go_roundg (rb.length - (i+1))
     case measure=>have:=HK.out; omega
     case rel =>
      refine ⟨i+1,rr++[(s:Int)],lvl,.slice (some ⟨bg,0,none⟩) (rr.length+1) bcap,by go_num,by omega,Lib.hid (by omega),HG5,Lib.hid (by rw [List.length_append,intV_snoc]; exact HO5.out),Lib.hid (by rw [List.length_append,HRR.out]; rfl),Lib.hid (fun z hz=>?_)⟩
      rcases List.mem_append.1 hz with hz | hz
      ·exact HYY.out z hz
      ·obtain rfl:=List.mem_singleton.1 hz
       omega
   ·obtain rfl:i=rb.length:=by omega
    clear hlt HK
    go_wp2_with fail
    obtain ⟨rb1,ro1,ns,hra,hns,hrc,hrs⟩:=ruV_cells HPV.out.a.r HPV.out.a.k (by omega)
    subst hra
    have hb1:rb1 < V.heap.size:=by
     obtain ⟨e0,_,_⟩:=pdC_at p.rules ns 0 (by omega) (by omega)
     exact World.block_lt_of_cell? V _ (hrc _ _ e0)
    have hone:=pdC_one hns (fun i h h'=>by obtain ⟨na,nc,e,hx,_⟩:=hrs i h h'; exact ⟨na,nc,V,e,hx⟩)
    obtain ⟨xa,xc,rfl,hxi⟩:=own_slice HF.out
    have HXK:Hid (rr.length≤xc):=Lib.hid (rI_cap (l:=rr) HF.out)
    have HXI:=Lib.hid hxi
    have HXB:Hid (∀ a o s,xa=some ⟨a,o,s⟩→xb+1≤a∧a < wr.heap.size):=Lib.hid (fun a o s e=>by subst e; exact owns_lt HF.out a rfl)
    have HNS:=Lib.hid (And.intro hns hrs)
    have HNW:Hid (∀ z:Wd wr.heap.size wr,∀ j u,(pdC p.rules ns)[j]?=some u→z.w.cell? ((⟨rb1,ro1,none⟩:Addr).add j)=some u):=Lib.hid (fun z j u hj=>by
     rw [Addr.add_lit]
     exact ((bcell (HG.out.below z.ok).low).1 _ _ hb1).trans (hrc j u hj))
    have HON:=Lib.hid hone
    have hpl:(pdC p.rules ns).length=p.rules.length*3:=pdC_len _ _ hns
    have z2:=fun z:Wd wr.heap.size wr=>(HPV.out.below (HG.out.below z.ok).low).c2
    have x0:∀ z:Wd wr.heap.size wr,z.w.cell? ⟨xb,0,none⟩=some (.int .i64 ((p.terms.length:Int)+(lm:Int))):=fun z=>(HG.out.below z.ok).cx 0
    have x1:∀ z:Wd wr.heap.size wr,z.w.cell? ⟨xb,1,none⟩=some (.slice xa rr.length xc):=fun z=>(HG.out.below z.ok).cx 1
    have x2:∀ z:Wd wr.heap.size wr,z.w.cell? ⟨xb,2,none⟩=some (.int .i64 (lvl:Nat)):=fun z=>(HG.out.below z.ok).cx 2
    have hvx:=HG.out.ne
    have hxw:=HG.out.lt
    clear hrc hone hxi hns hrs
    refine region_appapp [1,2,4] 0 3 5 6 [7,8] 170 ?A (fun c a d v w h=>by cases d<;>exact h) (by kernel_rfl) (by kernel_rfl) (by rfl) ?hh 29 46 3 40 elt_prod (by omega) (by omega) _ _ _ _ 82 85 87 88 (.tmp 84) (.tmp 86) rfl rfl rfl rfl rfl rfl rfl rfl rfl rfl rfl rfl rfl rfl rfl rfl ?hA (by decide)
     ⟨rb1,ro1,none⟩ p.rules.length rc (pdC p.rules ns) ?hx (by rintro d v B (rfl | rfl)<;>exact eval_put_ne (by decide)) hpl HNW.out HON.out (by omega) (by omega)
     (.agg #[.int .i64 ((p.terms.length:Int)+(lm:Int)),.slice xa rr.length xc,.int .i64 (lvl:Nat)]) #[.int .i64 ((p.terms.length:Int)+(lm:Int)),.slice xa rr.length xc,.int .i64 (lvl:Nat)] rfl rfl ?hy (by rintro d v B (rfl | rfl)<;>exact eval_put_ne (by decide)) (by simp [Value.oneCell']) ?hK
    case hh =>
     intro z
     simp only [pickL,List.getElem?_cons_zero,List.getElem?_cons_succ]
     repeat (go_big_quiet_step (fail))
     refine wpQuiet_nil ?_
     exact rfl
    case hA=>rfl
    case hx=>rfl
    case hy=>rfl
    case hK =>
     intro v0 va1 v1 g1 cap1 w6 hbl hown hge hgl
     have hG6:=HG.out.below hbl
     have hlow6:wr.heap.size≤w6.heap.size:=hbl.size
     have HG6:Hid (GY V w6 xb #[.slice ta p.terms.length tc,.slice va p.vars.length vc,.slice (some ⟨rb1,ro1,none⟩) p.rules.length rc,.slice la p.levels.length lc,.slice aa p.assocs.length ac,.slice ca p.acts.length cc] #[.int .i64 ((p.terms.length:Int)+(lm:Int)),.slice xa rr.length xc,.int .i64 (lvl:Nat)] w6.heap.size wr.heap.size g1 (p.rules.length+1) cap1 _ xa rr):=Lib.hid ⟨hG6,hown,⟨hgl,by omega⟩,HXI.out.below hbl,fun a o s e=>by have:=HXB.out a o s e; omega,by omega⟩
     have c2:w6.cell? ⟨V.heap.size,2,none⟩=some (.slice (some ⟨rb1,ro1,none⟩) p.rules.length rc):=HG6.out.gx.cq 2
     have f2:=HG6.out.gx.fq 2
     have p5:∀ v o,((w6.setCell ⟨V.heap.size,2,none⟩ v).alloc o).cell? ⟨pb,5,none⟩=some (.slice ca p.acts.length cc):=(fun v o=>(HPV.out.below ((HG6.out.gx.setQ 2 v).below ((Below.refl _ _).alloc (Nat.le_refl _) o)).low).c5)
     clear hbl hown hge hgl z2 x0 x1 x2 HNW HON hpl HG HF HXI HXB hG6 hlow6 hvx hxw
     simp only [pickL,List.getElem?_cons_zero,List.getElem?_cons_succ,Act.put,List.setIfInBounds_toArray,List.set_cons_succ,List.set_cons_zero]
     obtain ⟨cb1,co1,hca,-⟩:=HPV.out.a.c 0 (by have:=HLL.out.2; omega)
     subst hca
     have hcb:cb1 < V.heap.size:=by
      obtain ⟨_,_,e,h0⟩:=HPV.out.a.c 0 (by have:=HLL.out.2; omega)
      cases e
      exact World.block_lt_of_cell? V _ h0
     have HCN2:=Lib.hid HLL.out.2
     have hcl2:p.acts.length≤1000∧0 < p.acts.length:=by have:=HLL.out.2; omega
     have HCL:=Lib.hid hcl2
     have HN5:Hid (∀ j u,(strV p.acts)[j]?=some u→((w6.setCell ⟨V.heap.size,2,none⟩ (.slice (some ⟨g1,0,none⟩) (p.rules.length+1) cap1)).alloc (.cells #[] 9)).cell? ((⟨cb1,co1,none⟩:Addr).add j)=some u):=Lib.hid (fun j u hj=>by
      have h0:=strs_news HPV.out.a.c j u hj
      rw [Addr.add_lit] at h0 ⊢
      exact ((bcell ((HG6.out.gx.setQ 2 (.slice (some ⟨g1,0,none⟩) (p.rules.length+1) cap1)).below ((Below.refl _ _).alloc (Nat.le_refl _) _)).low).1 _ _ hcb).trans h0)
     have HN0:Hid (((w6.setCell ⟨V.heap.size,2,none⟩ (.slice (some ⟨g1,0,none⟩) (p.rules.length+1) cap1)).alloc (.cells #[] 9)).ownsRow w6.heap.size 9 1 (.slice (some ⟨w6.heap.size,0,none⟩) 0 0) 0 []):=Lib.hid (by
      have:=own_new (w6.setCell ⟨V.heap.size,2,none⟩ (.slice (some ⟨g1,0,none⟩) (p.rules.length+1) cap1)) w6.heap.size (by simp [World.setCell]) 9 1 0 #[] (by simp) (Nat.zero_le _)
      have e:(w6.setCell ⟨V.heap.size,2,none⟩ (.slice (some ⟨g1,0,none⟩) (p.rules.length+1) cap1)).heap.size=w6.heap.size:=by simp [World.setCell]
      rw [e] at this
      exact this)
     have HG7:=Lib.hid ((HG6.out.setQ 2 (.slice (some ⟨g1,0,none⟩) (p.rules.length+1) cap1)).belowB ((Below.refl _ _).alloc (by simp [World.setCell]) (.cells #[] 9)))
     have hw67:((w6.setCell ⟨V.heap.size,2,none⟩ (.slice (some ⟨g1,0,none⟩) (p.rules.length+1) cap1)).alloc (.cells #[] 9)).heap.size=w6.heap.size+1:=by simp [World.setCell]
     have HS67:=Lib.hid hw67
     clear hcl2 hw67 hcb
     go_wp2_with (first
      | (refine list_append_many rfl _ _ 28 rfl 9 w6.heap.size 1 16 elt_str (.slice (some ⟨w6.heap.size,0,none⟩) 0 0) 0 [] rfl HN0.out ⟨cb1,co1,none⟩ p.acts.length cc (strV p.acts) rfl (by simp [strV]) HN5.out (by intro u hu; unfold strV at hu; obtain ⟨y,_,rfl⟩:=List.mem_map.1 hu; rfl) HCL.out.2 (by have:=HCL.out.1; unfold maxLen; omega) (by have:=HCL.out.1; omega) (by rw [HS67.out]; omega) ?_; intro g2 cap2 w7 hog hgg hb1 hb2; have HG8:=Lib.hid (HG7.out.belowB (below_own HN0.out (by rw [HS67.out]; omega) hgg)); simp only [Nat.zero_add,List.nil_append] at hog; have HO8:=Lib.hid hog; have HO9:=Lib.hid (hog.alloc (.cells #[.string ⟨#[]⟩] 9)); have hs7:w6.heap.size≤w7.heap.size:=(by have:=hgg.size; rw [HS67.out] at this; omega); have HG9:=Lib.hid (HG8.out.belowB ((Below.refl w6.heap.size w7).alloc hs7 (.cells #[.string ⟨#[]⟩] 9))); clear hog hgg hb1 hb2 p5)
      | (refine list_append_one rfl _ _ 28 rfl 9 w6.heap.size 1 16 elt_str (.slice (some ⟨g2,0,none⟩) p.acts.length cap2) p.acts.length (strV p.acts) rfl HO9.out ⟨w7.heap.size,0,none⟩ 1 [.string ⟨#[]⟩] rfl rfl (World.news_of_block (cs:=#[.string ⟨#[]⟩]) (t:=9) (fr:=(0,0)) (heap_alloc_new w7 _)) (by simp [Value.oneCell']) (by have:=HCL.out.1; unfold maxLen; omega) (by have:=HCL.out.1; omega) (by simp; omega) ?_; intro g3 cap3 w8 hog hgg hb1 hb2 hb3; have HG8:=Lib.hid (HG9.out.belowB (below_own HO9.out (by simp; omega) hgg)); have HO8:=Lib.hid hog; have f5:=HG8.out.gx.fq 5; have c5:w8.cell? ⟨V.heap.size,5,none⟩=some (.slice (some ⟨cb1,co1,none⟩) p.acts.length cc):=HG8.out.gx.cq 5; have pj0:∀ v,(w8.setCell ⟨V.heap.size,5,none⟩ v).cell? ⟨pb,0,none⟩=some (.slice ta p.terms.length tc):=(fun v=>(HPV.out.below (HG8.out.gx.setQ 5 v).low).c0); have pj1:∀ v,(w8.setCell ⟨V.heap.size,5,none⟩ v).cell? ⟨pb,1,none⟩=some (.slice va p.vars.length vc):=(fun v=>(HPV.out.below (HG8.out.gx.setQ 5 v).low).c1); have pj2:∀ v,(w8.setCell ⟨V.heap.size,5,none⟩ v).cell? ⟨pb,2,none⟩=some (.slice (some ⟨rb1,ro1,none⟩) p.rules.length rc):=(fun v=>(HPV.out.below (HG8.out.gx.setQ 5 v).low).c2); have pj3:∀ v,(w8.setCell ⟨V.heap.size,5,none⟩ v).cell? ⟨pb,3,none⟩=some (.slice la p.levels.length lc):=(fun v=>(HPV.out.below (HG8.out.gx.setQ 5 v).low).c3); have pj4:∀ v,(w8.setCell ⟨V.heap.size,5,none⟩ v).cell? ⟨pb,4,none⟩=some (.slice aa p.assocs.length ac):=(fun v=>(HPV.out.below (HG8.out.gx.setQ 5 v).low).c4); have pj5:∀ v,(w8.setCell ⟨V.heap.size,5,none⟩ v).cell? ⟨pb,5,none⟩=some (.slice (some ⟨cb1,co1,none⟩) p.acts.length cc):=(fun v=>(HPV.out.below (HG8.out.gx.setQ 5 v).low).c5); clear hog hgg hb1 hb2 hb3))
     clear pj0 pj1 pj2 pj3 pj4 pj5 f5 c5 HO9 HG9 HN0 HN5 HG7 HG6 c2 f2
     have HGZ:=Lib.hid (HG8.out.setQ 5 (.slice (some ⟨g3,0,none⟩) (p.acts.length+1) cap3))
     have HOZ:=Lib.hid (owns_setB (i:=5) HO8.out (show V.heap.size < w6.heap.size by have:=HG8.out.gB; omega) (.slice (some ⟨g3,0,none⟩) (p.acts.length+1) cap3))
     generalize w8.setCell ⟨V.heap.size,5,none⟩ (.slice (some ⟨g3,0,none⟩) (p.acts.length+1) cap3)=Y at HGZ HOZ ⊢
     clear HG8 HO8
     obtain ⟨x,hx⟩:∃ x:Pl.Prod,x=⟨p.terms.length+lm,rr,lvl⟩:=⟨_,rfl⟩
     have HPY:=Lib.hid (HPV.out.below HGZ.out.gx.low)
     have hru:RuV Y (some ⟨g1,0,none⟩) (p.rules++[x])∧RuK Y (some ⟨g1,0,none⟩) (p.rules++[x]):=by
      subst hx
      have hz:((p.terms.length+lm:Nat):Int)=(p.terms.length:Int)+(lm:Int):=by push_cast; rfl
      refine ruV_more (v:=.slice xa rr.length xc) (na:=xa) (nc:=xc) HNS.out.1 rfl (by simp only [hz]; exact HGZ.out.own) (fun i h h'=>?_) rfl HGZ.out.ints HXK.out
      obtain ⟨na,nc,e,hxi,hxk⟩:=HNS.out.2 i h h'
      exact ⟨na,nc,e,hxi.below HGZ.out.gx.low,hxk⟩
     have hac:Strs Y (some ⟨g3,0,none⟩) (p.acts++[Rd.E]):=Strs.of_owns (by rw [strV_snoc]; exact HOZ.out) (by simp)
     have HQV:Hid (PnV Y (.agg #[.slice ta p.terms.length tc,.slice va p.vars.length vc,.slice (some ⟨g1,0,none⟩) (p.rules.length+1) cap1,.slice la p.levels.length lc,.slice aa p.assocs.length ac,.slice (some ⟨g3,0,none⟩) (p.acts.length+1) cap3]) (Q.grow p x)):=Lib.hid ⟨ta,tc,va,vc,_,cap1,la,lc,aa,ac,_,cap3,by simp [Q.grow],⟨HPY.out.a.t,HPY.out.a.v,hru.1,HPY.out.a.l,HPY.out.a.a,hac,hru.2⟩⟩
     have HQC:Hid (Y.heap[V.heap.size]?=some (.cells #[.slice ta p.terms.length tc,.slice va p.vars.length vc,.slice (some ⟨g1,0,none⟩) (p.rules.length+1) cap1,.slice la p.levels.length lc,.slice aa p.assocs.length ac,.slice (some ⟨g3,0,none⟩) (p.acts.length+1) cap3] 32 (0,0))):=Lib.hid HGZ.out.gx.hq
     have HOQ:Hid (Q.OK (Q.grow p x)):=Lib.hid (Q.grow_ok HO.out x HRU.out (by rw [hx]; show p.terms.length≤p.terms.length+lm∧p.terms.length+lm≤_; have:=HV1.out; omega) (by rw [hx]; exact HYY.out) (by rw [hx]; show rr.length≤1000; have:=HRR.out; omega))
     have HXL:Hid (x.left < p.terms.length+p.vars.length∧∀ y ∈ x.right,0≤y∧y < ((p.terms.length+p.vars.length:Nat):Int)):=Lib.hid ⟨by rw [hx]; show p.terms.length+lm < _; have:=HV1.out; omega,by rw [hx]; exact HYY.out⟩
     have HBY:=Lib.hid (HBV.out.trans (HGZ.out.gx.low.mono HBV.out.size))
     have HTY:=Lib.hid (HTV.out.below HGZ.out.gx.low)
     clear hru hac hx HXK HNS HOZ HCL HCN2 HS67 HYY HGZ
     have HFC:=facts_any (w:=Y) (v:=.agg #[.slice ta p.terms.length tc,.slice va p.vars.length vc,.slice (some ⟨rb1,ro1,none⟩) p.rules.length rc,.slice la p.levels.length lc,.slice aa p.assocs.length ac,.slice (some ⟨cb1,co1,none⟩) p.acts.length cc]) ⟨ta,tc,va,vc,_,rc,la,lc,aa,ac,_,cc,rfl,HPY.out.a⟩ HO.out (by have:=HCN.out; omega) HTY.out
     refine HFC.mono ?_
     rintro e Y1 ⟨fv,rfl,hf,k⟩
     obtain ⟨fnb,flb,flc,fmb,fmc,rfl,f1,f2,f3⟩:=hf
     have AL:=(Below.refl Y1.heap.size Y1).alloc (Nat.le_refl _) (.cells #[.slice (some ⟨fnb,0,none⟩) (Fi.nV p) (Fi.nV p),.slice (some ⟨flb,0,none⟩) (Fi.nV p) flc,.slice (some ⟨fmb,0,none⟩) (Fi.nV p) fmc,.int .i64 ((Fi.fs p).2:Nat)] 37)
     have HF0:=FB.new (lc:=flc) (mc:=fmc) f1 f2 f3
     unfold faC at HF0
     have kY:=k.trans (AL.mono k.size)
     have HF1:=Lib.hid HF0
     have HK1:=Lib.hid kY
     have HQC1:=Lib.hid ((kY.block _ (lt_of_block HQC.out)).trans HQC.out)
     have HQV1:=Lib.hid (HQV.out.below kY)
     have HT1:=Lib.hid (HTY.out.below kY)
     have HP1:=Lib.hid (HPY.out.below kY)
     have HFQ:=facts_any HQV1.out HOQ.out (by rw [Q.grow_cnt]; have:=HCN.out; omega) HT1.out
     have q0:(Y1.alloc (.cells #[.slice (some ⟨fnb,0,none⟩) (Fi.nV p) (Fi.nV p),.slice (some ⟨flb,0,none⟩) (Fi.nV p) flc,.slice (some ⟨fmb,0,none⟩) (Fi.nV p) fmc,.int .i64 ((Fi.fs p).2:Nat)] 37)).cell? ⟨V.heap.size,0,none⟩=some (.slice ta p.terms.length tc):=by rw [cell_of_row _ _ _ _ _ _ HQC1.out]; rfl
     have q1:(Y1.alloc (.cells #[.slice (some ⟨fnb,0,none⟩) (Fi.nV p) (Fi.nV p),.slice (some ⟨flb,0,none⟩) (Fi.nV p) flc,.slice (some ⟨fmb,0,none⟩) (Fi.nV p) fmc,.int .i64 ((Fi.fs p).2:Nat)] 37)).cell? ⟨V.heap.size,1,none⟩=some (.slice va p.vars.length vc):=by rw [cell_of_row _ _ _ _ _ _ HQC1.out]; rfl
     have q2:(Y1.alloc (.cells #[.slice (some ⟨fnb,0,none⟩) (Fi.nV p) (Fi.nV p),.slice (some ⟨flb,0,none⟩) (Fi.nV p) flc,.slice (some ⟨fmb,0,none⟩) (Fi.nV p) fmc,.int .i64 ((Fi.fs p).2:Nat)] 37)).cell? ⟨V.heap.size,2,none⟩=some (.slice (some ⟨g1,0,none⟩) (p.rules.length+1) cap1):=by rw [cell_of_row _ _ _ _ _ _ HQC1.out]; rfl
     have q3:(Y1.alloc (.cells #[.slice (some ⟨fnb,0,none⟩) (Fi.nV p) (Fi.nV p),.slice (some ⟨flb,0,none⟩) (Fi.nV p) flc,.slice (some ⟨fmb,0,none⟩) (Fi.nV p) fmc,.int .i64 ((Fi.fs p).2:Nat)] 37)).cell? ⟨V.heap.size,3,none⟩=some (.slice la p.levels.length lc):=by rw [cell_of_row _ _ _ _ _ _ HQC1.out]; rfl
     have q4:(Y1.alloc (.cells #[.slice (some ⟨fnb,0,none⟩) (Fi.nV p) (Fi.nV p),.slice (some ⟨flb,0,none⟩) (Fi.nV p) flc,.slice (some ⟨fmb,0,none⟩) (Fi.nV p) fmc,.int .i64 ((Fi.fs p).2:Nat)] 37)).cell? ⟨V.heap.size,4,none⟩=some (.slice aa p.assocs.length ac):=by rw [cell_of_row _ _ _ _ _ _ HQC1.out]; rfl
     have q5:(Y1.alloc (.cells #[.slice (some ⟨fnb,0,none⟩) (Fi.nV p) (Fi.nV p),.slice (some ⟨flb,0,none⟩) (Fi.nV p) flc,.slice (some ⟨fmb,0,none⟩) (Fi.nV p) fmc,.int .i64 ((Fi.fs p).2:Nat)] 37)).cell? ⟨V.heap.size,5,none⟩=some (.slice (some ⟨g3,0,none⟩) (p.acts.length+1) cap3):=by rw [cell_of_row _ _ _ _ _ _ HQC1.out]; rfl
     clear HFC f1 f2 f3 AL HF0 k kY HQC HQV HTY HPY
     go_wp2_with fail
     generalize Y1.alloc (.cells #[.slice (some ⟨fnb,0,none⟩) (Fi.nV p) (Fi.nV p),.slice (some ⟨flb,0,none⟩) (Fi.nV p) flc,.slice (some ⟨fmb,0,none⟩) (Fi.nV p) fmc,.int .i64 ((Fi.fs p).2:Nat)] 37)=Z1 at HF1 HK1 HQC1 HQV1 HT1 HP1 HFQ q0 q1 q2 q3 q4 q5 ⊢
     generalize Y1.heap.size=fb at HF1 ⊢
     refine HFQ.mono ?_
     rintro e Y2 ⟨fv,rfl,hf,k⟩
     obtain ⟨qnb,qlb,qlc,qmb,qmc,rfl,f1,f2,f3⟩:=hf
     rw [show Fi.nV (Q.grow p x)=Fi.nV p from rfl] at f1 f2 f3 ⊢
     have AL:=(Below.refl Y2.heap.size Y2).alloc (Nat.le_refl _) (.cells #[.slice (some ⟨qnb,0,none⟩) (Fi.nV p) (Fi.nV p),.slice (some ⟨qlb,0,none⟩) (Fi.nV p) qlc,.slice (some ⟨qmb,0,none⟩) (Fi.nV p) qmc,.int .i64 ((Fi.fs (Q.grow p x)).2:Nat)] 37)
     have hrow:=heap_alloc_new Y2 (.cells #[.slice (some ⟨qnb,0,none⟩) (Fi.nV p) (Fi.nV p),.slice (some ⟨qlb,0,none⟩) (Fi.nV p) qlc,.slice (some ⟨qmb,0,none⟩) (Fi.nV p) qmc,.int .i64 ((Fi.fs (Q.grow p x)).2:Nat)] 37)
     have kZ:=k.trans (AL.mono k.size)
     have HF2:=Lib.hid (HF1.out.below kZ)
     have HK2:=Lib.hid (HK1.out.trans (kZ.mono HK1.out.size))
     have HQC2:=Lib.hid ((kZ.block _ (lt_of_block HQC1.out)).trans HQC1.out)
     have HQV2:=Lib.hid (HQV1.out.below kZ)
     have HP2:=Lib.hid (HP1.out.below kZ)
     have HN2:Hid (Brr (Y2.alloc (.cells #[.slice (some ⟨qnb,0,none⟩) (Fi.nV p) (Fi.nV p),.slice (some ⟨qlb,0,none⟩) (Fi.nV p) qlc,.slice (some ⟨qmb,0,none⟩) (Fi.nV p) qmc,.int .i64 ((Fi.fs (Q.grow p x)).2:Nat)] 37)) qnb (Fi.nV p) (Fi.fs (Q.grow p x)).1.null):=Lib.hid (f1.below AL)
     have HL2:Hid (Lsts (Y2.alloc (.cells #[.slice (some ⟨qnb,0,none⟩) (Fi.nV p) (Fi.nV p),.slice (some ⟨qlb,0,none⟩) (Fi.nV p) qlc,.slice (some ⟨qmb,0,none⟩) (Fi.nV p) qmc,.int .i64 ((Fi.fs (Q.grow p x)).2:Nat)] 37)) qlb (Fi.nV p) (fun i=>natI (Bs.lst (Fi.nT p) ((Fi.fs (Q.grow p x)).1.fst i)))):=Lib.hid (f2.below AL)
     have HM2:Hid (Lsts (Y2.alloc (.cells #[.slice (some ⟨qnb,0,none⟩) (Fi.nV p) (Fi.nV p),.slice (some ⟨qlb,0,none⟩) (Fi.nV p) qlc,.slice (some ⟨qmb,0,none⟩) (Fi.nV p) qmc,.int .i64 ((Fi.fs (Q.grow p x)).2:Nat)] 37)) qmb (Fi.nV p) (fun i=>natI (Bs.lst (Fi.nT p) (Fi.fol (Q.grow p x) i)))):=Lib.hid (f3.below AL)
     have HR2:=Lib.hid hrow
     have HW1:=whole10_any HF2.out.v (show PnV _ (.agg #[.slice ta p.terms.length tc,.slice va p.vars.length vc,.slice (some ⟨rb1,ro1,none⟩) p.rules.length rc,.slice la p.levels.length lc,.slice aa p.assocs.length ac,.slice (some ⟨cb1,co1,none⟩) p.acts.length cc]) p from ⟨ta,tc,va,vc,_,rc,la,lc,aa,ac,_,cc,rfl,HP2.out.a⟩) (by have:=HO.out.m; omega)
     have d0:=HP2.out.c0
     have d1:=HP2.out.c1
     have d2:=HP2.out.c2
     have d3:=HP2.out.c3
     have d4:=HP2.out.c4
     have d5:=HP2.out.c5
     have fz0:=HF2.out.c0
     have fz1:=HF2.out.c1
     have fz2:=HF2.out.c2
     have fz3:=HF2.out.c3
     clear HFQ f1 f2 f3 AL hrow k kZ HQC1 HQV1 HT1 HP1 HF1 HK1 q0 q1 q2 q3 q4 q5
     go_wp2_with fail
     generalize Y2.alloc (.cells #[.slice (some ⟨qnb,0,none⟩) (Fi.nV p) (Fi.nV p),.slice (some ⟨qlb,0,none⟩) (Fi.nV p) qlc,.slice (some ⟨qmb,0,none⟩) (Fi.nV p) qmc,.int .i64 ((Fi.fs (Q.grow p x)).2:Nat)] 37)=Z2 at HF2 HK2 HQC2 HQV2 HP2 HN2 HL2 HM2 HR2 HW1 d0 d1 d2 d3 d4 d5 fz0 fz1 fz2 fz3 ⊢
     generalize Y2.heap.size=qb at HR2 ⊢
     refine HW1.mono ?_
     rintro e Y3 ⟨rfl,k⟩
     have HW2:=whole10_any (w:=Y3) (p:=Q.grow p x) (fv:=.agg #[.slice (some ⟨qnb,0,none⟩) (Fi.nV p) (Fi.nV p),.slice (some ⟨qlb,0,none⟩) (Fi.nV p) qlc,.slice (some ⟨qmb,0,none⟩) (Fi.nV p) qmc,.int .i64 ((Fi.fs (Q.grow p x)).2:Nat)]) (show FaV Y3 _ (Q.grow p x) from ⟨qnb,qlb,qlc,qmb,qmc,rfl,HN2.out.below k,HL2.out.below k,HM2.out.below k⟩) (HQV2.out.below k) (by have:=HO.out.m; exact this)
     have HQC3:=(k.block _ (lt_of_block HQC2.out)).trans HQC2.out
     have HR3:=(k.block _ (lt_of_block HR2.out)).trans HR2.out
     have q0:Y3.cell? ⟨V.heap.size,0,none⟩=some (.slice ta p.terms.length tc):=by rw [cell_of_row _ _ _ _ _ _ HQC3]; rfl
     have q1:Y3.cell? ⟨V.heap.size,1,none⟩=some (.slice va p.vars.length vc):=by rw [cell_of_row _ _ _ _ _ _ HQC3]; rfl
     have q2:Y3.cell? ⟨V.heap.size,2,none⟩=some (.slice (some ⟨g1,0,none⟩) (p.rules.length+1) cap1):=by rw [cell_of_row _ _ _ _ _ _ HQC3]; rfl
     have q3:Y3.cell? ⟨V.heap.size,3,none⟩=some (.slice la p.levels.length lc):=by rw [cell_of_row _ _ _ _ _ _ HQC3]; rfl
     have q4:Y3.cell? ⟨V.heap.size,4,none⟩=some (.slice aa p.assocs.length ac):=by rw [cell_of_row _ _ _ _ _ _ HQC3]; rfl
     have q5:Y3.cell? ⟨V.heap.size,5,none⟩=some (.slice (some ⟨g3,0,none⟩) (p.acts.length+1) cap3):=by rw [cell_of_row _ _ _ _ _ _ HQC3]; rfl
     have r0:Y3.cell? ⟨qb,0,none⟩=some (.slice (some ⟨qnb,0,none⟩) (Fi.nV p) (Fi.nV p)):=by rw [cell_of_row _ _ _ _ _ _ HR3]; rfl
     have r1:Y3.cell? ⟨qb,1,none⟩=some (.slice (some ⟨qlb,0,none⟩) (Fi.nV p) qlc):=by rw [cell_of_row _ _ _ _ _ _ HR3]; rfl
     have r2:Y3.cell? ⟨qb,2,none⟩=some (.slice (some ⟨qmb,0,none⟩) (Fi.nV p) qmc):=by rw [cell_of_row _ _ _ _ _ _ HR3]; rfl
     have r3:Y3.cell? ⟨qb,3,none⟩=some (.int .i64 ((Fi.fs (Q.grow p x)).2:Nat)):=by rw [cell_of_row _ _ _ _ _ _ HR3]; rfl
     have HK3:=Lib.hid k
     clear HW1 d0 d1 d2 d3 d4 d5 fz0 fz1 fz2 fz3 HQC3 HR3
     go_wp2_with fail
     refine HW2.mono ?_
     rintro e Y4 ⟨rfl,k⟩
     have hk4:=HK3.out.trans (k.mono HK3.out.size)
     have HF:=Lib.hid (HF2.out.below hk4)
     have HN:=Lib.hid (HN2.out.below hk4)
     have HL:=Lib.hid (HL2.out.below hk4)
     have HM:=Lib.hid (HM2.out.below hk4)
     have HR:=Lib.hid ((hk4.block _ (lt_of_block HR2.out)).trans HR2.out)
     have HK4:=Lib.hid (HBY.out.trans ((HK2.out.trans (hk4.mono HK2.out.size)).mono HBY.out.size))
     have HMO:Hid (∀ i,((Fi.fs p).1.null i=true→(Fi.fs (Q.grow p x)).1.null i=true)∧Fi.Sub ((Fi.fs p).1.fst i) ((Fi.fs (Q.grow p x)).1.fst i)):=Lib.hid (Fi.fs_mono HOQ.out rfl rfl (fun r hr=>List.mem_append_left _ hr))
     have HMF:Hid (∀ i,Fi.Sub (Fi.fol p i) (Fi.fol (Q.grow p x) i)):=Lib.hid (Fi.fol_mono HOQ.out rfl rfl (fun r hr=>List.mem_append_left _ hr))
     have HRD:Hid (1≤(Fi.fs p).2∧1≤(Fi.fs (Q.grow p x)).2):=Lib.hid ⟨Fi.fs_rounds,Fi.fs_rounds⟩
     have hnV:Fi.nV p≤1001:=by have:=HO.out.m; unfold Fi.nV; omega
     clear HW2 k hk4 q0 q1 q2 q3 q4 q5 r0 r1 r2 r3 HF2 HN2 HL2 HM2 HR2 HQC2 HQV2 HP2 HK2 HK3
     go_wp2_with fail
     go_loopg [17] (Fi.nV p) (fun gk iv wr=>∃ i:Nat,iv=.int .i64 i∧i≤Fi.nV p∧Hid (gk+i=Fi.nV p)∧Hid (Below Y4.heap.size Y4 wr))
     case atStart=>exact ⟨0,rfl,by omega,Lib.hid (by omega),Lib.hid (Below.refl _ _)⟩
     case round =>
      obtain ⟨i,rfl,hi,HJ,HX⟩:=hrel
      have g0:=(HF.out.below HX.out).c0
      by_cases hlt:i < Fi.nV p
      ·have hX:=fun z:Wd wr.heap.size wr=>HX.out.trans (z.ok.mono HX.out.size)
       obtain ⟨a1,c1,m1,m2⟩:=HF.out.fst hlt
       obtain ⟨a2,c2,m3,m4⟩:=HF.out.fol hlt
       obtain ⟨a3,c3,m5,m6⟩:=HL.out i hlt
       obtain ⟨a4,c4,m7,m8⟩:=HM.out i hlt
       have x0:=fun z:Wd wr.heap.size wr=>(HF.out.below (hX z)).c0
       have x1:=fun z:Wd wr.heap.size wr=>(HF.out.below (hX z)).c1
       have x2:=fun z:Wd wr.heap.size wr=>(HF.out.below (hX z)).c2
       have xn:=fun z:Wd wr.heap.size wr=>(HF.out.below (hX z)).n.cell hlt
       have xq:=fun z:Wd wr.heap.size wr=>(HN.out.below (hX z)).cell hlt
       have y0:∀ z:Wd wr.heap.size wr,z.w.cell? ⟨qb,0,none⟩=some (.slice (some ⟨qnb,0,none⟩) (Fi.nV p) (Fi.nV p)):=fun z=>by rw [cell_of_row _ _ _ _ _ _ (((hX z).block _ (lt_of_block HR.out)).trans HR.out)]; rfl
       have y1:∀ z:Wd wr.heap.size wr,z.w.cell? ⟨qb,1,none⟩=some (.slice (some ⟨qlb,0,none⟩) (Fi.nV p) qlc):=fun z=>by rw [cell_of_row _ _ _ _ _ _ (((hX z).block _ (lt_of_block HR.out)).trans HR.out)]; rfl
       have y2:∀ z:Wd wr.heap.size wr,z.w.cell? ⟨qb,2,none⟩=some (.slice (some ⟨qmb,0,none⟩) (Fi.nV p) qmc):=fun z=>by rw [cell_of_row _ _ _ _ _ _ (((hX z).block _ (lt_of_block HR.out)).trans HR.out)]; rfl
       have l1:=fun z:Wd wr.heap.size wr=>((bcell (hX z)).1 _ _ (World.block_lt_of_cell? Y4 _ m1)).trans m1
       have l2:=fun z:Wd wr.heap.size wr=>((bcell (hX z)).1 _ _ (World.block_lt_of_cell? Y4 _ m3)).trans m3
       have l3:∀ z:Wd wr.heap.size wr,z.w.cell? ⟨qlb,i,none⟩=some (.slice a3 (natI (Bs.lst (Fi.nT p) ((Fi.fs (Q.grow p x)).1.fst i))).length c3):=fun z=>((bcell (hX z)).1 _ _ (World.block_lt_of_cell? Y4 _ m5)).trans m5
       have l4:∀ z:Wd wr.heap.size wr,z.w.cell? ⟨qmb,i,none⟩=some (.slice a4 (natI (Bs.lst (Fi.nT p) (Fi.fol (Q.grow p x) i))).length c4):=fun z=>((bcell (hX z)).1 _ _ (World.block_lt_of_cell? Y4 _ m7)).trans m7
       have hal1:=fun z:Wd wr.heap.size wr=>all10_any a1 a3 _ _ c1 c3 z.w (m2.below (hX z)) (m6.below (hX z)) (lst_max (X:=(Fi.fs p).1.fst i) (nT_le HO.out)) (lst_max (X:=(Fi.fs (Q.grow p x)).1.fst i) (nT_le HO.out))
       have hal2:=fun z:Wd wr.heap.size wr=>all10_any a2 a4 _ _ c2 c4 z.w (m4.below (hX z)) (m8.below (hX z)) (lst_max (X:=Fi.fol p i) (nT_le HO.out)) (lst_max (X:=Fi.fol (Q.grow p x) i) (nT_le HO.out))
       rw [allI_sub (HMO.out i).2] at hal1
       rw [allI_sub (HMF.out i)] at hal2
       have hnn:=(HMO.out i).1
       generalize (Fi.fs p).1.null i=n1 at xn hnn
       generalize (Fi.fs (Q.grow p x)).1.null i=n2 at xq hnn
       obtain ⟨A1,hA1⟩:∃ A1,A1=(natI (Bs.lst (Fi.nT p) ((Fi.fs p).1.fst i))).length:=⟨_,rfl⟩
       obtain ⟨A2,hA2⟩:∃ A2,A2=(natI (Bs.lst (Fi.nT p) (Fi.fol p i))).length:=⟨_,rfl⟩
       obtain ⟨A3,hA3⟩:∃ A3,A3=(natI (Bs.lst (Fi.nT p) ((Fi.fs (Q.grow p x)).1.fst i))).length:=⟨_,rfl⟩
       obtain ⟨A4,hA4⟩:∃ A4,A4=(natI (Bs.lst (Fi.nT p) (Fi.fol (Q.grow p x) i))).length:=⟨_,rfl⟩
       simp only [← hA1] at l1 hal1
       simp only [← hA2] at l2 hal2
       simp only [← hA3] at l3 hal1
       simp only [← hA4] at l4 hal2
       have HX':=HX
       clear m1 m2 m3 m4 m5 m6 m7 m8 hA1 hA2 hA3 hA4 hX
       cases n1 with
       | false =>
        clear hnn
        go_wp2_with fail
        refine region_cls wr.heap.size (by kernel_rfl) (by kernel_rfl) ?_
        repeat (go_big_quiet_step (fail))
        go_big_quiet_step (first | (go_at_call 22; exact calls_cls_same _ (hal1 _)))
        repeat (go_big_quiet_step (fail))
        go_big_quiet_step (first | (go_at_call 22; exact calls_cls_same _ (hal2 _)))
        repeat (go_big_quiet_step (fail))
        refine wpQuiet_nil ?_
        intro z
        have HX8:=Lib.hid (HX'.out.trans (z.ok.mono HX'.out.size))
        generalize z.w=W8 at HX8 ⊢
        clear z hal1 hal2 x0 x1 x2 xn xq y0 y1 y2 l1 l2 l3 l4
        go_wp2_with fail
        go_roundg (Fi.nV p - (i+1))
        case measure=>have:=HJ.out; omega
        case rel=>exact ⟨i+1,by go_num,by omega,Lib.hid (by omega),HX8⟩
       | true =>
        obtain rfl:n2=true:=hnn rfl
        clear hnn
        go_wp2_with fail
        refine region_cls wr.heap.size (by kernel_rfl) (by kernel_rfl) ?_
        repeat (go_big_quiet_step (fail))
        go_big_quiet_step (first | (go_at_call 22; exact calls_cls_same _ (hal1 _)))
        repeat (go_big_quiet_step (fail))
        go_big_quiet_step (first | (go_at_call 22; exact calls_cls_same _ (hal2 _)))
        repeat (go_big_quiet_step (fail))
        refine wpQuiet_nil ?_
        intro z
        have HX8:=Lib.hid (HX'.out.trans (z.ok.mono HX'.out.size))
        generalize z.w=W8 at HX8 ⊢
        clear z hal1 hal2 x0 x1 x2 xn xq y0 y1 y2 l1 l2 l3 l4
        go_wp2_with fail
        go_roundg (Fi.nV p - (i+1))
        case measure=>have:=HJ.out; omega
        case rel=>exact ⟨i+1,by go_num,by omega,Lib.hid (by omega),HX8⟩
      ·obtain rfl:i=Fi.nV p:=by omega
       have g3':=(HF.out.below HX.out).c3
       have r3:wr.cell? ⟨qb,3,none⟩=some (.int .i64 ((Fi.fs (Q.grow p x)).2:Nat)):=by rw [cell_of_row _ _ _ _ _ _ ((HX.out.block _ (lt_of_block HR.out)).trans HR.out)]; rfl
       obtain ⟨rd1,rd2⟩:=HRD.out
       generalize (Fi.fs p).2=R1 at g3' rd1
       generalize (Fi.fs (Q.grow p x)).2=R2 at r3 rd2
       have t1:decide (1≤(R1:Int))=true:=by simp; omega
       have t2:decide (1≤(R2:Int))=true:=by simp; omega
       clear hlt HJ rd1 rd2
       go_wp2_with fail
       go_ret
       exact ⟨rfl,HK4.out.trans (HX.out.mono HK4.out.size)⟩
end Go.Proofs.YtjbggogbnckllaaDoor
