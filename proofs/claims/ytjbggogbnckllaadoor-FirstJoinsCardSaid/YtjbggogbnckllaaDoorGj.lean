/-
  The walk of the law FirstJoins.
-/
import Derived.Test.YtjbggogbnckllaaDoorAx
import Derived.Test.YtjbggogbnckllaaDoorMz
namespace Go.Proofs.YtjbggogbnckllaaDoor
open Go.RowKit
set_option linter.unusedVariables false
set_option linter.unusedSimpArgs false
theorem allI_or {n:Nat} (X Y:Nat):allI (natI (Bs.lst n (X|||Y))) (natI (Bs.lst n X)++natI (Bs.lst n Y))=true:=by
 unfold allI
 rw [List.all_eq_true]
 intro z hz
 obtain ⟨j,hj,rfl⟩:=List.mem_map.1 hz
 obtain ⟨h1,h2⟩:=Bs.mem_lst.1 hj
 rw [Nat.testBit_or,Bool.or_eq_true] at h2
 unfold inI
 refine List.contains_iff_mem.2 (List.mem_append.2 ?_)
 rcases h2 with h2 | h2
 ·exact .inl (List.mem_map.2 ⟨j,Bs.mem_lst.2 ⟨h1,h2⟩,rfl⟩)
 ·exact .inr (List.mem_map.2 ⟨j,Bs.mem_lst.2 ⟨h1,h2⟩,rfl⟩)
set_option maxRecDepth 100000 in
set_option maxHeartbeats 16000000 in
theorem joins10_law {w:World} {v:Value} {m:Pl.Sm} {al bl:List Nat} {aba bba:Option Addr} {abc bbc:Nat} (h:SmV w v m) (hz:SmSz m) (hT:Tab w) (hab:Byts w aba al) (hal:al.length≤maxLen) (hbb:Byts w bba bl) (hbl:bl.length≤maxLen) :
  Calls Tryd.prog 8 #[v,.slice aba al.length abc,.slice bba bl.length bbc] w fun e w'=>e=.returned (.bool true)∧Below w.heap.size w w':=by
 obtain ⟨sla,sra,spa,saa,sva,slc,src,spc,sac,svc,rfl,h⟩:=h
 have HS:=SB.new (lc:=slc) (rc:=src) (pc:=spc) (ac:=sac) (vc:=svc) h
 have k:=(Below.refl w.heap.size w).alloc (Nat.le_refl _) (.cells (smC m sla sra spa saa sva slc src spc sac svc) 25)
 have HT0:=Lib.hid (hT.below k)
 have HB0:=Lib.hid k
 unfold smC at HS HB0 HT0 ⊢
 have HS0:=Lib.hid HS
 have HAB:=Lib.hid hab
 have HBB:=Lib.hid hbb
 unfold maxLen at hal hbl
 clear hab hbb
 clear HS k h hT
 go_enter Tryd.func8,Tryd.ntmps8
 go_wp2_with fail
 generalize w.alloc (.cells #[.int .u8 (m.tokens:Nat),.int .u8 (m.vars:Nat),.slice sla m.lefts.length slc,.slice sra m.rights.length src,.slice spa m.precs.length spc,.slice saa m.assocs.length sac,.slice sva m.levels.length svc] 25)=W at HS0 HB0 HT0  ⊢
 refine (awake10_any W HT0.out).mono ?_
 rintro e W1 ⟨rfl,k⟩
 have HT1:=Lib.hid (HT0.out.below k)
 have HB1:=Lib.hid (HB0.out.trans (k.mono HB0.out.size))
 have HS1:=Lib.hid (HS0.out.below k)
 have HFW:=few_any 20 8 (w:=W1) (v:=.agg #[.int .u8 (m.tokens:Nat),.int .u8 (m.vars:Nat),.slice sla m.lefts.length slc,.slice sra m.rights.length src,.slice spa m.precs.length spc,.slice saa m.assocs.length sac,.slice sva m.levels.length svc]) ⟨sla,sra,spa,saa,sva,slc,src,spc,sac,svc,rfl,HS1.out.a⟩ hz (by omega) (by omega)
 have c0:=HS1.out.c0
 have c1:=HS1.out.c1
 have c2:=HS1.out.c2
 have c3:=HS1.out.c3
 have c4:=HS1.out.c4
 have c5:=HS1.out.c5
 have c6:=HS1.out.c6
 clear HT0 HB0 HS0 k
 go_wp2_with fail
 refine HFW.mono ?_
 rintro e W2 ⟨rfl,k⟩
 have HT2:=Lib.hid (HT1.out.below k)
 have HB2:=Lib.hid (HB1.out.trans (k.mono HB1.out.size))
 have HS2:=Lib.hid (HS1.out.below k)
 clear HFW k HT1 HB1 HS1 c0 c1 c2 c3 c4 c5 c6
 cases hf:Pl.few m 20 8
 case false =>
  go_wp2_with fail
  go_ret
  exact ⟨rfl,HB2.out⟩
 case true =>
  rcases Nat.lt_or_ge 6 al.length with h6 | h6
  ·have d6:decide (6 < (al.length:Int))=true:=by simp; omega
   clear hf
   go_wp2_with fail
   go_ret
   exact ⟨rfl,HB2.out⟩
  rcases Nat.lt_or_ge 6 bl.length with k6 | k6
  ·have d6:decide (6 < (al.length:Int))=false:=by simp; omega
   have d7:decide (6 < (bl.length:Int))=true:=by simp; omega
   clear hf
   go_wp2_with fail
   go_ret
   exact ⟨rfl,HB2.out⟩
  have d6:decide (6 < (al.length:Int))=false:=by simp; omega
  have d7:decide (6 < (bl.length:Int))=false:=by simp; omega
  have HPN:=plan_any (w:=W2) (v:=.agg #[.int .u8 (m.tokens:Nat),.int .u8 (m.vars:Nat),.slice sla m.lefts.length slc,.slice sra m.rights.length src,.slice spa m.precs.length spc,.slice saa m.assocs.length sac,.slice sva m.levels.length svc]) ⟨sla,sra,spa,saa,sva,slc,src,spc,sac,svc,rfl,HS2.out.a⟩ hz hf
  have hplan:=Q.plan_ok (hf)
  obtain ⟨p,hp⟩:∃ p,p=Pl.plan m:=⟨_,rfl⟩
  rw [← hp] at HPN hplan
  have HPL:=Lib.hid hp
  have HO:=Lib.hid hplan.1
  have HCN:=Lib.hid hplan.2.1
  have HRU:=Lib.hid hplan.2.2.1
  have HRL:=Lib.hid hplan.2.2.2
  have HFEW:=Lib.hid hf
  have c0:=HS2.out.c0
  have c1:=HS2.out.c1
  have c2:=HS2.out.c2
  have c3:=HS2.out.c3
  have c4:=HS2.out.c4
  have c5:=HS2.out.c5
  have c6:=HS2.out.c6
  clear hplan hp hf
  go_wp2_with fail
  refine HPN.mono ?_
  rintro e W3 ⟨pv,rfl,hpv,k⟩
  obtain ⟨ta,tc,va,vc,ra,rc,la,lc,aa,ac,ca,cc,rfl,hpa⟩:=hpv
  have AL:=(Below.refl W3.heap.size W3).alloc (Nat.le_refl _) (.cells #[.slice ta p.terms.length tc,.slice va p.vars.length vc,.slice ra p.rules.length rc,.slice la p.levels.length lc,.slice aa p.assocs.length ac,.slice ca p.acts.length cc] 32)
  have HP0:=PB.new (tc:=tc) (vc:=vc) (rc:=rc) (lc:=lc) (ac:=ac) (cc:=cc) hpa
  unfold pnC at HP0
  have HP:=Lib.hid HP0
  have hB3:=HB2.out.trans (k.mono HB2.out.size)
  have HB:=Lib.hid (hB3.trans (AL.mono hB3.size))
  have HT:=Lib.hid ((HT2.out.below k).below AL)
  have HS:=Lib.hid ((HS2.out.below k).below AL)
  clear HPN k AL HP0 hpa hB3 HT2 HB2 HS2 c0 c1 c2 c3 c4 c5 c6
  clear d6 d7
  have HFC:=facts_any (w:=_) (v:=.agg #[.slice ta p.terms.length tc,.slice va p.vars.length vc,.slice ra p.rules.length rc,.slice la p.levels.length lc,.slice aa p.assocs.length ac,.slice ca p.acts.length cc]) ⟨ta,tc,va,vc,ra,rc,la,lc,aa,ac,ca,cc,rfl,HP.out.a⟩ HO.out (by have:=HCN.out; omega) HT.out
  have d0:=HP.out.c0
  have d1:=HP.out.c1
  have d2:=HP.out.c2
  have d3:=HP.out.c3
  have d4:=HP.out.c4
  have d5:=HP.out.c5
  go_wp2_with fail
  generalize W3.alloc (.cells #[.slice ta p.terms.length tc,.slice va p.vars.length vc,.slice ra p.rules.length rc,.slice la p.levels.length lc,.slice aa p.assocs.length ac,.slice ca p.acts.length cc] 32)=V0 at HP HB HT HS HFC d0 d1 d2 d3 d4 d5 ⊢
  generalize W3.heap.size=pb at HP d0 d1 d2 d3 d4 d5 ⊢
  refine HFC.mono ?_
  rintro e W4 ⟨fv,rfl,hf,k⟩
  obtain ⟨fnb,flb,flc,fmb,fmc,rfl,f1,f2,f3⟩:=hf
  have AL:=(Below.refl W4.heap.size W4).alloc (Nat.le_refl _) (.cells #[.slice (some ⟨fnb,0,none⟩) (Fi.nV p) (Fi.nV p),.slice (some ⟨flb,0,none⟩) (Fi.nV p) flc,.slice (some ⟨fmb,0,none⟩) (Fi.nV p) fmc,.int .i64 ((Fi.fs p).2:Nat)] 37)
  have HF0:=FB.new (lc:=flc) (mc:=fmc) f1 f2 f3
  unfold faC at HF0
  have hB4:=HB.out.trans (k.mono HB.out.size)
  have HB4:=Lib.hid (hB4.trans (AL.mono hB4.size))
  have HT4:=Lib.hid ((HT.out.below k).below AL)
  have HP4:=Lib.hid ((HP.out.below k).below AL)
  have HF4:=Lib.hid HF0
  have HWH:=whole10_any HF0.v (show PnV _ (.agg #[.slice ta p.terms.length tc,.slice va p.vars.length vc,.slice ra p.rules.length rc,.slice la p.levels.length lc,.slice aa p.assocs.length ac,.slice ca p.acts.length cc]) p from ⟨ta,tc,va,vc,ra,rc,la,lc,aa,ac,ca,cc,rfl,HP4.out.a⟩) (by have:=HO.out.m; omega)
  clear HFC d0 d1 d2 d3 d4 d5 f1 f2 f3 AL HF0 hB4 k HB HT HP HS
  have d0:=HP4.out.c0
  have d1:=HP4.out.c1
  have d2:=HP4.out.c2
  have d3:=HP4.out.c3
  have d4:=HP4.out.c4
  have d5:=HP4.out.c5
  have g0:=HF4.out.c0
  have g1:=HF4.out.c1
  have g2:=HF4.out.c2
  have g3:=HF4.out.c3
  go_wp2_with fail
  generalize W4.alloc (.cells #[.slice (some ⟨fnb,0,none⟩) (Fi.nV p) (Fi.nV p),.slice (some ⟨flb,0,none⟩) (Fi.nV p) flc,.slice (some ⟨fmb,0,none⟩) (Fi.nV p) fmc,.int .i64 ((Fi.fs p).2:Nat)] 37)=V1 at HB4 HT4 HP4 HF4 HWH d0 d1 d2 d3 d4 d5 g0 g1 g2 g3 ⊢
  generalize W4.heap.size=fb at HF4 g0 g1 g2 g3 ⊢
  refine HWH.mono ?_
  rintro e V ⟨rfl,k⟩
  have HP:=Lib.hid (HP4.out.below k)
  have HF:=Lib.hid (HF4.out.below k)
  have HT:=Lib.hid (HT4.out.below k)
  have HB:=Lib.hid (HB4.out.trans (k.mono HB4.out.size))
  clear HWH k d0 d1 d2 d3 d4 d5 g0 g1 g2 g3 HB4 HT4 HP4 HF4
  have hnb:=HO.out.nb
  have hmb:=HO.out.m
  have hnr:=HO.out.r
  have hn1:=HO.out.n
  have d0:=HP.out.c0
  have d1:=HP.out.c1
  go_wp2_with fail
  clear d0 d1
  go_loopg [12,14] al.length (fun gk xv iv wr=>∃ (i:Nat) (X:List Int),iv=.int .i64 i∧i≤al.length∧Hid (gk+i=al.length)∧Hid (wr.ownsRow V.heap.size 3 1 xv X.length (intV X))∧Hid (Below V.heap.size V wr)∧Hid (X.length=i)∧Hid (∀ y ∈ X,0≤y∧y < ((p.terms.length+p.vars.length:Nat):Int)))
  case atStart=>exact ⟨0,[],rfl,by omega,Lib.hid (by omega),Lib.hid (World.ownsRow_nil _ _ _ _),Lib.hid (Below.refl _ _),Lib.hid rfl,Lib.hid (fun y hy=>by cases hy)⟩
  case round =>
   obtain ⟨i,X,rfl,hi,HK,HX,HW,HXL,HXY⟩:=hrel
   by_cases hlt:i < al.length
   ·have hby:=(HAB.out.below HB.out).below HW.out
    obtain ⟨bb,bo,hba,q0,q1⟩:=hby i hlt
    generalize al[i]=y8 at q0 q1
    obtain ⟨s,hs⟩:∃ s,s=y8 % (p.terms.length+p.vars.length):=⟨_,rfl⟩
    have hml:=Nat.mod_lt y8 (show p.terms.length+p.vars.length > 0 by omega)
    have hsl:s < p.terms.length+p.vars.length:=by omega
    have hq2:(y8:Int) % ((p.terms.length:Int)+(p.vars.length:Int))=(s:Nat):=by rw [hs]; push_cast; rfl
    have hns:X.length≤6:=by have:=HXL.out; omega
    have HO3:=Lib.hid (HX.out.alloc (.cells #[.int .i64 (s:Int)] 3))
    have hsz:=HW.out.size
    have HW3:=Lib.hid (HW.out.alloc hsz (.cells #[.int .i64 (s:Int)] 3))
    subst hba
    clear hby hml hs HX
    go_wp2_with (refine list_append_one rfl _ _ _ rfl 3 V.heap.size 1 8 elt_int _ X.length (intV X) rfl HO3.out ⟨wr.heap.size,0,none⟩ 1 [.int .i64 (s:Int)] rfl rfl (World.news_of_block (cs:=#[.int .i64 (s:Int)]) (t:=3) (fr:=(0,0)) (heap_alloc_new wr _)) (by simp [Value.oneCell']) (by unfold maxLen; omega) (by omega) (by simp; omega) ?_; intro bg bcap wg hog hgg hb1 hb2 hb3; have HW4:=Lib.hid (HW3.out.trans (below_own HO3.out (by simp; omega) hgg)); have HO4:=Lib.hid hog; clear hog hgg hb3)
    go_roundg (al.length - (i+1))
    case measure=>have:=HK.out; omega
    case rel=>exact ⟨i+1,X++[(s:Int)],by go_num,by omega,Lib.hid (by omega),Lib.hid (by rw [intV_snoc]; simpa using HO4.out),HW4,Lib.hid (by have:=HXL.out; simp; omega),Lib.hid (fun y hy=>by rcases List.mem_append.1 hy with hy | hy; exact HXY.out y hy; rw [List.mem_singleton.1 hy]; omega)⟩
   ·obtain rfl:i=al.length:=by omega
    clear hlt HK
    go_wp2_with fail
    obtain ⟨W5,hW5⟩:∃ W5,W5=wr:=⟨_,rfl⟩
    subst hW5
    have HWX:=HW
    clear HW
    have hX6:X.length≤6:=by have:=HXL.out; omega
    obtain ⟨xa,xc,hxv,hxi⟩:=own_slice HX.out
    have HXI:=Lib.hid hxi
    subst hxv
    clear hxi HX
    go_loopg [13,15] bl.length (fun gk yv jv wr=>∃ (j:Nat) (Y:List Int),jv=.int .i64 j∧j≤bl.length∧Hid (gk+j=bl.length)∧Hid (wr.ownsRow W5.heap.size 3 1 yv Y.length (intV Y))∧Hid (Below W5.heap.size W5 wr)∧Hid (Y.length=j)∧Hid (∀ y ∈ Y,0≤y∧y < ((p.terms.length+p.vars.length:Nat):Int)))
    case atStart=>exact ⟨0,[],rfl,by omega,Lib.hid (by omega),Lib.hid (World.ownsRow_nil _ _ _ _),Lib.hid (Below.refl _ _),Lib.hid rfl,Lib.hid (fun y hy=>by cases hy)⟩
    case round =>
     obtain ⟨j,Y,rfl,hj,HK,HY,HW,HYL,HYY⟩:=hrel
     by_cases hlj:j < bl.length
     ·have hby:=((HBB.out.below HB.out).below HWX.out).below HW.out
      obtain ⟨bb,bo,hba,q0,q1⟩:=hby j hlj
      generalize bl[j]=y8 at q0 q1
      obtain ⟨s,hs⟩:∃ s,s=y8 % (p.terms.length+p.vars.length):=⟨_,rfl⟩
      have hml:=Nat.mod_lt y8 (show p.terms.length+p.vars.length > 0 by omega)
      have hsl:s < p.terms.length+p.vars.length:=by omega
      have hq2:(y8:Int) % ((p.terms.length:Int)+(p.vars.length:Int))=(s:Nat):=by rw [hs]; push_cast; rfl
      have hns:Y.length≤6:=by have:=HYL.out; omega
      have HO3:=Lib.hid (HY.out.alloc (.cells #[.int .i64 (s:Int)] 3))
      have hsz:=HW.out.size
      have HW3:=Lib.hid (HW.out.alloc hsz (.cells #[.int .i64 (s:Int)] 3))
      subst hba
      clear hby hml hs HY
      go_wp2_with (refine list_append_one rfl _ _ _ rfl 3 W5.heap.size 1 8 elt_int _ Y.length (intV Y) rfl HO3.out ⟨wr.heap.size,0,none⟩ 1 [.int .i64 (s:Int)] rfl rfl (World.news_of_block (cs:=#[.int .i64 (s:Int)]) (t:=3) (fr:=(0,0)) (heap_alloc_new wr _)) (by simp [Value.oneCell']) (by unfold maxLen; omega) (by omega) (by simp; omega) ?_; intro bg bcap wg hog hgg hb1 hb2 hb3; have HW4:=Lib.hid (HW3.out.trans (below_own HO3.out (by simp; omega) hgg)); have HO4:=Lib.hid hog; clear hog hgg hb3)
      go_roundg (bl.length - (j+1))
      case measure=>have:=HK.out; omega
      case rel=>exact ⟨j+1,Y++[(s:Int)],by go_num,by omega,Lib.hid (by omega),Lib.hid (by rw [intV_snoc]; simpa using HO4.out),HW4,Lib.hid (by have:=HYL.out; simp; omega),Lib.hid (fun y hy=>by rcases List.mem_append.1 hy with hy | hy; exact HYY.out y hy; rw [List.mem_singleton.1 hy]; omega)⟩
     ·obtain rfl:j=bl.length:=by omega
      clear hlj HK
      have hY6:Y.length≤6:=by have:=HYL.out; omega
      obtain ⟨ya,yc,hyv,hyi⟩:=own_slice HY.out
      have HYI:=Lib.hid hyi
      subst hyv
      have HXI2:=Lib.hid (HXI.out.below HW.out)
      have HV2:=Lib.hid (HWX.out.trans (HW.out.mono HWX.out.size))
      clear hyi HY HXI HWX HW
      have hP3:=HP.out.below HV2.out
      have hF3:=HF.out.below HV2.out
      have c0:=hP3.c0
      have c1:=hP3.c1
      have c2:=hP3.c2
      have c3:=hP3.c3
      have c4:=hP3.c4
      have c5:=hP3.c5
      have g0:=hF3.c0
      have g1:=hF3.c1
      have g2:=hF3.c2
      have g3:=hF3.c3
      have hs1:=seq10_any (w:=wr) (fv:=.agg #[.slice (some ⟨fnb,0,none⟩) (Fi.nV p) (Fi.nV p),.slice (some ⟨flb,0,none⟩) (Fi.nV p) flc,.slice (some ⟨fmb,0,none⟩) (Fi.nV p) fmc,.int .i64 ((Fi.fs p).2:Nat)]) (v:=.agg #[.slice ta p.terms.length tc,.slice va p.vars.length vc,.slice ra p.rules.length rc,.slice la p.levels.length lc,.slice aa p.assocs.length ac,.slice ca p.acts.length cc]) (nc:=xc) hF3.v ⟨ta,tc,va,vc,ra,rc,la,lc,aa,ac,ca,cc,rfl,hP3.a⟩ HO.out HXI2.out (by omega) (fun y hy=>by have:=HXY.out y hy; omega) (HT.out.below HV2.out)
      obtain ⟨q1,hq1⟩:∃ q1,q1=Fi.beg (Fi.nT p) (Q.cnt p) (Fi.fs p).1 X 0:=⟨_,rfl⟩
      rw [← hq1] at hs1
      have HQ1:=Lib.hid hq1
      obtain ⟨X1,one⟩:=q1
      simp only at hs1
      clear hP3 hF3 hq1
      go_wp2_with fail
      refine hs1.mono ?_
      rintro e W6 ⟨a1,p1,rfl,i1,k1⟩
      have HI6:=Lib.hid i1
      have HV6:=Lib.hid (HV2.out.trans (k1.mono HV2.out.size))
      have HX6:=Lib.hid (HXI2.out.below k1)
      have HY6:=Lib.hid (HYI.out.below k1)
      clear hs1 i1 k1 c0 c1 c2 c3 c4 c5 g0 g1 g2 g3
      have hP3:=HP.out.below HV6.out
      have hF3:=HF.out.below HV6.out
      have c0:=hP3.c0
      have c1:=hP3.c1
      have c2:=hP3.c2
      have c3:=hP3.c3
      have c4:=hP3.c4
      have c5:=hP3.c5
      have g0:=hF3.c0
      have g1:=hF3.c1
      have g2:=hF3.c2
      have g3:=hF3.c3
      have hs2:=seq10_any (w:=W6) (fv:=.agg #[.slice (some ⟨fnb,0,none⟩) (Fi.nV p) (Fi.nV p),.slice (some ⟨flb,0,none⟩) (Fi.nV p) flc,.slice (some ⟨fmb,0,none⟩) (Fi.nV p) fmc,.int .i64 ((Fi.fs p).2:Nat)]) (v:=.agg #[.slice ta p.terms.length tc,.slice va p.vars.length vc,.slice ra p.rules.length rc,.slice la p.levels.length lc,.slice aa p.assocs.length ac,.slice ca p.acts.length cc]) (nc:=yc) hF3.v ⟨ta,tc,va,vc,ra,rc,la,lc,aa,ac,ca,cc,rfl,hP3.a⟩ HO.out HY6.out (by omega) (fun y hy=>by have:=HYY.out y hy; omega) (HT.out.below HV6.out)
      obtain ⟨q2,hq2⟩:∃ q2,q2=Fi.beg (Fi.nT p) (Q.cnt p) (Fi.fs p).1 Y 0:=⟨_,rfl⟩
      rw [← hq2] at hs2
      have HQ2:=Lib.hid hq2
      obtain ⟨X2,two⟩:=q2
      simp only at hs2
      clear hP3 hF3 hq2
      go_wp2_with fail
      refine hs2.mono ?_
      rintro e W7 ⟨a2,p2,rfl,i2,k1⟩
      have HI7:=Lib.hid i2
      have HV7:=Lib.hid (HV6.out.trans (k1.mono HV6.out.size))
      have HX7:=Lib.hid (HX6.out.below k1)
      have HY7:=Lib.hid (HY6.out.below k1)
      have HJ7:=Lib.hid (HI6.out.below k1)
      clear hs2 i2 k1 c0 c1 c2 c3 c4 c5 g0 g1 g2 g3 HI6 HX6 HY6 HXI2 HYI
      have hPX:=fun z:Wd W7.heap.size W7=>HP.out.below (HV7.out.trans (z.ok.mono HV7.out.size))
      have hFX:=fun z:Wd W7.heap.size W7=>HF.out.below (HV7.out.trans (z.ok.mono HV7.out.size))
      have y0:=fun z=>(hPX z).c0
      have y1:=fun z=>(hPX z).c1
      have y2:=fun z=>(hPX z).c2
      have y3:=fun z=>(hPX z).c3
      have y4:=fun z=>(hPX z).c4
      have y5:=fun z=>(hPX z).c5
      have z0:=fun z=>(hFX z).c0
      have z1:=fun z=>(hFX z).c1
      have z2:=fun z=>(hFX z).c2
      have z3:=fun z=>(hFX z).c3
      clear hPX hFX
      go_wp2_with fail
      refine region_gk [0,1,3,5] [2,4,6,7] 3 8 151 W7.heap.size ?_ (fun c a d v w h=>by cases d<;>exact h) (Nat.le_refl _) (by kernel_rfl) (by kernel_rfl) (by rfl) ?_ ?_
      rotate_left
      ·intro z
       simp only [pickL,List.getElem?_cons_zero,List.getElem?_cons_succ]
       repeat (go_big_quiet_step (fail))
       refine wpQuiet_nil ?_
       exact rfl
      simp only [pickL,List.getElem?_cons_zero,List.getElem?_cons_succ]
      clear y0 y1 y2 y3 y4 y5 z0 z1 z2 z3
      have kd:Below W7.heap.size W7 W7.drew:=(Below.refl _ _).drew
      have k8:=kd.alloc (Nat.le_refl _) (.cells #[] 3)
      refine listM_wp (by rfl) (op_bs0 30 3 1 8 elt_int (by rfl) ?_)
      refine ⟨⟨⟨_,k8⟩,rfl⟩,?_⟩
      have own8:=own_new W7.drew W7.heap.size (Nat.le_refl _) 3 1 0 #[] (by rfl) (by unfold maxLen; omega)
      refine listM_wp (by rfl) (op_app _ _ (by rfl) W7.heap.size 0 0 (some ⟨W7.drew.heap.size,0,none⟩) [] (by rfl) own8 xa xc X (by rfl) (HX7.out.below k8) (by omega) k8.size ?_)
      intro b9 c9 W9 own9 g9
      have k9:=k8.trans (below_own own8 k8.size g9)
      refine ⟨⟨⟨_,k9⟩,rfl⟩,?_⟩
      refine listM_wp (by rfl) (op_app _ _ (by rfl) W7.heap.size _ _ _ _ (by rfl) own9 ya yc Y (by rfl) (HY7.out.below k9) (by omega) k9.size ?_)
      intro b10 c10 W10 own10 g10
      have k10:=k9.trans (below_own own9 k9.size g10)
      refine ⟨⟨⟨_,k10⟩,rfl⟩,?_⟩
      have hxy:(X++Y).length=0+X.length+Y.length:=by simp
      have own10':W10.ownsRow W7.heap.size 3 1 (.slice b10 (0+X.length+Y.length) c10) (0+X.length+Y.length) (intV (X++Y)):=by
       have:=own10; simp only [List.nil_append] at this; simpa [intV] using this
      have HI10:=Lib.hid (Ints.of_owns own10')
      have HV10:=Lib.hid (HV7.out.trans (k10.mono HV7.out.size))
      have hs3:=seq10_any (w:=W10) (fv:=.agg #[.slice (some ⟨fnb,0,none⟩) (Fi.nV p) (Fi.nV p),.slice (some ⟨flb,0,none⟩) (Fi.nV p) flc,.slice (some ⟨fmb,0,none⟩) (Fi.nV p) fmc,.int .i64 ((Fi.fs p).2:Nat)]) (v:=.agg #[.slice ta p.terms.length tc,.slice va p.vars.length vc,.slice ra p.rules.length rc,.slice la p.levels.length lc,.slice aa p.assocs.length ac,.slice ca p.acts.length cc]) (nc:=c10) (HF.out.below HV10.out).v ⟨ta,tc,va,vc,ra,rc,la,lc,aa,ac,ca,cc,rfl,(HP.out.below HV10.out).a⟩ HO.out HI10.out (by rw [hxy]; omega) (fun y hy=>by rcases List.mem_append.1 hy with hy | hy; (have:=HXY.out y hy; omega); (have:=HYY.out y hy; omega)) (HT.out.below HV10.out)
      rw [hxy] at hs3
      obtain ⟨q3,hq3⟩:∃ q3,q3=Fi.beg (Fi.nT p) (Q.cnt p) (Fi.fs p).1 (X++Y) 0:=⟨_,rfl⟩
      rw [← hq3] at hs3
      rw [Fi.beg_append,← HQ1.out] at hq3
      simp only at hq3
      rw [Fi.beg_zero,← HQ2.out] at hq3
      have HQ3:=Lib.hid hq3
      have HJ10:=Lib.hid (HJ7.out.below k10)
      have HK10:=Lib.hid (HI7.out.below k10)
      obtain ⟨X3,both⟩:=q3
      simp only at hs3
      refine listM_wp0 (by rfl) (op_callE3 27 Tryd.call27 _ _ _ _ (by rfl) _ _ _ (by rfl) (by rfl) (by rfl) (fun v w'=>∃ a cap,v=.tuple #[.slice a (natI (Bs.lst (Fi.nT p) X3)).length cap,.bool both]∧Ints w' a (natI (Bs.lst (Fi.nT p) X3))∧Below W10.heap.size W10 w') (hs3.mono fun e w' ⟨a,cap,e1,e2,e3⟩=>⟨_,e1,a,cap,rfl,e2,e3⟩) ?_)
      rintro v W11 ⟨a3,p3,rfl,i3,k11⟩
      have HV11:=Lib.hid (HV10.out.trans (k11.mono HV10.out.size))
      have HL:=Lib.hid (HJ10.out.below k11)
      have HM:=Lib.hid (HK10.out.below k11)
      have HKK:=Lib.hid i3
      clear hs3 i3 k11 kd k8 k9 k10 own8 own9 own10 own10' g9 g10 hxy hq3 HI10 HV10 HJ10 HK10 HJ7 HI7 HX7 HY7
      refine listM_nil ?_
      simp only [List.drop_succ_cons,List.drop_zero,Act.put,List.setIfInBounds_toArray,List.set_cons_succ,List.set_cons_zero]
      repeat (go_big_quiet_step (fail))
      refine wpQuiet_nil ?_
      have hq3:=HQ3.out
      have HQ:=Lib.hid trivial
      cases one with
      | false =>
       simp only [Bool.false_eq_true,if_false,Prod.mk.injEq] at hq3
       obtain ⟨rfl,rfl⟩:=hq3
       have hal:=all10_any a1 a3 _ _ p1 p3 W11 HL.out HKK.out (lst_max (X:=X3) (nT_le HO.out)) (lst_max (X:=X3) (nT_le HO.out))
       rw [allI_sub (Fi.Sub.refl X3)] at hal
       have hal2:=all10_any a3 a1 _ _ p3 p1 W11 HKK.out HL.out (lst_max (X:=X3) (nT_le HO.out)) (lst_max (X:=X3) (nT_le HO.out))
       rw [allI_sub (Fi.Sub.refl X3)] at hal2
       clear HQ1 HQ2 HQ3
       go_wp2_with fail
       refine hal.mono ?_
       rintro e W ⟨rfl,rfl⟩
       clear hal
       go_wp2_with fail
       refine hal2.mono ?_
       rintro e W ⟨rfl,rfl⟩
       clear hal2
       go_wp2_with fail
       go_ret
       exact ⟨rfl,HB.out.trans (HV11.out.mono HB.out.size)⟩
      | true =>
       simp only [if_true,Prod.mk.injEq] at hq3
       obtain ⟨rfl,rfl⟩:=hq3
       have hal:=all10_any a1 a3 _ _ p1 p3 W11 HL.out HKK.out (lst_max (X:=X1) (nT_le HO.out)) (lst_max (X:=X1|||X2) (nT_le HO.out))
       rw [allI_sub (Fi.sub_or_left X1 X2)] at hal
       have hal2:=all10_any a2 a3 _ _ p2 p3 W11 HM.out HKK.out (lst_max (X:=X2) (nT_le HO.out)) (lst_max (X:=X1|||X2) (nT_le HO.out))
       rw [allI_sub (Fi.sub_or_right X1 X2)] at hal2
       clear HQ1 HQ2 HQ3
       go_wp2_with fail
       refine hal.mono ?_
       rintro e W ⟨rfl,rfl⟩
       clear hal
       go_wp2_with fail
       refine hal2.mono ?_
       rintro e W ⟨rfl,rfl⟩
       clear hal2
       have hl1:=Bs.lst_len (Fi.nT p) X1
       have hl2:=Bs.lst_len (Fi.nT p) X2
       have hm1:(natI (Bs.lst (Fi.nT p) X1)).length≤1000:=by simp only [natI,List.length_map]; have:Fi.nT p≤1000:=hnb; omega
       have hm2:(natI (Bs.lst (Fi.nT p) X2)).length≤1000:=by simp only [natI,List.length_map]; have:Fi.nT p≤1000:=hnb; omega
       have k8:=(Below.refl W11.heap.size W11).alloc (Nat.le_refl _) (.cells #[] 3)
       have own8:=own_new W11 W11.heap.size (Nat.le_refl _) 3 1 0 #[] (by rfl) (by unfold maxLen; omega)
       have HL8:=HL.out.below k8
       have HAO:Hid (allI (natI (Bs.lst (Fi.nT p) (X1|||X2))) (natI (Bs.lst (Fi.nT p) X1)++natI (Bs.lst (Fi.nT p) X2))=true):=Lib.hid (allI_or X1 X2)
       have HQ8:=Lib.hid (lst_max (X:=X1|||X2) (nT_le HO.out))
       obtain ⟨L1,hL1⟩:∃ L1,L1=natI (Bs.lst (Fi.nT p) X1):=⟨_,rfl⟩
       obtain ⟨L2,hL2⟩:∃ L2,L2=natI (Bs.lst (Fi.nT p) X2):=⟨_,rfl⟩
       obtain ⟨L3,hL3⟩:∃ L3,L3=natI (Bs.lst (Fi.nT p) (X1|||X2)):=⟨_,rfl⟩
       rw [← hL1] at hm1 HL8 HAO ⊢
       rw [← hL2] at hm2 HM HAO ⊢
       rw [← hL3] at HKK HAO HQ8 ⊢
       clear hL1 hL2 hL3 hl1 hl2 HL
       go_wp2_with (first | (refine list_app (by simp [Region.wanted,yielded]) _ _ (by rfl) W11.heap.size 0 0 (some ⟨W11.heap.size,0,none⟩) [] (by rfl) own8 a1 p1 L1 (by rfl) HL8 (by omega) k8.size ?_; intro b9 c9 W9 own9 g9; have k9:=k8.trans (below_own own8 k8.size g9); have HM9:=HM.out.below k9; have own9':W9.ownsRow W11.heap.size 3 1 (.slice b9 L1.length c9) L1.length (intV L1):=(by simpa using own9); clear own8 HL8 g9 HM own9) | (refine list_app (by simp [Region.wanted,yielded]) _ _ (by rfl) W11.heap.size L1.length c9 b9 (intV L1) (by rfl) own9' a2 p2 L2 (by rfl) HM9 (by omega) k9.size ?_; intro b10 c10 W10 own10 g10; have k10:=k9.trans (below_own own9' k9.size g10); clear own9' HM9 g10))
       have hxy:(L1++L2).length=L1.length+L2.length:=by simp
       have own10':W10.ownsRow W11.heap.size 3 1 (.slice b10 (L1.length+L2.length) c10) (L1.length+L2.length) (intV (L1++L2)):=by
        simpa [intV] using own10
       have hal3:=all10_any a3 b10 L3 (L1++L2) p3 c10 W10 (HKK.out.below k10) (Ints.of_owns own10') HQ8.out (by rw [hxy]; unfold maxLen; omega)
       rw [HAO.out,hxy] at hal3
       have HB10:=Lib.hid (HB.out.trans ((HV11.out.trans (k10.mono HV11.out.size)).mono HB.out.size))
       refine hal3.mono ?_
       rintro e W ⟨rfl,rfl⟩
       clear hal3 own10 own10' k8 k9 k10 hxy
       go_wp2_with fail
       go_ret
       exact ⟨rfl,HB10.out⟩
end Go.Proofs.YtjbggogbnckllaaDoor
