/-
  The walk of the law FirstTells.
-/
import Derived.Test.YtjbggogbnckllaaDoorAx
import Derived.Test.YtjbggogbnckllaaDoorWt
import Derived.Test.YtjbggogbnckllaaDoorTd
import Derived.Test.YtjbggogbnckllaaDoorMw
namespace Go.Proofs.YtjbggogbnckllaaDoor
open Go.RowKit
set_option linter.unusedVariables false
set_option linter.unusedSimpArgs false
theorem planT_ok {m:Pl.Sm} (s:ByteArray) (hf:Pl.few m 20 8=true):Q.OK (planT m s)∧Q.cnt (planT m s)≤62∧(planT m s).rules.length≤41∧∀ r ∈ (planT m s).rules,r.right.length≤8:=by
 unfold planT
 by_cases hc:(Rd.read s).2.code=0∧(Pl.of (Rd.read s).1).2.1=0
 ·rw [if_pos hc]
  have h:Pl.of (Rd.read s).1=((Pl.of (Rd.read s).1).1,0,(Pl.of (Rd.read s).1).2.2):=by rw [← hc.2]
  exact ⟨Q.ok_of h,Q.cnt_of h,(Q.rules_of h).1,(Q.rules_of h).2⟩
 ·rw [if_neg hc]
  exact Q.plan_ok hf
section
variable {P:Program} {ops:Array Oper} {D:World→Prop} {R:Act→World→Prop} {o:Oper} {rest:List Oper} {a:Act} {w:World} {Q:Exit→Act→World→Prop} {e:Nat}
theorem listM_wpG (hw:Region.wanted o (yielded ops a.tmps)=true) (h:o.wp P a w (fun a' w'=>D w'∧wpListM P ops Q D R e rest a' w') Q):wpListM P ops Q D R (e+1) (o::rest) a w:=by
 rw [wpListM,if_pos hw]; exact h
theorem listM_end (h:R a w):wpListM P ops Q D R e [] a w:=by cases e<;>exact h
theorem listM_quietG (h:wpQuiet P ops (fun w'=>w'=w) (fun a'=>D w∧wpListM P ops Q D R e rest a' w) [o] a):wpListM P ops Q D R (e+1) (o::rest) a w:=by
 rw [wpListM]
 rw [wpQuiet] at h
 split
 ·rename_i hw
  rw [if_pos hw] at h
  obtain ⟨v,h1,h2⟩:=h
  exact Oper.wp_of_quiet (C:=fun w'=>w'=w) (K:=fun a'=>D w∧wpListM P ops Q D R e rest a' w) rfl (fun a' w' e hk=>by rw [e]; exact hk) ⟨v,fun w1 e=>by rw [e]; exact h1 w rfl,h2⟩
 ·rename_i hw
  rw [if_neg hw] at h
  exact h
end
set_option maxRecDepth 100000 in
set_option maxHeartbeats 16000000 in
theorem tells10_law {w:World} {v:Value} {m:Pl.Sm} {tx:ByteArray} {sq:List Int} {qa:Option Addr} {qc:Nat} (h:SmV w v m) (hz:SmSz m) (hT:Tab w) (hsq:Ints w qa sq) (hsl:sq.length≤maxLen) (hsx:∀ x ∈ sq,-9223372036854775808≤x∧x≤9223372036854775807) :
  Calls Tryd.prog 6 #[v,.string tx,.slice qa sq.length qc] w fun e w'=>e=.returned (.bool true)∧Below w.heap.size w w':=by
 obtain ⟨sla,sra,spa,saa,sva,slc,src,spc,sac,svc,rfl,h⟩:=h
 have HS:=SB.new (lc:=slc) (rc:=src) (pc:=spc) (ac:=sac) (vc:=svc) h
 have k:=(Below.refl w.heap.size w).alloc (Nat.le_refl _) (.cells (smC m sla sra spa saa sva slc src spc sac svc) 25)
 have HT0:=Lib.hid (hT.below k)
 have HB0:=Lib.hid k
 unfold smC at HS HB0 HT0 ⊢
 have HS0:=Lib.hid HS
 have HSQ:=Lib.hid hsq
 have HSX:=Lib.hid hsx
 unfold maxLen at hsl
 clear hsq hsx
 clear HS k h hT
 go_enter Tryd.func6,Tryd.ntmps6
 go_wp2_with fail
 generalize w.alloc (.cells #[.int .u8 (m.tokens:Nat),.int .u8 (m.vars:Nat),.slice sla m.lefts.length slc,.slice sra m.rights.length src,.slice spa m.precs.length spc,.slice saa m.assocs.length sac,.slice sva m.levels.length svc] 25)=W at HS0 HB0 HT0  ⊢
 refine (awake10_any W HT0.out).mono ?_
 rintro e W1 ⟨rfl,k⟩
 have HT1:=Lib.hid (HT0.out.below k)
 have HB1:=Lib.hid (HB0.out.trans (k.mono HB0.out.size))
 have HS1:=Lib.hid (HS0.out.below k)
 have HFW:=few_any 20 8 (w:=W1) (v:=.agg #[.int .u8 (m.tokens:Nat),.int .u8 (m.vars:Nat),.slice sla m.lefts.length slc,.slice sra m.rights.length src,.slice spa m.precs.length spc,.slice saa m.assocs.length sac,.slice sva m.levels.length svc]) ⟨sla,sra,spa,saa,sva,slc,src,spc,sac,svc,rfl,HS1.out.a⟩ hz (by omega) (by omega)
 have c0:=HS1.out.c0
 have c1:=HS1.out.c1
 have c2:=HS1.out.c2
 have c3:=HS1.out.c3
 have c4:=HS1.out.c4
 have c5:=HS1.out.c5
 have c6:=HS1.out.c6
 clear HT0 HB0 HS0 k
 go_wp2_with fail
 refine HFW.mono ?_
 rintro e W2 ⟨rfl,k⟩
 have HT2:=Lib.hid (HT1.out.below k)
 have HB2:=Lib.hid (HB1.out.trans (k.mono HB1.out.size))
 have HS2:=Lib.hid (HS1.out.below k)
 clear HFW k HT1 HB1 HS1 c0 c1 c2 c3 c4 c5 c6
 cases hf:Pl.few m 20 8
 case false =>
  go_wp2_with fail
  go_ret
  exact ⟨rfl,HB2.out⟩
 case true =>
  rcases Nat.lt_or_ge 600 tx.size with h6 | h6
  ·have d6:decide (600 < (tx.size:Int))=true:=by simp; omega
   clear hf
   go_wp2_with fail
   go_ret
   exact ⟨rfl,HB2.out⟩
  rcases Nat.lt_or_ge 10 sq.length with k6 | k6
  ·have d6:decide (600 < (tx.size:Int))=false:=by simp; omega
   have d7:decide (10 < (sq.length:Int))=true:=by simp; omega
   clear hf
   go_wp2_with fail
   go_ret
   exact ⟨rfl,HB2.out⟩
  have d6:decide (600 < (tx.size:Int))=false:=by simp; omega
  have d7:decide (10 < (sq.length:Int))=false:=by simp; omega
  have HPN:=of10_any (w:=W2) (s:=tx) (v:=.agg #[.int .u8 (m.tokens:Nat),.int .u8 (m.vars:Nat),.slice sla m.lefts.length slc,.slice sra m.rights.length src,.slice spa m.precs.length spc,.slice saa m.assocs.length sac,.slice sva m.levels.length svc]) ⟨sla,sra,spa,saa,sva,slc,src,spc,sac,svc,rfl,HS2.out.a⟩ hz hf (by omega)
  have hplan:=planT_ok tx hf
  obtain ⟨p,hp⟩:∃ p,p=planT m tx:=⟨_,rfl⟩
  rw [← hp] at HPN hplan
  have HO:=Lib.hid hplan.1
  have HCN:=Lib.hid hplan.2.1
  have HRL:=Lib.hid hplan.2.2.2
  have c0:=HS2.out.c0
  have c1:=HS2.out.c1
  have c2:=HS2.out.c2
  have c3:=HS2.out.c3
  have c4:=HS2.out.c4
  have c5:=HS2.out.c5
  have c6:=HS2.out.c6
  clear hplan hp hf
  go_wp2_with fail
  clear d6 d7
  refine HPN.mono ?_
  rintro e W3 ⟨pv,rfl,hpv,k⟩
  obtain ⟨ta,tc,va,vc,ra,rc,la,lc,aa,ac,ca,cc,rfl,hpa⟩:=hpv
  have AL:=(Below.refl W3.heap.size W3).alloc (Nat.le_refl _) (.cells #[.slice ta p.terms.length tc,.slice va p.vars.length vc,.slice ra p.rules.length rc,.slice la p.levels.length lc,.slice aa p.assocs.length ac,.slice ca p.acts.length cc] 32)
  have HP0:=PB.new (tc:=tc) (vc:=vc) (rc:=rc) (lc:=lc) (ac:=ac) (cc:=cc) hpa
  unfold pnC at HP0
  have HP:=Lib.hid HP0
  have hB3:=HB2.out.trans (k.mono HB2.out.size)
  have HB:=Lib.hid (hB3.trans (AL.mono hB3.size))
  have HT:=Lib.hid ((HT2.out.below k).below AL)
  clear HPN k AL HP0 hpa hB3 HT2 HB2 HS2 c0 c1 c2 c3 c4 c5 c6
  have HFC:=facts_any (w:=_) (v:=.agg #[.slice ta p.terms.length tc,.slice va p.vars.length vc,.slice ra p.rules.length rc,.slice la p.levels.length lc,.slice aa p.assocs.length ac,.slice ca p.acts.length cc]) ⟨ta,tc,va,vc,ra,rc,la,lc,aa,ac,ca,cc,rfl,HP.out.a⟩ HO.out (by have:=HCN.out; omega) HT.out
  have d0:=HP.out.c0
  have d1:=HP.out.c1
  have d2:=HP.out.c2
  have d3:=HP.out.c3
  have d4:=HP.out.c4
  have d5:=HP.out.c5
  go_wp2_with fail
  generalize W3.alloc (.cells #[.slice ta p.terms.length tc,.slice va p.vars.length vc,.slice ra p.rules.length rc,.slice la p.levels.length lc,.slice aa p.assocs.length ac,.slice ca p.acts.length cc] 32)=V0 at HP HB HT HFC d0 d1 d2 d3 d4 d5 ⊢
  generalize W3.heap.size=pb at HP d0 d1 d2 d3 d4 d5 ⊢
  refine HFC.mono ?_
  rintro e W4 ⟨fv,rfl,hf,k⟩
  obtain ⟨fnb,flb,flc,fmb,fmc,rfl,f1,f2,f3⟩:=hf
  have AL:=(Below.refl W4.heap.size W4).alloc (Nat.le_refl _) (.cells #[.slice (some ⟨fnb,0,none⟩) (Fi.nV p) (Fi.nV p),.slice (some ⟨flb,0,none⟩) (Fi.nV p) flc,.slice (some ⟨fmb,0,none⟩) (Fi.nV p) fmc,.int .i64 ((Fi.fs p).2:Nat)] 37)
  have HF0:=FB.new (lc:=flc) (mc:=fmc) f1 f2 f3
  unfold faC at HF0
  have hB4:=HB.out.trans (k.mono HB.out.size)
  have HB4:=Lib.hid (hB4.trans (AL.mono hB4.size))
  have HT4:=Lib.hid ((HT.out.below k).below AL)
  have HP4:=Lib.hid ((HP.out.below k).below AL)
  have HF4:=Lib.hid HF0
  have hRO:=of10R_any (show PnV _ (.agg #[.slice ta p.terms.length tc,.slice va p.vars.length vc,.slice ra p.rules.length rc,.slice la p.levels.length lc,.slice aa p.assocs.length ac,.slice ca p.acts.length cc]) p from ⟨ta,tc,va,vc,ra,rc,la,lc,aa,ac,ca,cc,rfl,HP4.out.a⟩) HO.out HRL.out
  clear HFC d0 d1 d2 d3 d4 d5 f1 f2 f3 AL HF0 hB4 k HB HT HP
  have d0:=HP4.out.c0
  have d1:=HP4.out.c1
  have d2:=HP4.out.c2
  have d3:=HP4.out.c3
  have d4:=HP4.out.c4
  have d5:=HP4.out.c5
  go_wp2_with fail
  generalize W4.alloc (.cells #[.slice (some ⟨fnb,0,none⟩) (Fi.nV p) (Fi.nV p),.slice (some ⟨flb,0,none⟩) (Fi.nV p) flc,.slice (some ⟨fmb,0,none⟩) (Fi.nV p) fmc,.int .i64 ((Fi.fs p).2:Nat)] 37)=V1 at HB4 HT4 HP4 HF4 hRO d0 d1 d2 d3 d4 d5 ⊢
  generalize W4.heap.size=fb at HF4 ⊢
  refine hRO.mono ?_
  rintro e V ⟨rf,rnb,rfb,rgb,rfc,rgc,rpt,rfl,hfa,k⟩
  have HP:=Lib.hid (HP4.out.below k)
  have HF:=Lib.hid (HF4.out.below k)
  have HT:=Lib.hid (HT4.out.below k)
  have HB:=Lib.hid (HB4.out.trans (k.mono HB4.out.size))
  obtain ⟨rB,hrB⟩:∃ rB,rB=V1.heap.size:=⟨_,rfl⟩
  rw [← hrB] at hfa
  have HA:=Lib.hid hfa
  clear hRO k d0 d1 d2 d3 d4 d5 HB4 HT4 HP4 HF4 hfa hrB
  have hnb:=HO.out.nb
  have hmb:=HO.out.m
  have hnV:Fi.nV p=p.vars.length+1:=rfl
  have hV:∀ W,Below V.heap.size V W→PnV W (.agg #[.slice ta p.terms.length tc,.slice va p.vars.length vc,.slice ra p.rules.length rc,.slice la p.levels.length lc,.slice aa p.assocs.length ac,.slice ca p.acts.length cc]) p:=fun W k=>⟨ta,tc,va,vc,ra,rc,la,lc,aa,ac,ca,cc,rfl,HP.out.a.below k⟩
  have hwh:=fun z:Wd V.heap.size V=>whole10_any (w:=z.w) (HF.out.below z.ok).v (hV z.w z.ok) (by omega)
  have y0:=fun z:Wd V.heap.size V=>(HP.out.below z.ok).c0
  have y1:=fun z:Wd V.heap.size V=>(HP.out.below z.ok).c1
  have y2:=fun z:Wd V.heap.size V=>(HP.out.below z.ok).c2
  have y3:=fun z:Wd V.heap.size V=>(HP.out.below z.ok).c3
  have y4:=fun z:Wd V.heap.size V=>(HP.out.below z.ok).c4
  have y5:=fun z:Wd V.heap.size V=>(HP.out.below z.ok).c5
  have z0:=fun z:Wd V.heap.size V=>(HF.out.below z.ok).c0
  have z1:=fun z:Wd V.heap.size V=>(HF.out.below z.ok).c1
  have z2:=fun z:Wd V.heap.size V=>(HF.out.below z.ok).c2
  have z3:=fun z:Wd V.heap.size V=>(HF.out.below z.ok).c3
  have x3:=fun z:Wd V.heap.size V=>(HA.out.below z.ok).c3
  go_wp2_with fail
  refine region_cls V.heap.size (by kernel_rfl) (by kernel_rfl) ?_
  repeat (go_big_quiet_step (first | (go_at_call 18; exact calls_cls _ (Nat.le_refl _) (hwh _))))
  refine wpQuiet_nil ?_
  intro z
  have HW0:=Lib.hid z.ok
  generalize z.w=V2 at HW0 ⊢
  clear z hwh y0 y1 y2 y3 y4 y5 z0 z1 z2 z3 x3
  go_wp2_with fail
  go_loopg [12] (Fi.nV p) (fun gk iv wr=>∃ i:Nat,iv=.int .i64 i∧i≤Fi.nV p∧Hid (gk+i=Fi.nV p)∧Hid (Below V.heap.size V wr))
  case atStart=>exact ⟨0,rfl,by omega,Lib.hid (by omega),HW0⟩
  case round =>
   clear HW0
   obtain ⟨i,rfl,hi,HK,HW⟩:=hrel
   have x0:=(HA.out.below HW.out).c0
   by_cases hlt:i < Fi.nV p
   ·have hlt2:Fi.nV p+i < 2*Fi.nV p:=by omega
    have hlt1:i < 2*Fi.nV p:=by omega
    obtain ⟨fa,fc,m1,m2⟩:=HF.out.fst hlt
    obtain ⟨ga,gc,m3,m4⟩:=HF.out.fol hlt
    have e1:=HA.out.bam.set i hlt1
    rw [vv_lt hlt] at e1
    have e2:=HA.out.bam.set _ hlt2
    rw [vv_ge] at e2
    have E1:=Lib.hid e1
    have E2:=Lib.hid e2
    have M2:=Lib.hid m2
    have M4:=Lib.hid m4
    obtain ⟨L1,hL1⟩:∃ L1,L1=natI (Bs.lst (Fi.nT p) ((Fi.fs p).1.fst i)):=⟨_,rfl⟩
    obtain ⟨L2,hL2⟩:∃ L2,L2=natI (Bs.lst (Fi.nT p) (Fi.fol p i)):=⟨_,rfl⟩
    have hm1:L1.length≤maxLen:=by rw [hL1]; exact lst_max (nT_le HO.out)
    have hm2:L2.length≤maxLen:=by rw [hL2]; exact lst_max (nT_le HO.out)
    have HM:=Lib.hid (And.intro hm1 hm2)
    rw [← hL1] at m1 M2
    rw [← hL2] at m3 M4
    have hC1:∀ W,Below V.heap.size V W→Calls Tryd.prog 26 #[.slice (some ⟨rpt i,0,none⟩) (Fi.nT p) (Fi.nT p)] W fun e w'=>∃ v,e=.returned v∧∃ a cap,v=.slice a L1.length cap∧Ints w' a L1∧Below W.heap.size W w':=fun W k =>
     (list10_any (w:=W) (Brr.below E1.out k) (nT_le HO.out)).mono fun e w' ⟨a,cap,q1,q2,q3⟩=>by rw [← hL1] at q1 q2; exact ⟨_,q1,a,cap,rfl,q2,q3⟩
    have hC2:∀ W,Below V.heap.size V W→Calls Tryd.prog 26 #[.slice (some ⟨rpt (Fi.nV p+i),0,none⟩) (Fi.nT p) (Fi.nT p)] W fun e w'=>∃ v,e=.returned v∧∃ a cap,v=.slice a L2.length cap∧Ints w' a L2∧Below W.heap.size W w':=fun W k =>
     (list10_any (w:=W) (Brr.below E2.out k) (nT_le HO.out)).mono fun e w' ⟨a,cap,q1,q2,q3⟩=>by rw [← hL2] at q1 q2; exact ⟨_,q1,a,cap,rfl,q2,q3⟩
    have HC1:=Lib.hid hC1
    have HC2:=Lib.hid hC2
    have kk:=fun z:Wd wr.heap.size wr=>HW.out.trans (z.ok.mono HW.out.size)
    have KK:=Lib.hid kk
    have z0:=fun z:Wd wr.heap.size wr=>(HF.out.below (KK.out z)).c0
    have z1:=fun z:Wd wr.heap.size wr=>(HF.out.below (KK.out z)).c1
    have z2:=fun z:Wd wr.heap.size wr=>(HF.out.below (KK.out z)).c2
    have zn:=fun z:Wd wr.heap.size wr=>(HF.out.below (KK.out z)).n.cell hlt
    have zf:=fun z:Wd wr.heap.size wr=>((bcell (KK.out z)).1 _ _ (World.block_lt_of_cell? V _ m1)).trans m1
    have zg:=fun z:Wd wr.heap.size wr=>((bcell (KK.out z)).1 _ _ (World.block_lt_of_cell? V _ m3)).trans m3
    have u0:=fun z:Wd wr.heap.size wr=>(HA.out.below (KK.out z)).c0
    have u1:=fun z:Wd wr.heap.size wr=>(HA.out.below (KK.out z)).c1
    have u2:=fun z:Wd wr.heap.size wr=>(HA.out.below (KK.out z)).c2
    have un:=fun z:Wd wr.heap.size wr=>(HA.out.below (KK.out z)).n.cell hlt
    have uf:=fun z:Wd wr.heap.size wr=>(HA.out.below (KK.out z)).sf.cell hlt
    have ug:=fun z:Wd wr.heap.size wr=>(HA.out.below (KK.out z)).sg.cell hlt
    clear kk e1 e2 m1 m2 m3 m4 hL1 hL2 hm1 hm2 hC1 hC2
    generalize (Fi.fs p).1.null i=nl at zn un
    go_wp2_with fail
    clear x0
    refine region_g2 [0,1,2,3,4,5,6,7,8,9,10,11,12,13,14,15,16,17,18,19,20,21,22,23,24,25] [26,27,28,29,30] [31,32,33,34,35,36,37,38,39,40,41,42] [43,44,45,46] 135 wr.heap.size ?A (fun c a d v w h=>by cases d<;>exact h) (Nat.le_refl _) (by kernel_rfl) (by kernel_rfl) (by rfl) ?hh ?ht
    case hh =>
     intro z
     simp only [pickL,List.getElem?_cons_zero,List.getElem?_cons_succ]
     repeat (go_big_quiet_step (fail))
     refine wpQuiet_nil ?_
     exact rfl
    case ht =>
     have kd:Below wr.heap.size wr wr.drew:=(Below.refl _ _).drew
     clear z0 z1 z2 zn zf u1 un uf
     simp only [pickL,List.getElem?_cons_zero,List.getElem?_cons_succ]
     refine listM_wpG (by simp [Region.wanted,yielded]) ?_
     refine op_callE1 26 Tryd.call26 _ _ (by rfl) _ (by rfl) _ (HC1.out wr.drew (HW.out.trans (kd.mono HW.out.size))) ?_
     rintro v w1 ⟨a1,cap1,rfl,hi1,k1⟩
     have K1:=Lib.hid (kd.trans (k1.mono kd.size))
     have HI1:=Lib.hid hi1
     clear hi1 k1 kd
     refine ⟨⟨⟨w1,K1.out⟩,rfl⟩,?_⟩
     simp only [Act.put,List.setIfInBounds_toArray,List.set_cons_succ,List.set_cons_zero]
     refine listM_wpG (by simp [Region.wanted,yielded]) ?_
     have hin:=ints_any fa a1 L1 L1 fc cap1 w1 (M2.out.below (HW.out.trans (K1.out.mono HW.out.size))) HI1.out HM.out.1 HM.out.1
     rw [show eqI L1 L1=true by unfold eqI; simp] at hin
     refine op_callE2 25 Tryd.call25 _ _ _ (by rfl) _ _ (by rfl) (by rfl) (fun v w'=>v=.bool true∧Below w1.heap.size w1 w') (hin.mono fun e w' ⟨q1,q2⟩=>⟨_,q1,rfl,q2⟩) ?_
     rintro v w2 ⟨rfl,k2⟩
     have K2:=Lib.hid (K1.out.trans (k2.mono K1.out.size))
     clear hin k2 HI1 K1
     refine ⟨⟨⟨w2,K2.out⟩,rfl⟩,?_⟩
     simp only [Act.put,List.setIfInBounds_toArray,List.set_cons_succ,List.set_cons_zero]
     refine listM_quietG ?_
     repeat (go_big_quiet_step (fail))
     refine wpQuiet_nil ?_
     refine ⟨⟨⟨w2,K2.out⟩,rfl⟩,?_⟩
     refine listM_quietG ?_
     repeat (go_big_quiet_step (fail))
     refine wpQuiet_nil ?_
     refine ⟨⟨⟨w2,K2.out⟩,rfl⟩,?_⟩
     refine listM_quietG ?_
     repeat (go_big_quiet_step (fail))
     refine wpQuiet_nil ?_
     refine ⟨⟨⟨w2,K2.out⟩,rfl⟩,?_⟩
     refine listM_end ⟨⟨⟨w2,K2.out⟩,rfl⟩,by rfl,?A2,?hh2,?ht2⟩
     case hh2 =>
      have z2:=fun z:Wd wr.heap.size wr=>(HF.out.below (KK.out z)).c2
      intro z
      repeat (go_big_quiet_step (fail))
      refine wpQuiet_nil ?_
      exact rfl
     case ht2 =>
      clear zg u0 u2 ug
      refine listM_wpG (by simp [Region.wanted,yielded]) ?_
      refine op_callE1 26 Tryd.call26 _ _ (by rfl) _ (by rfl) _ (HC2.out w2 (HW.out.trans (K2.out.mono HW.out.size))) ?_
      rintro v w3 ⟨a2,cap2,rfl,hi2,k3⟩
      have K3:=Lib.hid (K2.out.trans (k3.mono K2.out.size))
      have HI2:=Lib.hid hi2
      clear hi2 k3 K2
      refine ⟨⟨⟨w3,K3.out⟩,rfl⟩,?_⟩
      simp only [Act.put,List.setIfInBounds_toArray,List.set_cons_succ,List.set_cons_zero]
      refine listM_wpG (by simp [Region.wanted,yielded]) ?_
      have hin:=ints_any ga a2 L2 L2 gc cap2 w3 (M4.out.below (HW.out.trans (K3.out.mono HW.out.size))) HI2.out HM.out.2 HM.out.2
      rw [show eqI L2 L2=true by unfold eqI; simp] at hin
      refine op_callE2 25 Tryd.call25 _ _ _ (by rfl) _ _ (by rfl) (by rfl) (fun v w'=>v=.bool true∧Below w3.heap.size w3 w') (hin.mono fun e w' ⟨q1,q2⟩=>⟨_,q1,rfl,q2⟩) ?_
      rintro v w4 ⟨rfl,k4⟩
      have K4:=Lib.hid (K3.out.trans (k4.mono K3.out.size))
      have HW4:=Lib.hid (HW.out.trans (K4.out.mono HW.out.size))
      clear hin k4 HI2 K3
      refine ⟨⟨⟨w4,K4.out⟩,rfl⟩,?_⟩
      simp only [Act.put,List.setIfInBounds_toArray,List.set_cons_succ,List.set_cons_zero]
      refine listM_quietG ?_
      repeat (go_big_quiet_step (fail))
      refine wpQuiet_nil ?_
      refine ⟨⟨⟨w4,K4.out⟩,rfl⟩,?_⟩
      refine listM_quietG ?_
      repeat (go_big_quiet_step (fail))
      refine wpQuiet_nil ?_
      refine ⟨⟨⟨w4,K4.out⟩,rfl⟩,?_⟩
      refine listM_end ?_
      show Exit.then _ _ Exit.normal _ _
      go_wp2_with fail
      go_roundg (Fi.nV p - (i+1))
      case measure=>have:=HK.out; omega
      case rel=>exact ⟨i+1,by go_num,by omega,Lib.hid (by omega),HW4⟩
   ·obtain rfl:i=Fi.nV p:=by omega
    clear hlt HK
    have hsq:=seq10_any (w:=wr) (fv:=.agg #[.slice (some ⟨fnb,0,none⟩) (Fi.nV p) (Fi.nV p),.slice (some ⟨flb,0,none⟩) (Fi.nV p) flc,.slice (some ⟨fmb,0,none⟩) (Fi.nV p) fmc,.int .i64 ((Fi.fs p).2:Nat)]) (v:=.agg #[.slice ta p.terms.length tc,.slice va p.vars.length vc,.slice ra p.rules.length rc,.slice la p.levels.length lc,.slice aa p.assocs.length ac,.slice ca p.acts.length cc]) (nc:=qc) (HF.out.below HW.out).v (hV wr HW.out) HO.out ((HSQ.out.below HB.out).below HW.out) (by omega) HSX.out (HT.out.below HW.out)
    have hFW:=HF.out.below HW.out
    have g0:=hFW.c0
    have g1:=hFW.c1
    have g2:=hFW.c2
    have g3:=hFW.c3
    have hPW:=HP.out.below HW.out
    have d0:=hPW.c0
    have d1:=hPW.c1
    have d2:=hPW.c2
    have d3:=hPW.c3
    have d4:=hPW.c4
    have d5:=hPW.c5
    obtain ⟨q,hq⟩:∃ q,q=Fi.beg (Fi.nT p) (Q.cnt p) (Fi.fs p).1 sq 0:=⟨_,rfl⟩
    rw [← hq] at hsq
    have HQ:=Lib.hid hq
    clear hFW hPW hq
    go_wp2_with fail
    refine hsq.mono ?_
    rintro e W5 ⟨a5,cap5,rfl,hi5,k5⟩
    have HW5:=Lib.hid (HW.out.trans (k5.mono HW.out.size))
    have HI5:=Lib.hid hi5
    have hbg:=begin10_any (w:=W5) (nc:=qc) (HA.out.below HW5.out) (hV W5 HW5.out) HO.out ((HSQ.out.below HB.out).below HW5.out) (by omega) HSX.out
    rw [Fi.beg_vv,← HQ.out] at hbg
    clear hsq hi5 k5 g0 g1 g2 g3 d0 d1 d2 d3 d4 d5 x0 HW
    have hPW:=HP.out.below HW5.out
    have d0:=hPW.c0
    have d1:=hPW.c1
    have d2:=hPW.c2
    have d3:=hPW.c3
    have d4:=hPW.c4
    have d5:=hPW.c5
    clear hPW
    go_wp2_with fail
    refine hbg.mono ?_
    rintro e W6 ⟨ro,rfl,h6,h7,h8,k6⟩
    have HW6:=Lib.hid (HW5.out.trans (k6.mono HW5.out.size))
    have HI6:=Lib.hid (HI5.out.below k6)
    obtain ⟨L,hL⟩:∃ L,L=natI (Bs.lst (Fi.nT p) q.1):=⟨_,rfl⟩
    have hm1:L.length≤maxLen:=by rw [hL]; exact lst_max (nT_le HO.out)
    have hli:=list10_any (c:=Fi.nT p) h6 (nT_le HO.out)
    rw [← hL] at hli HI6 ⊢
    have HM:=Lib.hid hm1
    obtain ⟨X,nn⟩:=q
    clear hbg h6 h7 h8 k6 d0 d1 d2 d3 d4 d5 HW5 HI5 hL hm1 HQ
    go_wp2_with fail
    refine hli.mono ?_
    rintro e W7 ⟨a7,cap7,rfl,hi7,k7⟩
    have HW7:=Lib.hid (HW6.out.trans (k7.mono HW6.out.size))
    have hin:=ints_any a5 a7 L L cap5 cap7 W7 (HI6.out.below k7) hi7 HM.out HM.out
    rw [show eqI L L=true by unfold eqI; simp] at hin
    clear hli hi7 k7 HI6 HW6
    go_wp2_with fail
    refine hin.mono ?_
    rintro e W8 ⟨rfl,k8⟩
    have HW8:=Lib.hid (HW7.out.trans (k8.mono HW7.out.size))
    clear hin k8 HW7
    go_wp2_with fail
    go_ret
    exact ⟨rfl,HB.out.trans (HW8.out.mono HB.out.size)⟩
end Go.Proofs.YtjbggogbnckllaaDoor
