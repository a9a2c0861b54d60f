/-
  The walk of the law CheckTells.
-/
import Derived.Test.YtjbggogbnckllaaDoorZy
import Derived.Test.YtjbggogbnckllaaDoorZw
import Derived.Test.YtjbggogbnckllaaDoorAs
import Derived.Test.YtjbggogbnckllaaDoorWu
import Derived.Test.YtjbggogbnckllaaDoorAp
import Derived.Test.YtjbggogbnckllaaDoorAo
import Derived.Test.YtjbggogbnckllaaDoorNb
import Derived.Test.YtjbggogbnckllaaDoorRc
import Derived.Test.YtjbggogbnckllaaDoorMv
namespace Go.Proofs.YtjbggogbnckllaaDoor
open Go.RowKit
set_option linter.unusedVariables false
set_option linter.unusedSimpArgs false
theorem planT_ok {m:Pl.Sm} (s:ByteArray) (hf:Pl.few m 20 8=true):Q.OK (planT m s)∧Q.cnt (planT m s)≤62∧(planT m s).rules.length≤41∧∀ r ∈ (planT m s).rules,r.right.length≤8:=by
 unfold planT
 by_cases hc:(Rd.read s).2.code=0∧(Pl.of (Rd.read s).1).2.1=0
 ·rw [if_pos hc]
  have h:Pl.of (Rd.read s).1=((Pl.of (Rd.read s).1).1,0,(Pl.of (Rd.read s).1).2.2):=by rw [← hc.2]
  exact ⟨Q.ok_of h,Q.cnt_of h,(Q.rules_of h).1,(Q.rules_of h).2⟩
 ·rw [if_neg hc]
  exact Q.plan_ok hf
section
variable {P:Program} {ops:Array Oper} {D:World→Prop} {R:Act→World→Prop} {o:Oper} {rest:List Oper} {a:Act} {w:World} {Q:Exit→Act→World→Prop} {e:Nat}
theorem listM_wpG (hw:Region.wanted o (yielded ops a.tmps)=true) (h:o.wp P a w (fun a' w'=>D w'∧wpListM P ops Q D R e rest a' w') Q):wpListM P ops Q D R (e+1) (o::rest) a w:=by
 rw [wpListM,if_pos hw]; exact h
theorem listM_end (h:R a w):wpListM P ops Q D R e [] a w:=by cases e<;>exact h
theorem listM_quietG (h:wpQuiet P ops (fun w'=>w'=w) (fun a'=>D w∧wpListM P ops Q D R e rest a' w) [o] a):wpListM P ops Q D R (e+1) (o::rest) a w:=by
 rw [wpListM]
 rw [wpQuiet] at h
 split
 ·rename_i hw
  rw [if_pos hw] at h
  obtain ⟨v,h1,h2⟩:=h
  exact Oper.wp_of_quiet (C:=fun w'=>w'=w) (K:=fun a'=>D w∧wpListM P ops Q D R e rest a' w) rfl (fun a' w' e hk=>by rw [e]; exact hk) ⟨v,fun w1 e=>by rw [e]; exact h1 w rfl,h2⟩
 ·rename_i hw
  rw [if_neg hw] at h
  exact h
end
theorem Q.sent_le {p:Pl.Plan} (h:Q.OK p) (i:Int):(Q.sent p i).length≤1000:=by
 unfold Q.sent
 split
 ·simp
 ·rename_i hc
  obtain ⟨tm,ht,T⟩:=Q.lens_by h
  have h1:=(Q.sentF_len h T (Q.lenF p) i.toNat (ht _) (by omega) (by unfold Q.M; omega)).1
  omega
set_option maxRecDepth 100000 in
set_option maxHeartbeats 16000000 in
theorem tells9_law {w:World} {v:Value} {m:Pl.Sm} {tx:ByteArray} {sy:Int} (h:SmV w v m) (hz:SmSz m) (hT:Tab w)  :
  Calls Tryd.prog 9 #[v,.string tx,.int .i64 sy] w fun e w'=>e=.returned (.bool true)∧Below w.heap.size w w':=by
 obtain ⟨sla,sra,spa,saa,sva,slc,src,spc,sac,svc,rfl,h⟩:=h
 have HS:=SB.new (lc:=slc) (rc:=src) (pc:=spc) (ac:=sac) (vc:=svc) h
 have k:=(Below.refl w.heap.size w).alloc (Nat.le_refl _) (.cells (smC m sla sra spa saa sva slc src spc sac svc) 25)
 have HT0:=Lib.hid (hT.below k)
 have HB0:=Lib.hid k
 unfold smC at HS HB0 HT0 ⊢
 have HS0:=Lib.hid HS
 
 clear HS k h hT
 go_enter Tryd.func9,Tryd.ntmps9
 go_wp2_with fail
 generalize w.alloc (.cells #[.int .u8 (m.tokens:Nat),.int .u8 (m.vars:Nat),.slice sla m.lefts.length slc,.slice sra m.rights.length src,.slice spa m.precs.length spc,.slice saa m.assocs.length sac,.slice sva m.levels.length svc] 25)=W at HS0 HB0 HT0  ⊢
 refine (awake09_any W HT0.out).mono ?_
 rintro e W1 ⟨rfl,k⟩
 have HT1:=Lib.hid (HT0.out.below k)
 have HB1:=Lib.hid (HB0.out.trans (k.mono HB0.out.size))
 have HS1:=Lib.hid (HS0.out.below k)
 have HFW:=few_any 20 8 (w:=W1) (v:=.agg #[.int .u8 (m.tokens:Nat),.int .u8 (m.vars:Nat),.slice sla m.lefts.length slc,.slice sra m.rights.length src,.slice spa m.precs.length spc,.slice saa m.assocs.length sac,.slice sva m.levels.length svc]) ⟨sla,sra,spa,saa,sva,slc,src,spc,sac,svc,rfl,HS1.out.a⟩ hz (by omega) (by omega)
 have c0:=HS1.out.c0
 have c1:=HS1.out.c1
 have c2:=HS1.out.c2
 have c3:=HS1.out.c3
 have c4:=HS1.out.c4
 have c5:=HS1.out.c5
 have c6:=HS1.out.c6
 clear HT0 HB0 HS0 k
 go_wp2_with fail
 refine HFW.mono ?_
 rintro e W2 ⟨rfl,k⟩
 have HT2:=Lib.hid (HT1.out.below k)
 have HB2:=Lib.hid (HB1.out.trans (k.mono HB1.out.size))
 have HS2:=Lib.hid (HS1.out.below k)
 clear HFW k HT1 HB1 HS1 c0 c1 c2 c3 c4 c5 c6
 cases hf:Pl.few m 20 8
 case false =>
  go_wp2_with fail
  go_ret
  exact ⟨rfl,HB2.out⟩
 case true =>
  rcases Nat.lt_or_ge 600 tx.size with h6 | h6
  ·have d6:decide (600 < (tx.size:Int))=true:=by simp; omega
   clear hf
   go_wp2_with fail
   go_ret
   exact ⟨rfl,HB2.out⟩
  have d6:decide (600 < (tx.size:Int))=false:=by simp; omega
  have HPN:=of09_any (w:=W2) (s:=tx) (v:=.agg #[.int .u8 (m.tokens:Nat),.int .u8 (m.vars:Nat),.slice sla m.lefts.length slc,.slice sra m.rights.length src,.slice spa m.precs.length spc,.slice saa m.assocs.length sac,.slice sva m.levels.length svc]) ⟨sla,sra,spa,saa,sva,slc,src,spc,sac,svc,rfl,HS2.out.a⟩ hz hf (by omega)
  have hplan:=planT_ok tx hf
  obtain ⟨p,hp⟩:∃ p,p=planT m tx:=⟨_,rfl⟩
  rw [← hp] at HPN hplan
  have HO:=Lib.hid hplan.1
  have HCN:=Lib.hid hplan.2.1
  have HRL:=Lib.hid hplan.2.2.2
  have c0:=HS2.out.c0
  have c1:=HS2.out.c1
  have c2:=HS2.out.c2
  have c3:=HS2.out.c3
  have c4:=HS2.out.c4
  have c5:=HS2.out.c5
  have c6:=HS2.out.c6
  clear hplan hp hf
  go_wp2_with fail
  clear d6
  refine HPN.mono ?_
  rintro e W3 ⟨pv,rfl,hpv,k⟩
  obtain ⟨ta,tc,va,vc,ra,rc,la,lc,aa,ac,ca,cc,rfl,hpa⟩:=hpv
  have AL:=(Below.refl W3.heap.size W3).alloc (Nat.le_refl _) (.cells #[.slice ta p.terms.length tc,.slice va p.vars.length vc,.slice ra p.rules.length rc,.slice la p.levels.length lc,.slice aa p.assocs.length ac,.slice ca p.acts.length cc] 32)
  have HP0:=PB.new (tc:=tc) (vc:=vc) (rc:=rc) (lc:=lc) (ac:=ac) (cc:=cc) hpa
  unfold pnC at HP0
  have HP:=Lib.hid HP0
  have hB3:=HB2.out.trans (k.mono HB2.out.size)
  have HB:=Lib.hid (hB3.trans (AL.mono hB3.size))
  have HT:=Lib.hid ((HT2.out.below k).below AL)
  clear HPN k AL HP0 hpa hB3 HT2 HB2 HS2 c0 c1 c2 c3 c4 c5 c6
  have hnb:=HO.out.nb
  have hmb:=HO.out.m
  have hcnt:Q.cnt p≤1000:=by have:=HCN.out; omega
  have hc1:=check_any (w:=_) (v:=.agg #[.slice ta p.terms.length tc,.slice va p.vars.length vc,.slice ra p.rules.length rc,.slice la p.levels.length lc,.slice aa p.assocs.length ac,.slice ca p.acts.length cc]) ⟨ta,tc,va,vc,ra,rc,la,lc,aa,ac,ca,cc,rfl,HP.out.a⟩ HO.out hcnt HT.out
  have d0:=HP.out.c0
  have d1:=HP.out.c1
  have d2:=HP.out.c2
  have d3:=HP.out.c3
  have d4:=HP.out.c4
  have d5:=HP.out.c5
  go_wp2_with fail
  generalize W3.alloc (.cells #[.slice ta p.terms.length tc,.slice va p.vars.length vc,.slice ra p.rules.length rc,.slice la p.levels.length lc,.slice aa p.assocs.length ac,.slice ca p.acts.length cc] 32)=V at HP HB HT hc1 d0 d1 d2 d3 d4 d5 ⊢
  generalize W3.heap.size=pb at HP d0 d1 d2 d3 d4 d5 ⊢
  have hV:∀ X,Below V.heap.size V X→PnV X (.agg #[.slice ta p.terms.length tc,.slice va p.vars.length vc,.slice ra p.rules.length rc,.slice la p.levels.length lc,.slice aa p.assocs.length ac,.slice ca p.acts.length cc]) p:=fun X k=>⟨ta,tc,va,vc,ra,rc,la,lc,aa,ac,ca,cc,rfl,HP.out.a.below k⟩
  obtain ⟨cx,hcx⟩:∃ cx,cx=(Q.check p).1:=⟨_,rfl⟩
  obtain ⟨cy,hcy⟩:∃ cy,cy=(Q.check p).2:=⟨_,rfl⟩
  have HCX:=Lib.hid (And.intro hcx hcy)
  rw [← hcx,← hcy] at hc1
  clear hcx hcy
  refine hc1.mono ?_
  rintro e V1 ⟨rfl,k⟩
  have K1:=Lib.hid k
  have hc2:=checkR_any (hV V1 k) HO.out
  rw [← HCX.out.1,← HCX.out.2] at hc2
  clear hc1 k d0 d1 d2 d3 d4 d5
  have d0:=(HP.out.below K1.out).c0
  have d1:=(HP.out.below K1.out).c1
  have d2:=(HP.out.below K1.out).c2
  have d3:=(HP.out.below K1.out).c3
  have d4:=(HP.out.below K1.out).c4
  have d5:=(HP.out.below K1.out).c5
  go_wp2_with fail
  refine hc2.mono ?_
  rintro e V2 ⟨rfl,k⟩
  have K2:=Lib.hid (K1.out.trans (k.mono K1.out.size))
  clear hc2 k d0 d1 d2 d3 d4 d5 K1
  have hc3:=productive_any (hV V2 K2.out) HO.out
  have d0:=(HP.out.below K2.out).c0
  have d1:=(HP.out.below K2.out).c1
  have d2:=(HP.out.below K2.out).c2
  have d3:=(HP.out.below K2.out).c3
  have d4:=(HP.out.below K2.out).c4
  have d5:=(HP.out.below K2.out).c5
  go_wp2_with fail
  refine hc3.mono ?_
  rintro e V3 ⟨a3,q3,rfl,hi3,k⟩
  have K3:=Lib.hid (K2.out.trans (k.mono K2.out.size))
  have I3:=Lib.hid hi3
  clear hc3 k d0 d1 d2 d3 d4 d5 K2 hi3
  have hc4:=reachable_any (hV V3 K3.out) HO.out hcnt (HT.out.below K3.out)
  have d0:=(HP.out.below K3.out).c0
  have d1:=(HP.out.below K3.out).c1
  have d2:=(HP.out.below K3.out).c2
  have d3:=(HP.out.below K3.out).c3
  have d4:=(HP.out.below K3.out).c4
  have d5:=(HP.out.below K3.out).c5
  go_wp2_with fail
  refine hc4.mono ?_
  rintro e V4 ⟨a4,q4,rfl,hi4,k⟩
  have K4:=Lib.hid (K3.out.trans (k.mono K3.out.size))
  have I3b:=Lib.hid (I3.out.below k)
  have I4:=Lib.hid hi4
  clear hc4 k d0 d1 d2 d3 d4 d5 K3 hi4 I3
  have hc5:=shortest_any (hV V4 K4.out) HO.out
  have d0:=(HP.out.below K4.out).c0
  have d1:=(HP.out.below K4.out).c1
  have d2:=(HP.out.below K4.out).c2
  have d3:=(HP.out.below K4.out).c3
  have d4:=(HP.out.below K4.out).c4
  have d5:=(HP.out.below K4.out).c5
  go_wp2_with fail
  refine hc5.mono ?_
  rintro e V5 ⟨g5,rfl,ha5,-,k⟩
  have K5:=Lib.hid (K4.out.trans (k.mono K4.out.size))
  have I3c:=Lib.hid (I3b.out.below k)
  have I4b:=Lib.hid (I4.out.below k)
  have I5:=Lib.hid ha5.ints
  clear hc5 k d0 d1 d2 d3 d4 d5 K4 ha5 I3b I4
  have hc6:=lengths9_any (hV V5 K5.out) HO.out
  have d0:=(HP.out.below K5.out).c0
  have d1:=(HP.out.below K5.out).c1
  have d2:=(HP.out.below K5.out).c2
  have d3:=(HP.out.below K5.out).c3
  have d4:=(HP.out.below K5.out).c4
  have d5:=(HP.out.below K5.out).c5
  go_wp2_with fail
  refine hc6.mono ?_
  rintro e V6 ⟨g6,q6,g7,q7,rfl,ha6,-,k⟩
  have K6:=Lib.hid (K5.out.trans (k.mono K5.out.size))
  have I3d:=Lib.hid (I3c.out.below k)
  have I4c:=Lib.hid (I4b.out.below k)
  have I5b:=Lib.hid (I5.out.below k)
  have I6:=Lib.hid ha6.ints
  clear hc6 k d0 d1 d2 d3 d4 d5 K5 ha6 I3c I4b I5
  generalize hLP:Q.ofB (Q.prodB p) (Q.cnt p)=LP at I3d ⊢
  generalize hLR:Q.ofB (Q.come p) (Q.cnt p)=LR at I4c ⊢
  have HLP:=Lib.hid (And.intro hLP hLR)
  have hl1:LP.length≤maxLen:=by rw [← hLP]; have:=Q.ofB_len (Q.prodB p) (Q.cnt p); unfold maxLen; omega
  have hl2:LR.length≤maxLen:=by rw [← hLR]; have:=Q.ofB_len (Q.come p) (Q.cnt p); unfold maxLen; omega
  have HML:=Lib.hid (And.intro hl1 hl2)
  clear hLP hLR hl1 hl2
  go_wp2_with fail
  go_loopg [19] (Q.cnt p+2) (fun gk iv wr=>∃ k:Nat,iv=.int .i64 ((k:Nat) - 1:Int)∧k≤Q.cnt p+2∧Hid (gk+k=Q.cnt p+2)∧Hid (Below V6.heap.size V6 wr))
  case atStart=>exact ⟨0,by rfl,by omega,Lib.hid (by omega),Lib.hid (Below.refl _ _)⟩
  case round =>
   obtain ⟨k,rfl,hk,HK,HW⟩:=hrel
   have HVW:=Lib.hid (K6.out.trans (HW.out.mono K6.out.size))
   have hct:=count_any (hV wr HVW.out) hnb hmb
   have d0:=(HP.out.below HVW.out).c0
   have d1:=(HP.out.below HVW.out).c1
   have d2:=(HP.out.below HVW.out).c2
   have d3:=(HP.out.below HVW.out).c3
   have d4:=(HP.out.below HVW.out).c4
   have d5:=(HP.out.below HVW.out).c5
   obtain ⟨iv,hiv⟩:∃ iv:Int,iv=((k:Nat):Int) - 1:=⟨_,rfl⟩
   have hiv1:-1≤iv:=by omega
   have hiv2:iv≤1100:=by omega
   rw [← hiv]
   have HIV:=Lib.hid hiv
   clear hiv
   go_wp2_with fail
   refine hct.mono ?_
   rintro e w1 ⟨rfl,kb⟩
   have HW1:=Lib.hid (HW.out.trans (kb.mono HW.out.size))
   have HVW1:=Lib.hid (HVW.out.trans (kb.mono HVW.out.size))
   clear hct kb d0 d1 d2 d3 d4 d5 HW HVW
   by_cases hlt:k≤Q.cnt p+1
   ·have e1:decide (iv≤((Q.cnt p:Nat):Int))=true:=by have:=HIV.out; simp; omega
    have kk:=fun z:Wd w1.heap.size w1=>HVW1.out.trans (z.ok.mono HVW1.out.size)
    have KK:=Lib.hid kk
    have y0:=fun z:Wd w1.heap.size w1=>(HP.out.below (KK.out z)).c0
    have y1:=fun z:Wd w1.heap.size w1=>(HP.out.below (KK.out z)).c1
    have y2:=fun z:Wd w1.heap.size w1=>(HP.out.below (KK.out z)).c2
    have y3:=fun z:Wd w1.heap.size w1=>(HP.out.below (KK.out z)).c3
    have y4:=fun z:Wd w1.heap.size w1=>(HP.out.below (KK.out z)).c4
    have y5:=fun z:Wd w1.heap.size w1=>(HP.out.below (KK.out z)).c5
    have hsl:(Q.sent p iv).length≤maxLen:=by have:=Q.sent_le HO.out iv; unfold maxLen; omega
    have HSL:=Lib.hid hsl
    clear kk hsl
    go_wp2_with fail
    refine region_gn [([0,1,3,4],[2,5,6,7])] 106 w1.heap.size (fun c a d v w h=>by cases d<;>exact h) (Nat.le_refl _) (by kernel_rfl) (by kernel_rfl) ?_
    have kd:=Lib.hid (show Below w1.heap.size w1 w1.drew from (Below.refl _ _).drew)
    refine ⟨by rfl,?rA,?rhh,?rht⟩
    case rhh =>
     rintro W' ⟨z,rfl⟩
     simp only [pickL,List.getElem?_cons_zero,List.getElem?_cons_succ]
     repeat (go_big_quiet_step (fail))
     refine wpQuiet_nil ?_
     exact rfl
    case rht =>
     simp only [pickL,List.getElem?_cons_zero,List.getElem?_cons_succ]
     refine listM_wpG (by simp [Region.wanted,yielded]) ?_
     have hcall:=sentence9_any iv (hV w1.drew (HVW1.out.trans (kd.out.mono HVW1.out.size))) HO.out
     refine op_callE2 37 Tryd.call37 _ _ _ (by rfl) _ _ (by rfl) (by rfl) (fun v w'=>∃ na nc,v=.slice na (Q.sent p iv).length nc∧Ints w' na (Q.sent p iv)∧Below w1.drew.heap.size w1.drew w') (hcall.mono fun e w' ⟨na,nc,q1,q2,q3⟩=>⟨_,q1,na,nc,rfl,q2,q3⟩) ?_
     rintro v w101 ⟨na,nac,rfl,hi,kx⟩
     have L101:=Lib.hid (kd.out.trans (kx.mono kd.out.size))
     have Jna:=Lib.hid hi
     clear hcall hi kx
     refine ⟨⟨⟨w101,L101.out⟩,rfl⟩,?_⟩
     simp only [Act.put,List.setIfInBounds_toArray,List.set_cons_succ,List.set_cons_zero]
     refine listM_wpG (by simp [Region.wanted,yielded]) ?_
     have hcall:=sentenceR_any iv (hV w101 (HVW1.out.trans (L101.out.mono HVW1.out.size))) HO.out
     refine op_callE2 20 Tryd.call20 _ _ _ (by rfl) _ _ (by rfl) (by rfl) (fun v w'=>∃ na nc,v=.slice na (Q.sent p iv).length nc∧Ints w' na (Q.sent p iv)∧Below w101.heap.size w101 w') (hcall.mono fun e w' ⟨na,nc,q1,q2,q3⟩=>⟨_,q1,na,nc,rfl,q2,q3⟩) ?_
     rintro v w102 ⟨nb,nbc,rfl,hi,kx⟩
     have L102:=Lib.hid (L101.out.trans (kx.mono L101.out.size))
     replace Jna:=Lib.hid (Jna.out.below kx)
     have Jnb:=Lib.hid hi
     clear hcall hi kx
     refine ⟨⟨⟨w102,L102.out⟩,rfl⟩,?_⟩
     simp only [Act.put,List.setIfInBounds_toArray,List.set_cons_succ,List.set_cons_zero]
     refine listM_wpG (by simp [Region.wanted,yielded]) ?_
     have hin:=ints_any (na) (nb) (Q.sent p iv) (Q.sent p iv) (nac) (nbc) w102 (Jna.out) (Jnb.out) (HSL.out) (HSL.out)
     rw [show eqI (Q.sent p iv) (Q.sent p iv)=true by unfold eqI; simp] at hin
     refine op_callE2 25 Tryd.call25 _ _ _ (by rfl) _ _ (by rfl) (by rfl) (fun v w'=>v=.bool true∧Below w102.heap.size w102 w') (hin.mono fun e w' ⟨q1,q2⟩=>⟨_,q1,rfl,q2⟩) ?_
     rintro v w103 ⟨rfl,kx⟩
     have L103:=Lib.hid (L102.out.trans (kx.mono L102.out.size))
     replace Jna:=Lib.hid (Jna.out.below kx)
     replace Jnb:=Lib.hid (Jnb.out.below kx)
     clear hin kx
     refine ⟨⟨⟨w103,L103.out⟩,rfl⟩,?_⟩
     simp only [Act.put,List.setIfInBounds_toArray,List.set_cons_succ,List.set_cons_zero]
     refine listM_quietG ?_
     repeat (go_big_quiet_step (fail))
     refine wpQuiet_nil ?_
     refine ⟨⟨⟨w103,L103.out⟩,rfl⟩,?_⟩
     refine listM_end ⟨⟨⟨w103,L103.out⟩,rfl⟩,?_⟩
     have HWF:=Lib.hid (HW1.out.trans (L103.out.mono HW1.out.size))
     show Exit.then _ _ Exit.normal _ _
     go_wp2_with fail
     go_roundg (Q.cnt p+2 - (k+1))
     case measure=>have:=HK.out; omega
     case rel=>exact ⟨k+1,by have:=HIV.out; rw [this]; congr 1; push_cast; omega,by omega,Lib.hid (by omega),HWF⟩
   ·obtain rfl:k=Q.cnt p+2:=by omega
    have e1:decide (iv≤((Q.cnt p:Nat):Int))=false:=by have:=HIV.out; simp; omega
    have y0:=fun z:Wd w1.heap.size w1=>(HP.out.below (HVW1.out.trans (z.ok.mono HVW1.out.size))).c0
    have y1:=fun z:Wd w1.heap.size w1=>(HP.out.below (HVW1.out.trans (z.ok.mono HVW1.out.size))).c1
    have y2:=fun z:Wd w1.heap.size w1=>(HP.out.below (HVW1.out.trans (z.ok.mono HVW1.out.size))).c2
    have y3:=fun z:Wd w1.heap.size w1=>(HP.out.below (HVW1.out.trans (z.ok.mono HVW1.out.size))).c3
    have y4:=fun z:Wd w1.heap.size w1=>(HP.out.below (HVW1.out.trans (z.ok.mono HVW1.out.size))).c4
    have y5:=fun z:Wd w1.heap.size w1=>(HP.out.below (HVW1.out.trans (z.ok.mono HVW1.out.size))).c5
    clear hlt HK
    go_wp2_with fail
    refine region_gn [([0,1,2,3,4,5,6,7,8,9,10,11,12,13],[14,15,16,17]),([18,19],[20,21,22,23]),([24,25],[26,27,28]),([29,30,32,33],[31,34,35,36,37])] 106 w1.heap.size (fun c a d v w h=>by cases d<;>exact h) (Nat.le_refl _) (by kernel_rfl) (by kernel_rfl) ?_
    have kd:=Lib.hid (show Below w1.heap.size w1 w1.drew from (Below.refl _ _).drew)
    refine ⟨by rfl,?xA,?xhh,?xht⟩
    case xhh =>
     rintro W' ⟨z,rfl⟩
     simp only [pickL,List.getElem?_cons_zero,List.getElem?_cons_succ]
     repeat (go_big_quiet_step (fail))
     refine wpQuiet_nil ?_
     exact rfl
    case xht =>
     simp only [pickL,List.getElem?_cons_zero,List.getElem?_cons_succ]
     refine listM_wpG (by simp [Region.wanted,yielded]) ?_
     have hcall:=prodR_any (hV w1.drew (HVW1.out.trans (kd.out.mono HVW1.out.size))) HO.out
     refine op_callE1 38 Tryd.call38 _ _ (by rfl) _ (by rfl) (fun v w'=>∃ na nc,v=.slice na (Q.ofB (Q.prodB p) (Q.cnt p)).length nc∧Ints w' na (Q.ofB (Q.prodB p) (Q.cnt p))∧Below w1.drew.heap.size w1.drew w') (hcall.mono fun e w' ⟨na,nc,q1,q2,q3⟩=>⟨_,q1,na,nc,rfl,q2,q3⟩) ?_
     rintro v w101 ⟨na,nac,rfl,hi,kx⟩
     have L101:=Lib.hid (kd.out.trans (kx.mono kd.out.size))
     have Jna:=Lib.hid hi
     clear hcall hi kx
     refine ⟨⟨⟨w101,L101.out⟩,rfl⟩,?_⟩
     simp only [Act.put,List.setIfInBounds_toArray,List.set_cons_succ,List.set_cons_zero]
     rw [HLP.out.1] at Jna ⊢
     refine listM_wpG (by simp [Region.wanted,yielded]) ?_
     have hin:=ints_any (a3) (na) (LP) (LP) (q3) (nac) w101 (I3d.out.below (HW1.out.trans (L101.out.mono HW1.out.size))) (Jna.out) (HML.out.1) (HML.out.1)
     rw [show eqI (LP) (LP)=true by unfold eqI; simp] at hin
     refine op_callE2 25 Tryd.call25 _ _ _ (by rfl) _ _ (by rfl) (by rfl) (fun v w'=>v=.bool true∧Below w101.heap.size w101 w') (hin.mono fun e w' ⟨q1,q2⟩=>⟨_,q1,rfl,q2⟩) ?_
     rintro v w102 ⟨rfl,kx⟩
     have L102:=Lib.hid (L101.out.trans (kx.mono L101.out.size))
     replace Jna:=Lib.hid (Jna.out.below kx)
     clear hin kx
     refine ⟨⟨⟨w102,L102.out⟩,rfl⟩,?_⟩
     simp only [Act.put,List.setIfInBounds_toArray,List.set_cons_succ,List.set_cons_zero]
     refine listM_quietG ?_
     repeat (go_big_quiet_step (fail))
     refine wpQuiet_nil ?_
     refine ⟨⟨⟨w102,L102.out⟩,rfl⟩,?_⟩
     refine listM_quietG ?_
     repeat (go_big_quiet_step (fail))
     refine wpQuiet_nil ?_
     refine ⟨⟨⟨w102,L102.out⟩,rfl⟩,?_⟩
     refine listM_end ⟨⟨⟨w102,L102.out⟩,rfl⟩,?_⟩
     refine ⟨by rfl,?yA,?yhh,?yht⟩
     case yhh =>
      rintro W' ⟨z,rfl⟩
      simp only [pickL,List.getElem?_cons_zero,List.getElem?_cons_succ]
      repeat (go_big_quiet_step (fail))
      refine wpQuiet_nil ?_
      exact rfl
     case yht =>
      simp only [pickL,List.getElem?_cons_zero,List.getElem?_cons_succ]
      refine listM_wpG (by simp [Region.wanted,yielded]) ?_
      have hcall:=reachR_any (hV w102 (HVW1.out.trans (L102.out.mono HVW1.out.size))) HO.out
      refine op_callE1 39 Tryd.call39 _ _ (by rfl) _ (by rfl) (fun v w'=>∃ na nc,v=.slice na (Q.ofB (Q.come p) (Q.cnt p)).length nc∧Ints w' na (Q.ofB (Q.come p) (Q.cnt p))∧Below w102.heap.size w102 w') (hcall.mono fun e w' ⟨na,nc,q1,q2,q3⟩=>⟨_,q1,na,nc,rfl,q2,q3⟩) ?_
      rintro v w103 ⟨nb,nbc,rfl,hi,kx⟩
      have L103:=Lib.hid (L102.out.trans (kx.mono L102.out.size))
      replace Jna:=Lib.hid (Jna.out.below kx)
      have Jnb:=Lib.hid hi
      clear hcall hi kx
      refine ⟨⟨⟨w103,L103.out⟩,rfl⟩,?_⟩
      simp only [Act.put,List.setIfInBounds_toArray,List.set_cons_succ,List.set_cons_zero]
      rw [HLP.out.2] at Jnb ⊢
      refine listM_wpG (by simp [Region.wanted,yielded]) ?_
      have hin:=ints_any (a4) (nb) (LR) (LR) (q4) (nbc) w103 (I4c.out.below (HW1.out.trans (L103.out.mono HW1.out.size))) (Jnb.out) (HML.out.2) (HML.out.2)
      rw [show eqI (LR) (LR)=true by unfold eqI; simp] at hin
      refine op_callE2 25 Tryd.call25 _ _ _ (by rfl) _ _ (by rfl) (by rfl) (fun v w'=>v=.bool true∧Below w103.heap.size w103 w') (hin.mono fun e w' ⟨q1,q2⟩=>⟨_,q1,rfl,q2⟩) ?_
      rintro v w104 ⟨rfl,kx⟩
      have L104:=Lib.hid (L103.out.trans (kx.mono L103.out.size))
      replace Jna:=Lib.hid (Jna.out.below kx)
      replace Jnb:=Lib.hid (Jnb.out.below kx)
      clear hin kx
      refine ⟨⟨⟨w104,L104.out⟩,rfl⟩,?_⟩
      simp only [Act.put,List.setIfInBounds_toArray,List.set_cons_succ,List.set_cons_zero]
      refine listM_quietG ?_
      repeat (go_big_quiet_step (fail))
      refine wpQuiet_nil ?_
      refine ⟨⟨⟨w104,L104.out⟩,rfl⟩,?_⟩
      refine listM_quietG ?_
      repeat (go_big_quiet_step (fail))
      refine wpQuiet_nil ?_
      refine ⟨⟨⟨w104,L104.out⟩,rfl⟩,?_⟩
      refine listM_end ⟨⟨⟨w104,L104.out⟩,rfl⟩,?_⟩
      refine ⟨by rfl,?uA,?uhh,?uht⟩
      case uhh =>
       rintro W' ⟨z,rfl⟩
       simp only [pickL,List.getElem?_cons_zero,List.getElem?_cons_succ]
       repeat (go_big_quiet_step (fail))
       refine wpQuiet_nil ?_
       exact rfl
      case uht =>
       simp only [pickL,List.getElem?_cons_zero,List.getElem?_cons_succ]
       refine listM_wpG (by simp [Region.wanted,yielded]) ?_
       have hin:=ints_any (some ⟨g5,0,none⟩) (some ⟨g6,0,none⟩) ((List.range (Q.cnt p)).map (Q.lens p).long) ((List.range (Q.cnt p)).map (Q.lens p).long) (Q.cnt p) (q6) w104 (I5b.out.below (HW1.out.trans (L104.out.mono HW1.out.size))) (I6.out.below (HW1.out.trans (L104.out.mono HW1.out.size))) (by rw [List.length_map,List.length_range]; unfold maxLen; omega) (by rw [List.length_map,List.length_range]; unfold maxLen; omega)
       rw [show eqI ((List.range (Q.cnt p)).map (Q.lens p).long) ((List.range (Q.cnt p)).map (Q.lens p).long)=true by unfold eqI; simp] at hin
       rw [List.length_map,List.length_range] at hin
       refine op_callE2 25 Tryd.call25 _ _ _ (by rfl) _ _ (by rfl) (by rfl) (fun v w'=>v=.bool true∧Below w104.heap.size w104 w') (hin.mono fun e w' ⟨q1,q2⟩=>⟨_,q1,rfl,q2⟩) ?_
       rintro v w105 ⟨rfl,kx⟩
       have L105:=Lib.hid (L104.out.trans (kx.mono L104.out.size))
       replace Jna:=Lib.hid (Jna.out.below kx)
       replace Jnb:=Lib.hid (Jnb.out.below kx)
       clear hin kx
       refine ⟨⟨⟨w105,L105.out⟩,rfl⟩,?_⟩
       simp only [Act.put,List.setIfInBounds_toArray,List.set_cons_succ,List.set_cons_zero]
       refine listM_quietG ?_
       repeat (go_big_quiet_step (fail))
       refine wpQuiet_nil ?_
       refine ⟨⟨⟨w105,L105.out⟩,rfl⟩,?_⟩
       refine listM_quietG ?_
       repeat (go_big_quiet_step (fail))
       refine wpQuiet_nil ?_
       refine ⟨⟨⟨w105,L105.out⟩,rfl⟩,?_⟩
       refine listM_end ⟨⟨⟨w105,L105.out⟩,rfl⟩,?_⟩
       refine ⟨by rfl,?tA,?thh,?tht⟩
       case thh =>
        rintro W' ⟨z,rfl⟩
        simp only [pickL,List.getElem?_cons_zero,List.getElem?_cons_succ]
        repeat (go_big_quiet_step (fail))
        refine wpQuiet_nil ?_
        exact rfl
       case tht =>
        simp only [pickL,List.getElem?_cons_zero,List.getElem?_cons_succ]
        refine listM_wpG (by simp [Region.wanted,yielded]) ?_
        have hcall:=sentence9_any sy (hV w105 (HVW1.out.trans (L105.out.mono HVW1.out.size))) HO.out
        refine op_callE2 37 Tryd.call37 _ _ _ (by rfl) _ _ (by rfl) (by rfl) (fun v w'=>∃ na nc,v=.slice na (Q.sent p sy).length nc∧Ints w' na (Q.sent p sy)∧Below w105.heap.size w105 w') (hcall.mono fun e w' ⟨na,nc,q1,q2,q3⟩=>⟨_,q1,na,nc,rfl,q2,q3⟩) ?_
        rintro v w106 ⟨nd,ndc,rfl,hi,kx⟩
        have L106:=Lib.hid (L105.out.trans (kx.mono L105.out.size))
        replace Jna:=Lib.hid (Jna.out.below kx)
        replace Jnb:=Lib.hid (Jnb.out.below kx)
        have Jnd:=Lib.hid hi
        clear hcall hi kx
        refine ⟨⟨⟨w106,L106.out⟩,rfl⟩,?_⟩
        simp only [Act.put,List.setIfInBounds_toArray,List.set_cons_succ,List.set_cons_zero]
        refine listM_wpG (by simp [Region.wanted,yielded]) ?_
        have hcall:=sentenceR_any sy (hV w106 (HVW1.out.trans (L106.out.mono HVW1.out.size))) HO.out
        refine op_callE2 20 Tryd.call20 _ _ _ (by rfl) _ _ (by rfl) (by rfl) (fun v w'=>∃ na nc,v=.slice na (Q.sent p sy).length nc∧Ints w' na (Q.sent p sy)∧Below w106.heap.size w106 w') (hcall.mono fun e w' ⟨na,nc,q1,q2,q3⟩=>⟨_,q1,na,nc,rfl,q2,q3⟩) ?_
        rintro v w107 ⟨ne,nec,rfl,hi,kx⟩
        have L107:=Lib.hid (L106.out.trans (kx.mono L106.out.size))
        replace Jna:=Lib.hid (Jna.out.below kx)
        replace Jnb:=Lib.hid (Jnb.out.below kx)
        replace Jnd:=Lib.hid (Jnd.out.below kx)
        have Jne:=Lib.hid hi
        clear hcall hi kx
        refine ⟨⟨⟨w107,L107.out⟩,rfl⟩,?_⟩
        simp only [Act.put,List.setIfInBounds_toArray,List.set_cons_succ,List.set_cons_zero]
        refine listM_wpG (by simp [Region.wanted,yielded]) ?_
        have hin:=ints_any (nd) (ne) (Q.sent p sy) (Q.sent p sy) (ndc) (nec) w107 (Jnd.out) (Jne.out) (by have:=Q.sent_le HO.out sy; unfold maxLen; omega) (by have:=Q.sent_le HO.out sy; unfold maxLen; omega)
        rw [show eqI (Q.sent p sy) (Q.sent p sy)=true by unfold eqI; simp] at hin
        refine op_callE2 25 Tryd.call25 _ _ _ (by rfl) _ _ (by rfl) (by rfl) (fun v w'=>v=.bool true∧Below w107.heap.size w107 w') (hin.mono fun e w' ⟨q1,q2⟩=>⟨_,q1,rfl,q2⟩) ?_
        rintro v w108 ⟨rfl,kx⟩
        have L108:=Lib.hid (L107.out.trans (kx.mono L107.out.size))
        replace Jna:=Lib.hid (Jna.out.below kx)
        replace Jnb:=Lib.hid (Jnb.out.below kx)
        replace Jnd:=Lib.hid (Jnd.out.below kx)
        replace Jne:=Lib.hid (Jne.out.below kx)
        clear hin kx
        refine ⟨⟨⟨w108,L108.out⟩,rfl⟩,?_⟩
        simp only [Act.put,List.setIfInBounds_toArray,List.set_cons_succ,List.set_cons_zero]
        refine listM_quietG ?_
        repeat (go_big_quiet_step (fail))
        refine wpQuiet_nil ?_
        refine ⟨⟨⟨w108,L108.out⟩,rfl⟩,?_⟩
        refine listM_quietG ?_
        repeat (go_big_quiet_step (fail))
        refine wpQuiet_nil ?_
        refine ⟨⟨⟨w108,L108.out⟩,rfl⟩,?_⟩
        refine listM_end ⟨⟨⟨w108,L108.out⟩,rfl⟩,?_⟩
        have HWF:=Lib.hid (HVW1.out.trans (L108.out.mono HVW1.out.size))
        show Exit.then _ _ Exit.normal _ _
        go_wp2_with fail
        go_ret
        exact ⟨rfl,HB.out.trans (HWF.out.mono HB.out.size)⟩
end Go.Proofs.YtjbggogbnckllaaDoor
