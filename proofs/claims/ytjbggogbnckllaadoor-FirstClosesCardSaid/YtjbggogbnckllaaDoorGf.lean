/-
  The walk of the law FirstCloses.
-/
import Derived.Test.YtjbggogbnckllaaDoorAx
import Derived.Test.YtjbggogbnckllaaDoorAu
import Derived.Test.YtjbggogbnckllaaDoorBa
namespace Go.Proofs.YtjbggogbnckllaaDoor
open Go.RowKit
set_option linter.unusedVariables false
set_option linter.unusedSimpArgs false
set_option maxRecDepth 100000 in
set_option maxHeartbeats 16000000 in
theorem closes10_law {w:World} {v:Value} {m:Pl.Sm}  (h:SmV w v m) (hz:SmSz m) (hT:Tab w)  :
  Calls Tryd.prog 7 #[v] w fun e w'=>e=.returned (.bool true)∧Below w.heap.size w w':=by
 obtain ⟨sla,sra,spa,saa,sva,slc,src,spc,sac,svc,rfl,h⟩:=h
 have HS:=SB.new (lc:=slc) (rc:=src) (pc:=spc) (ac:=sac) (vc:=svc) h
 have k:=(Below.refl w.heap.size w).alloc (Nat.le_refl _) (.cells (smC m sla sra spa saa sva slc src spc sac svc) 25)
 have HT0:=Lib.hid (hT.below k)
 have HB0:=Lib.hid k
 unfold smC at HS HB0 HT0 ⊢
 have HS0:=Lib.hid HS
 
 clear HS k h hT
 go_enter Tryd.func7,Tryd.ntmps7
 go_wp2_with fail
 generalize w.alloc (.cells #[.int .u8 (m.tokens:Nat),.int .u8 (m.vars:Nat),.slice sla m.lefts.length slc,.slice sra m.rights.length src,.slice spa m.precs.length spc,.slice saa m.assocs.length sac,.slice sva m.levels.length svc] 25)=W at HS0 HB0 HT0  ⊢
 refine (awake10_any W HT0.out).mono ?_
 rintro e W1 ⟨rfl,k⟩
 have HT1:=Lib.hid (HT0.out.below k)
 have HB1:=Lib.hid (HB0.out.trans (k.mono HB0.out.size))
 have HS1:=Lib.hid (HS0.out.below k)
 have HFW:=few_any 20 8 (w:=W1) (v:=.agg #[.int .u8 (m.tokens:Nat),.int .u8 (m.vars:Nat),.slice sla m.lefts.length slc,.slice sra m.rights.length src,.slice spa m.precs.length spc,.slice saa m.assocs.length sac,.slice sva m.levels.length svc]) ⟨sla,sra,spa,saa,sva,slc,src,spc,sac,svc,rfl,HS1.out.a⟩ hz (by omega) (by omega)
 have c0:=HS1.out.c0
 have c1:=HS1.out.c1
 have c2:=HS1.out.c2
 have c3:=HS1.out.c3
 have c4:=HS1.out.c4
 have c5:=HS1.out.c5
 have c6:=HS1.out.c6
 clear HT0 HB0 HS0 k
 go_wp2_with fail
 refine HFW.mono ?_
 rintro e W2 ⟨rfl,k⟩
 have HT2:=Lib.hid (HT1.out.below k)
 have HB2:=Lib.hid (HB1.out.trans (k.mono HB1.out.size))
 have HS2:=Lib.hid (HS1.out.below k)
 clear HFW k HT1 HB1 HS1 c0 c1 c2 c3 c4 c5 c6
 cases hf:Pl.few m 20 8
 case false =>
  go_wp2_with fail
  go_ret
  exact ⟨rfl,HB2.out⟩
 case true =>
  have HPN:=plan_any (w:=W2) (v:=.agg #[.int .u8 (m.tokens:Nat),.int .u8 (m.vars:Nat),.slice sla m.lefts.length slc,.slice sra m.rights.length src,.slice spa m.precs.length spc,.slice saa m.assocs.length sac,.slice sva m.levels.length svc]) ⟨sla,sra,spa,saa,sva,slc,src,spc,sac,svc,rfl,HS2.out.a⟩ hz hf
  have hplan:=Q.plan_ok (hf)
  obtain ⟨p,hp⟩:∃ p,p=Pl.plan m:=⟨_,rfl⟩
  rw [← hp] at HPN hplan
  have HPL:=Lib.hid hp
  have HO:=Lib.hid hplan.1
  have HCN:=Lib.hid hplan.2.1
  have HRU:=Lib.hid hplan.2.2.1
  have HRL:=Lib.hid hplan.2.2.2
  have HFEW:=Lib.hid hf
  have c0:=HS2.out.c0
  have c1:=HS2.out.c1
  have c2:=HS2.out.c2
  have c3:=HS2.out.c3
  have c4:=HS2.out.c4
  have c5:=HS2.out.c5
  have c6:=HS2.out.c6
  clear hplan hp hf
  go_wp2_with fail
  refine HPN.mono ?_
  rintro e W3 ⟨pv,rfl,hpv,k⟩
  obtain ⟨ta,tc,va,vc,ra,rc,la,lc,aa,ac,ca,cc,rfl,hpa⟩:=hpv
  have AL:=(Below.refl W3.heap.size W3).alloc (Nat.le_refl _) (.cells #[.slice ta p.terms.length tc,.slice va p.vars.length vc,.slice ra p.rules.length rc,.slice la p.levels.length lc,.slice aa p.assocs.length ac,.slice ca p.acts.length cc] 32)
  have HP0:=PB.new (tc:=tc) (vc:=vc) (rc:=rc) (lc:=lc) (ac:=ac) (cc:=cc) hpa
  unfold pnC at HP0
  have HP:=Lib.hid HP0
  have hB3:=HB2.out.trans (k.mono HB2.out.size)
  have HB:=Lib.hid (hB3.trans (AL.mono hB3.size))
  have HT:=Lib.hid ((HT2.out.below k).below AL)
  have HS:=Lib.hid ((HS2.out.below k).below AL)
  clear HPN k AL HP0 hpa hB3 HT2 HB2 HS2 c0 c1 c2 c3 c4 c5 c6
  have HFC:=facts_any (w:=_) (v:=.agg #[.slice ta p.terms.length tc,.slice va p.vars.length vc,.slice ra p.rules.length rc,.slice la p.levels.length lc,.slice aa p.assocs.length ac,.slice ca p.acts.length cc]) ⟨ta,tc,va,vc,ra,rc,la,lc,aa,ac,ca,cc,rfl,HP.out.a⟩ HO.out (by have:=HCN.out; omega) HT.out
  have d0:=HP.out.c0
  have d1:=HP.out.c1
  have d2:=HP.out.c2
  have d3:=HP.out.c3
  have d4:=HP.out.c4
  have d5:=HP.out.c5
  go_wp2_with fail
  generalize W3.alloc (.cells #[.slice ta p.terms.length tc,.slice va p.vars.length vc,.slice ra p.rules.length rc,.slice la p.levels.length lc,.slice aa p.assocs.length ac,.slice ca p.acts.length cc] 32)=V0 at HP HB HT HS HFC d0 d1 d2 d3 d4 d5 ⊢
  generalize W3.heap.size=pb at HP d0 d1 d2 d3 d4 d5 ⊢
  refine HFC.mono ?_
  rintro e W4 ⟨fv,rfl,hf,k⟩
  obtain ⟨fnb,flb,flc,fmb,fmc,rfl,f1,f2,f3⟩:=hf
  have AL:=(Below.refl W4.heap.size W4).alloc (Nat.le_refl _) (.cells #[.slice (some ⟨fnb,0,none⟩) (Fi.nV p) (Fi.nV p),.slice (some ⟨flb,0,none⟩) (Fi.nV p) flc,.slice (some ⟨fmb,0,none⟩) (Fi.nV p) fmc,.int .i64 ((Fi.fs p).2:Nat)] 37)
  have HF0:=FB.new (lc:=flc) (mc:=fmc) f1 f2 f3
  unfold faC at HF0
  have hB4:=HB.out.trans (k.mono HB.out.size)
  have HB4:=Lib.hid (hB4.trans (AL.mono hB4.size))
  have HT4:=Lib.hid ((HT.out.below k).below AL)
  have HP4:=Lib.hid ((HP.out.below k).below AL)
  have HF4:=Lib.hid HF0
  have HWH:=whole10_any HF0.v (show PnV _ (.agg #[.slice ta p.terms.length tc,.slice va p.vars.length vc,.slice ra p.rules.length rc,.slice la p.levels.length lc,.slice aa p.assocs.length ac,.slice ca p.acts.length cc]) p from ⟨ta,tc,va,vc,ra,rc,la,lc,aa,ac,ca,cc,rfl,HP4.out.a⟩) (by have:=HO.out.m; omega)
  clear HFC d0 d1 d2 d3 d4 d5 f1 f2 f3 AL HF0 hB4 k HB HT HP HS
  have d0:=HP4.out.c0
  have d1:=HP4.out.c1
  have d2:=HP4.out.c2
  have d3:=HP4.out.c3
  have d4:=HP4.out.c4
  have d5:=HP4.out.c5
  have g0:=HF4.out.c0
  have g1:=HF4.out.c1
  have g2:=HF4.out.c2
  have g3:=HF4.out.c3
  go_wp2_with fail
  generalize W4.alloc (.cells #[.slice (some ⟨fnb,0,none⟩) (Fi.nV p) (Fi.nV p),.slice (some ⟨flb,0,none⟩) (Fi.nV p) flc,.slice (some ⟨fmb,0,none⟩) (Fi.nV p) fmc,.int .i64 ((Fi.fs p).2:Nat)] 37)=V1 at HB4 HT4 HP4 HF4 HWH d0 d1 d2 d3 d4 d5 g0 g1 g2 g3 ⊢
  generalize W4.heap.size=fb at HF4 g0 g1 g2 g3 ⊢
  refine HWH.mono ?_
  rintro e V ⟨rfl,k⟩
  have HP:=Lib.hid (HP4.out.below k)
  have HF:=Lib.hid (HF4.out.below k)
  have HT:=Lib.hid (HT4.out.below k)
  have HB:=Lib.hid (HB4.out.trans (k.mono HB4.out.size))
  clear HWH k d0 d1 d2 d3 d4 d5 g0 g1 g2 g3 HB4 HT4 HP4 HF4
  have hnb:=HO.out.nb
  have hmb:=HO.out.m
  have hnr:=HO.out.r
  have d0:=HP.out.c0
  go_wp2_with fail
  clear d0
  go_loopg [8] p.rules.length (fun gk iv wr=>∃ i:Nat,iv=.int .i64 i∧i≤p.rules.length∧Hid (gk+i=p.rules.length)∧Hid (Below V.heap.size V wr))
  case atStart=>exact ⟨0,rfl,by omega,Lib.hid (by omega),Lib.hid (Below.refl _ _)⟩
  case round =>
   obtain ⟨i,rfl,hi,HK,HW⟩:=hrel
   have hPW:=HP.out.below HW.out
   have d2:=hPW.c2
   by_cases hlt:i < p.rules.length
   ·obtain ⟨rb,ro,xa,xc,rfl,v0,v1,v2,vin⟩:=HP.out.a.r i hlt
    have hxk:=HP.out.a.k i hlt rb ro xa xc rfl v1
    have hxl:=HO.out.left _ (List.getElem_mem hlt)
    have hxr:=HO.out.right _ (List.getElem_mem hlt)
    have hx8:=HRL.out _ (List.getElem_mem hlt)
    have hhas:=Fi.fs_has HO.out (List.getElem_mem hlt)
    have hbeh:=Fi.fol_closed HO.out _ (List.getElem_mem hlt)
    generalize p.rules[i]=x at v0 v1 v2 vin hxl hxr hx8 hhas hbeh hxk
    have b0:=World.block_lt_of_cell? V _ v0
    have t0:=((bcell HW.out).1 rb (ro+i*3) b0).trans v0
    have t1:=((bcell HW.out).1 rb (ro+i*3+1) b0).trans v1
    have VIN:=Lib.hid vin
    have HXR:=Lib.hid hxr
    have HXK:=Lib.hid hxk
    obtain ⟨lv,hlv⟩:∃ lv,lv=x.left - p.terms.length:=⟨_,rfl⟩
    have hlvc:lv < Fi.nV p:=by rw [hlv]; unfold Fi.nV; omega
    have hxe:(x.left:Int) - (p.terms.length:Int)=(lv:Nat):=by rw [hlv]; omega
    rw [show x.left - Fi.nT p=lv from hlv.symm] at hhas hbeh
    have HHAS:=Lib.hid hhas
    have HBEH:=Lib.hid hbeh
    have hinI:∀ y ∈ x.right,-9223372036854775808≤y∧y≤9223372036854775807:=fun y hy=>by have:=hxr y hy; omega
    have HII:=Lib.hid hinI
    have hsq:=seq10_any (w:=wr) (fv:=.agg #[.slice (some ⟨fnb,0,none⟩) (Fi.nV p) (Fi.nV p),.slice (some ⟨flb,0,none⟩) (Fi.nV p) flc,.slice (some ⟨fmb,0,none⟩) (Fi.nV p) fmc,.int .i64 ((Fi.fs p).2:Nat)]) (v:=.agg #[.slice ta p.terms.length tc,.slice va p.vars.length vc,.slice (some ⟨rb,ro,none⟩) p.rules.length rc,.slice la p.levels.length lc,.slice aa p.assocs.length ac,.slice ca p.acts.length cc]) (nc:=xc) (HF.out.below HW.out).v ⟨ta,tc,va,vc,_,rc,la,lc,aa,ac,ca,cc,rfl,hPW.a⟩ HO.out (vin.below HW.out) (by omega) hinI (HT.out.below HW.out)
    have c0:=hPW.c0
    have c1:=hPW.c1
    have c3:=hPW.c3
    have c4:=hPW.c4
    have c5:=hPW.c5
    have hFW:=HF.out.below HW.out
    have g0:=hFW.c0
    have g1:=hFW.c1
    have g2:=hFW.c2
    have g3:=hFW.c3
    clear hlv hxr hxk hhas hbeh vin hinI hPW hFW v0 v1 v2 b0
    go_wp2_with fail
    refine hsq.mono ?_
    rintro e W5 ⟨a5,cap5,rfl,hi5,k⟩
    have HW5:=Lib.hid (HW.out.trans (k.mono HW.out.size))
    obtain ⟨fa,fc,m1,m2⟩:=HF.out.fst hlvc
    have e1:=((bcell HW5.out).1 _ _ (World.block_lt_of_cell? V _ m1)).trans m1
    have hal:=all10_any a5 fa _ _ cap5 fc W5 hi5 (m2.below HW5.out) (lst_max (nT_le HO.out)) (lst_max (nT_le HO.out))
    rw [allI_sub HHAS.out.1] at hal
    have hFW:=HF.out.below HW5.out
    have g0:=hFW.c0
    have g1:=hFW.c1
    have n0:=hFW.n.cell hlvc
    obtain ⟨nl,hnl⟩:∃ nl,nl=(Fi.beg (Fi.nT p) (Q.cnt p) (Fi.fs p).1 x.right 0).2:=⟨_,rfl⟩
    rw [← hnl]
    have HNL:Hid (nl=true→(Fi.fs p).1.null lv=true):=Lib.hid (fun h=>HHAS.out.2 (hnl.symm.trans h))
    clear hsq hi5 k c0 c1 d2 c3 c4 c5 hFW m1 m2 hnl t0 t1 HW g2 g3
    go_upto_region 16 with fail
    go_cut [79] (fun bv wx=>bv=.bool false∧wx=W5)
    case first =>
     go_wp2_with fail
     refine hal.mono ?_
     rintro e W6 ⟨rfl,rfl⟩
     clear hal
     cases nl with
     | true =>
      rw [HNL.out rfl] at n0
      go_wp2_with fail
      go_meet
      case rel=>exact ⟨rfl,rfl⟩
     | false =>
      go_wp2_with fail
      go_meet
      case rel=>exact ⟨rfl,rfl⟩
    case rest =>
     obtain ⟨rfl,hwe⟩:=hcut
     subst hwe
     clear hal e1 g0 g1 n0 HNL
     go_wp2_with fail
     go_loopg [13] x.right.length (fun gk jv wr=>∃ j:Nat,jv=.int .i64 j∧j≤x.right.length∧Hid (gk+j=x.right.length)∧Hid (Below V.heap.size V wr))
     case atStart=>exact ⟨0,rfl,by omega,Lib.hid (by omega),HW5⟩
     case round =>
      obtain ⟨j,rfl,hj,HJ,HX⟩:=hrel
      by_cases hlj:j < x.right.length
      ·obtain ⟨bb,bo,rfl,q1⟩:=VIN.out j hlj
       have q0:=((bcell HX.out).1 _ _ (World.block_lt_of_cell? V _ q1)).trans q1
       obtain ⟨y0,y1⟩:=HXR.out _ (List.getElem_mem hlj)
       have hdr:=List.drop_eq_getElem_cons hlj
       have hb:=HBEH.out (x.right.take j) x.right[j] (x.right.drop (j+1)) (by rw [← hdr]; exact (List.take_append_drop j x.right).symm)
       generalize x.right[j]=y at q0 q1 y0 y1 hb
       obtain ⟨n,rfl⟩:∃ n:Nat,y=n:=⟨y.toNat,by omega⟩
       clear hdr
       rcases Nat.lt_or_ge n p.terms.length with hn | hn
       ·clear hb q1
        go_wp2_with fail
        go_roundg (x.right.length - (j+1))
        case measure=>have:=HJ.out; omega
        case rel=>exact ⟨j+1,by go_num,by omega,Lib.hid (by omega),HX⟩
       ·have hb2:=hb (by show (p.terms.length:Int)≤_; omega)
        obtain ⟨u,hu⟩:∃ u,u=n - p.terms.length:=⟨_,rfl⟩
        have huc:u < Fi.nV p:=by rw [hu]; unfold Fi.nV; omega
        have hue:(n:Int) - (p.terms.length:Int)=(u:Nat):=by rw [hu]; omega
        rw [show ((n:Int).toNat - Fi.nT p)=u by rw [hu]; rfl] at hb2
        have HB2:=Lib.hid hb2
        have HQ:=Lib.hid q1
        clear hb hb2 hu q1
        have hPX:=fun z:Wd wr.heap.size wr=>HP.out.below (HX.out.trans (z.ok.mono HX.out.size))
        have hFX:=fun z:Wd wr.heap.size wr=>HF.out.below (HX.out.trans (z.ok.mono HX.out.size))
        have y0:=fun z=>(hPX z).c0
        have y1:=fun z=>(hPX z).c1
        have y2:=fun z=>(hPX z).c2
        have y3:=fun z=>(hPX z).c3
        have y4:=fun z=>(hPX z).c4
        have y5:=fun z=>(hPX z).c5
        have z0:=fun z=>(hFX z).c0
        have z1:=fun z=>(hFX z).c1
        have z2:=fun z=>(hFX z).c2
        have z3:=fun z=>(hFX z).c3
        have hsl:=fun w=>int_slice bb bo x.right.length (j+1) xc (by omega) w
        clear hPX hFX
        go_wp2_with fail
        refine region_mid 6 wr.heap.size (by kernel_rfl) (by kernel_rfl) _ (by rfl) (by rfl) ?_
        simp only [List.take_succ_cons,List.take_zero,List.drop_succ_cons,List.drop_zero]
        repeat (go_big_quiet_step (fail))
        refine wpQuiet_nil ?_
        intro z
        have hdl:(x.right.drop (j+1)).length=x.right.length - (j+1):=by simp
        have HXZ:=Lib.hid (HX.out.trans (z.ok.mono HX.out.size))
        obtain ⟨na,hna⟩:∃ na,na=(if xc=j+1 then (some ⟨bb,bo,none⟩:Option Addr) else some ⟨bb,bo+(j+1),none⟩):=⟨_,rfl⟩
        rw [← hna]
        have hdp:Ints z.w na (x.right.drop (j+1)):=by
         have h9:=(VIN.out.below HXZ.out).dropped HXK.out (show j+1≤x.right.length by omega)
         rw [hna]
         split
         ·rename_i e9; rw [if_pos e9] at h9; exact h9
         ·rename_i e9; rw [if_neg e9] at h9; exact h9
        have hsq2:=seq10_any (w:=z.w) (fv:=.agg #[.slice (some ⟨fnb,0,none⟩) (Fi.nV p) (Fi.nV p),.slice (some ⟨flb,0,none⟩) (Fi.nV p) flc,.slice (some ⟨fmb,0,none⟩) (Fi.nV p) fmc,.int .i64 ((Fi.fs p).2:Nat)]) (v:=.agg #[.slice ta p.terms.length tc,.slice va p.vars.length vc,.slice (some ⟨rb,ro,none⟩) p.rules.length rc,.slice la p.levels.length lc,.slice aa p.assocs.length ac,.slice ca p.acts.length cc]) (nc:=xc - (j+1)) (HF.out.below HXZ.out).v ⟨ta,tc,va,vc,_,rc,la,lc,aa,ac,ca,cc,rfl,(HP.out.below HXZ.out).a⟩ HO.out hdp (by rw [hdl]; omega) (fun y hy=>HII.out y (List.mem_of_mem_drop hy)) (HT.out.below HXZ.out)
        rw [hdl] at hsq2
        obtain ⟨nn,hnn⟩:∃ nn,nn=(Fi.beg (Fi.nT p) (Q.cnt p) (Fi.fs p).1 (x.right.drop (j+1)) 0).2:=⟨_,rfl⟩
        rw [← hnn] at hsq2
        have HNN:Hid (nn=true→Fi.Sub (Fi.fol p lv) (Fi.fol p u)):=Lib.hid (fun h=>HB2.out.2 (hnn.symm.trans h))
        obtain ⟨X7,hX7⟩:∃ X7,X7=(Fi.beg (Fi.nT p) (Q.cnt p) (Fi.fs p).1 (x.right.drop (j+1)) 0).1:=⟨_,rfl⟩
        rw [← hX7] at hsq2
        have HS7:Hid (Fi.Sub X7 (Fi.fol p u)):=Lib.hid (by rw [hX7]; exact HB2.out.1)
        clear hdl hdp hnn hna hX7 HB2 y0 y1 y2 y3 y4 y5 z0 z1 z2 z3 hsl q0
        refine op_callE3 27 Tryd.call27 _ _ _ _ (by rfl) _ _ _ (by rfl) (by rfl) (by rfl) (fun v w'=>∃ a cap,v=.tuple #[.slice a (natI (Bs.lst (Fi.nT p) X7)).length cap,.bool nn]∧Ints w' a (natI (Bs.lst (Fi.nT p) X7))∧Below z.w.heap.size z.w w') (hsq2.mono fun e w' ⟨a,cap,e1,e2,e3⟩=>⟨_,e1,a,cap,rfl,e2,e3⟩) ?_
        rintro v W7 ⟨a7,cap7,rfl,hi7,k7⟩
        have HX7:=Lib.hid (HXZ.out.trans (k7.mono HXZ.out.size))
        have HI7:=Lib.hid hi7
        clear hsq2 hi7 k7 HXZ HX z
        simp only [Act.put,List.setIfInBounds_toArray,List.set_cons_succ,List.set_cons_zero]
        repeat (go_big_quiet_step (fail))
        refine wpQuiet_nil ?_
        obtain ⟨fu,fd,m1,m2⟩:=HF.out.fol huc
        obtain ⟨gu,gd,m3,m4⟩:=HF.out.fol hlvc
        have hal7:=fun z:Wd W7.heap.size W7=>all10_any a7 fu _ _ cap7 fd z.w (HI7.out.below z.ok) (m2.below (HX7.out.trans (z.ok.mono HX7.out.size))) (lst_max (X:=X7) (nT_le HO.out)) (lst_max (X:=Fi.fol p u) (nT_le HO.out))
        rw [allI_sub HS7.out] at hal7
        have z2:=fun z:Wd W7.heap.size W7=>(HF.out.below (HX7.out.trans (z.ok.mono HX7.out.size))).c2
        have x1:=fun z:Wd W7.heap.size W7=>((bcell (HX7.out.trans (z.ok.mono HX7.out.size))).1 _ _ (World.block_lt_of_cell? V _ m1)).trans m1
        have x3:=fun z:Wd W7.heap.size W7=>((bcell (HX7.out.trans (z.ok.mono HX7.out.size))).1 _ _ (World.block_lt_of_cell? V _ m3)).trans m3
        have hq0:∀ z:Wd W7.heap.size W7,z.w.cell? ⟨bb,bo+j,none⟩=some (.int .i64 (n:Nat)):=fun z=>((bcell (HX7.out.trans (z.ok.mono HX7.out.size))).1 _ _ (World.block_lt_of_cell? V _ HQ.out)).trans HQ.out
        cases nn with
        | false =>
         clear x3
         go_wp2_with fail
         refine region_cls W7.heap.size (by kernel_rfl) (by kernel_rfl) ?_
         repeat (go_big_quiet_step (fail))
         go_big_quiet_step (first | (go_at_call 22; exact calls_cls_same _ (hal7 _)))
         repeat (go_big_quiet_step (fail))
         refine wpQuiet_nil ?_
         intro z
         have HX8:=Lib.hid (HX7.out.trans (z.ok.mono HX7.out.size))
         generalize z.w=W8 at HX8 ⊢
         clear z hal7 z2 x1 hq0 m1 m2 m3 m4
         go_wp2_with fail
         go_roundg (x.right.length - (j+1))
         case measure=>have:=HJ.out; omega
         case rel=>exact ⟨j+1,by go_num,by omega,Lib.hid (by omega),HX8⟩
        | true =>
         have hal8:=fun z:Wd W7.heap.size W7=>all10_any gu fu _ _ gd fd z.w (m4.below (HX7.out.trans (z.ok.mono HX7.out.size))) (m2.below (HX7.out.trans (z.ok.mono HX7.out.size))) (lst_max (X:=Fi.fol p lv) (nT_le HO.out)) (lst_max (X:=Fi.fol p u) (nT_le HO.out))
         rw [allI_sub (HNN.out rfl)] at hal8
         go_wp2_with fail
         refine region_cls W7.heap.size (by kernel_rfl) (by kernel_rfl) ?_
         repeat (go_big_quiet_step (fail))
         go_big_quiet_step (first | (go_at_call 22; exact calls_cls_same _ (hal7 _)))
         repeat (go_big_quiet_step (fail))
         go_big_quiet_step (first | (go_at_call 22; exact calls_cls_same _ (hal8 _)))
         repeat (go_big_quiet_step (fail))
         refine wpQuiet_nil ?_
         intro z
         have HX8:=Lib.hid (HX7.out.trans (z.ok.mono HX7.out.size))
         generalize z.w=W8 at HX8 ⊢
         clear z hal7 hal8 z2 x1 x3 hq0 m1 m2 m3 m4
         go_wp2_with fail
         go_roundg (x.right.length - (j+1))
         case measure=>have:=HJ.out; omega
         case rel=>exact ⟨j+1,by go_num,by omega,Lib.hid (by omega),HX8⟩
      ·obtain rfl:j=x.right.length:=by omega
       clear hlj HJ
       go_wp2_with fail
       go_roundg (p.rules.length - (i+1))
       case measure=>have:=HK.out; omega
       case rel=>exact ⟨i+1,by go_num,by omega,Lib.hid (by omega),HX⟩
   ·obtain rfl:i=p.rules.length:=by omega
    obtain ⟨gu,gd,m3,m4⟩:=HF.out.fol (show p.vars.length < Fi.nV p by unfold Fi.nV; omega)
    have x3:=((bcell HW.out).1 _ _ (World.block_lt_of_cell? V _ m3)).trans m3
    have z2:=(HF.out.below HW.out).c2
    have d1:=(HP.out.below HW.out).c1
    have hin:=in_any gu _ gd 0 wr (m4.below HW.out) (lst_max (X:=Fi.fol p p.vars.length) (nT_le HO.out))
    have h0:=inI_lst (n:=Fi.nT p) (X:=Fi.fol p p.vars.length) (i:=0)
    rw [Fi.fol_end,decide_eq_true (show 0 < Fi.nT p from HO.out.n)] at h0
    have h00:inI (natI (Bs.lst (Fi.nT p) (Fi.fol p p.vars.length))) 0=true:=h0
    rw [h00] at hin
    have hvlt:p.vars.length < Fi.nV p:=by unfold Fi.nV; omega
    clear m3 m4 h0 h00 hPW hlt HK
    go_wp2_with fail
    refine hin.mono ?_
    rintro e W6 ⟨rfl,rfl⟩
    clear hin
    go_wp2_with fail
    go_ret
    exact ⟨rfl,HB.out.trans (HW.out.mono HB.out.size)⟩
end Go.Proofs.YtjbggogbnckllaaDoor
