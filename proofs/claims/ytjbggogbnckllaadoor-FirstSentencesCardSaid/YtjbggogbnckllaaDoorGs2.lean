/-
  The walk of the law FirstSentences.
-/
import Derived.Test.YtjbggogbnckllaaDoorAx
import Derived.Test.YtjbggogbnckllaaDoorGp
import Derived.Test.YtjbggogbnckllaaDoorRc
namespace Go.Proofs.YtjbggogbnckllaaDoor
open Go.RowKit
set_option linter.unusedVariables false
set_option linter.unusedSimpArgs false
set_option maxRecDepth 100000 in
set_option maxHeartbeats 16000000 in
theorem sentences10_law {w:World} {v:Value} {m:Pl.Sm}  (h:SmV w v m) (hz:SmSz m) (hT:Tab w)  :
  Calls Tryd.prog 4 #[v] w fun e w'=>e=.returned (.bool true)∧Below w.heap.size w w':=by
 obtain ⟨sla,sra,spa,saa,sva,slc,src,spc,sac,svc,rfl,h⟩:=h
 have HS:=SB.new (lc:=slc) (rc:=src) (pc:=spc) (ac:=sac) (vc:=svc) h
 have k:=(Below.refl w.heap.size w).alloc (Nat.le_refl _) (.cells (smC m sla sra spa saa sva slc src spc sac svc) 25)
 have HT0:=Lib.hid (hT.below k)
 have HB0:=Lib.hid k
 unfold smC at HS HB0 HT0 ⊢
 have HS0:=Lib.hid HS
 
 clear HS k h hT
 go_enter Tryd.func4,Tryd.ntmps4
 go_wp2_with fail
 generalize w.alloc (.cells #[.int .u8 (m.tokens:Nat),.int .u8 (m.vars:Nat),.slice sla m.lefts.length slc,.slice sra m.rights.length src,.slice spa m.precs.length spc,.slice saa m.assocs.length sac,.slice sva m.levels.length svc] 25)=W at HS0 HB0 HT0  ⊢
 refine (awake10_any W HT0.out).mono ?_
 rintro e W1 ⟨rfl,k⟩
 have HT1:=Lib.hid (HT0.out.below k)
 have HB1:=Lib.hid (HB0.out.trans (k.mono HB0.out.size))
 have HS1:=Lib.hid (HS0.out.below k)
 have HFW:=few_any 20 8 (w:=W1) (v:=.agg #[.int .u8 (m.tokens:Nat),.int .u8 (m.vars:Nat),.slice sla m.lefts.length slc,.slice sra m.rights.length src,.slice spa m.precs.length spc,.slice saa m.assocs.length sac,.slice sva m.levels.length svc]) ⟨sla,sra,spa,saa,sva,slc,src,spc,sac,svc,rfl,HS1.out.a⟩ hz (by omega) (by omega)
 have c0:=HS1.out.c0
 have c1:=HS1.out.c1
 have c2:=HS1.out.c2
 have c3:=HS1.out.c3
 have c4:=HS1.out.c4
 have c5:=HS1.out.c5
 have c6:=HS1.out.c6
 clear HT0 HB0 HS0 k
 go_wp2_with fail
 refine HFW.mono ?_
 rintro e W2 ⟨rfl,k⟩
 have HT2:=Lib.hid (HT1.out.below k)
 have HB2:=Lib.hid (HB1.out.trans (k.mono HB1.out.size))
 have HS2:=Lib.hid (HS1.out.below k)
 clear HFW k HT1 HB1 HS1 c0 c1 c2 c3 c4 c5 c6
 cases hf:Pl.few m 20 8
 case false =>
  go_wp2_with fail
  go_ret
  exact ⟨rfl,HB2.out⟩
 case true =>
  have HPN:=plan_any (w:=W2) (v:=.agg #[.int .u8 (m.tokens:Nat),.int .u8 (m.vars:Nat),.slice sla m.lefts.length slc,.slice sra m.rights.length src,.slice spa m.precs.length spc,.slice saa m.assocs.length sac,.slice sva m.levels.length svc]) ⟨sla,sra,spa,saa,sva,slc,src,spc,sac,svc,rfl,HS2.out.a⟩ hz hf
  have hplan:=Q.plan_ok (hf)
  obtain ⟨p,hp⟩:∃ p,p=Pl.plan m:=⟨_,rfl⟩
  rw [← hp] at HPN hplan
  have HPL:=Lib.hid hp
  have HO:=Lib.hid hplan.1
  have HCN:=Lib.hid hplan.2.1
  have HRU:=Lib.hid hplan.2.2.1
  have HRL:=Lib.hid hplan.2.2.2
  have HFEW:=Lib.hid hf
  have c0:=HS2.out.c0
  have c1:=HS2.out.c1
  have c2:=HS2.out.c2
  have c3:=HS2.out.c3
  have c4:=HS2.out.c4
  have c5:=HS2.out.c5
  have c6:=HS2.out.c6
  clear hplan hp hf
  go_wp2_with fail
  refine HPN.mono ?_
  rintro e W3 ⟨pv,rfl,hpv,k⟩
  obtain ⟨ta,tc,va,vc,ra,rc,la,lc,aa,ac,ca,cc,rfl,hpa⟩:=hpv
  have AL:=(Below.refl W3.heap.size W3).alloc (Nat.le_refl _) (.cells #[.slice ta p.terms.length tc,.slice va p.vars.length vc,.slice ra p.rules.length rc,.slice la p.levels.length lc,.slice aa p.assocs.length ac,.slice ca p.acts.length cc] 32)
  have HP0:=PB.new (tc:=tc) (vc:=vc) (rc:=rc) (lc:=lc) (ac:=ac) (cc:=cc) hpa
  unfold pnC at HP0
  have HP:=Lib.hid HP0
  have hB3:=HB2.out.trans (k.mono HB2.out.size)
  have HB:=Lib.hid (hB3.trans (AL.mono hB3.size))
  have HT:=Lib.hid ((HT2.out.below k).below AL)
  have HS:=Lib.hid ((HS2.out.below k).below AL)
  clear HPN k AL HP0 hpa hB3 HT2 HB2 HS2 c0 c1 c2 c3 c4 c5 c6
  have HFC:=facts_any (w:=_) (v:=.agg #[.slice ta p.terms.length tc,.slice va p.vars.length vc,.slice ra p.rules.length rc,.slice la p.levels.length lc,.slice aa p.assocs.length ac,.slice ca p.acts.length cc]) ⟨ta,tc,va,vc,ra,rc,la,lc,aa,ac,ca,cc,rfl,HP.out.a⟩ HO.out (by have:=HCN.out; omega) HT.out
  have d0:=HP.out.c0
  have d1:=HP.out.c1
  have d2:=HP.out.c2
  have d3:=HP.out.c3
  have d4:=HP.out.c4
  have d5:=HP.out.c5
  go_wp2_with fail
  generalize W3.alloc (.cells #[.slice ta p.terms.length tc,.slice va p.vars.length vc,.slice ra p.rules.length rc,.slice la p.levels.length lc,.slice aa p.assocs.length ac,.slice ca p.acts.length cc] 32)=V0 at HP HB HT HS HFC d0 d1 d2 d3 d4 d5 ⊢
  generalize W3.heap.size=pb at HP d0 d1 d2 d3 d4 d5 ⊢
  refine HFC.mono ?_
  rintro e W4 ⟨fv,rfl,hf,k⟩
  obtain ⟨fnb,flb,flc,fmb,fmc,rfl,f1,f2,f3⟩:=hf
  have AL:=(Below.refl W4.heap.size W4).alloc (Nat.le_refl _) (.cells #[.slice (some ⟨fnb,0,none⟩) (Fi.nV p) (Fi.nV p),.slice (some ⟨flb,0,none⟩) (Fi.nV p) flc,.slice (some ⟨fmb,0,none⟩) (Fi.nV p) fmc,.int .i64 ((Fi.fs p).2:Nat)] 37)
  have HF0:=FB.new (lc:=flc) (mc:=fmc) f1 f2 f3
  unfold faC at HF0
  have hB4:=HB.out.trans (k.mono HB.out.size)
  have HB4:=Lib.hid (hB4.trans (AL.mono hB4.size))
  have HT4:=Lib.hid ((HT.out.below k).below AL)
  have HP4:=Lib.hid ((HP.out.below k).below AL)
  have HF4:=Lib.hid HF0
  have HWH:=whole10_any HF0.v (show PnV _ (.agg #[.slice ta p.terms.length tc,.slice va p.vars.length vc,.slice ra p.rules.length rc,.slice la p.levels.length lc,.slice aa p.assocs.length ac,.slice ca p.acts.length cc]) p from ⟨ta,tc,va,vc,ra,rc,la,lc,aa,ac,ca,cc,rfl,HP4.out.a⟩) (by have:=HO.out.m; omega)
  clear HFC d0 d1 d2 d3 d4 d5 f1 f2 f3 AL HF0 hB4 k HB HT HP HS
  have d0:=HP4.out.c0
  have d1:=HP4.out.c1
  have d2:=HP4.out.c2
  have d3:=HP4.out.c3
  have d4:=HP4.out.c4
  have d5:=HP4.out.c5
  have g0:=HF4.out.c0
  have g1:=HF4.out.c1
  have g2:=HF4.out.c2
  have g3:=HF4.out.c3
  go_wp2_with fail
  generalize W4.alloc (.cells #[.slice (some ⟨fnb,0,none⟩) (Fi.nV p) (Fi.nV p),.slice (some ⟨flb,0,none⟩) (Fi.nV p) flc,.slice (some ⟨fmb,0,none⟩) (Fi.nV p) fmc,.int .i64 ((Fi.fs p).2:Nat)] 37)=V1 at HB4 HT4 HP4 HF4 HWH d0 d1 d2 d3 d4 d5 g0 g1 g2 g3 ⊢
  generalize W4.heap.size=fb at HF4 g0 g1 g2 g3 ⊢
  refine HWH.mono ?_
  rintro e V ⟨rfl,k⟩
  have HP:=Lib.hid (HP4.out.below k)
  have HF:=Lib.hid (HF4.out.below k)
  have HT:=Lib.hid (HT4.out.below k)
  have HB:=Lib.hid (HB4.out.trans (k.mono HB4.out.size))
  clear HWH k d0 d1 d2 d3 d4 d5 g0 g1 g2 g3 HB4 HT4 HP4 HF4
  have hnb:=HO.out.nb
  have hmb:=HO.out.m
  have hof:=Pl.plan_of m HFEW.out
  rw [← HPL.out] at hof
  have HPO:=Lib.hid (Q.pos_of hof HO.out.n)
  have HFE:=Lib.hid (Fi.fst_end HPO.out)
  obtain ⟨st,hst,hs0⟩:=Q.start_of hof
  have HS0:=Lib.hid hs0
  have HSI:=Lib.hid (Fi.start_in HO.out hs0)
  have hvn:Fi.nV p=p.vars.length+1:=rfl
  clear hof hs0
  have d0:=HP.out.c0
  go_wp2_with fail
  clear d0
  go_loopg [8] (Fi.nV p) (fun gk iv wr=>∃ i:Nat,iv=.int .i64 i∧i≤Fi.nV p∧Hid (gk+i=Fi.nV p)∧Hid (Below V.heap.size V wr))
  case atStart=>exact ⟨0,rfl,by omega,Lib.hid (by omega),Lib.hid (Below.refl _ _)⟩
  case round =>
   obtain ⟨i,rfl,hi,HK,HX⟩:=hrel
   have hPX:=HP.out.below HX.out
   have hFX:=HF.out.below HX.out
   have f1:=hFX.c1
   by_cases hlt:i < Fi.nV p
   ·have hse:=sentenceR_any ((p.terms.length:Int)+(i:Nat)) (show PnV wr (.agg #[.slice ta p.terms.length tc,.slice va p.vars.length vc,.slice ra p.rules.length rc,.slice la p.levels.length lc,.slice aa p.assocs.length ac,.slice ca p.acts.length cc]) p from ⟨ta,tc,va,vc,ra,rc,la,lc,aa,ac,ca,cc,rfl,hPX.a⟩) HO.out
    have c0:=hPX.c0
    have c1:=hPX.c1
    have c2:=hPX.c2
    have c3:=hPX.c3
    have c4:=hPX.c4
    have c5:=hPX.c5
    clear hPX hFX
    go_wp2_with fail
    refine hse.mono ?_
    rintro e w5 ⟨sa,sc,rfl,hsi,k⟩
    have HX5:=Lib.hid (HX.out.trans (k.mono HX.out.size))
    have hfin:∀ t l,Q.sent p ((p.terms.length:Int)+(i:Nat))=t::l→inI (natI (Bs.lst (Fi.nT p) ((Fi.fs p).1.fst i))) t=true:=fun t l e=>Fi.first_in HO.out e
    generalize Q.sent p ((p.terms.length:Int)+(i:Nat))=s at hsi hfin
    clear hse k c0 c1 c2 c3 c4 c5 f1 HX
    go_upto_region 14 with fail
    go_cut [9,56] (fun sv bv wx=>bv=.bool false∧Hid (Below V.heap.size V wx))
    case first =>
     obtain ⟨fa,fc,m1,m2⟩:=HF.out.fst hlt
     have g1:=fun z:Wd w5.heap.size w5=>(HF.out.below (HX5.out.trans (z.ok.mono HX5.out.size))).c1
     have zm:=fun z:Wd w5.heap.size w5=>((bcell (HX5.out.trans (z.ok.mono HX5.out.size))).1 _ _ (World.block_lt_of_cell? V _ m1)).trans m1
     cases s with
     | nil =>
      clear hfin hsi m1 m2
      simp only [List.length_nil]
      refine region_cls w5.heap.size (by kernel_rfl) (by kernel_rfl) ?_
      repeat (go_big_quiet_step (fail))
      refine wpQuiet_nil ?_
      intro z
      have HX6:=Lib.hid (HX5.out.trans (z.ok.mono HX5.out.size))
      generalize z.w=w6 at HX6 ⊢
      clear z g1 zm
      go_wp2_with fail
      go_meet
      case rel=>exact ⟨rfl,HX6⟩
     | cons t l =>
      have hin:=hfin t l rfl
      obtain ⟨sb,so,rfl,q0⟩:=hsi 0 (by simp)
      simp only [List.getElem_cons_zero,Nat.add_zero] at q0
      have zq:=fun z:Wd w5.heap.size w5=>((bcell z.ok).1 _ _ (World.block_lt_of_cell? w5 _ q0)).trans q0
      have hic:=fun z:Wd w5.heap.size w5=>in_any fa (natI (Bs.lst (Fi.nT p) ((Fi.fs p).1.fst i))) fc t z.w (m2.below (HX5.out.trans (z.ok.mono HX5.out.size))) (lst_max (nT_le HO.out))
      rw [hin] at hic
      have e1:decide ((0:Int) < ((t::l).length:Nat))=true:=by simp
      have e1n:decide (0 < (t::l).length)=true:=by simp
      have e1m:0 < (t::l).length:=by simp
      generalize (t::l).length=sl at e1 e1n e1m ⊢
      clear hfin hin hsi m1 m2 q0
      refine region_cls w5.heap.size (by kernel_rfl) (by kernel_rfl) ?_
      repeat (go_big_quiet_step (first | (go_at_call 21; exact calls_cls_same _ (hic _))))
      refine wpQuiet_nil ?_
      intro z
      have HX6:=Lib.hid (HX5.out.trans (z.ok.mono HX5.out.size))
      generalize z.w=w6 at HX6 ⊢
      clear z g1 zm zq hic
      go_wp2_with fail
      go_meet
      case rel=>exact ⟨rfl,HX6⟩
    case rest =>
     obtain ⟨rfl,HX⟩:=hcut
     clear hfin hsi HX5
     go_wp2_with fail
     go_loopg [10] (natI (Bs.lst (Fi.nT p) ((Fi.fs p).1.fst i))).length (fun gk kv wr=>∃ k:Nat,kv=.int .i64 k∧k≤(natI (Bs.lst (Fi.nT p) ((Fi.fs p).1.fst i))).length∧Hid (gk+k=(natI (Bs.lst (Fi.nT p) ((Fi.fs p).1.fst i))).length)∧Hid (Below V.heap.size V wr))
     case atStart=>exact ⟨0,rfl,by omega,Lib.hid (by omega),HX⟩
     case round =>
      clear HX
      obtain ⟨k,rfl,hk,HK2,HX⟩:=hrel
      obtain ⟨fa,fc,m1,m2⟩:=HF.out.fst hlt
      have m3:=((bcell HX.out).1 _ _ (World.block_lt_of_cell? V _ m1)).trans m1
      have g1:=(HF.out.below HX.out).c1
      by_cases hlk:k < (natI (Bs.lst (Fi.nT p) ((Fi.fs p).1.fst i))).length
      ·obtain ⟨fb2,fo,rfl,q1⟩:=m2 k hlk
       obtain ⟨a,ha,ha2,ha3⟩:=Fi.lst_at hlk
       rw [ha] at q1
       have hz:a≠0:=(fun e=>by rw [e,HFE.out i] at ha3; cases ha3)
       have e1:decide ((a:Int) < 1)=false:=by simp; omega
       have ha4:a < p.terms.length:=ha2
       have e2:decide ((p.terms.length:Int)≤(a:Nat))=false:=by simp; omega
       have e2n:decide (p.terms.length≤a)=false:=by simp; omega
       have zg:=fun z:Wd wr.heap.size wr=>(HF.out.below (HX.out.trans (z.ok.mono HX.out.size))).c1
       have zm:=fun z:Wd wr.heap.size wr=>((bcell (HX.out.trans (z.ok.mono HX.out.size))).1 _ _ (World.block_lt_of_cell? V _ m1)).trans m1
       have zq:=fun z:Wd wr.heap.size wr=>((bcell (HX.out.trans (z.ok.mono HX.out.size))).1 _ _ (World.block_lt_of_cell? V _ q1)).trans q1
       cases k with
       | zero =>
        simp only [Nat.add_zero] at zq
        clear ha ha2 ha3 q1 m1 m2
        go_wp2_with fail
        refine region_cls wr.heap.size (by kernel_rfl) (by kernel_rfl) ?_
        repeat (go_big_quiet_step (fail))
        refine wpQuiet_nil ?_
        intro z
        have HX2:=Lib.hid (HX.out.trans (z.ok.mono HX.out.size))
        generalize z.w=w2 at HX2 ⊢
        clear z zg zm zq m3
        go_wp2_with fail
        go_roundg ((natI (Bs.lst (Fi.nT p) ((Fi.fs p).1.fst i))).length - (0+1))
        case measure=>have:=HK2.out; omega
        case rel=>exact ⟨0+1,by go_num,by omega,Lib.hid (by have:=HK2.out; omega),HX2⟩
       | succ k =>
        obtain ⟨b,hb,hb2,hb3⟩:=Fi.lst_at (show k < (natI (Bs.lst (Fi.nT p) ((Fi.fs p).1.fst i))).length by omega)
        have hnx:=Fi.lst_next hlk
        rw [ha,hb] at hnx
        obtain ⟨fb3,fo3,e5,q2⟩:=m2 k (by omega)
        rw [hb] at q2
        cases e5
        have e3:decide ((a:Int)≤(b:Nat))=false:=by simp; omega
        have e3n:decide (a≤b)=false:=by simp; omega
        have zp:=fun z:Wd wr.heap.size wr=>((bcell (HX.out.trans (z.ok.mono HX.out.size))).1 _ _ (World.block_lt_of_cell? V _ q2)).trans q2
        have hnx2:b < a:=by omega
        have hlk2:k < (natI (Bs.lst (Fi.nT p) ((Fi.fs p).1.fst i))).length:=by omega
        have hk9:k≤1000:=by have:=Bs.lst_len (Fi.nT p) ((Fi.fs p).1.fst i); simp only [natI,List.length_map] at hlk2; have:Fi.nT p≤1000:=hnb; omega
        clear ha ha2 ha3 hb hb2 hb3 hnx q1 q2 m1 m2
        go_wp2_with fail
        refine region_cls wr.heap.size (by kernel_rfl) (by kernel_rfl) ?_
        repeat (go_big_quiet_step (fail))
        refine wpQuiet_nil ?_
        intro z
        have HX2:=Lib.hid (HX.out.trans (z.ok.mono HX.out.size))
        generalize z.w=w2 at HX2 ⊢
        clear z zg zm zq zp m3
        go_wp2_with fail
        go_roundg ((natI (Bs.lst (Fi.nT p) ((Fi.fs p).1.fst i))).length - (k+1+1))
        case measure=>have:=HK2.out; omega
        case rel=>exact ⟨k+1+1,by go_num,by omega,Lib.hid (by have:=HK2.out; omega),HX2⟩
      ·obtain rfl:k=(natI (Bs.lst (Fi.nT p) ((Fi.fs p).1.fst i))).length:=by omega
       clear hlk HK2 m1 m2
       go_wp2_with fail
       clear m3 g1
       go_loopg [11] (natI (Bs.lst (Fi.nT p) (Fi.fol p i))).length (fun gk kv wr=>∃ k:Nat,kv=.int .i64 k∧k≤(natI (Bs.lst (Fi.nT p) (Fi.fol p i))).length∧Hid (gk+k=(natI (Bs.lst (Fi.nT p) (Fi.fol p i))).length)∧Hid (Below V.heap.size V wr))
       case atStart=>exact ⟨0,rfl,by omega,Lib.hid (by omega),HX⟩
       case round =>
        clear HX
        obtain ⟨k,rfl,hk,HK2,HX⟩:=hrel
        obtain ⟨fa,fc,m1,m2⟩:=HF.out.fol hlt
        have m3:=((bcell HX.out).1 _ _ (World.block_lt_of_cell? V _ m1)).trans m1
        have g2:=(HF.out.below HX.out).c2
        by_cases hlk:k < (natI (Bs.lst (Fi.nT p) (Fi.fol p i))).length
        ·obtain ⟨fb2,fo,rfl,q1⟩:=m2 k hlk
         obtain ⟨a,ha,ha2,ha3⟩:=Fi.lst_at hlk
         rw [ha] at q1
         have hz:True:=trivial
         have e1:decide ((a:Int) < 0)=false:=by simp
         have ha4:a < p.terms.length:=ha2
         have e2:decide ((p.terms.length:Int)≤(a:Nat))=false:=by simp; omega
         have e2n:decide (p.terms.length≤a)=false:=by simp; omega
         have zg:=fun z:Wd wr.heap.size wr=>(HF.out.below (HX.out.trans (z.ok.mono HX.out.size))).c2
         have zm:=fun z:Wd wr.heap.size wr=>((bcell (HX.out.trans (z.ok.mono HX.out.size))).1 _ _ (World.block_lt_of_cell? V _ m1)).trans m1
         have zq:=fun z:Wd wr.heap.size wr=>((bcell (HX.out.trans (z.ok.mono HX.out.size))).1 _ _ (World.block_lt_of_cell? V _ q1)).trans q1
         cases k with
         | zero =>
          simp only [Nat.add_zero] at zq
          clear ha ha2 ha3 q1 m1 m2
          go_wp2_with fail
          refine region_cls wr.heap.size (by kernel_rfl) (by kernel_rfl) ?_
          repeat (go_big_quiet_step (fail))
          refine wpQuiet_nil ?_
          intro z
          have HX2:=Lib.hid (HX.out.trans (z.ok.mono HX.out.size))
          generalize z.w=w2 at HX2 ⊢
          clear z zg zm zq m3
          go_wp2_with fail
          go_roundg ((natI (Bs.lst (Fi.nT p) (Fi.fol p i))).length - (0+1))
          case measure=>have:=HK2.out; omega
          case rel=>exact ⟨0+1,by go_num,by omega,Lib.hid (by have:=HK2.out; omega),HX2⟩
         | succ k =>
          obtain ⟨b,hb,hb2,hb3⟩:=Fi.lst_at (show k < (natI (Bs.lst (Fi.nT p) (Fi.fol p i))).length by omega)
          have hnx:=Fi.lst_next hlk
          rw [ha,hb] at hnx
          obtain ⟨fb3,fo3,e5,q2⟩:=m2 k (by omega)
          rw [hb] at q2
          cases e5
          have e3:decide ((a:Int)≤(b:Nat))=false:=by simp; omega
          have e3n:decide (a≤b)=false:=by simp; omega
          have zp:=fun z:Wd wr.heap.size wr=>((bcell (HX.out.trans (z.ok.mono HX.out.size))).1 _ _ (World.block_lt_of_cell? V _ q2)).trans q2
          have hnx2:b < a:=by omega
          have hlk2:k < (natI (Bs.lst (Fi.nT p) (Fi.fol p i))).length:=by omega
          have hk9:k≤1000:=by have:=Bs.lst_len (Fi.nT p) (Fi.fol p i); simp only [natI,List.length_map] at hlk2; have:Fi.nT p≤1000:=hnb; omega
          clear ha ha2 ha3 hb hb2 hb3 hnx q1 q2 m1 m2
          go_wp2_with fail
          refine region_cls wr.heap.size (by kernel_rfl) (by kernel_rfl) ?_
          repeat (go_big_quiet_step (fail))
          refine wpQuiet_nil ?_
          intro z
          have HX2:=Lib.hid (HX.out.trans (z.ok.mono HX.out.size))
          generalize z.w=w2 at HX2 ⊢
          clear z zg zm zq zp m3
          go_wp2_with fail
          go_roundg ((natI (Bs.lst (Fi.nT p) (Fi.fol p i))).length - (k+1+1))
          case measure=>have:=HK2.out; omega
          case rel=>exact ⟨k+1+1,by go_num,by omega,Lib.hid (by have:=HK2.out; omega),HX2⟩
        ·obtain rfl:k=(natI (Bs.lst (Fi.nT p) (Fi.fol p i))).length:=by omega
         clear hlk HK2 m1 m2
         go_wp2_with fail
         clear m3 g2
         go_roundg (Fi.nV p - (i+1))
         case measure=>have:=HK.out; omega
         case rel=>exact ⟨i+1,by go_num,by omega,Lib.hid (by omega),HX⟩
   ·obtain rfl:i=Fi.nV p:=by omega
    clear hlt HK
    have hr0:=HS0.out
    obtain ⟨h0,hr0⟩:=List.getElem?_eq_some_iff.1 hr0
    obtain ⟨rb,ro,xa,xc,e5,v0,v1,v2,vin⟩:=hPX.a.r 0 h0
    rw [hr0] at v0 v1 v2 vin
    subst e5
    obtain ⟨bb,bo,e6,q0⟩:=vin 0 (by simp)
    subst e6
    simp only [List.getElem_cons_zero,Nat.add_zero,Nat.zero_mul] at q0 v0 v1
    have c2:=hPX.c2
    have f2:=hFX.c2
    have hsv:st < Fi.nV p:=by omega
    obtain ⟨fa,fc,m1,m2⟩:=hFX.fol hsv
    have hic:=in_any fa (natI (Bs.lst (Fi.nT p) (Fi.fol p st))) fc 0 wr m2 (lst_max (nT_le HO.out))
    rw [HSI.out] at hic
    have hse:((p.terms.length+st:Nat):Int) - (p.terms.length:Int)=(st:Nat):=by omega
    clear hPX hFX v0 v2 vin m2 hr0
    simp only [List.length_cons,List.length_nil] at v1
    go_wp2_with fail
    refine hic.mono ?_
    rintro e w9 ⟨rfl,rfl⟩
    go_wp2_with fail
    go_ret
    exact ⟨rfl,HB.out.trans (HX.out.mono HB.out.size)⟩
end Go.Proofs.YtjbggogbnckllaaDoor
