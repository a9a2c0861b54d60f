/-
  The walk of the law FirstNothing.
-/
import Derived.Test.YtjbggogbnckllaaDoorAx
import Derived.Test.YtjbggogbnckllaaDoorRa
namespace Go.Proofs.YtjbggogbnckllaaDoor
open Go.RowKit
set_option linter.unusedVariables false
set_option linter.unusedSimpArgs false
set_option maxRecDepth 100000 in
set_option maxHeartbeats 16000000 in
theorem nothing10_law {w:World} {v:Value} {m:Pl.Sm}  (h:SmV w v m) (hz:SmSz m) (hT:Tab w)  :
  Calls Tryd.prog 3 #[v] w fun e w'=>e=.returned (.bool true)∧Below w.heap.size w w':=by
 obtain ⟨sla,sra,spa,saa,sva,slc,src,spc,sac,svc,rfl,h⟩:=h
 have HS:=SB.new (lc:=slc) (rc:=src) (pc:=spc) (ac:=sac) (vc:=svc) h
 have k:=(Below.refl w.heap.size w).alloc (Nat.le_refl _) (.cells (smC m sla sra spa saa sva slc src spc sac svc) 25)
 have HT0:=Lib.hid (hT.below k)
 have HB0:=Lib.hid k
 unfold smC at HS HB0 HT0 ⊢
 have HS0:=Lib.hid HS
 
 clear HS k h hT
 go_enter Tryd.func3,Tryd.ntmps3
 go_wp2_with fail
 generalize w.alloc (.cells #[.int .u8 (m.tokens:Nat),.int .u8 (m.vars:Nat),.slice sla m.lefts.length slc,.slice sra m.rights.length src,.slice spa m.precs.length spc,.slice saa m.assocs.length sac,.slice sva m.levels.length svc] 25)=W at HS0 HB0 HT0  ⊢
 refine (awake10_any W HT0.out).mono ?_
 rintro e W1 ⟨rfl,k⟩
 have HT1:=Lib.hid (HT0.out.below k)
 have HB1:=Lib.hid (HB0.out.trans (k.mono HB0.out.size))
 have HS1:=Lib.hid (HS0.out.below k)
 have HFW:=few_any 20 8 (w:=W1) (v:=.agg #[.int .u8 (m.tokens:Nat),.int .u8 (m.vars:Nat),.slice sla m.lefts.length slc,.slice sra m.rights.length src,.slice spa m.precs.length spc,.slice saa m.assocs.length sac,.slice sva m.levels.length svc]) ⟨sla,sra,spa,saa,sva,slc,src,spc,sac,svc,rfl,HS1.out.a⟩ hz (by omega) (by omega)
 have c0:=HS1.out.c0
 have c1:=HS1.out.c1
 have c2:=HS1.out.c2
 have c3:=HS1.out.c3
 have c4:=HS1.out.c4
 have c5:=HS1.out.c5
 have c6:=HS1.out.c6
 clear HT0 HB0 HS0 k
 go_wp2_with fail
 refine HFW.mono ?_
 rintro e W2 ⟨rfl,k⟩
 have HT2:=Lib.hid (HT1.out.below k)
 have HB2:=Lib.hid (HB1.out.trans (k.mono HB1.out.size))
 have HS2:=Lib.hid (HS1.out.below k)
 clear HFW k HT1 HB1 HS1 c0 c1 c2 c3 c4 c5 c6
 cases hf:Pl.few m 20 8
 case false =>
  go_wp2_with fail
  go_ret
  exact ⟨rfl,HB2.out⟩
 case true =>
  have HPN:=plan_any (w:=W2) (v:=.agg #[.int .u8 (m.tokens:Nat),.int .u8 (m.vars:Nat),.slice sla m.lefts.length slc,.slice sra m.rights.length src,.slice spa m.precs.length spc,.slice saa m.assocs.length sac,.slice sva m.levels.length svc]) ⟨sla,sra,spa,saa,sva,slc,src,spc,sac,svc,rfl,HS2.out.a⟩ hz hf
  have hplan:=Q.plan_ok (hf)
  obtain ⟨p,hp⟩:∃ p,p=Pl.plan m:=⟨_,rfl⟩
  rw [← hp] at HPN hplan
  have HPL:=Lib.hid hp
  have HO:=Lib.hid hplan.1
  have HCN:=Lib.hid hplan.2.1
  have HRU:=Lib.hid hplan.2.2.1
  have HRL:=Lib.hid hplan.2.2.2
  have HFEW:=Lib.hid hf
  have c0:=HS2.out.c0
  have c1:=HS2.out.c1
  have c2:=HS2.out.c2
  have c3:=HS2.out.c3
  have c4:=HS2.out.c4
  have c5:=HS2.out.c5
  have c6:=HS2.out.c6
  clear hplan hp hf
  go_wp2_with fail
  refine HPN.mono ?_
  rintro e W3 ⟨pv,rfl,hpv,k⟩
  obtain ⟨ta,tc,va,vc,ra,rc,la,lc,aa,ac,ca,cc,rfl,hpa⟩:=hpv
  have AL:=(Below.refl W3.heap.size W3).alloc (Nat.le_refl _) (.cells #[.slice ta p.terms.length tc,.slice va p.vars.length vc,.slice ra p.rules.length rc,.slice la p.levels.length lc,.slice aa p.assocs.length ac,.slice ca p.acts.length cc] 32)
  have HP0:=PB.new (tc:=tc) (vc:=vc) (rc:=rc) (lc:=lc) (ac:=ac) (cc:=cc) hpa
  unfold pnC at HP0
  have HP:=Lib.hid HP0
  have hB3:=HB2.out.trans (k.mono HB2.out.size)
  have HB:=Lib.hid (hB3.trans (AL.mono hB3.size))
  have HT:=Lib.hid ((HT2.out.below k).below AL)
  have HS:=Lib.hid ((HS2.out.below k).below AL)
  clear HPN k AL HP0 hpa hB3 HT2 HB2 HS2 c0 c1 c2 c3 c4 c5 c6
  have HFC:=facts_any (w:=_) (v:=.agg #[.slice ta p.terms.length tc,.slice va p.vars.length vc,.slice ra p.rules.length rc,.slice la p.levels.length lc,.slice aa p.assocs.length ac,.slice ca p.acts.length cc]) ⟨ta,tc,va,vc,ra,rc,la,lc,aa,ac,ca,cc,rfl,HP.out.a⟩ HO.out (by have:=HCN.out; omega) HT.out
  have d0:=HP.out.c0
  have d1:=HP.out.c1
  have d2:=HP.out.c2
  have d3:=HP.out.c3
  have d4:=HP.out.c4
  have d5:=HP.out.c5
  go_wp2_with fail
  generalize W3.alloc (.cells #[.slice ta p.terms.length tc,.slice va p.vars.length vc,.slice ra p.rules.length rc,.slice la p.levels.length lc,.slice aa p.assocs.length ac,.slice ca p.acts.length cc] 32)=V0 at HP HB HT HS HFC d0 d1 d2 d3 d4 d5 ⊢
  generalize W3.heap.size=pb at HP d0 d1 d2 d3 d4 d5 ⊢
  refine HFC.mono ?_
  rintro e W4 ⟨fv,rfl,hf,k⟩
  obtain ⟨fnb,flb,flc,fmb,fmc,rfl,f1,f2,f3⟩:=hf
  have AL:=(Below.refl W4.heap.size W4).alloc (Nat.le_refl _) (.cells #[.slice (some ⟨fnb,0,none⟩) (Fi.nV p) (Fi.nV p),.slice (some ⟨flb,0,none⟩) (Fi.nV p) flc,.slice (some ⟨fmb,0,none⟩) (Fi.nV p) fmc,.int .i64 ((Fi.fs p).2:Nat)] 37)
  have HF0:=FB.new (lc:=flc) (mc:=fmc) f1 f2 f3
  unfold faC at HF0
  have hB4:=HB.out.trans (k.mono HB.out.size)
  have HB4:=Lib.hid (hB4.trans (AL.mono hB4.size))
  have HT4:=Lib.hid ((HT.out.below k).below AL)
  have HP4:=Lib.hid ((HP.out.below k).below AL)
  have HF4:=Lib.hid HF0
  have HWH:=whole10_any HF0.v (show PnV _ (.agg #[.slice ta p.terms.length tc,.slice va p.vars.length vc,.slice ra p.rules.length rc,.slice la p.levels.length lc,.slice aa p.assocs.length ac,.slice ca p.acts.length cc]) p from ⟨ta,tc,va,vc,ra,rc,la,lc,aa,ac,ca,cc,rfl,HP4.out.a⟩) (by have:=HO.out.m; omega)
  clear HFC d0 d1 d2 d3 d4 d5 f1 f2 f3 AL HF0 hB4 k HB HT HP HS
  have d0:=HP4.out.c0
  have d1:=HP4.out.c1
  have d2:=HP4.out.c2
  have d3:=HP4.out.c3
  have d4:=HP4.out.c4
  have d5:=HP4.out.c5
  have g0:=HF4.out.c0
  have g1:=HF4.out.c1
  have g2:=HF4.out.c2
  have g3:=HF4.out.c3
  go_wp2_with fail
  generalize W4.alloc (.cells #[.slice (some ⟨fnb,0,none⟩) (Fi.nV p) (Fi.nV p),.slice (some ⟨flb,0,none⟩) (Fi.nV p) flc,.slice (some ⟨fmb,0,none⟩) (Fi.nV p) fmc,.int .i64 ((Fi.fs p).2:Nat)] 37)=V1 at HB4 HT4 HP4 HF4 HWH d0 d1 d2 d3 d4 d5 g0 g1 g2 g3 ⊢
  generalize W4.heap.size=fb at HF4 g0 g1 g2 g3 ⊢
  refine HWH.mono ?_
  rintro e V ⟨rfl,k⟩
  have HP:=Lib.hid (HP4.out.below k)
  have HF:=Lib.hid (HF4.out.below k)
  have HT:=Lib.hid (HT4.out.below k)
  have HB:=Lib.hid (HB4.out.trans (k.mono HB4.out.size))
  clear HWH k d0 d1 d2 d3 d4 d5 g0 g1 g2 g3 HB4 HT4 HP4 HF4
  have hnb:=HO.out.nb
  have hmb:=HO.out.m
  have hLE:=lengths9_any (show PnV V (.agg #[.slice ta p.terms.length tc,.slice va p.vars.length vc,.slice ra p.rules.length rc,.slice la p.levels.length lc,.slice aa p.assocs.length ac,.slice ca p.acts.length cc]) p from ⟨ta,tc,va,vc,ra,rc,la,lc,aa,ac,ca,cc,rfl,HP.out.a⟩) HO.out
  have d0:=HP.out.c0
  have d1:=HP.out.c1
  have d2:=HP.out.c2
  have d3:=HP.out.c3
  have d4:=HP.out.c4
  have d5:=HP.out.c5
  go_wp2_with fail
  refine hLE.mono ?_
  rintro e U ⟨ga,gc,gb,gd,rfl,hA,-,k⟩
  have HA:=Lib.hid hA
  have HPU:=Lib.hid (HP.out.below k)
  have HFU:=Lib.hid (HF.out.below k)
  have HBU:=Lib.hid (HB.out.trans (k.mono HB.out.size))
  have hcn:Q.cnt p=p.terms.length+p.vars.length+1:=rfl
  have hvn:Fi.nV p=p.vars.length+1:=rfl
  clear hLE hA k d0 d1 d2 d3 d4 d5 HP HF HT HB
  go_wp2_with fail
  go_loopg [9] (Fi.nV p) (fun gk iv wr=>∃ i:Nat,iv=.int .i64 i∧i≤Fi.nV p∧Hid (gk+i=Fi.nV p)∧Hid (Below U.heap.size U wr))
  case atStart=>exact ⟨0,rfl,by omega,Lib.hid (by omega),Lib.hid (Below.refl _ _)⟩
  case round =>
   obtain ⟨i,rfl,hi,HK,HX⟩:=hrel
   have hFX:=HFU.out.below HX.out
   have f0:=hFX.c0
   have f1:=hFX.c1
   by_cases hlt:i < Fi.nV p
   ·have d0:=(HPU.out.below HX.out).c0
    have a0:=(HA.out.below HX.out).cell (show p.terms.length+i < Q.cnt p by omega)
    have n0:=hFX.n.cell hlt
    obtain ⟨la1,lc1,m1,-⟩:=hFX.fst hlt
    have h1:=Fi.null_zero HO.out i
    have h2:=Fi.zero_null HO.out (p.terms.length+i) (by show p.terms.length≤_; omega)
    have h3:=Fi.der_some HO.out (p.terms.length+i) (by show p.terms.length≤_; omega)
    have h4:=Fi.fs_lt (p:=p) i
    rw [show p.terms.length+i - Fi.nT p=i by unfold Fi.nT; omega] at h2 h3
    rw [show Fi.nT p+i=p.terms.length+i from rfl] at h1
    have h5:(natI (Bs.lst (Fi.nT p) ((Fi.fs p).1.fst i))).length=0→(Fi.fs p).1.fst i=0:=fun h=>by
     have hl:Bs.lst (Fi.nT p) ((Fi.fs p).1.fst i)=[]:=by
      have:(Bs.lst (Fi.nT p) ((Fi.fs p).1.fst i)).length=0:=by simpa [natI] using h
      exact List.length_eq_zero_iff.1 this
     refine Nat.eq_of_testBit_eq fun j=>?_
     rw [Nat.zero_testBit]
     cases hb:((Fi.fs p).1.fst i).testBit j with
     | false=>rfl
     | true =>
      have hj:j < Fi.nT p:=by
       rcases Nat.lt_or_ge j (Fi.nT p) with h | h
       ·exact h
       ·rw [Bs.bit_of_lt h4 h] at hb; cases hb
      have:j ∈ Bs.lst (Fi.nT p) ((Fi.fs p).1.fst i):=Bs.mem_lst.2 ⟨hj,hb⟩
      rw [hl] at this
      cases this
    have hla:(natI (Bs.lst (Fi.nT p) ((Fi.fs p).1.fst i))).length≤1000:=by have:=Bs.lst_len (Fi.nT p) ((Fi.fs p).1.fst i); simp only [natI,List.length_map]; have:Fi.nT p≤1000:=hnb; omega
    generalize (Q.lens p).long (p.terms.length+i)=kk at a0 h1 h2 h3
    generalize (natI (Bs.lst (Fi.nT p) ((Fi.fs p).1.fst i))).length=A at m1 h5 hla
    generalize (Fi.fs p).1.null i=nl at n0 h1 h2 h3
    clear hFX h4
    cases nl with
    | true =>
     obtain rfl:=h1 rfl
     clear h1 h2 h3 h5
     by_cases hA0:A=0
     ·subst hA0
      go_wp2_with fail
      go_roundg (Fi.nV p - (i+1))
      case measure=>have:=HK.out; omega
      case rel=>exact ⟨i+1,by go_num,by omega,Lib.hid (by omega),HX⟩
     ·have e1:decide ((A:Int)=0)=false:=by simp; omega
      go_wp2_with fail
      go_roundg (Fi.nV p - (i+1))
      case measure=>have:=HK.out; omega
      case rel=>exact ⟨i+1,by go_num,by omega,Lib.hid (by omega),HX⟩
    | false =>
     have hk0:kk≠0:=fun h=>by have:=h2 h; cases this
     have e0:decide (kk=0)=false:=by simpa using hk0
     by_cases hA0:A=0
     ·have hkn:kk < 0:=by
       rcases Int.lt_or_le kk 0 with h | h
       ·exact h
       ·rcases h3 h with h | h
        ·cases h
        ·exact absurd (h5 hA0) h
      have e2:decide (0≤kk)=false:=by simp; omega
      subst hA0
      clear h1 h2 h3 h5
      go_wp2_with fail
      go_roundg (Fi.nV p - (i+1))
      case measure=>have:=HK.out; omega
      case rel=>exact ⟨i+1,by go_num,by omega,Lib.hid (by omega),HX⟩
     ·have e1:decide ((A:Int)=0)=false:=by simp; omega
      clear h1 h2 h3 h5
      go_wp2_with fail
      go_roundg (Fi.nV p - (i+1))
      case measure=>have:=HK.out; omega
      case rel=>exact ⟨i+1,by go_num,by omega,Lib.hid (by omega),HX⟩
   ·obtain rfl:i=Fi.nV p:=by omega
    clear hlt HK
    go_wp2_with fail
    go_ret
    exact ⟨rfl,HBU.out.trans (HX.out.mono HBU.out.size)⟩
end Go.Proofs.YtjbggogbnckllaaDoor
