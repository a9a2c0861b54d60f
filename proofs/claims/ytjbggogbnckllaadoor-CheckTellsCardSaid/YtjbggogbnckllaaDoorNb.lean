/-
  Walks of the reference of chapter 9: Productive, Reachable, Check.
-/
import Derived.Test.YtjbggogbnckllaaDoorZz
import Derived.Test.YtjbggogbnckllaaDoorNa
import Derived.Test.YtjbggogbnckllaaDoorAo
namespace Go.Proofs.YtjbggogbnckllaaDoor
open Go.RowKit
set_option linter.unusedVariables false
set_option linter.unusedSimpArgs false
theorem own_sl9 {w:World} {B n:Nat} {v:Value} {l:List Int} (h:w.ownsRow B 3 1 v n (intV l)):∃ a cap,v=.slice a n cap∧Ints w a l:=by
 have h0:=h
 rcases h.2 with ⟨rfl,rfl⟩ | ⟨g,c,cur,rfl,_⟩
 ·exact ⟨none,0,rfl,Ints.of_owns h0⟩
 ·exact ⟨_,_,rfl,Ints.of_owns h0⟩
set_option maxRecDepth 100000 in
set_option maxHeartbeats 16000000 in
theorem reachR_any {w:World} {v:Value} {p:Pl.Plan} (h:PnV w v p) (ho:Q.OK p) :
  Calls Tryd.prog 39 #[v] w fun e w'=>∃ na nc,e=.returned (.slice na (Q.ofB (Q.come p) (Q.cnt p)).length nc)∧Ints w' na (Q.ofB (Q.come p) (Q.cnt p))∧Below w.heap.size w w':=by
 obtain ⟨ta,tc,va,vc,ra,rc,la,lc,aa,ac,ca,cc,rfl,h⟩:=h
 have HP0:=PB.new (tc:=tc) (vc:=vc) (rc:=rc) (lc:=lc) (ac:=ac) (cc:=cc) h
 have k:=(Below.refl w.heap.size w).alloc (Nat.le_refl _) (.cells (pnC p ta va ra la aa ca tc vc rc lc ac cc) 32)
 unfold pnC at HP0 k
 have HB:=Lib.hid k
 have HP:=Lib.hid HP0
 have HOK:=Lib.hid ho
 have hnb:=ho.nb
 have hmb:=ho.m
 have hcn:Q.cnt p=p.terms.length+p.vars.length+1:=rfl
 clear HP0 h k ho
 go_enter Tryd.func39,Tryd.ntmps39
 have c0:=HP.out.c0
 have c1:=HP.out.c1
 have c2:=HP.out.c2
 have c3:=HP.out.c3
 have c4:=HP.out.c4
 have c5:=HP.out.c5
 go_wp2_with fail
 generalize w.alloc (.cells #[.slice ta p.terms.length tc,.slice va p.vars.length vc,.slice ra p.rules.length rc,.slice la p.levels.length lc,.slice aa p.assocs.length ac,.slice ca p.acts.length cc] 32)=W at HB HP c0 c1 c2 c3 c4 c5 ⊢
 have hV:∀ X,Below W.heap.size W X→PnV X (.agg #[.slice ta p.terms.length tc,.slice va p.vars.length vc,.slice ra p.rules.length rc,.slice la p.levels.length lc,.slice aa p.assocs.length ac,.slice ca p.acts.length cc]) p:=fun X k=>⟨ta,tc,va,vc,ra,rc,la,lc,aa,ac,ca,cc,rfl,HP.out.a.below k⟩
 refine (come_any (hV W (Below.refl _ _)) HOK.out).mono ?_
 rintro e V ⟨g,rfl,hb,hg,k⟩
 have HR:=Lib.hid hb
 have HV:=Lib.hid k
 clear hb hg k c0 c1 c2 c3 c4 c5 hV
 go_wp2_with fail
 go_loopg [4,5] (Q.cnt p) (fun gk ov iv wr=>∃ k:Nat,iv=.int .i64 k∧k≤Q.cnt p∧Hid (gk+k=Q.cnt p)∧Hid (wr.ownsRow V.heap.size 3 1 ov (Q.ofB (Q.come p) k).length (intV (Q.ofB (Q.come p) k)))∧Hid (Below V.heap.size V wr))
 case atStart=>exact ⟨0,rfl,by omega,Lib.hid (by omega),Lib.hid (World.ownsRow_nil _ _ _ _),Lib.hid (Below.refl _ _)⟩
 case round =>
  obtain ⟨k,rfl,hk,HK,HO,HW⟩:=hrel
  by_cases hlt:k < Q.cnt p
  ·have q0:=(HR.out.below HW.out).cell hlt
   have hlen:=Q.ofB_len (Q.come p) k
   cases hb:Q.come p k with
   | false =>
    rw [hb] at q0
    have HN:=Lib.hid (Q.ofB_no hb)
    clear hb
    go_wp2_with fail
    go_roundg (Q.cnt p - (k+1))
    case measure=>have:=HK.out; omega
    case rel=>exact ⟨k+1,by go_num,by omega,Lib.hid (by omega),Lib.hid (by rw [HN.out]; exact HO.out),HW⟩
   | true =>
    rw [hb] at q0
    have HN:=Lib.hid (Q.ofB_yes hb)
    have hsz:=HW.out.size
    have HO2:=Lib.hid (HO.out.alloc (.cells #[.int .i64 (k:Nat)] 3))
    have HW2:=Lib.hid (HW.out.alloc hsz (.cells #[.int .i64 (k:Nat)] 3))
    go_wp2_with (refine list_append_one rfl _ _ _ rfl 3 V.heap.size 1 8 elt_int _ (Q.ofB (Q.come p) k).length (intV ((Q.ofB (Q.come p) k))) rfl HO2.out ⟨_,0,none⟩ 1 [.int .i64 (k:Nat)] rfl rfl (World.news_of_block (cs:=#[.int .i64 (k:Nat)]) (t:=3) (fr:=(0,0)) (heap_alloc_new _ _)) (by simp [Value.oneCell']) (by unfold maxLen; omega) (by omega) (by simp; omega) ?_; intro bg bcap wg hog hgg hb1 hb2 hb3; have HW3:=Lib.hid (HW2.out.trans (below_own HO2.out (by simp; omega) hgg)); have HO3:=Lib.hid hog; clear hog hgg hb1 hb2 hb3 HW2 HO2)
    go_roundg (Q.cnt p - (k+1))
    case measure=>have:=HK.out; omega
    case rel=>exact ⟨k+1,by go_num,by omega,Lib.hid (by omega),Lib.hid (by rw [HN.out,List.length_append,intV_snoc]; exact HO3.out),HW3⟩
  ·obtain rfl:k=Q.cnt p:=by omega
   clear hlt HK
   obtain ⟨a,cap,rfl,hi⟩:=own_sl9 HO.out
   have HI:=Lib.hid hi
   clear hi
   go_wp2_with fail
   go_ret
   exact ⟨a,cap,rfl,HI.out,HB.out.trans ((HV.out.trans (HW.out.mono HV.out.size)).mono HB.out.size)⟩
set_option maxRecDepth 100000 in
set_option maxHeartbeats 16000000 in
theorem prodR_any {w:World} {v:Value} {p:Pl.Plan} (h:PnV w v p) (ho:Q.OK p) :
  Calls Tryd.prog 38 #[v] w fun e w'=>∃ na nc,e=.returned (.slice na (Q.ofB (Q.prodB p) (Q.cnt p)).length nc)∧Ints w' na (Q.ofB (Q.prodB p) (Q.cnt p))∧Below w.heap.size w w':=by
 obtain ⟨ta,tc,va,vc,ra,rc,la,lc,aa,ac,ca,cc,rfl,h⟩:=h
 have HP0:=PB.new (tc:=tc) (vc:=vc) (rc:=rc) (lc:=lc) (ac:=ac) (cc:=cc) h
 have k:=(Below.refl w.heap.size w).alloc (Nat.le_refl _) (.cells (pnC p ta va ra la aa ca tc vc rc lc ac cc) 32)
 unfold pnC at HP0 k
 have HB:=Lib.hid k
 have HP:=Lib.hid HP0
 have HOK:=Lib.hid ho
 have hnb:=ho.nb
 have hmb:=ho.m
 have hcn:Q.cnt p=p.terms.length+p.vars.length+1:=rfl
 clear HP0 h k ho
 go_enter Tryd.func38,Tryd.ntmps38
 have c0:=HP.out.c0
 have c1:=HP.out.c1
 have c2:=HP.out.c2
 have c3:=HP.out.c3
 have c4:=HP.out.c4
 have c5:=HP.out.c5
 go_wp2_with fail
 generalize w.alloc (.cells #[.slice ta p.terms.length tc,.slice va p.vars.length vc,.slice ra p.rules.length rc,.slice la p.levels.length lc,.slice aa p.assocs.length ac,.slice ca p.acts.length cc] 32)=W at HB HP c0 c1 c2 c3 c4 c5 ⊢
 have hV:∀ X,Below W.heap.size W X→PnV X (.agg #[.slice ta p.terms.length tc,.slice va p.vars.length vc,.slice ra p.rules.length rc,.slice la p.levels.length lc,.slice aa p.assocs.length ac,.slice ca p.acts.length cc]) p:=fun X k=>⟨ta,tc,va,vc,ra,rc,la,lc,aa,ac,ca,cc,rfl,HP.out.a.below k⟩
 refine (makes_any (hV W (Below.refl _ _)) HOK.out).mono ?_
 rintro e V ⟨g,rfl,hb,hg,k⟩
 have HR:=Lib.hid hb
 have HV:=Lib.hid k
 have d0:=(HP.out.below HV.out).c0
 have hst:Q.ofB (Q.prodB p) p.terms.length=[]:=by
  unfold Q.ofB
  rw [List.map_eq_nil_iff,List.filter_eq_nil_iff]
  intro i hi
  have:=List.mem_range.1 hi
  unfold Q.prodB
  have h1:decide (p.terms.length≤i)=false:=by simp; omega
  rw [h1]; simp
 have HST:=Lib.hid hst
 clear hb hg k c0 c1 c2 c3 c4 c5 hst
 go_wp2_with fail
 clear d0
 go_loopg [4,5] (p.vars.length) (fun gk ov iv wr=>∃ k:Nat,iv=.int .i64 ((p.terms.length:Int)+(k:Nat))∧k≤p.vars.length∧Hid (gk+k=p.vars.length)∧Hid (wr.ownsRow V.heap.size 3 1 ov (Q.ofB (Q.prodB p) (p.terms.length+k)).length (intV (Q.ofB (Q.prodB p) (p.terms.length+k))))∧Hid (Below V.heap.size V wr))
 case atStart=>exact ⟨0,by go_num,by omega,Lib.hid (by omega),Lib.hid (by rw [Nat.add_zero,HST.out]; exact World.ownsRow_nil _ _ _ _),Lib.hid (Below.refl _ _)⟩
 case round =>
  obtain ⟨k,rfl,hk,HK,HO,HW⟩:=hrel
  have hPW:=HP.out.below (HV.out.trans (HW.out.mono HV.out.size))
  have c0:=hPW.c0
  have c1:=hPW.c1
  have c2:=hPW.c2
  have c3:=hPW.c3
  have c4:=hPW.c4
  have c5:=hPW.c5
  have hct:=count_any (hV wr (HV.out.trans (HW.out.mono HV.out.size))) hnb hmb
  clear hPW
  go_wp2_with fail
  refine hct.mono ?_
  rintro e w1 ⟨rfl,kb⟩
  have HW1:=Lib.hid (HW.out.trans (kb.mono HW.out.size))
  have HO1:=Lib.hid (owns_below HO.out kb)
  clear hct kb c0 c1 c2 c3 c4 c5 HO HW
  by_cases hlt:k < p.vars.length
  ·have q0:=(HR.out.below HW1.out).cell (show p.terms.length+k < Q.cnt p by omega)
   have hlen:=Q.ofB_len (Q.prodB p) (p.terms.length+k)
   have hpb:Q.prodB p (p.terms.length+k)=Q.makes p (p.terms.length+k):=by
    rw [Q.makes_lens HOK.out]
    unfold Q.prodB
    have h1:decide (p.terms.length≤p.terms.length+k)=true:=by simp
    have h2:decide (p.terms.length+k≠p.terms.length+p.vars.length)=true:=by simp; omega
    rw [h1,h2]; simp
   cases hb:Q.makes p (p.terms.length+k) with
   | false =>
    rw [hb] at q0 hpb
    have HN:=Lib.hid (Q.ofB_no hpb)
    clear hb hpb
    go_wp2_with fail
    go_roundg (p.vars.length - (k+1))
    case measure=>have:=HK.out; omega
    case rel=>exact ⟨k+1,by go_num,by omega,Lib.hid (by omega),Lib.hid (by rw [← Nat.add_assoc,HN.out]; exact HO1.out),HW1⟩
   | true =>
    rw [hb] at q0 hpb
    have HN:=Lib.hid (Q.ofB_yes hpb)
    have hsz:=HW1.out.size
    have HO2:=Lib.hid (HO1.out.alloc (.cells #[.int .i64 ((p.terms.length+k:Nat):Int)] 3))
    have HW2:=Lib.hid (HW1.out.alloc hsz (.cells #[.int .i64 ((p.terms.length+k:Nat):Int)] 3))
    clear hb hpb
    go_wp2_with (refine list_append_one rfl _ _ _ rfl 3 V.heap.size 1 8 elt_int _ (Q.ofB (Q.prodB p) (p.terms.length+k)).length (intV ((Q.ofB (Q.prodB p) (p.terms.length+k)))) rfl HO2.out ⟨_,0,none⟩ 1 [.int .i64 ((p.terms.length+k:Nat):Int)] rfl rfl (World.news_of_block (cs:=#[.int .i64 ((p.terms.length+k:Nat):Int)]) (t:=3) (fr:=(0,0)) (heap_alloc_new _ _)) (by simp [Value.oneCell']) (by unfold maxLen; omega) (by omega) (by simp; omega) ?_; intro bg bcap wg hog hgg hb1 hb2 hb3; have HW3:=Lib.hid (HW2.out.trans (below_own HO2.out (by simp; omega) hgg)); have HO3:=Lib.hid hog; clear hog hgg hb1 hb2 hb3 HW2 HO2)
    go_roundg (p.vars.length - (k+1))
    case measure=>have:=HK.out; omega
    case rel=>exact ⟨k+1,by go_num,by omega,Lib.hid (by omega),Lib.hid (by rw [← Nat.add_assoc,HN.out,List.length_append,intV_snoc]; exact HO3.out),HW3⟩
  ·obtain rfl:k=p.vars.length:=by omega
   clear hlt HK
   obtain ⟨a,cap,rfl,hi⟩:=own_sl9 HO1.out
   have hlast:Q.ofB (Q.prodB p) (Q.cnt p)=Q.ofB (Q.prodB p) (p.terms.length+p.vars.length):=Q.ofB_no (by unfold Q.prodB; simp)
   have HLL:=Lib.hid hlast
   have HI:=Lib.hid hi
   clear hi hlast
   go_wp2_with fail
   go_ret
   rw [HLL.out]
   exact ⟨a,cap,rfl,HI.out,HB.out.trans ((HV.out.trans (HW1.out.mono HV.out.size)).mono HB.out.size)⟩
set_option maxRecDepth 100000 in
set_option maxHeartbeats 16000000 in
theorem checkR_any {w:World} {v:Value} {p:Pl.Plan} (h:PnV w v p) (ho:Q.OK p) :
  Calls Tryd.prog 32 #[v] w fun e w'=>e=.returned (.tuple #[.int .i64 (Q.check p).1,.int .i64 (Q.check p).2])∧Below w.heap.size w w':=by
 obtain ⟨ta,tc,va,vc,ra,rc,la,lc,aa,ac,ca,cc,rfl,h⟩:=h
 have HP0:=PB.new (tc:=tc) (vc:=vc) (rc:=rc) (lc:=lc) (ac:=ac) (cc:=cc) h
 have k:=(Below.refl w.heap.size w).alloc (Nat.le_refl _) (.cells (pnC p ta va ra la aa ca tc vc rc lc ac cc) 32)
 unfold pnC at HP0 k
 have HB:=Lib.hid k
 have HP:=Lib.hid HP0
 have HOK:=Lib.hid ho
 have hnb:=ho.nb
 have hmb:=ho.m
 have hcn:Q.cnt p=p.terms.length+p.vars.length+1:=rfl
 clear HP0 h k ho
 go_enter Tryd.func32,Tryd.ntmps32
 have c0:=HP.out.c0
 have c1:=HP.out.c1
 have c2:=HP.out.c2
 have c3:=HP.out.c3
 have c4:=HP.out.c4
 have c5:=HP.out.c5
 go_wp2_with fail
 generalize w.alloc (.cells #[.slice ta p.terms.length tc,.slice va p.vars.length vc,.slice ra p.rules.length rc,.slice la p.levels.length lc,.slice aa p.assocs.length ac,.slice ca p.acts.length cc] 32)=W at HB HP c0 c1 c2 c3 c4 c5 ⊢
 have hV:∀ X,Below W.heap.size W X→PnV X (.agg #[.slice ta p.terms.length tc,.slice va p.vars.length vc,.slice ra p.rules.length rc,.slice la p.levels.length lc,.slice aa p.assocs.length ac,.slice ca p.acts.length cc]) p:=fun X k=>⟨ta,tc,va,vc,ra,rc,la,lc,aa,ac,ca,cc,rfl,HP.out.a.below k⟩
 refine (makes_any (hV W (Below.refl _ _)) HOK.out).mono ?_
 rintro e V1 ⟨gm,rfl,hb1,hg1,k1⟩
 have d0:=(HP.out.below k1).c0
 have d1:=(HP.out.below k1).c1
 have d2:=(HP.out.below k1).c2
 have d3:=(HP.out.below k1).c3
 have d4:=(HP.out.below k1).c4
 have d5:=(HP.out.below k1).c5
 clear c0 c1 c2 c3 c4 c5
 have hco:=come_any (hV V1 k1) HOK.out
 have HK1:=Lib.hid k1
 have HB1:=Lib.hid hb1
 clear k1 hb1 hg1
 go_wp2_with fail
 refine hco.mono ?_
 rintro e V ⟨gc,rfl,hb2,hg2,k2⟩
 have HW:=Lib.hid (HK1.out.trans (k2.mono HK1.out.size))
 have HM:=Lib.hid (HB1.out.below k2)
 have HC:=Lib.hid hb2
 obtain ⟨B6,hB6⟩:∃ B6,B6=Q.bad (Q.makes p) p.vars.length p.terms.length:=⟨_,rfl⟩
 obtain ⟨B7,hB7⟩:∃ B7,B7=Q.bad (Q.come p) p.vars.length p.terms.length:=⟨_,rfl⟩
 have hck:Q.check p=match (generalizing:=false) B6 with | some i=>((i:Int),18) | none=>match (generalizing:=false) B7 with | some i=>((i:Int),17) | none=>(0,0):=by unfold Q.check; rw [← hB6,← hB7]; clear hB6 hB7; cases B6<;>cases B7<;>rfl
 have HCK:=Lib.hid hck
 have H6:Hid (B6=Q.bad (Q.makes p) (p.vars.length - 0) (p.terms.length+0)):=Lib.hid hB6
 have H7:Hid (B7=Q.bad (Q.come p) (p.vars.length - 0) (p.terms.length+0)):=Lib.hid hB7
 have e0:=(HP.out.below HW.out).c0
 clear hco hb2 hg2 k2 d0 d1 d2 d3 d4 d5 hB6 hB7 hck HK1 HB1
 go_wp2_with fail
 clear e0
 go_loopg [6] (p.vars.length) (fun gk iv wr=>∃ k:Nat,iv=.int .i64 ((p.terms.length:Int)+(k:Nat))∧k≤p.vars.length∧Hid (gk+k=p.vars.length)∧Hid (Below W.heap.size W wr)∧Hid (Brr wr gm (Q.cnt p) (Q.makes p))∧Hid (Brr wr gc (Q.cnt p) (Q.come p))∧Hid (B6=Q.bad (Q.makes p) (p.vars.length - k) (p.terms.length+k)))
 case atStart=>exact ⟨0,by go_num,by omega,Lib.hid (by omega),HW,HM,HC,H6⟩
 case round =>
  clear HW HM HC H6
  obtain ⟨k,rfl,hk,HK,HW,HM,HC,H6⟩:=hrel
  have hPW:=HP.out.below HW.out
  have c0:=hPW.c0
  have c1:=hPW.c1
  have c2:=hPW.c2
  have c3:=hPW.c3
  have c4:=hPW.c4
  have c5:=hPW.c5
  have hct:=count_any (hV wr HW.out) hnb hmb
  clear hPW
  go_wp2_with fail
  refine hct.mono ?_
  rintro e w1 ⟨rfl,kb⟩
  have HW1:=Lib.hid (HW.out.trans (kb.mono HW.out.size))
  have HM1:=Lib.hid (HM.out.below kb)
  have HC1:=Lib.hid (HC.out.below kb)
  clear hct kb c0 c1 c2 c3 c4 c5 HW HM HC
  by_cases hlt:k < p.vars.length
  ·have q0:=HM1.out.cell (show p.terms.length+k < Q.cnt p by omega)
   have hbb:=H6.out
   rw [show p.vars.length - k=(p.vars.length - (k+1))+1 by omega,Q.bad] at hbb
   cases hb:Q.makes p (p.terms.length+k) with
   | false =>
    rw [hb] at q0 hbb
    rw [if_neg (by simp)] at hbb
    have HBB:=Lib.hid hbb
    clear hb hbb
    go_wp2_with fail
    go_ret2
    refine ⟨?_,HB.out.trans (HW1.out.mono HB.out.size)⟩
    rw [HCK.out,HBB.out]
    simp
   | true =>
    rw [hb] at q0 hbb
    rw [if_pos rfl] at hbb
    have HBB:=Lib.hid hbb
    clear hb hbb
    go_wp2_with fail
    go_roundg (p.vars.length - (k+1))
    case measure=>have:=HK.out; omega
    case rel=>exact ⟨k+1,by go_num,by omega,Lib.hid (by omega),HW1,HM1,HC1,Lib.hid (by rw [← Nat.add_assoc]; exact HBB.out)⟩
  ·obtain rfl:k=p.vars.length:=by omega
   have hbb:=H6.out
   rw [Nat.sub_self,Q.bad] at hbb
   subst hbb
   clear hlt HK H6
   have d0:=(HP.out.below HW1.out).c0
   have HW:=HW1
   have HM:=HM1
   have HC:=HC1
   clear HW1 HM1 HC1
   go_wp2_with fail
   clear d0
   go_loopg [7] (p.vars.length) (fun gk iv wr=>∃ k:Nat,iv=.int .i64 ((p.terms.length:Int)+(k:Nat))∧k≤p.vars.length∧Hid (gk+k=p.vars.length)∧Hid (Below W.heap.size W wr)∧Hid (Brr wr gm (Q.cnt p) (Q.makes p))∧Hid (Brr wr gc (Q.cnt p) (Q.come p))∧Hid (B7=Q.bad (Q.come p) (p.vars.length - k) (p.terms.length+k)))
   case atStart=>exact ⟨0,by go_num,by omega,Lib.hid (by omega),HW,HM,HC,H7⟩
   case round =>
    clear HW HM HC H7
    obtain ⟨k,rfl,hk,HK,HW,HM,HC,H7⟩:=hrel
    have hPW:=HP.out.below HW.out
    have c0:=hPW.c0
    have c1:=hPW.c1
    have c2:=hPW.c2
    have c3:=hPW.c3
    have c4:=hPW.c4
    have c5:=hPW.c5
    have hct:=count_any (hV wr HW.out) hnb hmb
    clear hPW
    go_wp2_with fail
    refine hct.mono ?_
    rintro e w1 ⟨rfl,kb⟩
    have HW1:=Lib.hid (HW.out.trans (kb.mono HW.out.size))
    have HM1:=Lib.hid (HM.out.below kb)
    have HC1:=Lib.hid (HC.out.below kb)
    clear hct kb c0 c1 c2 c3 c4 c5 HW HM HC
    by_cases hlt:k < p.vars.length
    ·have q0:=HC1.out.cell (show p.terms.length+k < Q.cnt p by omega)
     have hbb:=H7.out
     rw [show p.vars.length - k=(p.vars.length - (k+1))+1 by omega,Q.bad] at hbb
     cases hb:Q.come p (p.terms.length+k) with
     | false =>
      rw [hb] at q0 hbb
      rw [if_neg (by simp)] at hbb
      have HBB:=Lib.hid hbb
      clear hb hbb
      go_wp2_with fail
      go_ret2
      refine ⟨?_,HB.out.trans (HW1.out.mono HB.out.size)⟩
      rw [HCK.out,HBB.out]
      simp
     | true =>
      rw [hb] at q0 hbb
      rw [if_pos rfl] at hbb
      have HBB:=Lib.hid hbb
      clear hb hbb
      go_wp2_with fail
      go_roundg (p.vars.length - (k+1))
      case measure=>have:=HK.out; omega
      case rel=>exact ⟨k+1,by go_num,by omega,Lib.hid (by omega),HW1,HM1,HC1,Lib.hid (by rw [← Nat.add_assoc]; exact HBB.out)⟩
    ·obtain rfl:k=p.vars.length:=by omega
     have hbb:=H7.out
     rw [Nat.sub_self,Q.bad] at hbb
     subst hbb
     clear hlt HK H7
     go_wp2_with fail
     go_ret2
     refine ⟨?_,HB.out.trans (HW1.out.mono HB.out.size)⟩
     rw [HCK.out]
     simp
end Go.Proofs.YtjbggogbnckllaaDoor
