/-
  Walks of the reference of chapter 9: lengths.
-/
import Derived.Test.YtjbggogbnckllaaDoorZz
import Derived.Test.YtjbggogbnckllaaDoorBa
import Derived.Test.YtjbggogbnckllaaDoorAl
import Derived.Test.YtjbggogbnckllaaDoorAj
namespace Go.Proofs.YtjbggogbnckllaaDoor
open Go.RowKit
set_option linter.unusedVariables false
set_option linter.unusedSimpArgs false
namespace Q
/-- The reference's own sum. -/
def sumR (long:Nat→Int):List Int→Int→Int
 | [],n=>n
 | x::r,n=>sumR long r (if long x.toNat < 0∨n < 0 then -1 else add n (long x.toNat))
theorem sumR_neg {f:Nat→Int}:∀ (r:List Int) (n:Int),n < 0→sumR f r n < 0
 | [],n,h=>h
 | x::r,n,h=>by
  rw [sumR,if_pos (.inr h)]
  exact sumR_neg r _ (by omega)
theorem sumR_eq {f:Nat→Int}:∀ (r:List Int) (n:Int),0≤n→0≤sumR f r n→sumR f r n=sumF f r n
 | [],n,_,_=>by simp [sumR,sumF]
 | x::r,n,h,h0=>by
  rw [sumR] at h0 ⊢
  rw [sumF]
  by_cases hx:f x.toNat < 0
  ·rw [if_pos (.inl hx)] at h0
   have:=sumR_neg (f:=f) r (-1) (by omega)
   omega
  ·rw [if_neg (by omega)] at h0 ⊢
   rw [if_neg hx]
   exact sumR_eq r _ (add_range _ _).1 h0
theorem sumR_iff {f:Nat→Int} (r:List Int):(0≤sumR f r 0↔0≤sumF f r 0)∧(0≤sumR f r 0→sumR f r 0=sumF f r 0):=by
 have key:∀ (r:List Int) (n:Int),0≤n→0≤sumF f r n→sumR f r n=sumF f r n:=by
  intro r
  induction r with
  | nil=>intro n _ _; rfl
  | cons x r ih =>
   intro n h h0
   rw [sumF] at h0 ⊢
   rw [sumR]
   by_cases hx:f x.toNat < 0
   ·rw [if_pos hx] at h0; omega
   ·rw [if_neg hx] at h0 ⊢
    rw [if_neg (by omega)]
    exact ih _ (add_range _ _).1 h0
 refine ⟨⟨fun h=>?_,fun h=>?_⟩,fun h=>sumR_eq r 0 (Int.le_refl _) h⟩
 ·rw [← sumR_eq r 0 (Int.le_refl _) h]; exact h
 ·rw [key r 0 (Int.le_refl _) h]; exact h
theorem lenStep_L (i:Nat) (r:Pl.Prod) (s:Ls) (ch:Bool):lenStep i r s ch=if 0≤sumR s.long r.right 0∧(s.long r.left < 0∨sumR s.long r.right 0 < s.long r.left) then (⟨up s.long r.left (sumR s.long r.right 0),up s.by_ r.left (i:Nat)⟩,true) else (s,ch):=by
 obtain ⟨h1,h2⟩:=sumR_iff (f:=s.long) r.right
 unfold lenStep
 by_cases h:0≤sumR s.long r.right 0
 ·rw [h2 h]
 ·rw [if_neg (by omega),if_neg (by omega)]
def iniL (n k:Nat):List Int:=(List.range k).map fun i=>if i < n then 1 else -1
theorem iniL_snoc (n k:Nat):iniL n (k+1)=iniL n k++[if k < n then 1 else -1]:=by simp [iniL,List.range_succ]
def iniB (k:Nat):List Int:=List.replicate k (-1)
theorem iniB_snoc (k:Nat):iniB (k+1)=iniB k++[-1]:=by simp [iniB,List.replicate_succ']
end Q
theorem Arr.of_own {w:World} {B g n cap:Nat} {l:List Int} {f:Nat→Int} (h:w.ownsRow B 3 1 (.slice (some ⟨g,0,none⟩) n cap) n (intV l)) (e:∀ i (h:i < l.length),l[i]=f i) (hl:n≤l.length):Arr w g n f∧B≤g:=by
 rcases h.2 with ⟨hv,_⟩ | ⟨g',cap',cur,hv,hb,hh,h1,h2,h3,h4⟩
 ·cases hv
 ·cases hv
  refine ⟨⟨cur,hh,by omega,fun i hi=>?_⟩,hb⟩
  have:=congrArg (fun l=>l[i]?) h4
  simp only [Nat.mul_one,List.getElem?_take,if_pos hi,intV,List.getElem?_map] at this
  rw [← Array.getElem?_toList,this,List.getElem?_eq_getElem (by omega),Option.map_some,e i (by omega)]
/-- Two rows of numbers, as they are written. -/
structure LA (U w:World) (g1 g2 n:Nat) (s:Q.Ls):Prop where
 base:Below U.heap.size U w
 l:Arr w g1 n s.long
 b:Arr w g2 n s.by_
 ne:g1≠g2
 l1:U.heap.size≤g1
 l2:U.heap.size≤g2
section
variable {U w w':World} {g1 g2 n:Nat} {s:Q.Ls}
theorem LA.below (h:LA U w g1 g2 n s) (k:Below w.heap.size w w'):LA U w' g1 g2 n s:=⟨h.base.trans (k.mono h.base.size),h.l.below k,h.b.below k,h.ne,h.l1,h.l2⟩
theorem LA.set (h:LA U w g1 g2 n s) (i:Nat) (x y:Int):LA U ((w.setCell ⟨g1,i,none⟩ (.int .i64 x)).setCell ⟨g2,i,none⟩ (.int .i64 y)) g1 g2 n ⟨Q.up s.long i x,Q.up s.by_ i y⟩ :=
 ⟨(h.base.setCell h.l1 _).setCell h.l2 _,(h.l.set i x).setO h.ne i _,(h.b.setO (Ne.symm h.ne) i _).set i y,h.ne,h.l1,h.l2⟩
end
set_option maxRecDepth 100000 in
set_option maxHeartbeats 16000000 in
theorem lengths9_any {w:World} {v:Value} {p:Pl.Plan} (h:PnV w v p) (ho:Q.OK p) :
  Calls Tryd.prog 19 #[v] w fun e w'=>∃ g1 c1 g2 c2,e=.returned (.tuple #[.slice (some ⟨g1,0,none⟩) (Q.cnt p) c1,.slice (some ⟨g2,0,none⟩) (Q.cnt p) c2])∧Arr w' g1 (Q.cnt p) (Q.lens p).long∧Arr w' g2 (Q.cnt p) (Q.lens p).by_∧Below w.heap.size w w':=by
 obtain ⟨ta,tc,va,vc,ra,rc,la,lc,aa,ac,ca,cc,rfl,h⟩:=h
 have HP0:=PB.new (tc:=tc) (vc:=vc) (rc:=rc) (lc:=lc) (ac:=ac) (cc:=cc) h
 have k:=(Below.refl w.heap.size w).alloc (Nat.le_refl _) (.cells (pnC p ta va ra la aa ca tc vc rc lc ac cc) 32)
 unfold pnC at HP0 k
 have HP:=Lib.hid HP0
 have HB:=Lib.hid k
 have HO:=Lib.hid ho
 have hnb:=ho.nb
 have hmb:=ho.m
 have hnr:=ho.r
 have hcn:Q.cnt p=p.terms.length+p.vars.length+1:=rfl
 clear HP0 k h ho
 go_enter Tryd.func19,Tryd.ntmps19
 go_wp2_with fail
 generalize w.alloc (.cells #[.slice ta p.terms.length tc,.slice va p.vars.length vc,.slice ra p.rules.length rc,.slice la p.levels.length lc,.slice aa p.assocs.length ac,.slice ca p.acts.length cc] 32)=V at HP HB ⊢
 generalize hpb:w.heap.size=pb at HP HB ⊢
 have HPB:=Lib.hid hpb
 clear hpb
 go_loopg [4,5,6] (Q.cnt p) (fun gk lv bv iv wr=>∃ k:Nat,iv=.int .i64 k∧k≤Q.cnt p∧Hid (gk+k=Q.cnt p)∧Hid (Below V.heap.size V wr)∧Hid (RwL wr V.heap.size [] [rI lv k (Q.iniL p.terms.length k),rI bv k (Q.iniB k)]))
 case atStart=>exact ⟨0,rfl,by omega,Lib.hid (by omega),Lib.hid (Below.refl _ _),Lib.hid ((RwL.nil.zero 3 1).zero 3 1)⟩
 case round =>
  obtain ⟨k,rfl,hk,HG,HW,HR⟩:=hrel
  have hP:=HP.out.below HW.out
  have c0:=hP.c0
  have c1:=hP.c1
  have c2:=hP.c2
  have c3:=hP.c3
  have c4:=hP.c4
  have c5:=hP.c5
  have hct:=count_any (w:=wr) (show PnV wr (.agg #[.slice ta p.terms.length tc,.slice va p.vars.length vc,.slice ra p.rules.length rc,.slice la p.levels.length lc,.slice aa p.assocs.length ac,.slice ca p.acts.length cc]) p from ⟨ta,tc,va,vc,ra,rc,la,lc,aa,ac,ca,cc,rfl,hP.a⟩) hnb hmb
  clear hP
  go_wp2_with fail
  refine hct.mono ?_
  rintro e w1 ⟨rfl,kb⟩
  have HW1:=Lib.hid (HW.out.trans (kb.mono HW.out.size))
  have HR1:=Lib.hid (HR.out.below kb)
  clear hct kb c0 c1 c2 c3 c4 c5 HW HR
  by_cases hlt:k < Q.cnt p
  ·have d0:=(HP.out.below HW1.out).c0
   obtain ⟨y,hy⟩:∃ y:Int,y=if k < p.terms.length then 1 else -1:=⟨_,rfl⟩
   have hs1:=Q.iniL_snoc p.terms.length k
   have hs2:=Q.iniB_snoc k
   rw [← hy] at hs1
   have HS1:=Lib.hid hs1
   have HS2:=Lib.hid hs2
   clear hs1 hs2
   rcases Nat.lt_or_ge k p.terms.length with ht | ht
   ·rw [if_pos ht] at hy
    subst hy
    have HA:=Lib.hid (HR1.out.alloc (.cells #[.int .i64 (1)] 3))
    have hsz:=HW1.out.size
    have HWA:=Lib.hid (HW1.out.alloc hsz (.cells #[.int .i64 (1)] 3))
    have hkm:k≤2001:=by omega
    clear HR1 HW1
    go_upto_region 10 with (refine list_append_one rfl _ _ _ rfl 3 V.heap.size 1 8 elt_int _ k (intV (Q.iniL p.terms.length k)) rfl (HA.out.own _ List.mem_cons_self) ⟨w1.heap.size,0,none⟩ 1 [.int .i64 (1)] rfl rfl (World.news_of_block (cs:=#[.int .i64 (1)]) (t:=3) (fr:=(0,0)) (heap_alloc_new w1 _)) (by simp [Value.oneCell']) (by unfold maxLen; omega) (by omega) (by simp; omega) ?_; intro bg bcap wg hog hgg hb1 hb2 hb3; have hss:(w1.alloc (.cells #[.int .i64 (1)] 3)).heap.size=w1.heap.size+1:=(World.size_alloc _ _); rw [← intV_snoc] at hog; have HRB:=Lib.hid (RwL.app (l1:=[]) (r':=rI (.slice (some ⟨bg,0,none⟩) (k+1) bcap) (k+1) (Q.iniL p.terms.length k++[1])) HA.out (fun b hb=>nomatch hb) hgg hog rfl hb3); have HWB:=Lib.hid (HWA.out.trans (below_own (HA.out.own _ List.mem_cons_self) (by rw [hss]; omega) hgg)); clear hog hgg hb1 hb2 hb3 hss HA HWA)
    have HC:=Lib.hid (HRB.out.alloc (.cells #[.int .i64 (-1)] 3))
    have hsz2:=HWB.out.size
    have HWC:=Lib.hid (HWB.out.alloc hsz2 (.cells #[.int .i64 (-1)] 3))
    clear HRB HWB
    go_wp2_with (refine list_append_one rfl _ _ _ rfl 3 V.heap.size 1 8 elt_int _ k (intV (Q.iniB k)) rfl (HC.out.own _ (List.mem_cons_of_mem _ List.mem_cons_self)) ⟨wg.heap.size,0,none⟩ 1 [.int .i64 (-1)] rfl rfl (World.news_of_block (cs:=#[.int .i64 (-1)]) (t:=3) (fr:=(0,0)) (heap_alloc_new wg _)) (by simp [Value.oneCell']) (by unfold maxLen; omega) (by omega) (by simp; omega) ?_; intro bg2 bcap2 wg2 hog hgg hb1 hb2 hb3; have hss:(wg.alloc (.cells #[.int .i64 (-1)] 3)).heap.size=wg.heap.size+1:=(World.size_alloc _ _); rw [← intV_snoc] at hog; have HRD:=Lib.hid (RwL.app (l1:=[_]) (l2:=[]) (r':=rI (.slice (some ⟨bg2,0,none⟩) (k+1) bcap2) (k+1) (Q.iniB k++[-1])) HC.out (fun b hb=>nomatch hb) hgg hog rfl hb3); have HWD:=Lib.hid (HWC.out.trans (below_own (HC.out.own _ (List.mem_cons_of_mem _ List.mem_cons_self)) (by rw [hss]; omega) hgg)); clear hog hgg hb1 hb2 hb3 hss HC HWC)
    go_roundg (Q.cnt p - (k+1))
    case measure=>have:=HG.out; omega
    case rel=>exact ⟨k+1,by go_num,by omega,Lib.hid (by omega),HWD,Lib.hid (by rw [HS1.out,HS2.out]; exact HRD.out)⟩
   ·rw [if_neg (by omega)] at hy
    subst hy
    have HA:=Lib.hid (HR1.out.alloc (.cells #[.int .i64 (-1)] 3))
    have hsz:=HW1.out.size
    have HWA:=Lib.hid (HW1.out.alloc hsz (.cells #[.int .i64 (-1)] 3))
    have hkm:k≤2001:=by omega
    clear HR1 HW1
    go_upto_region 10 with (refine list_append_one rfl _ _ _ rfl 3 V.heap.size 1 8 elt_int _ k (intV (Q.iniL p.terms.length k)) rfl (HA.out.own _ List.mem_cons_self) ⟨w1.heap.size,0,none⟩ 1 [.int .i64 (-1)] rfl rfl (World.news_of_block (cs:=#[.int .i64 (-1)]) (t:=3) (fr:=(0,0)) (heap_alloc_new w1 _)) (by simp [Value.oneCell']) (by unfold maxLen; omega) (by omega) (by simp; omega) ?_; intro bg bcap wg hog hgg hb1 hb2 hb3; have hss:(w1.alloc (.cells #[.int .i64 (-1)] 3)).heap.size=w1.heap.size+1:=(World.size_alloc _ _); rw [← intV_snoc] at hog; have HRB:=Lib.hid (RwL.app (l1:=[]) (r':=rI (.slice (some ⟨bg,0,none⟩) (k+1) bcap) (k+1) (Q.iniL p.terms.length k++[-1])) HA.out (fun b hb=>nomatch hb) hgg hog rfl hb3); have HWB:=Lib.hid (HWA.out.trans (below_own (HA.out.own _ List.mem_cons_self) (by rw [hss]; omega) hgg)); clear hog hgg hb1 hb2 hb3 hss HA HWA)
    have HC:=Lib.hid (HRB.out.alloc (.cells #[.int .i64 (-1)] 3))
    have hsz2:=HWB.out.size
    have HWC:=Lib.hid (HWB.out.alloc hsz2 (.cells #[.int .i64 (-1)] 3))
    clear HRB HWB
    go_wp2_with (refine list_append_one rfl _ _ _ rfl 3 V.heap.size 1 8 elt_int _ k (intV (Q.iniB k)) rfl (HC.out.own _ (List.mem_cons_of_mem _ List.mem_cons_self)) ⟨wg.heap.size,0,none⟩ 1 [.int .i64 (-1)] rfl rfl (World.news_of_block (cs:=#[.int .i64 (-1)]) (t:=3) (fr:=(0,0)) (heap_alloc_new wg _)) (by simp [Value.oneCell']) (by unfold maxLen; omega) (by omega) (by simp; omega) ?_; intro bg2 bcap2 wg2 hog hgg hb1 hb2 hb3; have hss:(wg.alloc (.cells #[.int .i64 (-1)] 3)).heap.size=wg.heap.size+1:=(World.size_alloc _ _); rw [← intV_snoc] at hog; have HRD:=Lib.hid (RwL.app (l1:=[_]) (l2:=[]) (r':=rI (.slice (some ⟨bg2,0,none⟩) (k+1) bcap2) (k+1) (Q.iniB k++[-1])) HC.out (fun b hb=>nomatch hb) hgg hog rfl hb3); have HWD:=Lib.hid (HWC.out.trans (below_own (HC.out.own _ (List.mem_cons_of_mem _ List.mem_cons_self)) (by rw [hss]; omega) hgg)); clear hog hgg hb1 hb2 hb3 hss HC HWC)
    go_roundg (Q.cnt p - (k+1))
    case measure=>have:=HG.out; omega
    case rel=>exact ⟨k+1,by go_num,by omega,Lib.hid (by omega),HWD,Lib.hid (by rw [HS1.out,HS2.out]; exact HRD.out)⟩
  ·obtain rfl:k=Q.cnt p:=by omega
   clear hlt HG
   have own1:=HR1.out.own _ List.mem_cons_self
   have own2:=HR1.out.own _ (List.mem_cons_of_mem _ List.mem_cons_self)
   have hap:=(List.pairwise_cons.1 HR1.out.ap).1 _ List.mem_cons_self
   obtain ⟨g1,cp1,e1,hg1,hgs1⟩:=World.ownsRow.form own1 (show 0 < Q.cnt p by omega)
   obtain ⟨g2,cp2,e2,hg2,hgs2⟩:=World.ownsRow.form own2 (show 0 < Q.cnt p by omega)
   simp only [rI] at e1 e2
   subst e1 e2
   have hne:g1≠g2:=fun e=>hap g1 rfl (by rw [e]; rfl)
   have HLA:Hid (LA V w1 g1 g2 (Q.cnt p) (Q.len0 p)):=Lib.hid ⟨HW1.out,(Arr.of_own own1 (fun i h=>by simp [Q.iniL,Q.len0]) (by simp [Q.iniL])).1,(Arr.of_own own2 (fun i h=>by simp [Q.iniB,Q.len0]) (by simp [Q.iniB])).1,hne,hg1,hg2⟩
   clear own1 own2 hap hne hg1 hg2 hgs1 hgs2 HR1 HW1
   go_wp2_with fail
   go_loopg [8] (Q.lenF p) (fun gk mv wr=>∃ (mo:Bool) (f:Nat) (s:Q.Ls),mv=.bool mo∧Hid (gk=f+(if mo=true then 1 else 0))∧Hid (mo=true→Q.weight (Q.cnt p) s.long≤f)∧Hid (LA V wr g1 g2 (Q.cnt p) s)∧Hid (Q.lens p=if mo=true then (Q.run (Q.round p) (f+1) s).1 else s))
   case atStart=>exact ⟨true,Q.weight (Q.cnt p) (Q.len0 p).long,Q.len0 p,rfl,Lib.hid rfl,Lib.hid (fun _=>Nat.le_refl _),HLA,Lib.hid rfl⟩
   case round =>
    clear HLA
    obtain ⟨mo,f,s,rfl,HG,HWT,HL,HE⟩:=hrel
    cases mo with
    | false =>
     have hee:Q.lens p=s:=by simpa using HE.out
     have HE2:=Lib.hid hee
     clear hee HE
     go_wp2_with fail
     go_ret2
     rw [HE2.out]
     exact ⟨g1,cp1,g2,cp2,rfl,HL.out.l,HL.out.b,by have h:=HB.out.trans (HL.out.base.mono (by have:=HB.out.size; have:=HPB.out; omega)); first | exact h | (rw [HPB.out]; exact h)⟩
    | true =>
     obtain ⟨R,hR⟩:∃ R,R=Q.round p s:=⟨_,rfl⟩
     have HR:=Lib.hid hR
     have HR0:Hid (R=Q.lenGo 0 p.rules s false):=Lib.hid hR
     clear hR
     go_wp2_with fail
     go_loopg [8,9] p.rules.length (fun gk mv iv w2=>∃ (i:Nat) (t:Q.Ls) (ch:Bool),iv=.int .i64 i∧i≤p.rules.length∧mv=.bool ch∧Hid (gk+i=p.rules.length)∧Hid (LA V w2 g1 g2 (Q.cnt p) t)∧Hid (R=Q.lenGo i (p.rules.drop i) t ch))
     case atStart=>exact ⟨0,s,false,rfl,by omega,rfl,Lib.hid (by omega),HL,HR0⟩
     case round =>
      clear HL HR0
      obtain ⟨i,t,ch,rfl,hi,rfl,HI,HL,HEE⟩:=hrel
      have d2:=(HP.out.below HL.out.base).c2
      by_cases hlt:i < p.rules.length
      ·obtain ⟨rb,ro,xa,xc,rfl,v0,v1,v2,vin⟩:=HP.out.a.r i hlt
       have hxl:=HO.out.left _ (List.getElem_mem hlt)
       have hxr:=HO.out.right _ (List.getElem_mem hlt)
       have hx8:=HO.out.rl _ (List.getElem_mem hlt)
       have hdr:=List.drop_eq_getElem_cons hlt
       have hee:=HEE.out
       rw [hdr,Q.lenGo,Q.lenStep_L] at hee
       generalize p.rules[i]=x at v0 v1 v2 vin hxl hxr hx8 hee
       have b0:=World.block_lt_of_cell? V _ v0
       have t0:=((bcell HL.out.base).1 rb (ro+i*3) b0).trans v0
       have t1:=((bcell HL.out.base).1 rb (ro+i*3+1) b0).trans v1
       have VIN:=Lib.hid (vin.below HL.out.base)
       have HXR:=Lib.hid hxr
       obtain ⟨S,hS⟩:∃ S,S=Q.sumR t.long x.right 0:=⟨_,rfl⟩
       rw [← hS] at hee
       have HS:=Lib.hid hS
       have HE3:=Lib.hid hee
       have hxc:x.left < Q.cnt p:=by omega
       clear hdr hee vin hxr v0 v1 v2 b0 hS HEE
       go_wp2_with fail
       obtain ⟨Y5,hY5⟩:∃ Y5,Y5=wr:=⟨_,rfl⟩
       subst hY5
       go_loopg [10,11] x.right.length (fun gk nv kv w3=>∃ (k:Nat) (n:Int),kv=.int .i64 k∧k≤x.right.length∧nv=.int .i64 n∧Hid (gk+k=x.right.length)∧Hid (w3=Y5)∧Hid (S=Q.sumR t.long (x.right.drop k) n))
       case atStart=>exact ⟨0,0,rfl,by omega,rfl,Lib.hid (by omega),Lib.hid rfl,HS⟩
       case round =>
        clear HS
        obtain ⟨k,n,rfl,hk,rfl,HK,HWW,HS⟩:=hrel
        have hWe:=HWW.out
        subst hWe
        by_cases hlk:k < x.right.length
        ·obtain ⟨bb,bo,rfl,q0⟩:=VIN.out k hlk
         obtain ⟨y0,y1⟩:=HXR.out _ (List.getElem_mem hlk)
         have hdr:=List.drop_eq_getElem_cons hlk
         have hss:=HS.out
         rw [hdr,Q.sumR] at hss
         generalize x.right[k]=y at q0 y0 y1 hss
         obtain ⟨z,rfl⟩:∃ z:Nat,y=z:=⟨y.toNat,by omega⟩
         rw [Int.toNat_natCast] at hss
         have hzc:z < Q.cnt p:=by omega
         have a0:=HL.out.l.cell hzc
         generalize t.long z=lz at a0 hss
         by_cases h1:lz < 0
         ·have e1:decide (lz < 0)=true:=by simpa using h1
          rw [if_pos (.inl h1)] at hss
          have HSS:=Lib.hid hss
          clear hdr hss HS h1
          go_wp2_with fail
          go_roundg (x.right.length - (k+1))
          case measure=>have:=HK.out; omega
          case rel=>exact ⟨k+1,-1,by go_num,by omega,rfl,Lib.hid (by omega),Lib.hid rfl,HSS⟩
         ·have e1:decide (lz < 0)=false:=by simpa using h1
          by_cases h2:n < 0
          ·have e2:decide (n < 0)=true:=by simpa using h2
           rw [if_pos (.inr h2)] at hss
           have HSS:=Lib.hid hss
           clear hdr hss HS h1 h2
           go_wp2_with fail
           go_roundg (x.right.length - (k+1))
           case measure=>have:=HK.out; omega
           case rel=>exact ⟨k+1,-1,by go_num,by omega,rfl,Lib.hid (by omega),Lib.hid rfl,HSS⟩
          ·have e2:decide (n < 0)=false:=by simpa using h2
           rw [if_neg (by omega)] at hss
           have HSS:=Lib.hid hss
           have hadd:=addR_any n lz wr
           clear hdr hss HS h1 h2
           go_wp2_with fail
           refine hadd.mono ?_
           rintro e w' ⟨rfl,rfl⟩
           clear hadd
           go_wp2_with fail
           go_roundg (x.right.length - (k+1))
           case measure=>have:=HK.out; omega
           case rel=>exact ⟨k+1,_,by go_num,by omega,rfl,Lib.hid (by omega),Lib.hid rfl,HSS⟩
        ·obtain rfl:k=x.right.length:=by omega
         have hss:=HS.out
         rw [List.drop_length,Q.sumR] at hss
         obtain rfl:S=n:=hss
         clear hlk HK HS
         have a0:=HL.out.l.cell hxc
         have fz1:=HL.out.l.fz x.left
         have hee:=HE3.out
         have hset:=fun u v=>HL.out.set x.left u v
         generalize hlz:t.long x.left=lz at a0 hee
         clear hlz
         by_cases h1:0≤S
         ·have e1:decide (0≤S)=true:=by simpa using h1
          by_cases h2:lz < 0
          ·have e2:decide (lz < 0)=true:=by simpa using h2
           rw [if_pos ⟨h1,.inl h2⟩] at hee
           have HEE2:=Lib.hid hee
           have HSET:=Lib.hid (hset S (i:Nat))
           have fz2:=fun u=>(HL.out.b.setO (Ne.symm HL.out.ne) x.left u).fz x.left
           have b0:=fun u=>(HL.out.b.setO (Ne.symm HL.out.ne) x.left u).cell hxc
           clear h1 h2 hee HE3 hset
           go_wp2_with fail
           go_roundg (p.rules.length - (i+1))
           case measure=>have:=HI.out; omega
           case rel=>exact ⟨i+1,_,true,by go_num,by omega,rfl,Lib.hid (by omega),HSET,HEE2⟩
          ·have e2:decide (lz < 0)=false:=by simpa using h2
           by_cases h3:S < lz
           ·have e3:decide (S < lz)=true:=by simpa using h3
            rw [if_pos ⟨h1,.inr h3⟩] at hee
            have HEE2:=Lib.hid hee
            have HSET:=Lib.hid (hset S (i:Nat))
            have fz2:=fun u=>(HL.out.b.setO (Ne.symm HL.out.ne) x.left u).fz x.left
            have b0:=fun u=>(HL.out.b.setO (Ne.symm HL.out.ne) x.left u).cell hxc
            clear h1 h2 h3 hee HE3 hset
            go_wp2_with fail
            go_roundg (p.rules.length - (i+1))
            case measure=>have:=HI.out; omega
            case rel=>exact ⟨i+1,_,true,by go_num,by omega,rfl,Lib.hid (by omega),HSET,HEE2⟩
           ·have e3:decide (S < lz)=false:=by simpa using h3
            rw [if_neg (by omega)] at hee
            have HEE2:=Lib.hid hee
            clear h1 h2 h3 hee HE3 hset
            go_wp2_with fail
            go_roundg (p.rules.length - (i+1))
            case measure=>have:=HI.out; omega
            case rel=>exact ⟨i+1,_,ch,by go_num,by omega,rfl,Lib.hid (by omega),HL,HEE2⟩
         ·have e1:decide (0≤S)=false:=by simpa using h1
          rw [if_neg (by omega)] at hee
          have HEE2:=Lib.hid hee
          clear h1 hee HE3 hset
          go_wp2_with fail
          go_roundg (p.rules.length - (i+1))
          case measure=>have:=HI.out; omega
          case rel=>exact ⟨i+1,_,ch,by go_num,by omega,rfl,Lib.hid (by omega),HL,HEE2⟩
      ·obtain rfl:i=p.rules.length:=by omega
       have hee:=HEE.out
       rw [List.drop_length,Q.lenGo] at hee
       have hR2:=HR.out
       have hEq:Q.lens p=(Q.run (Q.round p) (f+1) s).1:=by simpa using HE.out
       clear hlt HI HEE
       cases ch with
       | true =>
        have hch:(Q.round p s).2=true:=by rw [← hR2,hee]
        have hl:=Q.round_less HO.out s hch
        have hw:Q.weight (Q.cnt p) s.long≤f:=by simpa using HWT.out
        obtain ⟨f,rfl⟩:∃ f2,f=f2+1:=⟨f - 1,by omega⟩
        rw [Q.run_go hch,← hR2,hee] at hEq
        have hl2:Q.weight (Q.cnt p) t.long < Q.weight (Q.cnt p) s.long:=by rw [← hR2,hee] at hl; exact hl
        have HEQ:=Lib.hid hEq
        have HWL:Hid (Q.weight (Q.cnt p) t.long≤f):=Lib.hid (by omega)
        clear hee hR2 hEq hch hl hw hl2 HE HR HWT
        go_wp2_with fail
        go_roundg (f+1)
        case measure=>have h:=HG.out; simp at h; omega
        case rel=>exact ⟨true,f,t,rfl,Lib.hid rfl,Lib.hid (fun _=>HWL.out),HL,Lib.hid (by rw [if_pos rfl]; exact HEQ.out)⟩
       | false =>
        have hch:(Q.round p s).2=false:=by rw [← hR2,hee]
        rw [Q.run_end hch,← hR2,hee] at hEq
        have HEQ:=Lib.hid hEq
        clear hee hR2 hEq hch HE HR HWT
        go_wp2_with fail
        go_roundg 0
        case measure=>have h:=HG.out; simp at h; omega
        case rel=>exact ⟨false,0,t,rfl,Lib.hid rfl,Lib.hid (fun h=>by cases h),HL,Lib.hid (by rw [if_neg (by simp)]; exact HEQ.out)⟩
end Go.Proofs.YtjbggogbnckllaaDoor
