/-
  The walk of the reference's Of (chapter 10).
-/
import Derived.Test.YtjbggogbnckllaaDoorTc
namespace Go.Proofs.YtjbggogbnckllaaDoor
open Go.RowKit
set_option linter.unusedVariables false
set_option linter.unusedSimpArgs false
theorem FA.make {W:World} {p:Pl.Plan} {nb fb gb fc gc B:Nat} {p1 p2:Nat→Nat} (hp1:Srr W fb (Fi.nV p) (Fi.nT p) p1) (hf1:Bam W B (Fi.nT p) (Fi.nV p) p1 (fun _=>0)) (hp2:Srr W gb (Fi.nV p) (Fi.nT p) p2) (hf2:Bam W B (Fi.nT p) (Fi.nV p) p2 (fun _=>0))
  (hd:∀ i j,i < Fi.nV p→j < Fi.nV p→p1 i≠p2 j) (hb:Brr W nb (Fi.nV p) (fun _=>false)) (hn1:∀ i,i < Fi.nV p→nb≠p1 i) (hn2:∀ i,i < Fi.nV p→nb≠p2 i) (l1:B≤nb) (l2:B≤fb) (l3:B≤gb) (l4:B≤W.heap.size) :
  ∃ pt,FA (W.alloc (.cells #[.slice (some ⟨nb,0,none⟩) (Fi.nV p) (Fi.nV p),.slice (some ⟨fb,0,none⟩) (Fi.nV p) fc,.slice (some ⟨gb,0,none⟩) (Fi.nV p) gc,.int .i64 ((0:Nat):Int)] 54)) B p W.heap.size nb fb gb fc gc pt (fun _=>false) (vv (Fi.nV p) (fun _=>0) (fun _=>0)) 0:=by
 have k:=(Below.refl W.heap.size W).alloc (Nat.le_refl _) (.cells #[.slice (some ⟨nb,0,none⟩) (Fi.nV p) (Fi.nV p),.slice (some ⟨fb,0,none⟩) (Fi.nV p) fc,.slice (some ⟨gb,0,none⟩) (Fi.nV p) gc,.int .i64 ((0:Nat):Int)] 54)
 have hj:=hf1.join hf2 hd
 rw [show Fi.nV p+Fi.nV p=2*Fi.nV p by omega] at hj
 refine ⟨vv (Fi.nV p) p1 p2,heap_alloc_new W _,hb.below k,(hp1.below k).ext (fun i hi=>(vv_lt hi).symm),(hp2.below k).ext (fun i hi=>(vv_ge i).symm),hj.below k,fun i hi=>?_,⟨l4,l1,l2,l3⟩,fun i _=>?_⟩
 ·by_cases h:i < Fi.nV p
  ·rw [vv_lt h]; exact hn1 i h
  ·obtain ⟨j,rfl⟩:∃ j,i=Fi.nV p+j:=⟨i - Fi.nV p,by omega⟩
   rw [vv_ge]; exact hn2 j (by omega)
 ·unfold vv; split<;>exact Nat.two_pow_pos _
theorem Fi.beg_ext {n c:Nat} {s s':Fi.St} {V:Nat} (hc:c≤n+V) (h1:∀ i,i < V→s.null i=s'.null i) (h2:∀ i,i < V→s.fst i=s'.fst i):∀ (l:List Int) (X:Nat),Fi.beg n c s l X=Fi.beg n c s' l X
 | [],X=>rfl
 | x::l,X=>by
  rw [Fi.beg,Fi.beg]
  by_cases h:x < 0∨(c:Int)≤x
  ·rw [if_pos h,if_pos h]; exact Fi.beg_ext hc h1 h2 l X
  ·rw [if_neg h,if_neg h]
   by_cases hn:x < (n:Int)
   ·rw [if_pos hn,if_pos hn]
   ·rw [if_neg hn,if_neg hn,h1 _ (by omega),h2 _ (by omega)]
    split
    ·exact Fi.beg_ext hc h1 h2 l _
    ·rfl
theorem Fi.beg_vv (p:Pl.Plan) (s:Fi.St) (g:Nat→Nat) (l:List Int) (X:Nat):Fi.beg (Fi.nT p) (Q.cnt p) ⟨s.null,vv (Fi.nV p) s.fst g⟩ l X=Fi.beg (Fi.nT p) (Q.cnt p) s l X :=
 Fi.beg_ext (s:=⟨s.null,vv (Fi.nV p) s.fst g⟩) (s':=s) (n:=Fi.nT p) (c:=Q.cnt p) (V:=Fi.nV p) (by unfold Q.cnt Fi.nT Fi.nV; omega) (fun i _=>rfl) (fun i hi=>vv_lt hi) l X
theorem FA.base {w:World} {B B' f nb fb gb fc gc rd:Nat} {p:Pl.Plan} {pt val:Nat→Nat} {null:Nat→Bool} (h:FA w B p f nb fb gb fc gc pt null val rd) (hB:B'≤B):FA w B' p f nb fb gb fc gc pt null val rd :=
 ⟨h.row,h.n,h.sf,h.sg,⟨h.bam.set,fun i hi=>Nat.le_trans hB (h.bam.low i hi),h.bam.dis⟩,h.nn,⟨Nat.le_trans hB h.lo.1,Nat.le_trans hB h.lo.2.1,Nat.le_trans hB h.lo.2.2.1,Nat.le_trans hB h.lo.2.2.2⟩,h.lt⟩
theorem Q.up_up {α:Type} (f:Nat→α) (i:Nat) (a b:α):Q.up (Q.up f i a) i b=Q.up f i b:=by
 funext j
 by_cases h:j=i
 ·subst h; rw [Q.up_same,Q.up_same]
 ·rw [Q.up_ne _ _ h,Q.up_ne _ _ h,Q.up_ne _ _ h]
theorem grew_ref {V B L:Nat}:(decide (V|||B≠V)||decide (V|||B|||L≠V|||B))=decide (V|||B|||L≠V):=by
 have h:=grew_law (V:=V) (X:=V|||B) (Y:=L) (Fi.sub_or_left V B)
 rw [← h,Bool.or_comm]
/-- One symbol, as the reference does it. -/
theorem bGo_ref (p:Pl.Plan) (s:Fi.St) (l:Nat) (u:Nat) (x:Int) (r:List Int) (fo:Nat→Nat) (ch:Bool) (b:Nat×Bool) (hb:b=Fi.beg (Fi.nT p) (Q.cnt p) s r 0) (hx:(Fi.nT p:Int)≤x) (hu:x.toNat - Fi.nT p=u) :
  Fi.bGo p s l (x::r) fo ch=if b.2=true then Fi.bGo p s l r (Q.up fo u (fo u|||b.1|||Q.up fo u (fo u|||b.1) l)) (ch||decide (fo u|||b.1≠fo u)||decide (fo u|||b.1|||Q.up fo u (fo u|||b.1) l≠fo u|||b.1)) else Fi.bGo p s l r (Q.up fo u (fo u|||b.1)) (ch||decide (fo u|||b.1≠fo u)):=by
 rw [Fi.bGo,if_neg (by omega),hu]
 simp only
 rw [Fi.beg_zero,← hb]
 simp only
 by_cases h2:b.2=true
 ·rw [if_pos h2,if_pos h2,Bool.or_assoc,grew_ref]
  by_cases hl:l=u
  ·subst hl
   rw [Q.up_same,Nat.or_self]
   have e:fo l|||b.1|||fo l=fo l|||b.1:=Fi.or_of_sub (Fi.sub_or_left _ _)
   rw [e]
  ·rw [Q.up_ne _ _ hl]
 ·rw [if_neg h2,if_neg h2]
theorem stp_ref (p:Pl.Plan) (r:Pl.Prod) (s:Fi.St) (ch:Bool) (q:Nat×Bool) (hq:q=Fi.beg (Fi.nT p) (Q.cnt p) s r.right 0) :
  Fi.stp p r s ch=(⟨Q.up s.null (r.left - Fi.nT p) (s.null (r.left - Fi.nT p)||q.2),Q.up s.fst (r.left - Fi.nT p) (s.fst (r.left - Fi.nT p)|||q.1)⟩,ch||decide (s.fst (r.left - Fi.nT p)|||q.1≠s.fst (r.left - Fi.nT p))||(q.2&&!s.null (r.left - Fi.nT p))):=by
 unfold Fi.stp
 rw [Fi.beg_zero,← hq]
set_option maxRecDepth 100000 in
set_option maxHeartbeats 32000000 in
theorem of10R_any {w:World} {v:Value} {p:Pl.Plan} (h:PnV w v p) (ho:Q.OK p) (hrl:∀ r ∈ p.rules,r.right.length≤8) :
  Calls Tryd.prog 24 #[v] w fun e w'=>∃ f nb fb gb fc gc pt,e=.returned (.pointer (some ⟨f,0,none⟩))∧FA w' w.heap.size p f nb fb gb fc gc pt (Fi.fs p).1.null (vv (Fi.nV p) (Fi.fs p).1.fst (Fi.fol p)) (Fi.fs p).2∧Below w.heap.size w w':=by
 obtain ⟨ta,tc,va,vc,ra,rc,la,lc,aa,ac,ca,cc,rfl,h⟩:=h
 have HP0:=PB.new (tc:=tc) (vc:=vc) (rc:=rc) (lc:=lc) (ac:=ac) (cc:=cc) h
 have k:=(Below.refl w.heap.size w).alloc (Nat.le_refl _) (.cells (pnC p ta va ra la aa ca tc vc rc lc ac cc) 32)
 unfold pnC at HP0 k
 have HB:=Lib.hid k
 have HP:=Lib.hid HP0
 have HO:=Lib.hid ho
 have HRL:=Lib.hid hrl
 have hnb:=ho.nb
 have hmb:=ho.m
 have hn1:=ho.n
 have hnr:=ho.r
 clear HP0 h k ho hrl
 go_enter Tryd.func24,Tryd.ntmps24
 go_wp2_with fail
 generalize w.alloc (.cells #[.slice ta p.terms.length tc,.slice va p.vars.length vc,.slice ra p.rules.length rc,.slice la p.levels.length lc,.slice aa p.assocs.length ac,.slice ca p.acts.length cc] 32)=U at HB HP ⊢
 generalize hpb:w.heap.size=pb at HP ⊢
 have HPB:=Lib.hid hpb
 clear hpb
 have hV:∀ W,Below U.heap.size U W→PnV W (.agg #[.slice ta p.terms.length tc,.slice va p.vars.length vc,.slice ra p.rules.length rc,.slice la p.levels.length lc,.slice aa p.assocs.length ac,.slice ca p.acts.length cc]) p:=fun W k=>⟨ta,tc,va,vc,ra,rc,la,lc,aa,ac,ca,cc,rfl,HP.out.a.below k⟩
 have hE:∀ W,Below U.heap.size U W→Calls Tryd.prog 49 #[.agg #[.slice ta p.terms.length tc,.slice va p.vars.length vc,.slice ra p.rules.length rc,.slice la p.levels.length lc,.slice aa p.assocs.length ac,.slice ca p.acts.length cc]] W fun e w'=>∃ v,e=.returned v∧∃ fb cap pt,v=.slice (some ⟨fb,0,none⟩) (Fi.nV p) cap∧Srr w' fb (Fi.nV p) (Fi.nT p) pt∧Bam w' W.heap.size (Fi.nT p) (Fi.nV p) pt (fun _=>0)∧W.heap.size≤fb∧Below W.heap.size W w':=fun W k =>
  (blank10_any (hV W k) HO.out).mono fun e w' hh=>by obtain ⟨fb,cap,pt,h1,h2⟩:=hh; exact ⟨_,h1,fb,cap,pt,rfl,h2⟩
 go_upto_region 1 with fail
 go_cut [3] (fun sv wx=>∃ f nb fb gb fc gc pt,sv=.pointer (some ⟨f,0,none⟩)∧Hid (FA wx U.heap.size p f nb fb gb fc gc pt (fun _=>false) (vv (Fi.nV p) (fun _=>0) (fun _=>0)) 0)∧Hid (Below U.heap.size U wx))
 case first =>
  have kd:Below U.heap.size U U.drew:=(Below.refl _ _).drew
  have y0:=fun z:Wd U.heap.size U=>(HP.out.below z.ok).c0
  have y1:=fun z:Wd U.heap.size U=>(HP.out.below z.ok).c1
  have y2:=fun z:Wd U.heap.size U=>(HP.out.below z.ok).c2
  have y3:=fun z:Wd U.heap.size U=>(HP.out.below z.ok).c3
  have y4:=fun z:Wd U.heap.size U=>(HP.out.below z.ok).c4
  have y5:=fun z:Wd U.heap.size U=>(HP.out.below z.ok).c5
  refine region_threeC [0,1,2,3,5,7] 6 8 4 [9,10,11] 0 206 U.heap.size ?A (fun c a d v w h=>by cases d<;>exact h) (Nat.le_refl _) (by kernel_rfl) (by kernel_rfl) (by rfl) ?hh _ (by rfl) (by rfl) ?H12 ?H3
  case hh =>
   intro z
   simp only [pickL,List.getElem?_cons_zero,List.getElem?_cons_succ]
   repeat (go_big_quiet_step (fail))
   refine wpQuiet_nil ?_
   exact rfl
  case H12 =>
   clear y0 y1 y2 y3 y4 y5
   refine op_callE1 49 Tryd.call49 _ _ (by rfl) _ (by rfl) _ (hE U.drew kd) ?_
   rintro v w1 ⟨fb,fc,pt1,rfl,h11,h12,h13,k1'⟩
   have k1:=kd.trans k1'
   refine ⟨⟨⟨w1,k1⟩,rfl⟩,?_,?_⟩
   ·simp only [pickL,List.getElem?_cons_zero,List.getElem?_cons_succ]
    refine listE_callE1 (by rfl) 49 Tryd.call49 _ _ (by rfl) _ (by rfl) _ (hE w1 k1) ?_
    rintro v w2 ⟨gb,gc,pt2,rfl,h21,h22,h23,k2'⟩
    have k2:=k1.trans (k2'.mono k1.size)
    have k3:=k2.alloc k2.size (.cells (madeCells #[.bool false] (p.vars.length+1)) 4)
    have kl:=(Below.refl w2.heap.size w2).alloc (Nat.le_refl _) (.cells (madeCells #[.bool false] (p.vars.length+1)) 4)
    refine ⟨⟨⟨w2,k2⟩,rfl⟩,?_⟩
    refine listE_make (by rfl) _ (by rfl) ((p.vars.length:Int)+1) (p.vars.length+1) (by rfl) (by push_cast; rfl) (by omega) ⟨⟨⟨_,k3⟩,rfl⟩,?_⟩
    change wpList _ _ _ _ _ _
    obtain ⟨pt,hS⟩:=FA.make (B:=U.heap.size) (fc:=fc) (gc:=gc) ((h11.below k2').below kl) ((⟨((h12.below k2').below kl).set,fun i hi=>Nat.le_trans (Nat.le_refl _) (((h12.below k2').below kl).low i hi),((h12.below k2').below kl).dis⟩:Bam _ U.heap.size _ _ _ _)) (h21.below kl) ((⟨(h22.below kl).set,fun i hi=>Nat.le_trans k1.size ((h22.below kl).low i hi),(h22.below kl).dis⟩:Bam _ U.heap.size _ _ _ _)) (fun i j hi hj=>by have:=Brr.lt (h12.set i hi); have:=h22.low j hj; omega) (Brr.made w2 (p.vars.length+1)) (fun i hi e=>by have:=Brr.lt (h12.set i hi); have:=k2'.size; omega) (fun i hi e=>by have:=Brr.lt (h22.set i hi); omega) k2.size h13 (Nat.le_trans k1.size h23) (by have:=k3.size; omega)
    rw [World.size_alloc] at hS
    have HSX:=Lib.hid hS
    have HRX:=Lib.hid (k3.alloc k3.size (.cells #[.slice (some ⟨w2.heap.size,0,none⟩) (Fi.nV p) (Fi.nV p),.slice (some ⟨fb,0,none⟩) (Fi.nV p) fc,.slice (some ⟨gb,0,none⟩) (Fi.nV p) gc,.int .i64 ((0:Nat):Int)] 54))
    clear hS
    simp only [Act.put,List.setIfInBounds_toArray,List.set_cons_succ,List.set_cons_zero]
    go_wp2_with fail
    go_meet
    case rel=>exact ⟨_,_,_,_,_,_,_,rfl,HSX,HRX⟩
   ·simp only [pickL,List.getElem?_cons_zero,List.getElem?_cons_succ]
    have k3:=k1.alloc k1.size (.cells (madeCells #[.bool false] (p.vars.length+1)) 4)
    have kl:=(Below.refl w1.heap.size w1).alloc (Nat.le_refl _) (.cells (madeCells #[.bool false] (p.vars.length+1)) 4)
    have hz:=World.size_alloc w1 (.cells (madeCells #[.bool false] (p.vars.length+1)) 4)
    refine listE_make (by rfl) _ (by rfl) ((p.vars.length:Int)+1) (p.vars.length+1) (by rfl) (by push_cast; rfl) (by omega) ⟨⟨⟨_,k3⟩,rfl⟩,?_⟩
    refine listE_callE1 (by rfl) 49 Tryd.call49 _ _ (by rfl) _ (by rfl) _ (hE _ k3) ?_
    rintro v w2 ⟨gb,gc,pt2,rfl,h21,h22,h23,k2'⟩
    have k2:=k3.trans (k2'.mono k3.size)
    refine ⟨⟨⟨w2,k2⟩,rfl⟩,?_⟩
    change wpList _ _ _ _ _ _
    obtain ⟨pt,hS⟩:=FA.make (B:=U.heap.size) (fc:=fc) (gc:=gc) ((h11.below kl).below k2') ((⟨((h12.below kl).below k2').set,fun i hi=>Nat.le_trans (Nat.le_refl _) (((h12.below kl).below k2').low i hi),((h12.below kl).below k2').dis⟩:Bam _ U.heap.size _ _ _ _)) (h21) ((⟨(h22).set,fun i hi=>Nat.le_trans k3.size ((h22).low i hi),(h22).dis⟩:Bam _ U.heap.size _ _ _ _)) (fun i j hi hj=>by have:=Brr.lt (h12.set i hi); have:=h22.low j hj; omega) ((Brr.made w1 (p.vars.length+1)).below k2') (fun i hi e=>by have:=Brr.lt (h12.set i hi); omega) (fun i hi e=>by have:=h22.low i hi; omega) k1.size h13 (Nat.le_trans k3.size h23) k2.size
    skip
    have HSX:=Lib.hid hS
    have HRX:=Lib.hid (k2.alloc k2.size (.cells #[.slice (some ⟨w1.heap.size,0,none⟩) (Fi.nV p) (Fi.nV p),.slice (some ⟨fb,0,none⟩) (Fi.nV p) fc,.slice (some ⟨gb,0,none⟩) (Fi.nV p) gc,.int .i64 ((0:Nat):Int)] 54))
    clear hS
    simp only [Act.put,List.setIfInBounds_toArray,List.set_cons_succ,List.set_cons_zero]
    go_wp2_with fail
    go_meet
    case rel=>exact ⟨_,_,_,_,_,_,_,rfl,HSX,HRX⟩
  case H3 =>
   clear y0 y1 y2 y3 y4 y5
   simp only [pickL,List.getElem?_cons_zero,List.getElem?_cons_succ]
   have k0:=kd.alloc (Nat.le_refl _) (.cells (madeCells #[.bool false] (p.vars.length+1)) 4)
   have hz:=World.size_alloc U.drew (.cells (madeCells #[.bool false] (p.vars.length+1)) 4)
   refine listE_make (by rfl) _ (by rfl) ((p.vars.length:Int)+1) (p.vars.length+1) (by rfl) (by push_cast; rfl) (by omega) ⟨⟨⟨_,k0⟩,rfl⟩,?_⟩
   refine listE_callE1 (by rfl) 49 Tryd.call49 _ _ (by rfl) _ (by rfl) _ (hE _ k0) ?_
   rintro v w1 ⟨fb,fc,pt1,rfl,h11,h12,h13,k1'⟩
   have k1:=k0.trans (k1'.mono k0.size)
   refine ⟨⟨⟨w1,k1⟩,rfl⟩,?_⟩
   refine listE_callE1 (by rfl) 49 Tryd.call49 _ _ (by rfl) _ (by rfl) _ (hE w1 k1) ?_
   rintro v w2 ⟨gb,gc,pt2,rfl,h21,h22,h23,k2'⟩
   have k2:=k1.trans (k2'.mono k1.size)
   refine ⟨⟨⟨w2,k2⟩,rfl⟩,?_⟩
   change wpList _ _ _ _ _ _
   obtain ⟨pt,hS⟩:=FA.make (B:=U.heap.size) (fc:=fc) (gc:=gc) (h11.below k2') ((⟨(h12.below k2').set,fun i hi=>Nat.le_trans k0.size ((h12.below k2').low i hi),(h12.below k2').dis⟩:Bam _ U.heap.size _ _ _ _)) (h21) ((⟨(h22).set,fun i hi=>Nat.le_trans k1.size ((h22).low i hi),(h22).dis⟩:Bam _ U.heap.size _ _ _ _)) (fun i j hi hj=>by have:=Brr.lt (h12.set i hi); have:=h22.low j hj; omega) (((Brr.made U.drew (p.vars.length+1)).below k1').below k2') (fun i hi e=>by have:=h12.low i hi; omega) (fun i hi e=>by have:=h22.low i hi; have:=k1'.size; omega) (Nat.le_refl _) (Nat.le_trans k0.size h13) (Nat.le_trans k1.size h23) k2.size
   skip
   have HSX:=Lib.hid hS
   have HRX:=Lib.hid (k2.alloc k2.size (.cells #[.slice (some ⟨U.drew.heap.size,0,none⟩) (Fi.nV p) (Fi.nV p),.slice (some ⟨fb,0,none⟩) (Fi.nV p) fc,.slice (some ⟨gb,0,none⟩) (Fi.nV p) gc,.int .i64 ((0:Nat):Int)] 54))
   clear hS
   simp only [Act.put,List.setIfInBounds_toArray,List.set_cons_succ,List.set_cons_zero]
   go_wp2_with fail
   go_meet
   case rel=>exact ⟨_,_,_,_,_,_,_,rfl,HSX,HRX⟩
 case rest =>
  obtain ⟨f,nb,fb,gb,fc,gc,pt,rfl,HS,HW0⟩:=hcut
  clear hE
  have hrl:=Lib.hid (Fi.rounds_le HO.out)
  have d0:=(HP.out.below HW0.out).c0
  go_wp2_with fail
  clear d0
  go_loopg [5] (Fi.fF p) (fun gk mv wr=>∃ (mo:Bool) (fu r:Nat) (t:Fi.St),mv=.bool mo∧Hid (gk=fu+(if mo=true then 1 else 0))∧Hid (Fi.Lt (Fi.nT p) t.fst)∧Hid (mo=true→Q.weight (Fi.nV p) (Fi.fw (Fi.nT p) t)≤fu)∧Hid (FA wr U.heap.size p f nb fb gb fc gc pt t.null (vv (Fi.nV p) t.fst (fun _=>0)) r)∧Hid (Below U.heap.size U wr)∧Hid (Fi.fs p=if mo=true then ((Q.run (fun s=>Fi.rGo p p.rules s false) (fu+1) t).1,r+(Q.run (fun s=>Fi.rGo p p.rules s false) (fu+1) t).2) else (t,r)))
  case atStart =>
   refine ⟨true,Q.weight (Fi.nV p) (Fi.fw (Fi.nT p) Fi.s0),0,Fi.s0,rfl,Lib.hid rfl,Lib.hid (fun i=>Nat.two_pow_pos _),Lib.hid (fun _=>Nat.le_refl _),HS,HW0,Lib.hid ?_⟩
   rw [if_pos rfl,Nat.zero_add]; rfl
  case round =>
   clear HS HW0
   obtain ⟨mo,fu,r,t,rfl,HG,HLT,HWT,HF,HW,HE⟩:=hrel
   cases mo with
   | false =>
    have hee:=HE.out
    rw [if_neg (by simp)] at hee
    have HE2:=Lib.hid hee
    have hfol:Fi.fol p=(Q.run (fun fo=>Fi.bRu p t p.rules fo false) (Fi.oF p) (Fi.o0 p)).1:=by unfold Fi.fol; rw [hee]
    have HFOL:=Lib.hid hfol
    clear hee HE HWT HG hfol
    have hK:p.vars.length < Fi.nV p:=Nat.lt_succ_self _
    have hnT0:0 < Fi.nT p:=hn1
    have hK2:Fi.nV p+p.vars.length < 2*Fi.nV p:=by omega
    have z0:=fun z:Wd wr.heap.size wr=>(HF.out.below z.ok).c2
    have z1:=fun z:Wd wr.heap.size wr=>(HP.out.below (HW.out.trans (z.ok.mono HW.out.size))).c1
    have zg:=fun z:Wd wr.heap.size wr=>(HF.out.below z.ok).sg.cell hK
    go_wp2_with fail
    refine region_clst 10 wr.heap.size (by kernel_rfl) (by kernel_rfl) ?_
    simp only [List.take_succ_cons,List.take_zero,List.drop_succ_cons,List.drop_zero]
    repeat (go_big_quiet_step (fail))
    refine wpQuiet_nil ?_
    intro z
    have hFz:=HF.out.below z.ok
    have hb0:=hFz.bam.set _ hK2
    rw [vv_ge] at hb0
    have q0:=Brr.cell hb0 (show 0 < Fi.nT p from hn1)
    have qf:=Brr.fz hb0 0
    have hu0:=(Upd.refl (pt (Fi.nV p+p.vars.length)) z.w).setCell ⟨pt (Fi.nV p+p.vars.length),0,none⟩ rfl (.bool true)
    have hb1:Bit (z.w.setCell ⟨pt (Fi.nV p+p.vars.length),0,none⟩ (.bool true)) (pt (Fi.nV p+p.vars.length)) (Fi.nT p) 1:=(Brr.set hb0 0 true).ext (fun j _=>by
     by_cases hj:j=0
     ·subst hj; rw [Q.up_same]; rfl
     ·rw [Q.up_ne _ _ hj]
      have:Nat.testBit 1 j=false:=by
       have h:=Bs.bit_of_lt (X:=1) (n:=1) (i:=j) (by decide) (by omega)
       exact h
      rw [this]; simp)
    have HF1:Hid (FA (z.w.setCell ⟨pt (Fi.nV p+p.vars.length),0,none⟩ (.bool true)) U.heap.size p f nb fb gb fc gc pt t.null (vv (Fi.nV p) t.fst (Fi.o0 p)) r):=Lib.hid (by
     have h:=hFz.put hK2 hu0 hb1 (Nat.one_lt_two_pow (by have:1≤Fi.nT p:=hn1; omega))
     rw [vv_up2] at h
     exact h)
    have HW1:=Lib.hid ((HW.out.trans (z.ok.mono HW.out.size)).trans (hu0.below (hFz.bam.low _ hK2) (HW.out.trans (z.ok.mono HW.out.size)).size))
    have HLO:Hid (Fi.Lt (Fi.nT p) (Fi.o0 p)):=Lib.hid (Fi.o0_lt HO.out)
    clear z0 z1 zg hFz hb0 hu0 hb1 HF HW
    go_wp2_with fail
    clear q0 qf
    go_loopg [11] (Fi.oF p) (fun gk mv wr=>∃ (mo:Bool) (fu:Nat) (fo:Nat→Nat),mv=.bool mo∧Hid (gk=fu+(if mo=true then 1 else 0))∧Hid (Fi.Lt (Fi.nT p) fo)∧Hid (mo=true→Q.weight (Fi.nV p) (Fi.ow (Fi.nT p) fo)≤fu)∧Hid (FA wr U.heap.size p f nb fb gb fc gc pt t.null (vv (Fi.nV p) t.fst fo) r)∧Hid (Below U.heap.size U wr)∧Hid (Fi.fol p=if mo=true then (Q.run (fun fo=>Fi.bRu p t p.rules fo false) (fu+1) fo).1 else fo))
    case atStart =>
     refine ⟨true,Q.weight (Fi.nV p) (Fi.ow (Fi.nT p) (Fi.o0 p)),Fi.o0 p,rfl,Lib.hid rfl,HLO,Lib.hid (fun _=>Nat.le_refl _),HF1,HW1,Lib.hid ?_⟩
     rw [if_pos rfl]; exact HFOL.out
    case round =>
     clear HF1 HW1 HLO HFOL
     obtain ⟨mo,fu,fo,rfl,HG,HLO,HWT,HF,HW,HE⟩:=hrel
     cases mo with
     | false =>
      have hee:=HE.out
      rw [if_neg (by simp)] at hee
      have HE3:=Lib.hid hee
      clear hee HE
      go_wp2_with fail
      go_ret
      rw [HE2.out,HE3.out]
      exact ⟨f,nb,fb,gb,fc,gc,pt,rfl,HF.out.base (by have:=HB.out.size; have:=HPB.out; omega),by have h:=HB.out.trans (HW.out.mono HB.out.size); first | exact h | (rw [HPB.out]; exact h) | (rw [← HPB.out] at h; exact h)⟩
     | true =>
      have hee:=HE.out
      rw [if_pos rfl] at hee
      obtain ⟨R,hR⟩:∃ R,R=Fi.bRu p t p.rules fo false:=⟨_,rfl⟩
      have HR:=Lib.hid hR
      have HR0:Hid (R=Fi.bRu p t p.rules fo false):=Lib.hid hR
      have HE3:=Lib.hid hee
      clear hR hee HE
      go_wp2_with fail
      go_loopg [11,12] p.rules.length (fun gk mv iv w2=>∃ (i:Nat) (fo2:Nat→Nat) (ch:Bool),iv=.int .i64 i∧i≤p.rules.length∧mv=.bool ch∧Hid (gk+i=p.rules.length)∧Hid (FA w2 U.heap.size p f nb fb gb fc gc pt t.null (vv (Fi.nV p) t.fst fo2) r)∧Hid (Below U.heap.size U w2)∧Hid (Fi.Lt (Fi.nT p) fo2)∧Hid (R=Fi.bRu p t (p.rules.drop i) fo2 ch))
      case atStart=>exact ⟨0,fo,false,rfl,by omega,rfl,Lib.hid (by omega),HF,HW,HLO,HR0⟩
      case round =>
       clear HF HW HR0
       obtain ⟨i,fo2,ch,rfl,hi,rfl,HI,HF,HW,HLO2,HRR⟩:=hrel
       have hPW:=HP.out.below HW.out
       have d2:=hPW.c2
       by_cases hlt:i < p.rules.length
       ·obtain ⟨rb,ro,xa,xc,rfl,v0,v1,v2,vin⟩:=HP.out.a.r i hlt
        have hxk:=HP.out.a.k i hlt rb ro xa xc rfl v1
        have hxl:=HO.out.left _ (List.getElem_mem hlt)
        have hxr:=HO.out.right _ (List.getElem_mem hlt)
        have hx8:=HRL.out _ (List.getElem_mem hlt)
        have hdr:=List.drop_eq_getElem_cons hlt
        have hrr:=HRR.out
        rw [hdr,Fi.bRu] at hrr
        generalize p.rules[i]=x at v0 v1 v2 vin hxl hxr hx8 hrr hxk
        clear hdr
        have b0:=World.block_lt_of_cell? U _ v0
        have t1:=((bcell HW.out).1 rb (ro+i*3+1) b0).trans v1
        obtain ⟨lv,hlv⟩:∃ lv,lv=x.left - p.terms.length:=⟨_,rfl⟩
        have hlvc:lv < Fi.nV p:=by rw [hlv]; unfold Fi.nV; omega
        have hxe:(x.left:Int) - (p.terms.length:Int)=(lv:Nat):=by rw [hlv]; omega
        have hlv9:lv≤1001:=by unfold Fi.nV at hlvc; omega
        rw [show x.left - Fi.nT p=lv from hlv.symm] at hrr
        obtain ⟨S,hS⟩:∃ S,S=Fi.bGo p t lv x.right fo2 ch:=⟨_,rfl⟩
        rw [← hS] at hrr
        have HRX:=Lib.hid hrr
        have HS0:=Lib.hid hS
        have HXR:=Lib.hid hxr
        have HXK:=Lib.hid hxk
        have HXI:Hid (∀ y ∈ x.right,-9223372036854775808≤y∧y≤9223372036854775807):=Lib.hid (fun y hy=>by have:=hxr y hy; omega)
        have VIN:=Lib.hid vin
        have V0:=Lib.hid v0
        clear hlv hxr hxk vin hPW v0 v1 v2 hrr hS hxl HRR
        go_wp2_with fail
        clear t1 d2
        go_loopg [11,14] x.right.length (fun gk mv jv w3=>∃ (j:Nat) (fo3:Nat→Nat) (ch3:Bool),jv=.int .i64 j∧j≤x.right.length∧mv=.bool ch3∧Hid (gk+j=x.right.length)∧Hid (FA w3 U.heap.size p f nb fb gb fc gc pt t.null (vv (Fi.nV p) t.fst fo3) r)∧Hid (Below U.heap.size U w3)∧Hid (Fi.Lt (Fi.nT p) fo3)∧Hid (S=Fi.bGo p t lv (x.right.drop j) fo3 ch3))
        case atStart=>exact ⟨0,fo2,ch,rfl,by omega,rfl,Lib.hid (by omega),HF,HW,HLO2,HS0⟩
        case round =>
         clear HF HW HS0 HLO2
         obtain ⟨j,fo3,ch3,rfl,hj,rfl,HJ,HF,HW,HLO3,HSS⟩:=hrel
         by_cases hlj:j < x.right.length
         ·obtain ⟨bb,bo,rfl,q1⟩:=VIN.out j hlj
          have q0:=((bcell HW.out).1 _ _ (World.block_lt_of_cell? U _ q1)).trans q1
          obtain ⟨y0,y1⟩:=HXR.out _ (List.getElem_mem hlj)
          have hdr:=List.drop_eq_getElem_cons hlj
          have hss:=HSS.out
          rw [hdr] at hss
          generalize x.right[j]=y at q0 q1 y0 y1 hss
          obtain ⟨n,rfl⟩:∃ n:Nat,y=n:=⟨y.toNat,by omega⟩
          clear hdr
          rcases Nat.lt_or_ge n p.terms.length with hn | hn
          ·rw [Fi.bGo,if_pos (show ((n:Nat):Int) < ((Fi.nT p:Nat):Int) by have:Fi.nT p=p.terms.length:=rfl; omega)] at hss
           have HSS2:=Lib.hid hss
           clear q1 hss HSS
           go_wp2_with fail
           go_roundg (x.right.length - (j+1))
           case measure=>have:=HJ.out; omega
           case rel=>exact ⟨j+1,fo3,ch3,by go_num,by omega,rfl,Lib.hid (by omega),HF,HW,HLO3,HSS2⟩
          ·obtain ⟨u,hu⟩:∃ u,u=n - p.terms.length:=⟨_,rfl⟩
           have huc:u < Fi.nV p:=by rw [hu]; unfold Fi.nV; omega
           have hue:(n:Int) - (p.terms.length:Int)=(u:Nat):=by rw [hu]; omega
           have hu9:u≤1001:=by unfold Fi.nV at huc; omega
           obtain ⟨b,hb⟩:∃ b,b=Fi.beg (Fi.nT p) (Q.cnt p) t (x.right.drop (j+1)) 0:=⟨_,rfl⟩
           rw [bGo_ref p t lv u _ _ fo3 ch3 b hb (by have:Fi.nT p=p.terms.length:=rfl; omega) (by rw [hu]; rfl)] at hss
           have HSX:=Lib.hid hss
           have HBQ:=Lib.hid hb
           have HQ1:=Lib.hid q1
           have z0:=fun z:Wd wr.heap.size wr=>(HP.out.below (HW.out.trans (z.ok.mono HW.out.size))).c0
           have z1:=fun z:Wd wr.heap.size wr=>(HP.out.below (HW.out.trans (z.ok.mono HW.out.size))).c1
           have z2:=fun z:Wd wr.heap.size wr=>(HP.out.below (HW.out.trans (z.ok.mono HW.out.size))).c2
           have z3:=fun z:Wd wr.heap.size wr=>(HP.out.below (HW.out.trans (z.ok.mono HW.out.size))).c3
           have z4:=fun z:Wd wr.heap.size wr=>(HP.out.below (HW.out.trans (z.ok.mono HW.out.size))).c4
           have z5:=fun z:Wd wr.heap.size wr=>(HP.out.below (HW.out.trans (z.ok.mono HW.out.size))).c5
           have hsl:=fun w=>int_slice bb bo x.right.length (j+1) xc (by omega) w
           clear hu hss hb q1 HSS
           go_wp2_with fail
           clear q0
           refine region_mid 6 wr.heap.size (by kernel_rfl) (by kernel_rfl) _ (by rfl) (by rfl) ?_
           simp only [List.take_succ_cons,List.take_zero,List.drop_succ_cons,List.drop_zero]
           repeat (go_big_quiet_step (fail))
           refine wpQuiet_nil ?_
           intro z
           have hdl:(x.right.drop (j+1)).length=x.right.length - (j+1):=by simp
           have HWZ:=Lib.hid (HW.out.trans (z.ok.mono HW.out.size))
           have HFZ:=Lib.hid (HF.out.below z.ok)
           obtain ⟨na,hna⟩:∃ na,na=(if xc=j+1 then (some ⟨bb,bo,none⟩:Option Addr) else some ⟨bb,bo+(j+1),none⟩):=⟨_,rfl⟩
           rw [← hna]
           have hdp:Ints z.w na (x.right.drop (j+1)):=by
            have h9:=(VIN.out.below HWZ.out).dropped HXK.out (show j+1≤x.right.length by omega)
            rw [hna]
            split
            ·rename_i e9; rw [if_pos e9] at h9; exact h9
            ·rename_i e9; rw [if_neg e9] at h9; exact h9
           have hbg:=begin10_any (nc:=xc - (j+1)) HFZ.out (hV z.w HWZ.out) HO.out hdp (by rw [hdl]; omega) (fun y hy=>HXI.out y (List.mem_of_mem_drop hy))
           rw [hdl] at hbg
           rw [Fi.beg_vv,← HBQ.out] at hbg
           clear hdl hdp hna z0 z1 z2 z3 z4 z5 hsl HW HF
           refine op_callE3 28 Tryd.call28 _ _ _ _ (by rfl) _ _ _ (by rfl) (by rfl) (by rfl) (fun v w'=>∃ o,v=.tuple #[.slice (some ⟨o,0,none⟩) (Fi.nT p) (Fi.nT p),.bool b.2]∧Bit w' o (Fi.nT p) b.1∧b.1 < 2 ^ Fi.nT p∧z.w.heap.size≤o∧Below z.w.heap.size z.w w') (hbg.mono fun e w' ⟨o,e1,e2,e3,e4,e5⟩=>⟨_,e1,o,rfl,e2,e3,e4,e5⟩) ?_
           rintro v W5 ⟨o,rfl,h5,h6,h7,k5⟩
           have HW5:=Lib.hid (HWZ.out.trans (k5.mono HWZ.out.size))
           have HF5:=Lib.hid (HFZ.out.below k5)
           have hu2:Fi.nV p+u < 2*Fi.nV p:=by omega
           have hno:pt (Fi.nV p+u)≠o:=fun e=>by have:=Brr.lt (HFZ.out.bam.set _ hu2); omega
           have HNO:=Lib.hid hno
           have H5:=Lib.hid h5
           obtain ⟨B1,nl⟩:=b
           simp only at h5 h6 H5 HSX ⊢
           obtain ⟨X,hX⟩:∃ X,X=fo3 u|||B1:=⟨_,rfl⟩
           obtain ⟨gr,hgr⟩:∃ gr,gr=decide (X≠fo3 u):=⟨_,rfl⟩
           have hXL:X < 2 ^ Fi.nT p:=by rw [hX]; exact Fi.or_lt (HLO3.out u) h6
           have hput:=fun z:Wd W5.heap.size W5=>put10_any (w:=z.w) (ca:=Fi.nT p) (cb:=Fi.nT p) (A:=fo3 u) (by have h:=(HF5.out.below z.ok).bam.set _ hu2; rw [vv_ge] at h; exact h) (Brr.below H5.out z.ok) (HLO3.out u) h6 (fun e=>absurd e HNO.out) (show Fi.nT p≤1000 from hnb)
           rw [← hX,← hgr] at hput
           have hsx:=HSX.out
           rw [← hX,← hgr] at hsx
           have HSY:=Lib.hid hsx
           have HXL:=Lib.hid hXL
           have z0:=fun z:Wd W5.heap.size W5=>(HF5.out.below z.ok).c2
           have zg:=fun z:Wd W5.heap.size W5=>(HF5.out.below z.ok).sg.cell huc
           have zq:=fun z:Wd W5.heap.size W5=>((bcell (HW5.out.trans (z.ok.mono HW5.out.size))).1 _ _ (World.block_lt_of_cell? U _ HQ1.out)).trans HQ1.out
           clear hbg h5 h7 k5 HWZ HFZ hno hgr hX hXL hsx HSX HBQ h6 z
           simp only [Act.put,List.setIfInBounds_toArray,List.set_cons_succ,List.set_cons_zero]
           repeat (go_big_quiet_step (fail))
           refine wpQuiet_nil ?_
           go_wp2_with fail
           refine region_clst 13 W5.heap.size (by kernel_rfl) (by kernel_rfl) ?_
           simp only [List.take_succ_cons,List.take_zero,List.drop_succ_cons,List.drop_zero]
           repeat (go_big_quiet_step (fail))
           refine wpQuiet_nil ?_
           intro z
           have hpz:=hput z
           have HF5z:=Lib.hid (HF5.out.below z.ok)
           have HW5z:=Lib.hid (HW5.out.trans (z.ok.mono HW5.out.size))
           clear hput z0 zg zq HF5 HW5 H5 HNO
           generalize z.w=W5z at hpz HF5z HW5z ⊢
           clear z
           go_wp2_with fail
           refine hpz.mono ?_
           rintro e W6 ⟨rfl,hb6,hu6⟩
           have HF6:Hid (FA W6 U.heap.size p f nb fb gb fc gc pt t.null (vv (Fi.nV p) t.fst (Q.up fo3 u X)) r):=Lib.hid (by
            have h:=HF5z.out.put hu2 hu6 hb6 HXL.out
            rw [vv_up2] at h
            exact h)
           have HW6:=Lib.hid (HW5z.out.trans (hu6.below (HF5z.out.bam.low _ hu2) HW5z.out.size))
           have HLO6:=Lib.hid (HLO3.out.up u HXL.out)
           clear hpz hb6 hu6 HF5z HW5z HLO3
           go_upto_region 29 with fail
           go_cut [11] (fun mv wx=>mv=.bool (ch3||gr)∧wx=W6)
           case first =>
            cases ch3 with
            | true =>
             go_wp2_with fail
             go_meet
             case rel=>exact ⟨rfl,rfl⟩
            | false =>
             go_wp2_with fail
             go_meet
             case rel=>exact ⟨rfl,rfl⟩
           case rest =>
            obtain ⟨rfl,hwe⟩:=hcut
            replace hwe:=hwe.symm
            subst hwe
            cases nl with
            | false =>
             have hsy:=HSY.out
             rw [if_neg (by simp)] at hsy
             have HS8:=Lib.hid hsy
             clear hsy HSY
             go_wp2_with fail
             go_roundg (x.right.length - (j+1))
             case measure=>have:=HJ.out; omega
             case rel=>exact ⟨j+1,Q.up fo3 u X,ch3||gr,by go_num,by omega,rfl,Lib.hid (by omega),HF6,HW6,HLO6,HS8⟩
            | true =>
             have hsy:=HSY.out
             rw [if_pos rfl] at hsy
             obtain ⟨L,hL⟩:∃ L,L=Q.up fo3 u X lv:=⟨_,rfl⟩
             obtain ⟨g2,hg2⟩:∃ g2,g2=decide (X|||L≠X):=⟨_,rfl⟩
             have hLL:L < 2 ^ Fi.nT p:=by rw [hL]; exact HLO6.out lv
             rw [← hL,← hg2] at hsy
             have HS8:=Lib.hid hsy
             have HLX:Hid (X|||L < 2 ^ Fi.nT p):=Lib.hid (Fi.or_lt HXL.out hLL)
             have hput:=fun z:Wd W6.heap.size W6=>put10_any (w:=z.w) (ga:=pt (Fi.nV p+u)) (gb:=pt (Fi.nV p+lv)) (ca:=Fi.nT p) (cb:=Fi.nT p) (A:=X) (B:=L) (by have h:=(HF6.out.below z.ok).bam.set _ hu2; rw [vv_ge,Q.up_same] at h; exact h) (by have h:=(HF6.out.below z.ok).bam.set (Fi.nV p+lv) (by omega); rw [vv_ge,← hL] at h; exact h) HXL.out hLL (fun e=>by
              by_cases hul:u=lv
              ·rw [hL,← hul,Q.up_same]
              ·exact absurd e (HF6.out.bam.dis _ _ hu2 (by omega) (by omega))) (show Fi.nT p≤1000 from hnb)
             rw [← hg2] at hput
             have z0:=fun z:Wd W6.heap.size W6=>(HF6.out.below z.ok).c2
             have zg:=fun z:Wd W6.heap.size W6=>(HF6.out.below z.ok).sg.cell huc
             have zl:=fun z:Wd W6.heap.size W6=>(HF6.out.below z.ok).sg.cell hlvc
             have zp:=fun z:Wd W6.heap.size W6=>(HP.out.below (HW6.out.trans (z.ok.mono HW6.out.size))).c2
             have zq:=fun z:Wd W6.heap.size W6=>((bcell (HW6.out.trans (z.ok.mono HW6.out.size))).1 _ _ (World.block_lt_of_cell? U _ HQ1.out)).trans HQ1.out
             have zv:=fun z:Wd W6.heap.size W6=>((bcell (HW6.out.trans (z.ok.mono HW6.out.size))).1 _ _ (World.block_lt_of_cell? U _ V0.out)).trans V0.out
             clear hsy HSY hL hg2 hLL
             go_wp2_with fail
             refine region_clst 26 W6.heap.size (by kernel_rfl) (by kernel_rfl) ?_
             simp only [List.take_succ_cons,List.take_zero,List.drop_succ_cons,List.drop_zero]
             repeat (go_big_quiet_step (fail))
             refine wpQuiet_nil ?_
             intro z
             have hpz:=hput z
             have HF6z:=Lib.hid (HF6.out.below z.ok)
             have HW6z:=Lib.hid (HW6.out.trans (z.ok.mono HW6.out.size))
             clear hput z0 zg zl zp zq zv HF6 HW6
             generalize z.w=W6z at hpz HF6z HW6z ⊢
             clear z
             go_wp2_with fail
             refine hpz.mono ?_
             rintro e W7 ⟨rfl,hb7,hu7⟩
             have HF7:Hid (FA W7 U.heap.size p f nb fb gb fc gc pt t.null (vv (Fi.nV p) t.fst (Q.up fo3 u (X|||L))) r):=Lib.hid (by
              have h:=HF6z.out.put hu2 hu7 hb7 HLX.out
              rw [vv_up2,Q.up_up] at h
              exact h)
             have HW7:=Lib.hid (HW6z.out.trans (hu7.below (HF6z.out.bam.low _ hu2) HW6z.out.size))
             have HLO7:Hid (Fi.Lt (Fi.nT p) (Q.up fo3 u (X|||L))):=Lib.hid (by have h:=HLO6.out.up u HLX.out; rw [Q.up_up] at h; exact h)
             clear hpz hb7 hu7 HF6z HW6z HLO6
             generalize (ch3||gr)=c3 at HS8 ⊢
             cases c3 with
             | true =>
              go_wp2_with fail
              go_roundg (x.right.length - (j+1))
              case measure=>have:=HJ.out; omega
              case rel=>exact ⟨j+1,Q.up fo3 u (X|||L),true||g2,by go_num,by omega,rfl,Lib.hid (by omega),HF7,HW7,HLO7,HS8⟩
             | false =>
              go_wp2_with fail
              go_roundg (x.right.length - (j+1))
              case measure=>have:=HJ.out; omega
              case rel=>exact ⟨j+1,Q.up fo3 u (X|||L),false||g2,by go_num,by omega,rfl,Lib.hid (by omega),HF7,HW7,HLO7,HS8⟩
         ·obtain rfl:j=x.right.length:=by omega
          have hss:=HSS.out
          rw [List.drop_length,Fi.bGo] at hss
          have hrx:=HRX.out
          rw [hss] at hrx
          have HR8:Hid (R=Fi.bRu p t (p.rules.drop (i+1)) fo3 ch3):=Lib.hid hrx
          clear hss hrx hlj HJ HSS HRX
          go_wp2_with fail
          go_roundg (p.rules.length - (i+1))
          case measure=>have:=HI.out; omega
          case rel=>exact ⟨i+1,fo3,ch3,by go_num,by omega,rfl,Lib.hid (by omega),HF,HW,HLO3,HR8⟩
       ·obtain rfl:i=p.rules.length:=by omega
        have hrr:=HRR.out
        rw [List.drop_length,Fi.bRu] at hrr
        have hR2:=HR.out
        have hEq:=HE3.out
        clear hlt HI HRR hPW
        rw [Q.run] at hEq
        rw [← hR2] at hEq
        cases ch with
        | true =>
         have hch:(Fi.bRu p (Fi.fs p).1 p.rules fo false).2=true:=by rw [HE2.out,← hR2,hrr]
         have hl:Q.weight (Fi.nV p) (Fi.ow (Fi.nT p) fo2) < Q.weight (Fi.nV p) (Fi.ow (Fi.nT p) fo):=by have h:=Fi.behind_less HO.out fo HLO.out hch; rw [HE2.out,← hR2,hrr] at h; exact h
         rw [hrr,if_pos rfl] at hEq
         have hw:=HWT.out (by first | rfl | trivial)
         obtain ⟨fu,rfl⟩:∃ f2,fu=f2+1:=⟨fu - 1,by omega⟩
         have HWL:Hid (Q.weight (Fi.nV p) (Fi.ow (Fi.nT p) fo2)≤fu):=Lib.hid (by omega)
         have HEQ:Hid (Fi.fol p=(Q.run (fun fo=>Fi.bRu p t p.rules fo false) (fu+1) fo2).1):=Lib.hid hEq
         clear hrr hR2 hEq hch hl hw HE3 HR HWT
         go_wp2_with fail
         go_roundg (fu+1)
         case measure=>have h:=HG.out; simp at h; omega
         case rel=>exact ⟨true,fu,fo2,rfl,Lib.hid rfl,HLO2,Lib.hid (fun _=>HWL.out),HF,HW,Lib.hid (by rw [if_pos rfl]; exact HEQ.out)⟩
        | false =>
         rw [hrr,if_neg (by simp)] at hEq
         have HEQ:Hid (Fi.fol p=fo2):=Lib.hid hEq
         clear hrr hR2 hEq HE3 HR HWT
         go_wp2_with fail
         go_roundg 0
         case measure=>have h:=HG.out; simp at h; omega
         case rel=>exact ⟨false,0,fo2,rfl,Lib.hid rfl,HLO2,Lib.hid (fun h=>by cases h),HF,HW,Lib.hid (by rw [if_neg (by simp)]; exact HEQ.out)⟩
   | true =>
    have hee:=HE.out
    rw [if_pos rfl] at hee
    have hr2:r≤2000000:=by
     have h1:=hrl.out
     rw [hee] at h1
     simp only at h1
     omega
    have HE2:=Lib.hid hee
    have f3:=HF.out.c3
    have fz:=HF.out.fz 3
    have HF1:=Lib.hid (HF.out.setRd (r+1))
    have HW1:=Lib.hid (HW.out.trans (((Upd.refl f wr).setCell ⟨f,3,none⟩ rfl (.int .i64 ((r+1:Nat):Int))).below HF.out.lo.1 HW.out.size))
    obtain ⟨R,hR⟩:∃ R,R=Fi.rGo p p.rules t false:=⟨_,rfl⟩
    have HR:=Lib.hid hR
    have HR0:Hid (R=Fi.rGo p p.rules t false):=Lib.hid hR
    clear hR hee HE HF HW
    go_wp2_with fail
    clear f3 fz
    go_loopg [5,6] p.rules.length (fun gk mv iv w2=>∃ (i:Nat) (t2:Fi.St) (ch:Bool),iv=.int .i64 i∧i≤p.rules.length∧mv=.bool ch∧Hid (gk+i=p.rules.length)∧Hid (FA w2 U.heap.size p f nb fb gb fc gc pt t2.null (vv (Fi.nV p) t2.fst (fun _=>0)) (r+1))∧Hid (Below U.heap.size U w2)∧Hid (Fi.Lt (Fi.nT p) t2.fst)∧Hid (R=Fi.rGo p (p.rules.drop i) t2 ch))
    case atStart=>exact ⟨0,t,false,rfl,by omega,rfl,Lib.hid (by omega),HF1,HW1,HLT,HR0⟩
    case round =>
     clear HF1 HW1 HR0
     obtain ⟨i,t2,ch,rfl,hi,rfl,HI,HF,HW,HLT2,HRR⟩:=hrel
     have hPW:=HP.out.below HW.out
     have d2:=hPW.c2
     by_cases hlt:i < p.rules.length
     ·obtain ⟨rb,ro,xa,xc,rfl,v0,v1,v2,vin⟩:=HP.out.a.r i hlt
      have hxl:=HO.out.left _ (List.getElem_mem hlt)
      have hxr:=HO.out.right _ (List.getElem_mem hlt)
      have hx8:=HRL.out _ (List.getElem_mem hlt)
      have hdr:=List.drop_eq_getElem_cons hlt
      have hrr:=HRR.out
      rw [hdr,Fi.rGo] at hrr
      generalize p.rules[i]=x at v0 v1 v2 vin hxl hxr hx8 hrr
      clear hdr
      have b0:=World.block_lt_of_cell? U _ v0
      have t0:=((bcell HW.out).1 rb (ro+i*3) b0).trans v0
      obtain ⟨lv,hlv⟩:∃ lv,lv=x.left - p.terms.length:=⟨_,rfl⟩
      have hlvc:lv < Fi.nV p:=by rw [hlv]; unfold Fi.nV; omega
      have hxe:(x.left:Int) - (p.terms.length:Int)=(lv:Nat):=by rw [hlv]; omega
      have hlv9:lv≤1001:=by unfold Fi.nV at hlvc; omega
      obtain ⟨q,hq⟩:∃ q,q=Fi.beg (Fi.nT p) (Q.cnt p) t2 x.right 0:=⟨_,rfl⟩
      rw [stp_ref p x t2 ch q hq,show x.left - Fi.nT p=lv from hlv.symm] at hrr
      have HRX:=Lib.hid hrr
      have HQ:=Lib.hid hq
      have HXI:Hid (∀ y ∈ x.right,-9223372036854775808≤y∧y≤9223372036854775807):=Lib.hid (fun y hy=>by have:=hxr y hy; omega)
      have VIN:=Lib.hid vin
      have z0:=fun z:Wd wr.heap.size wr=>(HP.out.below (HW.out.trans (z.ok.mono HW.out.size))).c0
      have z1:=fun z:Wd wr.heap.size wr=>(HP.out.below (HW.out.trans (z.ok.mono HW.out.size))).c1
      have z2:=fun z:Wd wr.heap.size wr=>(HP.out.below (HW.out.trans (z.ok.mono HW.out.size))).c2
      have z3:=fun z:Wd wr.heap.size wr=>(HP.out.below (HW.out.trans (z.ok.mono HW.out.size))).c3
      have z4:=fun z:Wd wr.heap.size wr=>(HP.out.below (HW.out.trans (z.ok.mono HW.out.size))).c4
      have z5:=fun z:Wd wr.heap.size wr=>(HP.out.below (HW.out.trans (z.ok.mono HW.out.size))).c5
      have zv:=fun z:Wd wr.heap.size wr=>((bcell (HW.out.trans (z.ok.mono HW.out.size))).1 rb (ro+i*3+1) b0).trans v1
      clear hlv hxr vin hPW v0 v1 v2 b0 hrr hq hxl HRR
      go_wp2_with fail
      clear t0 d2
      refine region_mid 8 wr.heap.size (by kernel_rfl) (by kernel_rfl) _ (by rfl) (by rfl) ?_
      simp only [List.take_succ_cons,List.take_zero,List.drop_succ_cons,List.drop_zero]
      repeat (go_big_quiet_step (fail))
      refine wpQuiet_nil ?_
      intro z
      have HWZ:=Lib.hid (HW.out.trans (z.ok.mono HW.out.size))
      have HFZ:=Lib.hid (HF.out.below z.ok)
      have hbg:=begin10_any (nc:=xc) HFZ.out (hV z.w HWZ.out) HO.out (VIN.out.below HWZ.out) (by omega) HXI.out
      rw [Fi.beg_vv] at hbg
      clear z0 z1 z2 z3 z4 z5 zv HW HF
      refine op_callE3 28 Tryd.call28 _ _ _ _ (by rfl) _ _ _ (by rfl) (by rfl) (by rfl) (fun v w'=>∃ o,v=.tuple #[.slice (some ⟨o,0,none⟩) (Fi.nT p) (Fi.nT p),.bool q.2]∧Bit w' o (Fi.nT p) q.1∧q.1 < 2 ^ Fi.nT p∧z.w.heap.size≤o∧Below z.w.heap.size z.w w') (hbg.mono fun e w' ⟨o,e1,e2,e3,e4,e5⟩=>⟨_,e1,o,by rw [HQ.out],by rw [HQ.out]; exact e2,by rw [HQ.out]; exact e3,e4,e5⟩) ?_
      rintro v W5 ⟨o,rfl,h5,h6,h7,k5⟩
      have HW5:=Lib.hid (HWZ.out.trans (k5.mono HWZ.out.size))
      have HF5:=Lib.hid (HFZ.out.below k5)
      have hlv2:lv < 2*Fi.nV p:=by omega
      have hA:=HF5.out.bam.set lv hlv2
      rw [vv_lt hlvc] at hA
      have hno:pt lv≠o:=fun e=>by have:=Brr.lt (HFZ.out.bam.set lv hlv2); omega
      have hput:=put10_any (ca:=Fi.nT p) (cb:=Fi.nT p) hA h5 (HLT2.out lv) h6 (fun e=>absurd e hno) (show Fi.nT p≤1000 from hnb)
      obtain ⟨gr,hgr⟩:∃ gr,gr=decide (t2.fst lv|||q.1≠t2.fst lv):=⟨_,rfl⟩
      obtain ⟨nl,hnl⟩:∃ nl,nl=q.2:=⟨_,rfl⟩
      obtain ⟨nv,hnv⟩:∃ nv,nv=t2.null lv:=⟨_,rfl⟩
      obtain ⟨X,hX⟩:∃ X,X=t2.fst lv|||q.1:=⟨_,rfl⟩
      have hXL:X < 2 ^ Fi.nT p:=by rw [hX]; exact Fi.or_lt (HLT2.out lv) h6
      rw [← hgr,← hX] at hput
      have hrx:=HRX.out
      rw [← hgr,← hnl,← hnv,← hX] at hrx
      rw [← hnl]
      have HR5:=Lib.hid hrx
      have HNV:=Lib.hid hnv
      have HXL:=Lib.hid hXL
      have f1:=HF5.out.c1
      have g0:=HF5.out.sf.cell hlvc
      clear hbg h5 h7 k5 HWZ HFZ hA hno hgr hnl hnv hX hrx hXL HRX HQ h6 q z
      simp only [Act.put,List.setIfInBounds_toArray,List.set_cons_succ,List.set_cons_zero]
      repeat (go_big_quiet_step (fail))
      refine wpQuiet_nil ?_
      go_wp2_with fail
      refine hput.mono ?_
      rintro e W6 ⟨rfl,hb6,hu6⟩
      have HF6:Hid (FA W6 U.heap.size p f nb fb gb fc gc pt t2.null (vv (Fi.nV p) (Q.up t2.fst lv X) (fun _=>0)) (r+1)):=Lib.hid (by
       have h:=HF5.out.put hlv2 hu6 hb6 HXL.out
       rw [vv_up hlvc] at h
       exact h)
      have HW6:=Lib.hid (HW5.out.trans (hu6.below (HF5.out.bam.low lv hlv2) HW5.out.size))
      have HLT6:=Lib.hid (HLT2.out.up lv HXL.out)
      have f0:=HF6.out.c0
      have n0:=HF6.out.n.cell hlvc
      rw [← HNV.out] at n0
      clear hput hb6 hu6 HF5 HW5 f1 g0 HLT2
      go_upto_region 13 with fail
      go_cut [5] (fun mv wx=>mv=.bool (ch||gr||(nl&&!nv))∧wx=W6)
      case first =>
       cases ch with
       | true =>
        go_wp2_with fail
        go_meet
        case rel=>exact ⟨rfl,rfl⟩
       | false =>
        cases gr with
        | true =>
         go_wp2_with fail
         go_meet
         case rel=>exact ⟨rfl,rfl⟩
        | false =>
         cases nl with
         | false =>
          go_wp2_with fail
          go_meet
          case rel=>exact ⟨rfl,rfl⟩
         | true =>
          cases nv with
          | false =>
           go_wp2_with fail
           go_meet
           case rel=>exact ⟨rfl,rfl⟩
          | true =>
           go_wp2_with fail
           go_meet
           case rel=>exact ⟨rfl,rfl⟩
      case rest =>
       obtain ⟨rfl,hwe⟩:=hcut
       replace hwe:=hwe.symm
       subst hwe
       clear f0 n0
       have HF7:=HF6
       have z0:=fun z:Wd W6.heap.size W6=>(HF7.out.below z.ok).c0
       have zn:=fun z:Wd W6.heap.size W6=>(HF7.out.below z.ok).n.cell hlvc
       rw [← HNV.out] at zn
       generalize (ch||gr||(nl&&!nv))=c2 at HR5 ⊢
       cases nv with
       | true =>
        go_wp2_with fail
        refine region_clst 16 W6.heap.size (by kernel_rfl) (by kernel_rfl) ?_
        simp only [List.take_succ_cons,List.take_zero,List.drop_succ_cons,List.drop_zero]
        repeat (go_big_quiet_step (fail))
        refine wpQuiet_nil ?_
        intro z
        have HF8:=Lib.hid ((HF7.out.below z.ok).setNull lv true)
        have HW8:=Lib.hid ((HW6.out.trans (z.ok.mono HW6.out.size)).trans (((Upd.refl nb z.w).setCell ⟨nb,lv,none⟩ rfl (.bool true)).below HF7.out.lo.2.1 (HW6.out.trans (z.ok.mono HW6.out.size)).size))
        have q0:=zn z
        have qf:=(HF7.out.below z.ok).n.fz lv
        clear z0 zn HF7 HW6
        go_wp2_with fail
        go_roundg (p.rules.length - (i+1))
        case measure=>have:=HI.out; omega
        case rel=>exact ⟨i+1,⟨Q.up t2.null lv true,Q.up t2.fst lv X⟩,c2,by go_num,by omega,rfl,Lib.hid (by omega),HF8,HW8,HLT6,HR5⟩
       | false =>
        cases nl with
        | true =>
         go_wp2_with fail
         refine region_clst 16 W6.heap.size (by kernel_rfl) (by kernel_rfl) ?_
         simp only [List.take_succ_cons,List.take_zero,List.drop_succ_cons,List.drop_zero]
         repeat (go_big_quiet_step (fail))
         refine wpQuiet_nil ?_
         intro z
         have HF8:=Lib.hid ((HF7.out.below z.ok).setNull lv true)
         have HW8:=Lib.hid ((HW6.out.trans (z.ok.mono HW6.out.size)).trans (((Upd.refl nb z.w).setCell ⟨nb,lv,none⟩ rfl (.bool true)).below HF7.out.lo.2.1 (HW6.out.trans (z.ok.mono HW6.out.size)).size))
         have q0:=zn z
         have qf:=(HF7.out.below z.ok).n.fz lv
         clear z0 zn HF7 HW6
         go_wp2_with fail
         go_roundg (p.rules.length - (i+1))
         case measure=>have:=HI.out; omega
         case rel=>exact ⟨i+1,⟨Q.up t2.null lv true,Q.up t2.fst lv X⟩,c2,by go_num,by omega,rfl,Lib.hid (by omega),HF8,HW8,HLT6,HR5⟩
        | false =>
         go_wp2_with fail
         refine region_clst 16 W6.heap.size (by kernel_rfl) (by kernel_rfl) ?_
         simp only [List.take_succ_cons,List.take_zero,List.drop_succ_cons,List.drop_zero]
         repeat (go_big_quiet_step (fail))
         refine wpQuiet_nil ?_
         intro z
         have HF8:=Lib.hid ((HF7.out.below z.ok).setNull lv false)
         have HW8:=Lib.hid ((HW6.out.trans (z.ok.mono HW6.out.size)).trans (((Upd.refl nb z.w).setCell ⟨nb,lv,none⟩ rfl (.bool false)).below HF7.out.lo.2.1 (HW6.out.trans (z.ok.mono HW6.out.size)).size))
         have q0:=zn z
         have qf:=(HF7.out.below z.ok).n.fz lv
         clear z0 zn HF7 HW6
         go_wp2_with fail
         go_roundg (p.rules.length - (i+1))
         case measure=>have:=HI.out; omega
         case rel=>exact ⟨i+1,⟨Q.up t2.null lv false,Q.up t2.fst lv X⟩,c2,by go_num,by omega,rfl,Lib.hid (by omega),HF8,HW8,HLT6,HR5⟩
     ·obtain rfl:i=p.rules.length:=by omega
      have hrr:=HRR.out
      rw [List.drop_length,Fi.rGo] at hrr
      have hR2:=HR.out
      have hEq:=HE2.out
      clear hlt HI HRR hPW
      rw [Q.run] at hEq
      rw [← hR2] at hEq
      cases ch with
      | true =>
       have hch:(Fi.rGo p p.rules t false).2=true:=by rw [← hR2,hrr]
       have hl:Q.weight (Fi.nV p) (Fi.fw (Fi.nT p) t2) < Q.weight (Fi.nV p) (Fi.fw (Fi.nT p) t):=by have h:=Fi.round_less HO.out t HLT.out hch; rw [← hR2,hrr] at h; exact h
       rw [hrr,if_pos rfl] at hEq
       have hw:=HWT.out (by first | rfl | trivial)
       obtain ⟨fu,rfl⟩:∃ f2,fu=f2+1:=⟨fu - 1,by omega⟩
       have HWL:Hid (Q.weight (Fi.nV p) (Fi.fw (Fi.nT p) t2)≤fu):=Lib.hid (by omega)
       have HEQ:Hid (Fi.fs p=((Q.run (fun s=>Fi.rGo p p.rules s false) (fu+1) t2).1,r+1+(Q.run (fun s=>Fi.rGo p p.rules s false) (fu+1) t2).2)):=Lib.hid (by rw [hEq]; simp only; congr 1; omega)
       clear hrr hR2 hEq hch hl hw HE2 HR HWT
       go_wp2_with fail
       go_roundg (fu+1)
       case measure=>have h:=HG.out; simp at h; omega
       case rel=>exact ⟨true,fu,r+1,t2,rfl,Lib.hid rfl,HLT2,Lib.hid (fun _=>HWL.out),HF,HW,Lib.hid (by rw [if_pos rfl]; exact HEQ.out)⟩
      | false =>
       rw [hrr,if_neg (by simp)] at hEq
       have HEQ:Hid (Fi.fs p=(t2,r+1)):=Lib.hid (by rw [hEq])
       clear hrr hR2 hEq HE2 HR HWT
       go_wp2_with fail
       go_roundg 0
       case measure=>have h:=HG.out; simp at h; omega
       case rel=>exact ⟨false,0,r+1,t2,rfl,Lib.hid rfl,HLT2,Lib.hid (fun h=>by cases h),HF,HW,Lib.hid (by rw [if_neg (by simp)]; exact HEQ.out)⟩
end Go.Proofs.YtjbggogbnckllaaDoor
