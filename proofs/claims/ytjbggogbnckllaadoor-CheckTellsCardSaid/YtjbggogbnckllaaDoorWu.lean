/-
  The walk of of (chapter 09), whatever the text.
-/
import Derived.Test.YtjbggogbnckllaaDoorPo
import Derived.Test.YtjbggogbnckllaaDoorPq
namespace Go.Proofs.YtjbggogbnckllaaDoor
open Go.RowKit
set_option linter.unusedVariables false
set_option linter.unusedSimpArgs false
/-- The plan that a law asks. -/
def planT (m:Pl.Sm) (s:ByteArray):Pl.Plan:=if (Rd.read s).2.code=0∧(Pl.of (Rd.read s).1).2.1=0 then (Pl.of (Rd.read s).1).1 else Pl.plan m
set_option maxRecDepth 100000 in
set_option maxHeartbeats 8000000 in
theorem of09_plan {w:World} {v:Value} {m:Pl.Sm} {s st:ByteArray} {p:Pl.Plan} (h:SmV w v m) (hs:s.size≤4000) (HC:∀ i,i < s.size→Lx.at_ s i=91→ClassOK s i) (hd:(Rd.read s).2.code=0) (hp:Pl.of (Rd.read s).1=(p,0,st)) :
  Calls Tryd.prog 30 #[v,.string s] w fun e w'=>∃ v',e=.returned v'∧PnV w' v' p∧Below w.heap.size w w':=by
 obtain ⟨sla,sra,spa,saa,sva,slc,src,spc,sac,svc,rfl,h⟩:=h
 unfold smC
 have k1:=(Below.refl w.heap.size w).alloc (Nat.le_refl _) (.cells #[.int .u8 (m.tokens:Nat),.int .u8 (m.vars:Nat),.slice sla m.lefts.length slc,.slice sra m.rights.length src,.slice spa m.precs.length spc,.slice saa m.assocs.length sac,.slice sva m.levels.length svc] 25)
 have k2:=k1.alloc (by simp) (.cells #[.slice none 0 0,.slice none 0 0,.slice none 0 0,.slice none 0 0,.slice none 0 0,.slice none 0 0] 32)
 have hr:=heap_alloc_new (w.alloc (.cells #[.int .u8 (m.tokens:Nat),.int .u8 (m.vars:Nat),.slice sla m.lefts.length slc,.slice sra m.rights.length src,.slice spa m.precs.length spc,.slice saa m.assocs.length sac,.slice sva m.levels.length svc] 25)) (.cells #[.slice none 0 0,.slice none 0 0,.slice none 0 0,.slice none 0 0,.slice none 0 0,.slice none 0 0] 32)
 rw [World.size_alloc] at hr
 have HR:=Lib.hid hr
 have HK:=Lib.hid k2
 have hsz:((w.alloc (.cells #[.int .u8 (m.tokens:Nat),.int .u8 (m.vars:Nat),.slice sla m.lefts.length slc,.slice sra m.rights.length src,.slice spa m.precs.length spc,.slice saa m.assocs.length sac,.slice sva m.levels.length svc] 25)).alloc (.cells #[.slice none 0 0,.slice none 0 0,.slice none 0 0,.slice none 0 0,.slice none 0 0,.slice none 0 0] 32)).heap.size=w.heap.size+2:=by simp
 have hrd:=read_any s ((w.alloc (.cells #[.int .u8 (m.tokens:Nat),.int .u8 (m.vars:Nat),.slice sla m.lefts.length slc,.slice sra m.rights.length src,.slice spa m.precs.length spc,.slice saa m.assocs.length sac,.slice sva m.levels.length svc] 25)).alloc (.cells #[.slice none 0 0,.slice none 0 0,.slice none 0 0,.slice none 0 0,.slice none 0 0,.slice none 0 0] 32)) hs HC
 obtain ⟨D,hD⟩:∃ D,D=(Rd.read s).2:=⟨_,rfl⟩
 rw [← hD] at hrd hd
 obtain ⟨g,hg⟩:∃ g,g=(Rd.read s).1:=⟨_,rfl⟩
 rw [← hg] at hrd hp
 have HGG:=Lib.hid hg
 clear h k1 k2 hr HC hD hg
 obtain ⟨dc,dl,dk⟩:=D
 obtain rfl:dc=0:=hd
 go_enter Tryd.func30,Tryd.ntmps30
 go_wp2_with fail
 generalize (w.alloc (.cells #[.int .u8 (m.tokens:Nat),.int .u8 (m.vars:Nat),.slice sla m.lefts.length slc,.slice sra m.rights.length src,.slice spa m.precs.length spc,.slice saa m.assocs.length sac,.slice sva m.levels.length svc] 25)).alloc (.cells #[.slice none 0 0,.slice none 0 0,.slice none 0 0,.slice none 0 0,.slice none 0 0,.slice none 0 0] 32)=W at HR HK hrd hsz ⊢
 refine hrd.mono ?_
 rintro e w2 ⟨gv,rfl,hG,hO,hb2⟩
 have hz:GrSz g:=by rw [HGG.out]; exact read_sz s hs (by rw [← HGG.out]; exact hO)
 have hGV:=hG.grV
 obtain ⟨x0,x1,x2,x3,x4,rfl,o0,o1,o2,o3,o4⟩:=hG.shape
 simp only [vDiag]
 have hsz2:=hb2.size
 have hbP:=((Below.refl w2.heap.size w2).alloc (Nat.le_refl _) (.cells #[.slice none 0 0,.slice none 0 0,.slice none 0 0,.string ⟨#[]⟩,.slice none 0 0] 74)).alloc (by simp) (.cells #[.int .i64 0,.int .i64 0,.int .i64 0] 91)
 have g6:((w2.alloc (.cells #[.slice none 0 0,.slice none 0 0,.slice none 0 0,.string ⟨#[]⟩,.slice none 0 0] 74)).alloc (.cells #[.int .i64 0,.int .i64 0,.int .i64 0] 91)).heap[w2.heap.size]?=some (.cells #[.slice none 0 0,.slice none 0 0,.slice none 0 0,.string ⟨#[]⟩,.slice none 0 0] 74 (0,0)):=(Below.heap_alloc _ _ _ (by simp)).trans (heap_alloc_new w2 _)
 have g7:(((w2.alloc (.cells #[.slice none 0 0,.slice none 0 0,.slice none 0 0,.string ⟨#[]⟩,.slice none 0 0] 74)).alloc (.cells #[.int .i64 0,.int .i64 0,.int .i64 0] 91)).setRow w2.heap.size #[x0,x1,x2,x3,x4]).heap[w2.heap.size+1]?=some (.cells #[.int .i64 0,.int .i64 0,.int .i64 0] 91 (0,0)):=(setRow_other _ _ _ _ (by omega)).trans (by
  have h:=heap_alloc_new (w2.alloc (.cells #[.slice none 0 0,.slice none 0 0,.slice none 0 0,.string ⟨#[]⟩,.slice none 0 0] 74)) (.cells #[.int .i64 0,.int .i64 0,.int .i64 0] 91)
  have e:(w2.alloc (.cells #[.slice none 0 0,.slice none 0 0,.slice none 0 0,.string ⟨#[]⟩,.slice none 0 0] 74)).heap.size=w2.heap.size+1:=by simp
  rw [e] at h
  exact h)
 have HBN:=Lib.hid (low_rows (x:=#[x0,x1,x2,x3,x4]) (y:=#[.int .i64 0,.int .i64 (dl:Nat),.int .i64 (dk:Nat)]) hbP (Nat.le_refl _) (Nat.le_succ _))
 have B7:=Lib.hid (setRow_heap _ _ _ #[.int .i64 0,.int .i64 (dl:Nat),.int .i64 (dk:Nat)] _ _ g7)
 have B6:=Lib.hid ((setRow_other _ (w2.heap.size+1) w2.heap.size #[.int .i64 0,.int .i64 (dl:Nat),.int .i64 (dk:Nat)] (by omega)).trans (setRow_heap _ _ _ #[x0,x1,x2,x3,x4] _ _ g6))
 have HGV:=Lib.hid hGV
 clear HGG
 have HB2:=Lib.hid hb2
 have hz4:=HBN.out.size
 clear hG hO hbP hrd hb2 hGV
 have p0:((((w2.alloc (.cells #[.slice none 0 0,.slice none 0 0,.slice none 0 0,.string ⟨#[]⟩,.slice none 0 0] 74)).alloc (.cells #[.int .i64 0,.int .i64 0,.int .i64 0] 91)).setRow w2.heap.size #[x0,x1,x2,x3,x4]).setRow (w2.heap.size+1) #[.int .i64 0,.int .i64 (dl:Nat),.int .i64 (dk:Nat)]).cell? ⟨w2.heap.size+1,0,none⟩=some (.int .i64 0):=by rw [cell_of_row _ _ _ _ _ _ B7.out]; rfl
 have q0:((((w2.alloc (.cells #[.slice none 0 0,.slice none 0 0,.slice none 0 0,.string ⟨#[]⟩,.slice none 0 0] 74)).alloc (.cells #[.int .i64 0,.int .i64 0,.int .i64 0] 91)).setRow w2.heap.size #[x0,x1,x2,x3,x4]).setRow (w2.heap.size+1) #[.int .i64 0,.int .i64 (dl:Nat),.int .i64 (dk:Nat)]).cell? ⟨w2.heap.size,0,none⟩=some x0:=by rw [cell_of_row _ _ _ _ _ _ B6.out]; rfl
 have q1:((((w2.alloc (.cells #[.slice none 0 0,.slice none 0 0,.slice none 0 0,.string ⟨#[]⟩,.slice none 0 0] 74)).alloc (.cells #[.int .i64 0,.int .i64 0,.int .i64 0] 91)).setRow w2.heap.size #[x0,x1,x2,x3,x4]).setRow (w2.heap.size+1) #[.int .i64 0,.int .i64 (dl:Nat),.int .i64 (dk:Nat)]).cell? ⟨w2.heap.size,1,none⟩=some x1:=by rw [cell_of_row _ _ _ _ _ _ B6.out]; rfl
 have q2:((((w2.alloc (.cells #[.slice none 0 0,.slice none 0 0,.slice none 0 0,.string ⟨#[]⟩,.slice none 0 0] 74)).alloc (.cells #[.int .i64 0,.int .i64 0,.int .i64 0] 91)).setRow w2.heap.size #[x0,x1,x2,x3,x4]).setRow (w2.heap.size+1) #[.int .i64 0,.int .i64 (dl:Nat),.int .i64 (dk:Nat)]).cell? ⟨w2.heap.size,2,none⟩=some x2:=by rw [cell_of_row _ _ _ _ _ _ B6.out]; rfl
 have q3:((((w2.alloc (.cells #[.slice none 0 0,.slice none 0 0,.slice none 0 0,.string ⟨#[]⟩,.slice none 0 0] 74)).alloc (.cells #[.int .i64 0,.int .i64 0,.int .i64 0] 91)).setRow w2.heap.size #[x0,x1,x2,x3,x4]).setRow (w2.heap.size+1) #[.int .i64 0,.int .i64 (dl:Nat),.int .i64 (dk:Nat)]).cell? ⟨w2.heap.size,3,none⟩=some x3:=by rw [cell_of_row _ _ _ _ _ _ B6.out]; rfl
 have q4:((((w2.alloc (.cells #[.slice none 0 0,.slice none 0 0,.slice none 0 0,.string ⟨#[]⟩,.slice none 0 0] 74)).alloc (.cells #[.int .i64 0,.int .i64 0,.int .i64 0] 91)).setRow w2.heap.size #[x0,x1,x2,x3,x4]).setRow (w2.heap.size+1) #[.int .i64 0,.int .i64 (dl:Nat),.int .i64 (dk:Nat)]).cell? ⟨w2.heap.size,4,none⟩=some x4:=by rw [cell_of_row _ _ _ _ _ _ B6.out]; rfl
 have hof:=of_yes (HGV.out.below HBN.out) hp hz
 have HR4:=Lib.hid ((HBN.out.block (w.heap.size+1) (by omega)).trans ((HB2.out.block (w.heap.size+1) (by omega)).trans HR.out))
 have HK4:=Lib.hid ((HK.out.trans (HB2.out.mono (by omega))).trans (HBN.out.mono (by omega)))
 clear HBN B6 B7 HGV HB2 HR HK
 go_wp2_with (first | (refine list_store_row rfl 74 _ _ rfl w2.heap.size rfl _ rfl _ 74 g6 rfl gram_size (by simp [o0,o1,o2,o3,o4]) ?_) | (refine list_store_row rfl 91 _ _ rfl (w2.heap.size+1) rfl _ rfl _ 91 g7 rfl diag_size (by simp [Value.oneCell']) ?_))
 refine hof.mono ?_
 rintro e w5 ⟨pv,rfl,hpv,hb5⟩
 obtain ⟨ta,tc,va,vc,ra,rc,la,lc,aa,ac,ca,cc,rfl,hpa⟩:=hpv
 have hs5:=hb5.size
 have R2:=Lib.hid ((hb5.block (w.heap.size+1) (by omega)).trans HR4.out)
 have K2:=Lib.hid (HK4.out.trans (hb5.mono (by omega)))
 have hA:Below w5.heap.size w5 (w5.alloc (.cells #[.slice ta p.terms.length tc,.slice va p.vars.length vc,.slice ra p.rules.length rc,.slice la p.levels.length lc,.slice aa p.assocs.length ac,.slice ca p.acts.length cc] 32)):=(Below.refl _ _).alloc (Nat.le_refl _) _
 have hg0:=(hA.block (w.heap.size+1) (by omega)).trans R2.out
 have HW:Hid (Below w.heap.size w ((w5.alloc (.cells #[.slice ta p.terms.length tc,.slice va p.vars.length vc,.slice ra p.rules.length rc,.slice la p.levels.length lc,.slice aa p.assocs.length ac,.slice ca p.acts.length cc] 32)).setRow (w.heap.size+1) #[.slice ta p.terms.length tc,.slice va p.vars.length vc,.slice ra p.rules.length rc,.slice la p.levels.length lc,.slice aa p.assocs.length ac,.slice ca p.acts.length cc])):=Lib.hid (by
  have h1:=K2.out.trans (hA.mono (by omega))
  exact ⟨h1.os,h1.tape,h1.output,by simp; have:=h1.size; simp at this; omega,fun k hk=>(setRow_other _ _ _ _ (by omega)).trans (h1.block k hk)⟩)
 have HV:=Lib.hid (PnA.res (cs:=#[.slice ta p.terms.length tc,.slice va p.vars.length vc,.slice ra p.rules.length rc,.slice la p.levels.length lc,.slice aa p.assocs.length ac,.slice ca p.acts.length cc]) hg0 (hpa.below hA))
 have HG0:=Lib.hid hg0
 clear hof hb5 hpa hA hg0
 go_wp2_with (refine list_store_row rfl 32 _ _ rfl (w.heap.size+1) rfl _ rfl _ 32 HG0.out rfl plan_size (by simp [Value.oneCell']) ?_)
 exact bodyPost_ret (results_cell_row rfl _ _ (w.heap.size+1) 32 #[.slice ta p.terms.length tc,.slice va p.vars.length vc,.slice ra p.rules.length rc,.slice la p.levels.length lc,.slice aa p.assocs.length ac,.slice ca p.acts.length cc] (0,0) _ (by rfl) (setRow_heap _ _ _ _ _ _ HG0.out) Tryd.underlying32 rfl plan_size) rfl ⟨_,rfl,⟨_,_,_,_,_,_,_,_,_,_,_,_,rfl,HV.out⟩,HW.out⟩
set_option maxRecDepth 100000 in
set_option maxHeartbeats 8000000 in
theorem of09_small {w:World} {v:Value} {m:Pl.Sm} {s:ByteArray} (h:SmV w v m) (hzm:SmSz m) (hfm:Pl.few m 20 8=true) (hs:s.size≤4000) (HC:∀ i,i < s.size→Lx.at_ s i=91→ClassOK s i) (hno:(Rd.read s).2.code=0→∀ p st,Pl.of (Rd.read s).1≠(p,0,st)) :
  Calls Tryd.prog 30 #[v,.string s] w fun e w'=>∃ v',e=.returned v'∧PnV w' v' (Pl.plan m)∧Below w.heap.size w w':=by
 obtain ⟨sla,sra,spa,saa,sva,slc,src,spc,sac,svc,rfl,h⟩:=h
 obtain ⟨p,hp⟩:∃ p,p=Pl.plan m:=⟨_,rfl⟩
 have HPM:=Lib.hid hp
 rw [← hp]
 clear hp
 unfold smC
 have k1:=(Below.refl w.heap.size w).alloc (Nat.le_refl _) (.cells #[.int .u8 (m.tokens:Nat),.int .u8 (m.vars:Nat),.slice sla m.lefts.length slc,.slice sra m.rights.length src,.slice spa m.precs.length spc,.slice saa m.assocs.length sac,.slice sva m.levels.length svc] 25)
 have k2:=k1.alloc (by simp) (.cells #[.slice none 0 0,.slice none 0 0,.slice none 0 0,.slice none 0 0,.slice none 0 0,.slice none 0 0] 32)
 have hr:=heap_alloc_new (w.alloc (.cells #[.int .u8 (m.tokens:Nat),.int .u8 (m.vars:Nat),.slice sla m.lefts.length slc,.slice sra m.rights.length src,.slice spa m.precs.length spc,.slice saa m.assocs.length sac,.slice sva m.levels.length svc] 25)) (.cells #[.slice none 0 0,.slice none 0 0,.slice none 0 0,.slice none 0 0,.slice none 0 0,.slice none 0 0] 32)
 rw [World.size_alloc] at hr
 have HR:=Lib.hid hr
 have HK:=Lib.hid k2
 have hsz:((w.alloc (.cells #[.int .u8 (m.tokens:Nat),.int .u8 (m.vars:Nat),.slice sla m.lefts.length slc,.slice sra m.rights.length src,.slice spa m.precs.length spc,.slice saa m.assocs.length sac,.slice sva m.levels.length svc] 25)).alloc (.cells #[.slice none 0 0,.slice none 0 0,.slice none 0 0,.slice none 0 0,.slice none 0 0,.slice none 0 0] 32)).heap.size=w.heap.size+2:=by simp
 have hrd:=read_any s ((w.alloc (.cells #[.int .u8 (m.tokens:Nat),.int .u8 (m.vars:Nat),.slice sla m.lefts.length slc,.slice sra m.rights.length src,.slice spa m.precs.length spc,.slice saa m.assocs.length sac,.slice sva m.levels.length svc] 25)).alloc (.cells #[.slice none 0 0,.slice none 0 0,.slice none 0 0,.slice none 0 0,.slice none 0 0,.slice none 0 0] 32)) hs HC
 obtain ⟨D,hD⟩:∃ D,D=(Rd.read s).2:=⟨_,rfl⟩
 rw [← hD] at hrd hno
 obtain ⟨g,hg⟩:∃ g,g=(Rd.read s).1:=⟨_,rfl⟩
 rw [← hg] at hrd hno
 have HGG:=Lib.hid hg
 have HSB:=Lib.hid ((SB.new (lc:=slc) (rc:=src) (pc:=spc) (ac:=sac) (vc:=svc) h).below ((Below.refl _ _).alloc (Nat.le_refl _) (.cells #[.slice none 0 0,.slice none 0 0,.slice none 0 0,.slice none 0 0,.slice none 0 0,.slice none 0 0] 32)))
 unfold smC at HSB
 have HNO:=Lib.hid hno
 clear h k1 k2 hr HC hD hg hno
 obtain ⟨dc,dl,dk⟩:=D
 go_enter Tryd.func30,Tryd.ntmps30
 go_wp2_with fail
 generalize (w.alloc (.cells #[.int .u8 (m.tokens:Nat),.int .u8 (m.vars:Nat),.slice sla m.lefts.length slc,.slice sra m.rights.length src,.slice spa m.precs.length spc,.slice saa m.assocs.length sac,.slice sva m.levels.length svc] 25)).alloc (.cells #[.slice none 0 0,.slice none 0 0,.slice none 0 0,.slice none 0 0,.slice none 0 0,.slice none 0 0] 32)=W at HR HK hrd hsz HSB ⊢
 refine hrd.mono ?_
 rintro e w2 ⟨gv,rfl,hG,hO,hb2⟩
 have hz:GrSz g:=by rw [HGG.out]; exact read_sz s hs (by rw [← HGG.out]; exact hO)
 have hGV:=hG.grV
 obtain ⟨x0,x1,x2,x3,x4,rfl,o0,o1,o2,o3,o4⟩:=hG.shape
 simp only [vDiag]
 have hsz2:=hb2.size
 have hbP:=((Below.refl w2.heap.size w2).alloc (Nat.le_refl _) (.cells #[.slice none 0 0,.slice none 0 0,.slice none 0 0,.string ⟨#[]⟩,.slice none 0 0] 74)).alloc (by simp) (.cells #[.int .i64 0,.int .i64 0,.int .i64 0] 91)
 have g6:((w2.alloc (.cells #[.slice none 0 0,.slice none 0 0,.slice none 0 0,.string ⟨#[]⟩,.slice none 0 0] 74)).alloc (.cells #[.int .i64 0,.int .i64 0,.int .i64 0] 91)).heap[w2.heap.size]?=some (.cells #[.slice none 0 0,.slice none 0 0,.slice none 0 0,.string ⟨#[]⟩,.slice none 0 0] 74 (0,0)):=(Below.heap_alloc _ _ _ (by simp)).trans (heap_alloc_new w2 _)
 have g7:(((w2.alloc (.cells #[.slice none 0 0,.slice none 0 0,.slice none 0 0,.string ⟨#[]⟩,.slice none 0 0] 74)).alloc (.cells #[.int .i64 0,.int .i64 0,.int .i64 0] 91)).setRow w2.heap.size #[x0,x1,x2,x3,x4]).heap[w2.heap.size+1]?=some (.cells #[.int .i64 0,.int .i64 0,.int .i64 0] 91 (0,0)):=(setRow_other _ _ _ _ (by omega)).trans (by
  have h:=heap_alloc_new (w2.alloc (.cells #[.slice none 0 0,.slice none 0 0,.slice none 0 0,.string ⟨#[]⟩,.slice none 0 0] 74)) (.cells #[.int .i64 0,.int .i64 0,.int .i64 0] 91)
  have e:(w2.alloc (.cells #[.slice none 0 0,.slice none 0 0,.slice none 0 0,.string ⟨#[]⟩,.slice none 0 0] 74)).heap.size=w2.heap.size+1:=by simp
  rw [e] at h
  exact h)
 have HBN:=Lib.hid (low_rows (x:=#[x0,x1,x2,x3,x4]) (y:=#[.int .i64 dc,.int .i64 (dl:Nat),.int .i64 (dk:Nat)]) hbP (Nat.le_refl _) (Nat.le_succ _))
 have B7:=Lib.hid (setRow_heap _ _ _ #[.int .i64 dc,.int .i64 (dl:Nat),.int .i64 (dk:Nat)] _ _ g7)
 have B6:=Lib.hid ((setRow_other _ (w2.heap.size+1) w2.heap.size #[.int .i64 dc,.int .i64 (dl:Nat),.int .i64 (dk:Nat)] (by omega)).trans (setRow_heap _ _ _ #[x0,x1,x2,x3,x4] _ _ g6))
 have HGV:=Lib.hid hGV
 clear HGG
 have HB2:=Lib.hid hb2
 have hz4:=HBN.out.size
 clear hG hO hbP hrd hb2 hGV
 have p0:((((w2.alloc (.cells #[.slice none 0 0,.slice none 0 0,.slice none 0 0,.string ⟨#[]⟩,.slice none 0 0] 74)).alloc (.cells #[.int .i64 0,.int .i64 0,.int .i64 0] 91)).setRow w2.heap.size #[x0,x1,x2,x3,x4]).setRow (w2.heap.size+1) #[.int .i64 dc,.int .i64 (dl:Nat),.int .i64 (dk:Nat)]).cell? ⟨w2.heap.size+1,0,none⟩=some (.int .i64 dc):=by rw [cell_of_row _ _ _ _ _ _ B7.out]; rfl
 have q0:((((w2.alloc (.cells #[.slice none 0 0,.slice none 0 0,.slice none 0 0,.string ⟨#[]⟩,.slice none 0 0] 74)).alloc (.cells #[.int .i64 0,.int .i64 0,.int .i64 0] 91)).setRow w2.heap.size #[x0,x1,x2,x3,x4]).setRow (w2.heap.size+1) #[.int .i64 dc,.int .i64 (dl:Nat),.int .i64 (dk:Nat)]).cell? ⟨w2.heap.size,0,none⟩=some x0:=by rw [cell_of_row _ _ _ _ _ _ B6.out]; rfl
 have q1:((((w2.alloc (.cells #[.slice none 0 0,.slice none 0 0,.slice none 0 0,.string ⟨#[]⟩,.slice none 0 0] 74)).alloc (.cells #[.int .i64 0,.int .i64 0,.int .i64 0] 91)).setRow w2.heap.size #[x0,x1,x2,x3,x4]).setRow (w2.heap.size+1) #[.int .i64 dc,.int .i64 (dl:Nat),.int .i64 (dk:Nat)]).cell? ⟨w2.heap.size,1,none⟩=some x1:=by rw [cell_of_row _ _ _ _ _ _ B6.out]; rfl
 have q2:((((w2.alloc (.cells #[.slice none 0 0,.slice none 0 0,.slice none 0 0,.string ⟨#[]⟩,.slice none 0 0] 74)).alloc (.cells #[.int .i64 0,.int .i64 0,.int .i64 0] 91)).setRow w2.heap.size #[x0,x1,x2,x3,x4]).setRow (w2.heap.size+1) #[.int .i64 dc,.int .i64 (dl:Nat),.int .i64 (dk:Nat)]).cell? ⟨w2.heap.size,2,none⟩=some x2:=by rw [cell_of_row _ _ _ _ _ _ B6.out]; rfl
 have q3:((((w2.alloc (.cells #[.slice none 0 0,.slice none 0 0,.slice none 0 0,.string ⟨#[]⟩,.slice none 0 0] 74)).alloc (.cells #[.int .i64 0,.int .i64 0,.int .i64 0] 91)).setRow w2.heap.size #[x0,x1,x2,x3,x4]).setRow (w2.heap.size+1) #[.int .i64 dc,.int .i64 (dl:Nat),.int .i64 (dk:Nat)]).cell? ⟨w2.heap.size,3,none⟩=some x3:=by rw [cell_of_row _ _ _ _ _ _ B6.out]; rfl
 have q4:((((w2.alloc (.cells #[.slice none 0 0,.slice none 0 0,.slice none 0 0,.string ⟨#[]⟩,.slice none 0 0] 74)).alloc (.cells #[.int .i64 0,.int .i64 0,.int .i64 0] 91)).setRow w2.heap.size #[x0,x1,x2,x3,x4]).setRow (w2.heap.size+1) #[.int .i64 dc,.int .i64 (dl:Nat),.int .i64 (dk:Nat)]).cell? ⟨w2.heap.size,4,none⟩=some x4:=by rw [cell_of_row _ _ _ _ _ _ B6.out]; rfl
 have HR4:=Lib.hid ((HBN.out.block (w.heap.size+1) (by omega)).trans ((HB2.out.block (w.heap.size+1) (by omega)).trans HR.out))
 have HK4:=Lib.hid ((HK.out.trans (HB2.out.mono (by omega))).trans (HBN.out.mono (by omega)))
 have HS4:=Lib.hid ((HSB.out.below HB2.out).below HBN.out)
 by_cases hdc:dc=0
 ·have hno2:=HNO.out hdc
  subst hdc
  have hof:=of_no (HGV.out.below HBN.out) hno2 hz
  clear HBN B6 B7 HGV HB2 HR HK HSB HNO hno2
  go_wp2_with (first | (refine list_store_row rfl 74 _ _ rfl w2.heap.size rfl _ rfl _ 74 g6 rfl gram_size (by simp [o0,o1,o2,o3,o4]) ?_) | (refine list_store_row rfl 91 _ _ rfl (w2.heap.size+1) rfl _ rfl _ 91 g7 rfl diag_size (by simp [Value.oneCell']) ?_))
  refine hof.mono ?_
  rintro e w4 ⟨c,st,rfl,hc0,hb4⟩
  have hs4:=hb4.size
  have hA:Below w4.heap.size w4 (w4.alloc (.cells #[.slice none 0 0,.slice none 0 0,.slice none 0 0,.slice none 0 0,.slice none 0 0,.slice none 0 0] 32)):=(Below.refl _ _).alloc (Nat.le_refl _) _
  have hg8:(w4.alloc (.cells #[.slice none 0 0,.slice none 0 0,.slice none 0 0,.slice none 0 0,.slice none 0 0,.slice none 0 0] 32)).heap[w4.heap.size]?=some (.cells #[.slice none 0 0,.slice none 0 0,.slice none 0 0,.slice none 0 0,.slice none 0 0,.slice none 0 0] 32 (0,0)):=heap_alloc_new w4 _
  have HB8:=Lib.hid (show Below w4.heap.size w4 ((w4.alloc (.cells #[.slice none 0 0,.slice none 0 0,.slice none 0 0,.slice none 0 0,.slice none 0 0,.slice none 0 0] 32)).setRow w4.heap.size #[.slice none 0 0,.slice none 0 0,.slice none 0 0,.slice none 0 0,.slice none 0 0,.slice none 0 0]) from ⟨hA.os,hA.tape,hA.output,by simp,fun k hk=>(setRow_other _ _ _ _ (by omega)).trans (hA.block k hk)⟩)
  have HR5:=Lib.hid ((HB8.out.block (w.heap.size+1) (by omega)).trans ((hb4.block (w.heap.size+1) (by omega)).trans HR4.out))
  have HK5:=Lib.hid ((HK4.out.trans (hb4.mono (by omega))).trans (HB8.out.mono (by omega)))
  have HS5:=Lib.hid ((HS4.out.below hb4).below HB8.out)
  have hs8:=HB8.out.size
  have ec:(c == 0)=false:=by simpa using hc0
  have HPN:=plan_any (w:=((w4.alloc (.cells #[.slice none 0 0,.slice none 0 0,.slice none 0 0,.slice none 0 0,.slice none 0 0,.slice none 0 0] 32)).setRow w4.heap.size #[.slice none 0 0,.slice none 0 0,.slice none 0 0,.slice none 0 0,.slice none 0 0,.slice none 0 0])) (v:=.agg #[.int .u8 (m.tokens:Nat),.int .u8 (m.vars:Nat),.slice sla m.lefts.length slc,.slice sra m.rights.length src,.slice spa m.precs.length spc,.slice saa m.assocs.length sac,.slice sva m.levels.length svc]) ⟨sla,sra,spa,saa,sva,slc,src,spc,sac,svc,rfl,HS5.out.a⟩ hzm hfm
  rw [← HPM.out] at HPN
  have c0:=HS5.out.c0
  have c1:=HS5.out.c1
  have c2:=HS5.out.c2
  have c3:=HS5.out.c3
  have c4:=HS5.out.c4
  have c5:=HS5.out.c5
  have c6:=HS5.out.c6
  clear hof hb4 HR4 HK4 HS4 HB8 hA hc0 p0 q0 q1 q2 q3 q4
  go_wp2_with (refine list_store_row rfl 32 _ _ rfl w4.heap.size rfl _ rfl _ 32 hg8 rfl plan_size (by simp [Value.oneCell']) ?_)
  refine HPN.mono ?_
  rintro e w5 ⟨pv,rfl,hpv,hb5⟩
  obtain ⟨ta,tc,va,vc,ra,rc,la,lc,aa,ac,ca,cc,rfl,hpa⟩:=hpv
  have hs5:=hb5.size
  have hg0:=(hb5.block (w.heap.size+1) (by omega)).trans HR5.out
  have K2:=Lib.hid (HK5.out.trans (hb5.mono (by omega)))
  have HW:Hid (Below w.heap.size w (w5.setRow (w.heap.size+1) #[.slice ta p.terms.length tc,.slice va p.vars.length vc,.slice ra p.rules.length rc,.slice la p.levels.length lc,.slice aa p.assocs.length ac,.slice ca p.acts.length cc])):=Lib.hid (by
   have h1:=K2.out
   exact ⟨h1.os,h1.tape,h1.output,by simp; have:=h1.size; omega,fun k hk=>(setRow_other _ _ _ _ (by omega)).trans (h1.block k hk)⟩)
  have HV:=Lib.hid (PnA.res (cs:=#[.slice ta p.terms.length tc,.slice va p.vars.length vc,.slice ra p.rules.length rc,.slice la p.levels.length lc,.slice aa p.assocs.length ac,.slice ca p.acts.length cc]) hg0 hpa)
  have HG0:=Lib.hid hg0
  clear HPN hb5 hpa hg0 c0 c1 c2 c3 c4 c5 c6
  go_wp2_with (refine list_store_row rfl 32 _ _ rfl (w.heap.size+1) rfl _ rfl _ 32 HG0.out rfl plan_size (by simp [Value.oneCell']) ?_)
  exact bodyPost_ret (results_cell_row rfl _ _ (w.heap.size+1) 32 #[.slice ta p.terms.length tc,.slice va p.vars.length vc,.slice ra p.rules.length rc,.slice la p.levels.length lc,.slice aa p.assocs.length ac,.slice ca p.acts.length cc] (0,0) _ (by rfl) (setRow_heap _ _ _ _ _ _ HG0.out) Tryd.underlying32 rfl plan_size) rfl ⟨_,rfl,⟨_,_,_,_,_,_,_,_,_,_,_,_,rfl,HV.out⟩,HW.out⟩
 ·have ec:(dc == 0)=false:=by simpa using hdc
  have HR5:=HR4
  have HK5:=HK4
  have hs9:=HK4.out.size
  have hs8:=(Array.getElem?_eq_some_iff.1 HR4.out).1
  have HPN:=plan_any (w:=((((w2.alloc (.cells #[.slice none 0 0,.slice none 0 0,.slice none 0 0,.string ⟨#[]⟩,.slice none 0 0] 74)).alloc (.cells #[.int .i64 0,.int .i64 0,.int .i64 0] 91)).setRow w2.heap.size #[x0,x1,x2,x3,x4]).setRow (w2.heap.size+1) #[.int .i64 dc,.int .i64 (dl:Nat),.int .i64 (dk:Nat)])) (v:=.agg #[.int .u8 (m.tokens:Nat),.int .u8 (m.vars:Nat),.slice sla m.lefts.length slc,.slice sra m.rights.length src,.slice spa m.precs.length spc,.slice saa m.assocs.length sac,.slice sva m.levels.length svc]) ⟨sla,sra,spa,saa,sva,slc,src,spc,sac,svc,rfl,HS4.out.a⟩ hzm hfm
  rw [← HPM.out] at HPN
  have c0:=HS4.out.c0
  have c1:=HS4.out.c1
  have c2:=HS4.out.c2
  have c3:=HS4.out.c3
  have c4:=HS4.out.c4
  have c5:=HS4.out.c5
  have c6:=HS4.out.c6
  clear HBN B6 B7 HGV HB2 HR HK HSB HNO hdc HR4 HK4 HS4 q0 q1 q2 q3 q4
  go_wp2_with (first | (refine list_store_row rfl 74 _ _ rfl w2.heap.size rfl _ rfl _ 74 g6 rfl gram_size (by simp [o0,o1,o2,o3,o4]) ?_) | (refine list_store_row rfl 91 _ _ rfl (w2.heap.size+1) rfl _ rfl _ 91 g7 rfl diag_size (by simp [Value.oneCell']) ?_))
  refine HPN.mono ?_
  rintro e w5 ⟨pv,rfl,hpv,hb5⟩
  obtain ⟨ta,tc,va,vc,ra,rc,la,lc,aa,ac,ca,cc,rfl,hpa⟩:=hpv
  have hs5:=hb5.size
  have hg0:=(hb5.block (w.heap.size+1) (by omega)).trans HR5.out
  have K2:=Lib.hid (HK5.out.trans (hb5.mono (by omega)))
  have HW:Hid (Below w.heap.size w (w5.setRow (w.heap.size+1) #[.slice ta p.terms.length tc,.slice va p.vars.length vc,.slice ra p.rules.length rc,.slice la p.levels.length lc,.slice aa p.assocs.length ac,.slice ca p.acts.length cc])):=Lib.hid (by
   have h1:=K2.out
   exact ⟨h1.os,h1.tape,h1.output,by simp; have:=h1.size; omega,fun k hk=>(setRow_other _ _ _ _ (by omega)).trans (h1.block k hk)⟩)
  have HV:=Lib.hid (PnA.res (cs:=#[.slice ta p.terms.length tc,.slice va p.vars.length vc,.slice ra p.rules.length rc,.slice la p.levels.length lc,.slice aa p.assocs.length ac,.slice ca p.acts.length cc]) hg0 hpa)
  have HG0:=Lib.hid hg0
  clear HPN hb5 hpa hg0 c0 c1 c2 c3 c4 c5 c6
  go_wp2_with (refine list_store_row rfl 32 _ _ rfl (w.heap.size+1) rfl _ rfl _ 32 HG0.out rfl plan_size (by simp [Value.oneCell']) ?_)
  exact bodyPost_ret (results_cell_row rfl _ _ (w.heap.size+1) 32 #[.slice ta p.terms.length tc,.slice va p.vars.length vc,.slice ra p.rules.length rc,.slice la p.levels.length lc,.slice aa p.assocs.length ac,.slice ca p.acts.length cc] (0,0) _ (by rfl) (setRow_heap _ _ _ _ _ _ HG0.out) Tryd.underlying32 rfl plan_size) rfl ⟨_,rfl,⟨_,_,_,_,_,_,_,_,_,_,_,_,rfl,HV.out⟩,HW.out⟩
theorem of09_any {w:World} {v:Value} {m:Pl.Sm} {s:ByteArray} (h:SmV w v m) (hzm:SmSz m) (hfm:Pl.few m 20 8=true) (hs:s.size≤4000) :
  Calls Tryd.prog 30 #[v,.string s] w fun e w'=>∃ v',e=.returned v'∧PnV w' v' (planT m s)∧Below w.heap.size w w':=by
 have hC:=classOK s hs
 unfold planT
 by_cases hc:(Rd.read s).2.code=0∧(Pl.of (Rd.read s).1).2.1=0
 ·rw [if_pos hc]
  exact of09_plan h hs hC hc.1 (show Pl.of (Rd.read s).1=((Pl.of (Rd.read s).1).1,0,(Pl.of (Rd.read s).1).2.2) by rw [← hc.2])
 ·rw [if_neg hc]
  exact of09_small h hzm hfm hs hC (fun h0 p st e=>hc ⟨h0,by rw [e]⟩)
end Go.Proofs.YtjbggogbnckllaaDoor
