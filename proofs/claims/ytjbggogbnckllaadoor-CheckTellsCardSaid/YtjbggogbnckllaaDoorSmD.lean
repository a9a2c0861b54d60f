/-
  The walk of a small grammar's plan.
-/
import Derived.Test.YtjbggogbnckllaaDoorSmC
import Derived.Test.YtjbggogbnckllaaDoorAk
import Derived.Test.YtjbggogbnckllaaDoorPlH
namespace Go.Proofs.YtjbggogbnckllaaDoor
open Go.RowKit
set_option linter.unusedVariables false
set_option linter.unusedSimpArgs false
theorem grammar_sz (s:Pl.Sm):GrSz (Pl.grammar s):=by
 have ht:=Pl.nTok_le s
 refine ⟨?_,?_,?_⟩
 ·intro x hx
  obtain ⟨i,_,rfl⟩:=List.mem_map.1 hx
  exact Nat.zero_le _
 ·intro x hx; cases hx
 ·intro x hx
  obtain ⟨i,hi,rfl⟩:=List.getElem_of_mem hx
  have:=smLevs_names s (Pl.nTok s) i hi
  show ((Pl.smLevs s (Pl.nTok s))[i]).names.length≤5002
  omega
theorem blk_ne {w:World} {r b o:Nat} {v:Value} (hr:w.heap[r]?=some (.cells #[.slice none 0 0,.slice none 0 0,.slice none 0 0,.slice none 0 0,.slice none 0 0,.slice none 0 0] 32 (0,0)))
  (h:w.cell? ⟨b,o,none⟩=some v) (hv:v≠.slice none 0 0):b≠r:=by
 rintro rfl
 rw [cell_of_row _ _ _ _ _ _ hr] at h
 have:o=0∨o=1∨o=2∨o=3∨o=4∨o=5∨6≤o:=by omega
 rcases this with rfl | rfl | rfl | rfl | rfl | rfl | ho
 all_goals first | (exact hv (Option.some.inj h).symm) | (rw [Array.getElem?_eq_none (by simpa using ho)] at h; cases h)
theorem cell_setRow_ne {w:World} {r b o:Nat} {cs:Array Value} (h:b≠r):(w.setRow r cs).cell? ⟨b,o,none⟩=w.cell? ⟨b,o,none⟩:=by
 simp [World.cell?,setRow_other _ _ _ _ h]
section
variable {w:World} {r:Nat} {cs:Array Value} (hr:w.heap[r]?=some (.cells #[.slice none 0 0,.slice none 0 0,.slice none 0 0,.slice none 0 0,.slice none 0 0,.slice none 0 0] 32 (0,0)))
include hr
theorem Strs.res {a:Option Addr} {l:List ByteArray} (h:Strs w a l):Strs (w.setRow r cs) a l:=by
 intro i hi
 obtain ⟨b,off,e,hc⟩:=h i hi
 exact ⟨b,off,e,(cell_setRow_ne (blk_ne hr hc (by simp))).trans hc⟩
theorem Ints.res {a:Option Addr} {l:List Int} (h:Ints w a l):Ints (w.setRow r cs) a l:=by
 intro i hi
 obtain ⟨b,off,e,hc⟩:=h i hi
 exact ⟨b,off,e,(cell_setRow_ne (blk_ne hr hc (by simp))).trans hc⟩
theorem RuV.res {a:Option Addr} {l:List Pl.Prod} (h:RuV w a l):RuV (w.setRow r cs) a l:=by
 intro i hi
 obtain ⟨b,off,na,nc,e,h0,h1,h2,h3⟩:=h i hi
 have hb:=blk_ne hr h0 (by simp)
 exact ⟨b,off,na,nc,e,(cell_setRow_ne hb).trans h0,(cell_setRow_ne hb).trans h1,(cell_setRow_ne hb).trans h2,Ints.res hr h3⟩
theorem PnA.res {p:Pl.Plan} {ta va ra la aa ca:Option Addr} (h:PnA w p ta va ra la aa ca):PnA (w.setRow r cs) p ta va ra la aa ca :=
 ⟨Strs.res hr h.t,Strs.res hr h.v,RuV.res hr h.r,Ints.res hr h.l,Ints.res hr h.a,Strs.res hr h.c,fun i hi b off na nc e hc=>by
  obtain ⟨b',off',_,_,e',h0,_⟩:=h.r i hi
  rw [e] at e'
  cases e'
  exact h.k i hi b off na nc e ((cell_setRow_ne (blk_ne hr h0 (by simp))).symm.trans hc)⟩
end
set_option maxRecDepth 100000 in
set_option maxHeartbeats 8000000 in
theorem plan_any {w:World} {v:Value} {s:Pl.Sm} (h:SmV w v s) (hz:SmSz s) (hf:Pl.few s 20 8=true) :
  Calls Tryd.prog 16 #[v] w fun e w'=>∃ v',e=.returned v'∧PnV w' v' (Pl.plan s)∧Below w.heap.size w w':=by
 obtain ⟨la,ra,pa,aa,va,lc,rc,pc,ac,vc,rfl,h⟩:=h
 have HS:=SB.new (lc:=lc) (rc:=rc) (pc:=pc) (ac:=ac) (vc:=vc) h
 unfold smC at HS ⊢
 have k1:=(Below.refl w.heap.size w).alloc (Nat.le_refl _) (.cells #[.int .u8 (s.tokens:Nat),.int .u8 (s.vars:Nat),.slice la s.lefts.length lc,.slice ra s.rights.length rc,.slice pa s.precs.length pc,.slice aa s.assocs.length ac,.slice va s.levels.length vc] 25)
 have HS2:=HS.below ((Below.refl _ _).alloc (Nat.le_refl _) (.cells #[.slice none 0 0,.slice none 0 0,.slice none 0 0,.slice none 0 0,.slice none 0 0,.slice none 0 0] 32))
 have k2:=k1.alloc (by simp) (.cells #[.slice none 0 0,.slice none 0 0,.slice none 0 0,.slice none 0 0,.slice none 0 0,.slice none 0 0] 32)
 have hr:=heap_alloc_new (w.alloc (.cells #[.int .u8 (s.tokens:Nat),.int .u8 (s.vars:Nat),.slice la s.lefts.length lc,.slice ra s.rights.length rc,.slice pa s.precs.length pc,.slice aa s.assocs.length ac,.slice va s.levels.length vc] 25)) (.cells #[.slice none 0 0,.slice none 0 0,.slice none 0 0,.slice none 0 0,.slice none 0 0,.slice none 0 0] 32)
 rw [World.size_alloc] at hr
 have hg:=grammar_any (w:=((w.alloc (.cells #[.int .u8 (s.tokens:Nat),.int .u8 (s.vars:Nat),.slice la s.lefts.length lc,.slice ra s.rights.length rc,.slice pa s.precs.length pc,.slice aa s.assocs.length ac,.slice va s.levels.length vc] 25)).alloc (.cells #[.slice none 0 0,.slice none 0 0,.slice none 0 0,.slice none 0 0,.slice none 0 0,.slice none 0 0] 32))) (v:=.agg #[.int .u8 (s.tokens:Nat),.int .u8 (s.vars:Nat),.slice la s.lefts.length lc,.slice ra s.rights.length rc,.slice pa s.precs.length pc,.slice aa s.assocs.length ac,.slice va s.levels.length vc]) ⟨la,ra,pa,aa,va,lc,rc,pc,ac,vc,rfl,HS2.a⟩ hz hf
 have c0:=HS2.c0
 have c1:=HS2.c1
 have c2:=HS2.c2
 have c3:=HS2.c3
 have c4:=HS2.c4
 have c5:=HS2.c5
 have c6:=HS2.c6
 have hp:=Pl.plan_of s hf
 have HP:=Lib.hid hp
 have HR:=Lib.hid hr
 have HK:=Lib.hid k2
 have hsz:((w.alloc (.cells #[.int .u8 (s.tokens:Nat),.int .u8 (s.vars:Nat),.slice la s.lefts.length lc,.slice ra s.rights.length rc,.slice pa s.precs.length pc,.slice aa s.assocs.length ac,.slice va s.levels.length vc] 25)).alloc (.cells #[.slice none 0 0,.slice none 0 0,.slice none 0 0,.slice none 0 0,.slice none 0 0,.slice none 0 0] 32)).heap.size=w.heap.size+2:=by simp
 clear h hz hf HS k1 HS2 k2 hr hp
 go_enter Tryd.func16,Tryd.ntmps16
 go_wp2_with fail
 generalize (w.alloc (.cells #[.int .u8 (s.tokens:Nat),.int .u8 (s.vars:Nat),.slice la s.lefts.length lc,.slice ra s.rights.length rc,.slice pa s.precs.length pc,.slice aa s.assocs.length ac,.slice va s.levels.length vc] 25)).alloc (.cells #[.slice none 0 0,.slice none 0 0,.slice none 0 0,.slice none 0 0,.slice none 0 0,.slice none 0 0] 32)=W at HR HK hg c0 c1 c2 c3 c4 c5 c6 hsz ⊢
 refine hg.mono ?_
 rintro e w1 ⟨gv,rfl,hgv,hb1⟩
 have hof:=of_yes hgv HP.out (grammar_sz s)
 have R1:=Lib.hid ((hb1.block (w.heap.size+1) (by omega)).trans HR.out)
 have K1:=Lib.hid (HK.out.trans (hb1.mono HK.out.size))
 have hs1:=hb1.size
 clear hg c0 c1 c2 c3 c4 c5 c6 hgv hb1 HR HK
 go_wp2_with fail
 refine hof.mono ?_
 rintro e w2 ⟨pv,rfl,hpv,hb2⟩
 obtain ⟨ta,tc,va',vc',ra',rc',la',lc',aa',ac',ca,cc,rfl,hpa⟩:=hpv
 have hs2:=hb2.size
 have R2:=Lib.hid ((hb2.block (w.heap.size+1) (by omega)).trans R1.out)
 have K2:=Lib.hid (K1.out.trans (hb2.mono (by omega)))
 have hA:Below w2.heap.size w2 (w2.alloc (.cells #[.slice ta (Pl.plan s).terms.length tc,.slice va' (Pl.plan s).vars.length vc',.slice ra' (Pl.plan s).rules.length rc',.slice la' (Pl.plan s).levels.length lc',.slice aa' (Pl.plan s).assocs.length ac',.slice ca (Pl.plan s).acts.length cc] 32)):=(Below.refl _ _).alloc (Nat.le_refl _) _
 have hg0:=(hA.block (w.heap.size+1) (by omega)).trans R2.out
 have HW:Hid (Below w.heap.size w ((w2.alloc (.cells #[.slice ta (Pl.plan s).terms.length tc,.slice va' (Pl.plan s).vars.length vc',.slice ra' (Pl.plan s).rules.length rc',.slice la' (Pl.plan s).levels.length lc',.slice aa' (Pl.plan s).assocs.length ac',.slice ca (Pl.plan s).acts.length cc] 32)).setRow (w.heap.size+1) #[.slice ta (Pl.plan s).terms.length tc,.slice va' (Pl.plan s).vars.length vc',.slice ra' (Pl.plan s).rules.length rc',.slice la' (Pl.plan s).levels.length lc',.slice aa' (Pl.plan s).assocs.length ac',.slice ca (Pl.plan s).acts.length cc])):=Lib.hid (by
  have h1:=K2.out.trans (hA.mono (by omega))
  exact ⟨h1.os,h1.tape,h1.output,by simp; have:=h1.size; simp at this; omega,fun k hk=>(setRow_other _ _ _ _ (by omega)).trans (h1.block k hk)⟩)
 have HV:=Lib.hid (PnA.res (cs:=#[.slice ta (Pl.plan s).terms.length tc,.slice va' (Pl.plan s).vars.length vc',.slice ra' (Pl.plan s).rules.length rc',.slice la' (Pl.plan s).levels.length lc',.slice aa' (Pl.plan s).assocs.length ac',.slice ca (Pl.plan s).acts.length cc]) hg0 (hpa.below hA))
 have HG0:=Lib.hid hg0
 clear hof hb2 hpa hA hg0
 go_wp2_with (refine list_store_row rfl 32 _ _ rfl (w.heap.size+1) rfl _ rfl _ 32 HG0.out rfl plan_size (by simp [Value.oneCell']) ?_)
 exact bodyPost_ret (results_cell_row rfl _ _ (w.heap.size+1) 32 #[.slice ta (Pl.plan s).terms.length tc,.slice va' (Pl.plan s).vars.length vc',.slice ra' (Pl.plan s).rules.length rc',.slice la' (Pl.plan s).levels.length lc',.slice aa' (Pl.plan s).assocs.length ac',.slice ca (Pl.plan s).acts.length cc] (0,0) _ (by rfl) (setRow_heap _ _ _ _ _ _ HG0.out) Tryd.underlying32 rfl plan_size) rfl ⟨_,rfl,⟨_,_,_,_,_,_,_,_,_,_,_,_,rfl,HV.out⟩,HW.out⟩
end Go.Proofs.YtjbggogbnckllaaDoor
