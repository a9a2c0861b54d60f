/-
  Walks of chapter 10: as many empty sets as variables; sets as lists.
  Walks of chapter 10: the facts of a plan.
  Walks of chapter 10: what a sequence begins with, of facts; is each number of a list in another one.
  Walks of chapter 10's law: is each number of a list in another one; are the facts as many as they must be.
-/
import Derived.Test.YtjbggogbnckllaaDoorAv
import Derived.Test.YtjbggogbnckllaaDoorAu
import Derived.Test.YtjbggogbnckllaaDoorAc
import Derived.Laws.CopyOwn
section
set_option maxRecDepth 100000
namespace Go.Proofs.YtjbggogbnckllaaDoor
open Go.RowKit
set_option linter.unusedVariables false
set_option linter.unusedSimpArgs false
theorem elt_pset:Elt Tryd.prog 81 85 1 8 where
 ht:=Tryd.underlying81
 hi:=by
  have h:(Tryd.prog.info? 85).map (fun i=>(i.zero.map (fun z=>z.cells.size),i.size,i.bytes))=some (some 1,1,8):=by kernel_rfl
  cases hi:Tryd.prog.info? 85 with
  | none=>simp [hi] at h
  | some i =>
   simp [hi] at h
   obtain ⟨⟨z,hz,hz1⟩,h2,h3⟩:=h
   exact ⟨i,z,rfl,hz,h2,h3,hz1⟩
 hsz:=by decide
theorem elt_lst:Elt Tryd.prog 35 30 1 24 where
 ht:=Tryd.underlying35
 hi:=by
  have h:(Tryd.prog.info? 30).map (fun i=>(i.zero.map (fun z=>z.cells.size),i.size,i.bytes))=some (some 1,1,24):=by kernel_rfl
  cases hi:Tryd.prog.info? 30 with
  | none=>simp [hi] at h
  | some i =>
   simp [hi] at h
   obtain ⟨⟨z,hz,hz1⟩,h2,h3⟩:=h
   exact ⟨i,z,rfl,hz,h2,h3,hz1⟩
 hsz:=by decide
def ptrC (k:Nat) (pt:Nat→Nat):List Value:=(List.range k).map fun i=>.pointer (some ⟨pt i,0,none⟩)
theorem ptrC_snoc (k:Nat) (pt:Nat→Nat) (p:Nat):ptrC (k+1) (Q.up pt k p)=ptrC k pt++[.pointer (some ⟨p,0,none⟩)]:=by
 unfold ptrC
 rw [List.range_succ,List.map_append]
 congr 1
 ·refine List.map_congr_left fun i hi=>?_
  have:=List.mem_range.1 hi
  rw [Q.up_ne _ _ (by omega)]
 ·simp [Q.up_same]
/-- A row of one's own is no set's. -/
theorem Fam.grown {w w':World} {B n c base size m:Nat} {pt bk val:Nat→Nat} {e:TypeId} {v:Value} {xs:List Value} (h:Fam w B n c pt bk val) (ho:w.ownsRow base e size v m xs) (hg:w.grownBy w' v.ownBlock) (h1:e≠118) (h2:e≠121):Fam w' B n c pt bk val:=by
 have key:∀ (k:Nat) (cs:Array Value) (t:TypeId) (f:Nat×Nat),w.heap[k]?=some (Obj.cells cs t f)→t≠e→w'.heap[k]?=w.heap[k]?:=fun k cs t f hk ht=>by
  refine hg.block k (lt_of_block hk) (fun he=>?_)
  rcases ho.2 with ⟨rfl,_⟩ | ⟨g,cap,cur,rfl,_,hh,_⟩
  ·cases he
  ·have:k=g:=Option.some.inj he
   exact ne_of_types hk hh ht this
 exact h.kept (fun i hi=>by obtain ⟨_,e'⟩:=(h.set i hi).box; exact key _ _ _ _ e' (Ne.symm h2)) (fun i hi=>by obtain ⟨_,e',_⟩:=(h.set i hi).row; exact key _ _ _ _ e' (Ne.symm h1))
theorem prr_of {w:World} {base c cap g:Nat} {pt:Nat→Nat} (h:w.ownsRow base 85 1 (.slice (some ⟨g,0,none⟩) c cap) c (ptrC c pt)):Prr w g c pt∧base≤g:=by
 rcases h.2 with ⟨e,_⟩ | ⟨g',cap',cur,e,hb,hh,h1,h2,h3,h4⟩
 ·cases e
 ·cases e
  refine ⟨⟨cur,hh,fun i hi=>?_⟩,hb⟩
  have:=congrArg (fun l=>l[i]?) h4
  simp only [Nat.mul_one,List.getElem?_take,if_pos hi,ptrC,List.getElem?_map,List.getElem?_range hi,Option.map_some] at this
  rw [← Array.getElem?_toList]
  exact this
set_option maxRecDepth 100000 in
set_option maxHeartbeats 8000000 in
theorem empty_any {w:World} {v:Value} {p:Pl.Plan} (h:PnV w v p) (ho:Q.OK p) :
  Calls Tryd.prog 43 #[v] w fun e w'=>∃ fb cap pt bk,e=.returned (.slice (some ⟨fb,0,none⟩) (Fi.nV p) cap)∧Prr w' fb (Fi.nV p) pt∧Fam w' w.heap.size (Fi.nT p) (Fi.nV p) pt bk (fun _=>0)∧w.heap.size≤fb∧Below w.heap.size w w':=by
 obtain ⟨ta,tc,va,vc,ra,rc,la,lc,aa,ac,ca,cc,rfl,h⟩:=h
 have HP0:=PB.new (tc:=tc) (vc:=vc) (rc:=rc) (lc:=lc) (ac:=ac) (cc:=cc) h
 have k:=(Below.refl w.heap.size w).alloc (Nat.le_refl _) (.cells (pnC p ta va ra la aa ca tc vc rc lc ac cc) 32)
 have HB:=Lib.hid k
 unfold pnC at HP0 HB
 have HP:=Lib.hid HP0
 have hnb:=ho.nb
 have hmb:=ho.m
 have HN:Hid (Fi.nV p=p.vars.length+1∧Fi.nT p=p.terms.length∧Bs.wid (p.terms.length:Int)=p.terms.length):=Lib.hid ⟨rfl,rfl,by unfold Bs.wid; omega⟩
 have d0:=HP0.c0
 have d1:=HP0.c1
 clear HP0 h k ho
 go_enter Tryd.func43,Tryd.ntmps43
 go_wp2_with fail
 clear d0 d1
 generalize w.alloc (.cells #[.slice ta p.terms.length tc,.slice va p.vars.length vc,.slice ra p.rules.length rc,.slice la p.levels.length lc,.slice aa p.assocs.length ac,.slice ca p.acts.length cc] 32)=V at HP HB ⊢
 generalize hpb:w.heap.size=pb at HP ⊢
 have HPB:=Lib.hid hpb
 clear hpb
 go_loopg [3,8] (p.vars.length+1) (fun gk ov iv wr=>∃ (k:Nat) (pt bk:Nat→Nat),iv=.int .i64 k∧k≤p.vars.length+1∧Hid (gk+k=p.vars.length+1)∧Hid (wr.ownsRow V.heap.size 85 1 ov k (ptrC k pt))∧Hid (Fam wr V.heap.size p.terms.length k pt bk (fun _=>0))∧Hid (Below V.heap.size V wr))
 case atStart=>exact ⟨0,fun _=>0,fun _=>0,rfl,by omega,Lib.hid (by omega),Lib.hid (World.ownsRow_nil _ _ _ _),Lib.hid ⟨fun i hi=>absurd hi (Nat.not_lt_zero _),fun i hi=>absurd hi (Nat.not_lt_zero _),fun i j hi=>absurd hi (Nat.not_lt_zero _)⟩,Lib.hid (Below.refl _ _)⟩
 case round =>
  obtain ⟨k,pt,bk,rfl,hk,HG,HO,HF,HL⟩:=hrel
  by_cases hlt:k < p.vars.length+1
  ·have c0:=(HP.out.below HL.out).c0
   have hnew:=new_any (p.terms.length:Int) wr
   go_wp2_with fail
   refine hnew.mono ?_
   rintro e w2 ⟨q,b,rfl,hq,hb,hset,kb⟩
   rw [HN.out.2.2] at hset
   have HO2:=Lib.hid (owns_below HO.out kb)
   have HF2:=Lib.hid ((HF.out.below kb).snoc hset (by have:=HL.out.size; omega) (fun i hi=>by have:=(HF.out.set i hi).blt; omega))
   have HL2:=Lib.hid (HL.out.trans (kb.mono HL.out.size))
   have HO3:=Lib.hid (HO2.out.alloc (.cells #[.pointer (some ⟨q,0,none⟩)] 85))
   have HF3:=Lib.hid (HF2.out.below ((Below.refl w2.heap.size w2).alloc (Nat.le_refl _) (.cells #[.pointer (some ⟨q,0,none⟩)] 85)))
   have hsz:=HL2.out.size
   have HL3:=Lib.hid (HL2.out.alloc hsz (.cells #[.pointer (some ⟨q,0,none⟩)] 85))
   clear hnew hset kb hq hb c0 HO HF HL
   go_wp2_with (refine list_append_one rfl _ _ _ rfl 85 V.heap.size 1 8 elt_pset _ k (ptrC k pt) rfl HO3.out ⟨w2.heap.size,0,none⟩ 1 [.pointer (some ⟨q,0,none⟩)] rfl rfl (World.news_of_block (cs:=#[.pointer (some ⟨q,0,none⟩)]) (t:=85) (fr:=(0,0)) (heap_alloc_new w2 _)) (by simp [Value.oneCell']) (by unfold maxLen; omega) (by omega) (by simp; omega) ?_; intro bg bcap wg hog hgg hb1 hb2 hb3; have HL4:=Lib.hid (HL3.out.trans (below_own HO3.out (by simp; omega) hgg)); have HF4:=Lib.hid (HF3.out.grown HO3.out hgg (by decide) (by decide)); have HO4:=Lib.hid hog; clear hog hgg hb3)
   go_roundg (p.vars.length+1 - (k+1))
   case measure=>have:=HG.out; omega
   case rel=>exact ⟨k+1,Q.up pt k q,Q.up bk k b,by go_num,by omega,Lib.hid (by omega),Lib.hid (by rw [ptrC_snoc]; exact HO4.out),Lib.hid (HF4.out.ext (fun i hi=>by unfold Q.up; split<;>rfl)),HL4⟩
  ·obtain rfl:k=p.vars.length+1:=by omega
   clear hlt HG
   go_wp2_with fail
   go_ret
   obtain ⟨fb,cap,rfl,_⟩:=World.ownsRow.form HO.out (by omega)
   obtain ⟨hp1,hp2⟩:=prr_of HO.out
   have hv:=HB.out.size
   exact ⟨fb,cap,pt,bk,rfl,hp1,⟨HF.out.set,fun i hi=>Nat.le_trans hv (HF.out.low i hi),HF.out.dis⟩,Nat.le_trans hv hp2,HB.out.trans (HL.out.mono hv)⟩
/-- A row of lists. -/
def Lsts (w:World) (b c:Nat) (L:Nat→List Int):Prop:=∀ i,i < c→∃ na nc,w.cell? ⟨b,i,none⟩=some (.slice na (L i).length nc)∧Ints w na (L i)
theorem Lsts.below {w w':World} {b c:Nat} {L:Nat→List Int} (h:Lsts w b c L) (k:Below w.heap.size w w'):Lsts w' b c L:=fun i hi=>by
 obtain ⟨na,nc,h1,h2⟩:=h i hi
 exact ⟨na,nc,((bcell k).1 _ _ (World.block_lt_of_cell? w _ h1)).trans h1,h2.below k⟩
/-- The same, all of it above B. -/
def LstsB (B:Nat) (w:World) (b c:Nat) (L:Nat→List Int):Prop:=B≤b∧∀ i,i < c→∃ na nc,w.cell? ⟨b,i,none⟩=some (.slice na (L i).length nc)∧Ints w na (L i)∧∀ g o s,na=some ⟨g,o,s⟩→B≤g
theorem LstsB.below {B:Nat} {w w':World} {b c:Nat} {L:Nat→List Int} (h:LstsB B w b c L) (k:Below w.heap.size w w'):LstsB B w' b c L:=⟨h.1,fun i hi=>by
 obtain ⟨na,nc,h1,h2,h3⟩:=h.2 i hi
 exact ⟨na,nc,((bcell k).1 _ _ (World.block_lt_of_cell? w _ h1)).trans h1,h2.below k,h3⟩⟩
theorem Ints.keptB {w w':World} {na:Option Addr} {l:List Int} (h:Ints w na l) (k:∀ a o s,na=some ⟨a,o,s⟩→w'.heap[a]?=w.heap[a]?):Ints w' na l:=by
 intro i hi
 obtain ⟨b,off,rfl,hc⟩:=h i hi
 exact ⟨b,off,rfl,(World.cell?_of_block (w:=w) (a:=⟨b,off+i,none⟩) (k b off none rfl)).trans hc⟩
theorem LstsB.row {B:Nat} {w:World} {b c r:Nat} {L:Nat→List Int} (h:LstsB B w b c L) (hr:r < B) (cs:Array Value):Lsts (w.setRow r cs) b c L:=fun i hi=>by
 obtain ⟨na,nc,h1,h2,h3⟩:=h.2 i hi
 refine ⟨na,nc,?_,h2.keptB (fun a o s e=>setRow_other _ _ _ _ (by have:=h3 a o s e; omega))⟩
 exact (World.cell?_of_block (w:=w) (a:=⟨b,i,none⟩) (setRow_other _ _ _ _ (by have:=h.1; show b≠r; omega))).trans h1
/-- The lists' row as it grows. -/
structure LG (w:World) (base k:Nat) (v:Value) (cs:List Value) (L:Nat→List Int):Prop where
 own:w.ownsRow base 30 1 v k cs
 len:cs.length=k
 el:∀ i (h:i < cs.length),∃ na nc,cs[i]=.slice na (L i).length nc∧Ints w na (L i)∧∀ g o s,na=some ⟨g,o,s⟩→g < w.heap.size∧v.ownBlock≠some g∧base≤g
 bs:base≤w.heap.size
theorem LG.add {w w2 w3:World} {base k cap bg bcap:Nat} {v:Value} {cs:List Value} {L:Nat→List Int} {a:Option Addr} (h:LG w base k v cs L) (k1:Below w.heap.size w w2) (hI:Ints w2 a (L k)) (ha:∀ g o s,a=some ⟨g,o,s⟩→w.heap.size≤g∧g < w2.heap.size)
  (hg:(w2.alloc (.cells #[.slice a (L k).length cap] 30)).grownBy w3 v.ownBlock) (ho:w3.ownsRow base 30 1 (.slice (some ⟨bg,0,none⟩) (k+1) bcap) (k+1) (cs++[.slice a (L k).length cap])) (hb:v.ownBlock=some bg∨bg=(w2.alloc (.cells #[.slice a (L k).length cap] 30)).heap.size) :
  LG w3 base (k+1) (.slice (some ⟨bg,0,none⟩) (k+1) bcap) (cs++[.slice a (L k).length cap]) L:=by
 have hsz:=k1.size
 have hs3:=hg.size
 rw [World.size_alloc] at hs3
 have keep:∀ g,g < w2.heap.size→v.ownBlock≠some g→w3.heap[g]?=w2.heap[g]?:=fun g hl hne =>
  (hg.block g (by rw [World.size_alloc]; omega) (fun e=>hne e.symm)).trans (((Below.refl w2.heap.size w2).alloc (Nat.le_refl _) _).block _ hl)
 have hbs:=h.bs
 refine ⟨ho,by simp [h.len],fun i hi=>?_,by omega⟩
 by_cases e:i < cs.length
 ·obtain ⟨na,nc,e1,e2,e3⟩:=h.el i e
  rw [List.getElem_append_left e]
  refine ⟨na,nc,e1,(e2.below k1).keptB (fun g o s ea=>keep g (by have:=(e3 g o s ea).1; omega) (e3 g o s ea).2.1),fun g o s ea=>⟨by have:=(e3 g o s ea).1; omega,fun hc=>?_,(e3 g o s ea).2.2⟩⟩
  have hc':bg=g:=Option.some.inj hc
  have h3:=e3 g o s ea
  rcases hb with hb | hb
  ·exact h3.2.1 (hb.trans (by rw [hc']))
  ·rw [World.size_alloc] at hb; omega
 ·have hi2:i=cs.length:=by simp at hi; omega
  subst hi2
  have hk:=h.len
  subst hk
  refine ⟨a,cap,by simp,hI.keptB (fun g o s ea=>keep g (ha g o s ea).2 (fun hc=>?_)),fun g o s ea=>⟨by have:=(ha g o s ea).2; omega,fun hc=>?_,by have:=(ha g o s ea).1; omega⟩⟩
  ·have:=(owns_lt h.own g hc).2
   have:=(ha g o s ea).1
   omega
  ·have hc':bg=g:=Option.some.inj hc
   rcases hb with hb | hb
   ·have:=(owns_lt h.own bg hb).2
    have:=(ha g o s ea).1
    omega
   ·rw [World.size_alloc] at hb
    have:=(ha g o s ea).2
    omega
set_option maxRecDepth 100000 in
set_option maxHeartbeats 8000000 in
theorem lists_any {w:World} {fb c fc n:Nat} {pt bk val:Nat→Nat} (hc0:1≤c) (hcm:c≤1001) (hn:n≤1000) (hp:Prr w fb c pt) (hs:∀ i,i < c→SetAt w (pt i) (bk i) n (val i)) (hT:Tab w) :
  Calls Tryd.prog 47 #[.slice (some ⟨fb,0,none⟩) c fc] w fun e w'=>∃ lb cap,e=.returned (.slice (some ⟨lb,0,none⟩) c cap)∧LstsB w.heap.size w' lb c (fun i=>natI (Bs.lst n (val i)))∧Below w.heap.size w w':=by
 have HP:=Lib.hid hp
 have HS:=Lib.hid hs
 have HT:=Lib.hid hT
 clear hp hs hT
 go_enter Tryd.func47,Tryd.ntmps47
 go_wp2_with fail
 go_loopg [3,8] c (fun gk ov iv wr=>∃ (k:Nat) (cs:List Value),iv=.int .i64 k∧k≤c∧Hid (gk+k=c)∧Hid (LG wr w.heap.size k ov cs (fun i=>natI (Bs.lst n (val i))))∧Hid (Below w.heap.size w wr))
 case atStart=>exact ⟨0,[],rfl,by omega,Lib.hid (by omega),Lib.hid ⟨World.ownsRow_nil _ _ _ _,rfl,fun i hi=>by simp at hi,Nat.le_refl _⟩,Lib.hid (Below.refl _ _)⟩
 case round =>
  obtain ⟨k,cs,rfl,hk,HG,HO,HL⟩:=hrel
  by_cases hlt:k < c
  ·have q0:=(HP.out.below HL.out).cell hlt
   have hli:=list_any (pt k) (bk k) n (val k) wr ((HS.out k hlt).below HL.out) (HT.out.below HL.out)
   go_wp2_with fail
   refine hli.mono ?_
   rintro e w2 ⟨a,cap,rfl,ha,hI,kb⟩
   have HA:=Lib.hid (And.intro ha (And.intro hI kb))
   have hll:(natI (Bs.lst n (val k))).length≤1000:=by have:=Bs.lst_len n (val k); simp [natI]; omega
   have HO2:=Lib.hid (owns_below HO.out.own kb)
   have HL2:=Lib.hid (HL.out.trans (kb.mono HL.out.size))
   have HO3:=Lib.hid (HO2.out.alloc (.cells #[.slice a (natI (Bs.lst n (val k))).length cap] 30))
   have hsz:=HL2.out.size
   have HL3:=Lib.hid (HL2.out.alloc hsz (.cells #[.slice a (natI (Bs.lst n (val k))).length cap] 30))
   clear hli ha hI kb q0
   go_wp2_with (refine list_append_one rfl _ _ _ rfl 30 w.heap.size 1 24 elt_lst _ k cs rfl HO3.out ⟨w2.heap.size,0,none⟩ 1 [.slice a (natI (Bs.lst n (val k))).length cap] rfl rfl (World.news_of_block (cs:=#[.slice a (natI (Bs.lst n (val k))).length cap]) (t:=30) (fr:=(0,0)) (heap_alloc_new w2 _)) (by simp [Value.oneCell']) (by unfold maxLen; omega) (by omega) (by simp; omega) ?_; intro bg bcap wg hog hgg hb1 hb2 hb3; have HL4:=Lib.hid (HL3.out.trans (below_own HO3.out (by simp; omega) hgg)); have HO4:=Lib.hid (LG.add (L:=fun i=>natI (Bs.lst n (val i))) HO.out HA.out.2.2 HA.out.2.1 HA.out.1 hgg hog hb3); clear hog hgg hb3)
   go_roundg (c - (k+1))
   case measure=>have:=HG.out; omega
   case rel=>exact ⟨k+1,_,by go_num,by omega,Lib.hid (by omega),HO4,HL4⟩
  ·obtain rfl:k=c:=by omega
   clear hlt HG
   go_wp2_with fail
   go_ret
   obtain ⟨lb,cap,rfl,hb,_⟩:=World.ownsRow.form HO.out.own hc0
   refine ⟨lb,cap,rfl,⟨hb,fun i hi=>?_⟩,HL.out⟩
   obtain ⟨na,nc,e1,e2,e3⟩:=HO.out.el i (by rw [HO.out.len]; exact hi)
   refine ⟨na,nc,?_,e2,fun g o s ea=>(e3 g o s ea).2.2⟩
   have hcell:=HO.out.own.cells (g:=lb) rfl i _ (by rw [List.getElem?_eq_getElem (by rw [HO.out.len]; exact hi),e1])
   rw [addr_add] at hcell
   exact hcell
end Go.Proofs.YtjbggogbnckllaaDoor
end
section
set_option maxRecDepth 100000
namespace Go.Proofs.YtjbggogbnckllaaDoor
open Go.RowKit
set_option linter.unusedVariables false
set_option linter.unusedSimpArgs false
/-- Facts in memory. -/
def FaV (w:World) (v:Value) (p:Pl.Plan):Prop:=∃ nb lb lc mb mc,v=.agg #[.slice (some ⟨nb,0,none⟩) (Fi.nV p) (Fi.nV p),.slice (some ⟨lb,0,none⟩) (Fi.nV p) lc,.slice (some ⟨mb,0,none⟩) (Fi.nV p) mc,.int .i64 ((Fi.fs p).2:Nat)]∧Brr w nb (Fi.nV p) (Fi.fs p).1.null ∧
 Lsts w lb (Fi.nV p) (fun i=>natI (Bs.lst (Fi.nT p) ((Fi.fs p).1.fst i)))∧Lsts w mb (Fi.nV p) (fun i=>natI (Bs.lst (Fi.nT p) (Fi.fol p i)))
theorem FaV.below {w w':World} {v:Value} {p:Pl.Plan} (h:FaV w v p) (k:Below w.heap.size w w'):FaV w' v p:=by
 obtain ⟨nb,lb,lc,mb,mc,e,h1,h2,h3⟩:=h
 exact ⟨nb,lb,lc,mb,mc,e,h1.below k,h2.below k,h3.below k⟩
theorem facts_size:(Tryd.prog.info? 37).map (·.size)=some 4:=by kernel_rfl
namespace Fi
theorem mu_le (N X:Nat):Q.mu N X≤N:=by
 unfold Q.mu
 induction N with
 | zero=>exact Nat.le_refl _
 | succ n ih =>
  rw [Q.weight_succ]
  have:Q.wt (Q.bw X.testBit n)≤1:=by unfold Q.bw; split<;>simp [Q.wt]
  omega
theorem weight_bound:∀ (c m:Nat) (f:Nat→Int),(∀ i,i < c→Q.wt (f i)≤m)→Q.weight c f≤c*m
 | 0,m,f,_=>by simp [Q.weight]
 | c+1,m,f,h=>by
  have h1:=weight_bound c m f (fun i hi=>h i (by omega))
  have h2:=h c (by omega)
  rw [Q.weight_succ,Nat.succ_mul]
  omega
theorem run_cnt_le {α:Type} (step:α→α×Bool):∀ (f:Nat) (s:α),(Q.run step f s).2≤f
 | 0,s=>Nat.le_refl _
 | f+1,s=>by
  rw [Q.run]
  split
  ·have:=run_cnt_le step f (step s).1
   show (Q.run step f (step s).1).2+1≤f+1
   omega
  ·show 1≤f+1; omega
theorem rounds_le {p:Pl.Plan} (h:Q.OK p):(fs p).2≤2000000:=by
 have h1:(fs p).2≤fF p:=run_cnt_le _ _ _
 have h2:Q.weight (nV p) (fw (nT p) s0)≤nV p*(nT p+1):=weight_bound _ _ _ (fun i hi=>by
  unfold fw
  rw [wt_nat]
  have:=mu_le (nT p) (s0.fst i)
  split<;>omega)
 have h3:nV p*(nT p+1)≤1001*1001:=Nat.mul_le_mul (by have:=h.m; unfold nV; omega) (by have:=h.nb; unfold nT; omega)
 unfold fF at h1
 omega
end Fi
theorem Fam.part {w:World} {B n c:Nat} {pt bk val:Nat→Nat} (h:Fam w B n (2*c) pt bk val):(∀ i,i < c→SetAt w (pt i) (bk i) n (val i))∧∀ i,i < c→SetAt w (pt (c+i)) (bk (c+i)) n (val (c+i)) :=
 ⟨fun i hi=>h.set i (by omega),fun i hi=>h.set (c+i) (by omega)⟩
theorem listE_make {w:World} {D:World→Prop} {ops:Array Oper} {rest:List Oper} {o:Oper} {a:Act} {Q:Exit→Act→World→Prop} {e:Nat} (hgd:o.guard=none) (x:Operand) (ho:o.op=.makeSlice 34 x x) (z:Int) (n:Nat) (hx:a.eval x=.int .i64 z) (hz:z=(n:Nat)) (hn:n≤100000)
  (h:D (w.alloc (.cells (madeCells #[.bool false] n) 4))∧wpListE Tryd.prog ops Q D e rest (a.put o.dst (.slice (some ⟨w.heap.size,0,none⟩) n n)) (w.alloc (.cells (madeCells #[.bool false] n) 4))):wpListE Tryd.prog ops Q D (e+1) (o::rest) a w:=by
 refine listE_wp hgd ?_
 subst hz
 unfold Oper.wp
 have hr:(execOp a.eval o).run Tryd.prog w=.ok (.value (.slice (some ⟨w.heap.size,0,none⟩) n n)) (w.alloc (.cells (madeCells #[.bool false] n) 4)):=by
  unfold execOp
  simp only [ho,hx,Sem.run_bind,make_bools n hn w]
  rfl
 rw [hr]
 exact h
theorem addX_lt {n X x:Nat} (h:x < n):addX n X (x:Int)=Bs.add X x:=by
 unfold addX Bs.is
 rw [decide_eq_true (by omega),decide_eq_true (by omega)]
 simp
theorem SS.make {U W:World} {p:Pl.Plan} {nb fb gb fc gc B1 B2:Nat} {ta va ra la aa ca:Option Addr} {tc vc rc lc ac cc:Nat} {p1 b1 p2 b2:Nat→Nat} (kU:Below U.heap.size U W) (ha:PnA U p ta va ra la aa ca) (hT:Tab U)
  (hp1:Prr W fb (Fi.nV p) p1) (hf1:Fam W B1 (Fi.nT p) (Fi.nV p) p1 b1 (fun _=>0)) (hB1:U.heap.size≤B1) (hp2:Prr W gb (Fi.nV p) p2) (hf2:Fam W B2 (Fi.nT p) (Fi.nV p) p2 b2 (fun _=>0)) (hB2:U.heap.size≤B2) (hd:∀ i j,i < Fi.nV p→j < Fi.nV p→b1 i≠b2 j)
  (hb:Brr W nb (Fi.nV p) (fun _=>false)) (hn:U.heap.size≤nb) :
  ∃ pt bk,SS U (W.alloc (.cells #[.slice ta p.terms.length tc,.slice va p.vars.length vc,.slice ra p.rules.length rc,.slice la p.levels.length lc,.slice aa p.assocs.length ac,.slice ca p.acts.length cc,.slice (some ⟨nb,0,none⟩) (Fi.nV p) (Fi.nV p),.slice (some ⟨fb,0,none⟩) (Fi.nV p) fc,.slice (some ⟨gb,0,none⟩) (Fi.nV p) gc] 84)) p W.heap.size nb fb gb fc gc ta va ra la aa ca tc vc rc lc ac cc pt bk (fun _=>false) (vv (Fi.nV p) (fun _=>0) (fun _=>0)):=by
 have k:=(Below.refl W.heap.size W).alloc (Nat.le_refl _) (.cells #[.slice ta p.terms.length tc,.slice va p.vars.length vc,.slice ra p.rules.length rc,.slice la p.levels.length lc,.slice aa p.assocs.length ac,.slice ca p.acts.length cc,.slice (some ⟨nb,0,none⟩) (Fi.nV p) (Fi.nV p),.slice (some ⟨fb,0,none⟩) (Fi.nV p) fc,.slice (some ⟨gb,0,none⟩) (Fi.nV p) gc] 84)
 have hj:=(⟨hf1.set,fun i hi=>Nat.le_trans hB1 (hf1.low i hi),hf1.dis⟩:Fam W U.heap.size _ _ p1 b1 _).join (⟨hf2.set,fun i hi=>Nat.le_trans hB2 (hf2.low i hi),hf2.dis⟩:Fam W U.heap.size _ _ p2 b2 _) hd
 rw [show Fi.nV p+Fi.nV p=2*Fi.nV p by omega] at hj
 refine ⟨_,_,⟨kU.trans (k.mono kU.size),ha,hT,heap_alloc_new W _,((hj.below k).ext (fun i _=>by unfold vv; split<;>rfl)),(hp1.below k).ext (fun i hi=>by simp only [if_pos hi]),(hp2.below k).ext (fun i hi=>by simp only [if_neg (show ¬ (Fi.nV p+i < Fi.nV p) by omega),Nat.add_sub_cancel_left]),hb.below k,hn⟩⟩
set_option maxRecDepth 100000 in
set_option maxHeartbeats 16000000 in
theorem facts_any {w:World} {v:Value} {p:Pl.Plan} (h:PnV w v p) (ho:Q.OK p) (hcnt:Q.cnt p≤1000) (hT:Tab w) :
  Calls Tryd.prog 17 #[v] w fun e w'=>∃ v',e=.returned v'∧FaV w' v' p∧Below w.heap.size w w':=by
 obtain ⟨ta,tc,va,vc,ra,rc,la,lc,aa,ac,ca,cc,rfl,h⟩:=h
 have HP0:=PB.new (tc:=tc) (vc:=vc) (rc:=rc) (lc:=lc) (ac:=ac) (cc:=cc) h
 have k:=(Below.refl w.heap.size w).alloc (Nat.le_refl _) (.cells (pnC p ta va ra la aa ca tc vc rc lc ac cc) 32)
 unfold pnC at HP0 k
 have k2:=(Below.refl _ (w.alloc (.cells #[.slice ta p.terms.length tc,.slice va p.vars.length vc,.slice ra p.rules.length rc,.slice la p.levels.length lc,.slice aa p.assocs.length ac,.slice ca p.acts.length cc] 32))).alloc (Nat.le_refl _) (.cells #[.slice none 0 0,.slice none 0 0,.slice none 0 0,.int .i64 0] 37)
 have HB:=Lib.hid (k.trans (k2.mono k.size))
 have HP:=Lib.hid (HP0.below k2)
 have HT:=Lib.hid ((hT.below k).below k2)
 have HR0:=Lib.hid (heap_alloc_new (w.alloc (.cells #[.slice ta p.terms.length tc,.slice va p.vars.length vc,.slice ra p.rules.length rc,.slice la p.levels.length lc,.slice aa p.assocs.length ac,.slice ca p.acts.length cc] 32)) (.cells #[.slice none 0 0,.slice none 0 0,.slice none 0 0,.int .i64 0] 37))
 have hrs:(w.alloc (.cells #[.slice ta p.terms.length tc,.slice va p.vars.length vc,.slice ra p.rules.length rc,.slice la p.levels.length lc,.slice aa p.assocs.length ac,.slice ca p.acts.length cc] 32)).heap.size=w.heap.size+1:=by simp
 rw [hrs] at HR0
 have HO:=Lib.hid ho
 have HC:=Lib.hid hcnt
 have hnb:=ho.nb
 have hmb:=ho.m
 have hn1:=ho.n
 clear HP0 h k k2 ho hcnt hT hrs
 go_enter Tryd.func17,Tryd.ntmps17
 go_wp2_with fail
 generalize (w.alloc (.cells #[.slice ta p.terms.length tc,.slice va p.vars.length vc,.slice ra p.rules.length rc,.slice la p.levels.length lc,.slice aa p.assocs.length ac,.slice ca p.acts.length cc] 32)).alloc (.cells #[.slice none 0 0,.slice none 0 0,.slice none 0 0,.int .i64 0] 37)=U at HB HP HT HR0 ⊢
 generalize hrbe:w.heap.size+1=rb at HR0 ⊢
 have HRB:=Lib.hid hrbe
 clear hrbe
 generalize hpb:w.heap.size=pb at HP ⊢
 have HPB:=Lib.hid hpb
 clear hpb
 have hV:∀ W,Below U.heap.size U W→PnV W (.agg #[.slice ta p.terms.length tc,.slice va p.vars.length vc,.slice ra p.rules.length rc,.slice la p.levels.length lc,.slice aa p.assocs.length ac,.slice ca p.acts.length cc]) p:=fun W k=>⟨ta,tc,va,vc,ra,rc,la,lc,aa,ac,ca,cc,rfl,HP.out.a.below k⟩
 have hE:∀ W,Below U.heap.size U W→Calls Tryd.prog 43 #[.agg #[.slice ta p.terms.length tc,.slice va p.vars.length vc,.slice ra p.rules.length rc,.slice la p.levels.length lc,.slice aa p.assocs.length ac,.slice ca p.acts.length cc]] W fun e w'=>∃ v,e=.returned v∧∃ fb cap pt bk,v=.slice (some ⟨fb,0,none⟩) (Fi.nV p) cap∧Prr w' fb (Fi.nV p) pt∧Fam w' W.heap.size (Fi.nT p) (Fi.nV p) pt bk (fun _=>0)∧W.heap.size≤fb∧Below W.heap.size W w':=fun W k =>
  (empty_any (hV W k) HO.out).mono fun e w' hh=>by obtain ⟨fb,cap,pt,bk,h1,h2⟩:=hh; exact ⟨_,h1,fb,cap,pt,bk,rfl,h2⟩
 go_upto_region 1 with fail
 go_cut [3] (fun sv wx=>∃ sb nb fb gb fc gc pt bk,sv=.pointer (some ⟨sb,0,none⟩)∧Hid (SS U wx p sb nb fb gb fc gc ta va ra la aa ca tc vc rc lc ac cc pt bk (fun _=>false) (vv (Fi.nV p) (fun _=>0) (fun _=>0)))∧Hid (wx.heap[rb]?=some (.cells #[.slice none 0 0,.slice none 0 0,.slice none 0 0,.int .i64 0] 37 (0,0))))
 case first =>
  have kd:Below U.heap.size U U.drew:=(Below.refl _ _).drew
  have y0:=fun z:Wd U.heap.size U=>(HP.out.below z.ok).c0
  have y1:=fun z:Wd U.heap.size U=>(HP.out.below z.ok).c1
  have y2:=fun z:Wd U.heap.size U=>(HP.out.below z.ok).c2
  have y3:=fun z:Wd U.heap.size U=>(HP.out.below z.ok).c3
  have y4:=fun z:Wd U.heap.size U=>(HP.out.below z.ok).c4
  have y5:=fun z:Wd U.heap.size U=>(HP.out.below z.ok).c5
  have hrb:rb < U.heap.size:=lt_of_block HR0.out
  have hpn:=HP.out.a
  refine region_threeC [0,1,2,3,4,6,8] 7 9 5 [10,11,12] 0 49 U.heap.size ?A (fun c a d v w h=>by cases d<;>exact h) (Nat.le_refl _) (by kernel_rfl) (by kernel_rfl) (by rfl) ?hh _ (by rfl) (by rfl) ?H12 ?H3
  case hh =>
   intro z
   simp only [pickL,List.getElem?_cons_zero,List.getElem?_cons_succ]
   repeat (go_big_quiet_step (fail))
   refine wpQuiet_nil ?_
   exact rfl
  case H12 =>
   clear y0 y1 y2 y3 y4 y5
   refine op_callE1 43 Tryd.call43 _ _ (by rfl) _ (by rfl) _ (hE U.drew kd) ?_
   rintro v w1 ⟨fb,fc,pt1,bk1,rfl,h11,h12,h13,k1'⟩
   have k1:=kd.trans k1'
   refine ⟨⟨⟨w1,k1⟩,rfl⟩,?_,?_⟩
   ·simp only [pickL,List.getElem?_cons_zero,List.getElem?_cons_succ]
    refine listE_callE1 (by rfl) 43 Tryd.call43 _ _ (by rfl) _ (by rfl) _ (hE w1 k1) ?_
    rintro v w2 ⟨gb,gc,pt2,bk2,rfl,h21,h22,h23,k2'⟩
    have k2:=k1.trans (k2'.mono k1.size)
    have k3:=k2.alloc k2.size (.cells (madeCells #[.bool false] (p.vars.length+1)) 4)
    have kl:=(Below.refl w2.heap.size w2).alloc (Nat.le_refl _) (.cells (madeCells #[.bool false] (p.vars.length+1)) 4)
    refine ⟨⟨⟨w2,k2⟩,rfl⟩,?_⟩
    refine listE_make (by rfl) _ (by rfl) ((p.vars.length:Int)+1) (p.vars.length+1) (by rfl) (by push_cast; rfl) (by omega) ⟨⟨⟨_,k3⟩,rfl⟩,?_⟩
    change wpList _ _ _ _ _ _
    obtain ⟨pt,bk,hS⟩:=SS.make (tc:=tc) (vc:=vc) (rc:=rc) (lc:=lc) (ac:=ac) (cc:=cc) (fc:=fc) (gc:=gc) k3 hpn HT.out ((h11.below k2').below kl) ((h12.below k2').below kl) (Nat.le_refl _) (h21.below kl) (h22.below kl) k1.size (fun i j hi hj=>by have:=(h12.set i hi).blt; have:=h22.low j hj; omega) (Brr.made w2 (p.vars.length+1)) k2.size
    rw [World.size_alloc] at hS
    have HSX:=Lib.hid hS
    have HRX:=Lib.hid (((k3.alloc k3.size (.cells #[.slice ta p.terms.length tc,.slice va p.vars.length vc,.slice ra p.rules.length rc,.slice la p.levels.length lc,.slice aa p.assocs.length ac,.slice ca p.acts.length cc,.slice (some ⟨w2.heap.size,0,none⟩) (Fi.nV p) (Fi.nV p),.slice (some ⟨fb,0,none⟩) (Fi.nV p) fc,.slice (some ⟨gb,0,none⟩) (Fi.nV p) gc] 84)).block _ hrb).trans HR0.out)
    clear hS h11 h12 h13 h21 h22 h23 k1' k2' k1 k2 k3 kl kd hE hV hpn
    simp only [Act.put,List.setIfInBounds_toArray,List.set_cons_succ,List.set_cons_zero]
    go_wp2_with fail
    go_meet
    case rel=>exact ⟨_,_,_,_,_,_,_,_,rfl,HSX,HRX⟩
   ·simp only [pickL,List.getElem?_cons_zero,List.getElem?_cons_succ]
    have k3:=k1.alloc k1.size (.cells (madeCells #[.bool false] (p.vars.length+1)) 4)
    have kl:=(Below.refl w1.heap.size w1).alloc (Nat.le_refl _) (.cells (madeCells #[.bool false] (p.vars.length+1)) 4)
    have hz:=World.size_alloc w1 (.cells (madeCells #[.bool false] (p.vars.length+1)) 4)
    refine listE_make (by rfl) _ (by rfl) ((p.vars.length:Int)+1) (p.vars.length+1) (by rfl) (by push_cast; rfl) (by omega) ⟨⟨⟨_,k3⟩,rfl⟩,?_⟩
    refine listE_callE1 (by rfl) 43 Tryd.call43 _ _ (by rfl) _ (by rfl) _ (hE _ k3) ?_
    rintro v w2 ⟨gb,gc,pt2,bk2,rfl,h21,h22,h23,k2'⟩
    have k2:=k3.trans (k2'.mono k3.size)
    refine ⟨⟨⟨w2,k2⟩,rfl⟩,?_⟩
    change wpList _ _ _ _ _ _
    obtain ⟨pt,bk,hS⟩:=SS.make (tc:=tc) (vc:=vc) (rc:=rc) (lc:=lc) (ac:=ac) (cc:=cc) (fc:=fc) (gc:=gc) k2 hpn HT.out ((h11.below kl).below k2') ((h12.below kl).below k2') (Nat.le_refl _) h21 h22 k3.size (fun i j hi hj=>by have:=(h12.set i hi).blt; have:=h22.low j hj; omega) ((Brr.made w1 (p.vars.length+1)).below k2') k1.size
    have HSX:=Lib.hid hS
    have HRX:=Lib.hid (((k2.alloc k2.size (.cells #[.slice ta p.terms.length tc,.slice va p.vars.length vc,.slice ra p.rules.length rc,.slice la p.levels.length lc,.slice aa p.assocs.length ac,.slice ca p.acts.length cc,.slice (some ⟨w1.heap.size,0,none⟩) (Fi.nV p) (Fi.nV p),.slice (some ⟨fb,0,none⟩) (Fi.nV p) fc,.slice (some ⟨gb,0,none⟩) (Fi.nV p) gc] 84)).block _ hrb).trans HR0.out)
    clear hS h11 h12 h13 h21 h22 h23 k1' k2' k1 k2 k3 kl kd hE hV hpn hz
    simp only [Act.put,List.setIfInBounds_toArray,List.set_cons_succ,List.set_cons_zero]
    go_wp2_with fail
    go_meet
    case rel=>exact ⟨_,_,_,_,_,_,_,_,rfl,HSX,HRX⟩
  case H3 =>
   clear y0 y1 y2 y3 y4 y5
   simp only [pickL,List.getElem?_cons_zero,List.getElem?_cons_succ]
   have k0:=kd.alloc (Nat.le_refl _) (.cells (madeCells #[.bool false] (p.vars.length+1)) 4)
   refine listE_make (by rfl) _ (by rfl) ((p.vars.length:Int)+1) (p.vars.length+1) (by rfl) (by push_cast; rfl) (by omega) ⟨⟨⟨_,k0⟩,rfl⟩,?_⟩
   refine listE_callE1 (by rfl) 43 Tryd.call43 _ _ (by rfl) _ (by rfl) _ (hE _ k0) ?_
   rintro v w1 ⟨fb,fc,pt1,bk1,rfl,h11,h12,h13,k1'⟩
   have k1:=k0.trans (k1'.mono k0.size)
   refine ⟨⟨⟨w1,k1⟩,rfl⟩,?_⟩
   refine listE_callE1 (by rfl) 43 Tryd.call43 _ _ (by rfl) _ (by rfl) _ (hE w1 k1) ?_
   rintro v w2 ⟨gb,gc,pt2,bk2,rfl,h21,h22,h23,k2'⟩
   have k2:=k1.trans (k2'.mono k1.size)
   refine ⟨⟨⟨w2,k2⟩,rfl⟩,?_⟩
   change wpList _ _ _ _ _ _
   obtain ⟨pt,bk,hS⟩:=SS.make (tc:=tc) (vc:=vc) (rc:=rc) (lc:=lc) (ac:=ac) (cc:=cc) (fc:=fc) (gc:=gc) k2 hpn HT.out (h11.below k2') (h12.below k2') k0.size h21 h22 k1.size (fun i j hi hj=>by have:=(h12.set i hi).blt; have:=h22.low j hj; omega) (((Brr.made U.drew (p.vars.length+1)).below k1').below k2') (Nat.le_refl _)
   have HSX:=Lib.hid hS
   have HRX:=Lib.hid (((k2.alloc k2.size (.cells #[.slice ta p.terms.length tc,.slice va p.vars.length vc,.slice ra p.rules.length rc,.slice la p.levels.length lc,.slice aa p.assocs.length ac,.slice ca p.acts.length cc,.slice (some ⟨U.drew.heap.size,0,none⟩) (Fi.nV p) (Fi.nV p),.slice (some ⟨fb,0,none⟩) (Fi.nV p) fc,.slice (some ⟨gb,0,none⟩) (Fi.nV p) gc] 84)).block _ hrb).trans HR0.out)
   clear hS h11 h12 h13 h21 h22 h23 k1' k2' k1 k2 k0 kd hE hV hpn
   simp only [Act.put,List.setIfInBounds_toArray,List.set_cons_succ,List.set_cons_zero]
   go_wp2_with fail
   go_meet
   case rel=>exact ⟨_,_,_,_,_,_,_,_,rfl,HSX,HRX⟩
 case rest =>
  obtain ⟨sb,nb,fb,gb,fc,gc,pt,bk,rfl,HS,-⟩:=hcut
  clear hE hV
  have hrl:=Lib.hid (Fi.rounds_le HO.out)
  go_wp2_with fail
  go_loopg [4] (Fi.fF p) (fun gk rv wr=>∃ (f r:Nat) (t:Fi.St),rv=.int .i64 r∧1≤r∧Hid (gk=f+1)∧Hid (Fi.Lt (Fi.nT p) t.fst)∧Hid (Q.weight (Fi.nV p) (Fi.fw (Fi.nT p) t)≤f)∧Hid (SS U wr p sb nb fb gb fc gc ta va ra la aa ca tc vc rc lc ac cc pt bk t.null (vv (Fi.nV p) t.fst (fun _=>0)))∧Hid (Fi.fs p=((Q.run (fun s=>Fi.rGo p p.rules s false) (f+1) t).1,r - 1+(Q.run (fun s=>Fi.rGo p p.rules s false) (f+1) t).2)))
  case atStart =>
   refine ⟨Q.weight (Fi.nV p) (Fi.fw (Fi.nT p) Fi.s0),1,Fi.s0,rfl,Nat.le_refl _,Lib.hid rfl,Lib.hid (fun i=>Nat.two_pow_pos _),Lib.hid (Nat.le_refl _),HS,Lib.hid ?_⟩
   rw [Nat.sub_self,Nat.zero_add]; rfl
  case round =>
   clear HS
   obtain ⟨f,r,t,rfl,hr1,HG,HLT,HWT,HW,HE⟩:=hrel
   have hcall:=round10_any HW.out HO.out HC.out
   have hr2:r≤2000000:=by
    have h1:=hrl.out
    rw [HE.out] at h1
    have h2:1≤(Q.run (fun s=>Fi.rGo p p.rules s false) (f+1) t).2:=by rw [Q.run]; split<;>omega
    simp only at h1
    omega
   have hee:=HE.out
   rw [Q.run] at hee
   have hles:=Fi.round_less HO.out t HLT.out
   have hlt2:=Fi.rGo_lt p.rules t false HLT.out
   generalize Fi.rGo p p.rules t false=q at hcall hee hles hlt2
   obtain ⟨t2,b⟩:=q
   simp only at hcall hee hles hlt2
   have HE2:=Lib.hid hee
   have HL2:=Lib.hid hles
   have HLT2:=Lib.hid hlt2
   clear hee hles hlt2 HE
   go_wp2_with fail
   refine hcall.mono ?_
   rintro e w1 ⟨rfl,h1⟩
   have HW1:=Lib.hid h1
   clear hcall h1 HW
   cases b with
   | true =>
    have hee:=HE2.out
    rw [if_pos rfl] at hee
    have hless:=HL2.out rfl
    have hwt:=HWT.out
    obtain ⟨f,rfl⟩:∃ f2,f=f2+1:=⟨f - 1,by omega⟩
    have HE3:Hid (Fi.fs p=((Q.run (fun s=>Fi.rGo p p.rules s false) (f+1) t2).1,r+1 - 1+(Q.run (fun s=>Fi.rGo p p.rules s false) (f+1) t2).2)):=Lib.hid (by rw [hee]; congr 1; omega)
    have HWT3:Hid (Q.weight (Fi.nV p) (Fi.fw (Fi.nT p) t2)≤f):=Lib.hid (by omega)
    clear hee hless hwt HE2 HL2 HWT
    go_wp2_with fail
    go_roundg (f+1)
    case measure=>have:=HG.out; omega
    case rel=>exact ⟨f,r+1,t2,by go_num,by omega,Lib.hid rfl,HLT2,HWT3,HW1,HE3⟩
   | false =>
    have hee:=HE2.out
    rw [if_neg (by simp)] at hee
    have hee2:Fi.fs p=(t2,r):=by rw [hee]; congr 1; omega
    have HFS:=Lib.hid hee2
    clear hee hee2 HE2 HL2 HWT HG HLT hr2
    have y8:=fun z:Wd w1.heap.size w1=>(HW1.out.below z.ok).cells.2.2.2.2.2.2.2.2
    have yp:=fun z:Wd w1.heap.size w1=>(HP.out.below (HW1.out.below z.ok).base).c1
    have yg:=fun z:Wd w1.heap.size w1=>(HW1.out.below z.ok).fol.cell (show p.vars.length < Fi.nV p by unfold Fi.nV; omega)
    have HNV:Hid (Fi.nV p=p.vars.length+1):=Lib.hid rfl
    go_wp2_with fail
    have hvlt:p.vars.length < Fi.nV p:=by unfold Fi.nV; omega
    refine region_clst 9 w1.heap.size (by kernel_rfl) (by kernel_rfl) ?_
    simp only [List.take_succ_cons,List.take_zero,List.drop_succ_cons,List.drop_zero]
    repeat (go_big_quiet_step (fail))
    refine wpQuiet_nil ?_
    intro z
    have HW2:=Lib.hid (HW1.out.below z.ok)
    have hset:=HW2.out.fam.set (Fi.nV p+p.vars.length) (by have:=HNV.out; omega)
    have hadd:=add_any _ _ _ _ 0 z.w hset
    generalize z.w=w2 at HW2 hset hadd ⊢
    clear z y8 yp yg HW1 hset
    go_wp2_with fail
    refine hadd.mono ?_
    rintro e w3 ⟨rfl,hs3,u3⟩
    have hv0:addX (Fi.nT p) (vv (Fi.nV p) t2.fst (fun _=>0) (Fi.nV p+p.vars.length)) 0=1:=by
     have e:=addX_lt (n:=Fi.nT p) (X:=0) (x:=0) (by unfold Fi.nT; omega)
     rw [vv_ge]
     exact e
    rw [hv0] at hs3
    have h3:=HW2.out.put (by have:=HNV.out; omega) u3 hs3
    rw [vv_up2] at h3
    have ho0:Q.up (fun _=>0) p.vars.length 1=Fi.o0 p:=by
     funext j; unfold Q.up Fi.o0; rfl
    rw [ho0] at h3
    have HW3:=Lib.hid h3
    have HT2:=Lib.hid (show Fi.fol p=(Q.run (fun fo=>Fi.bRu p t2 p.rules fo false) (Fi.oF p) (Fi.o0 p)).1 by unfold Fi.fol; rw [HFS.out])
    clear hadd hs3 u3 hv0 h3 ho0 HW2
    go_wp2_with fail
    go_loopg [] (Fi.oF p) (fun gk wr=>∃ (f:Nat) (fo:Nat→Nat),Hid (gk=f+1)∧Hid (Fi.Lt (Fi.nT p) fo)∧Hid (Q.weight (Fi.nV p) (Fi.ow (Fi.nT p) fo)≤f)∧Hid (SS U wr p sb nb fb gb fc gc ta va ra la aa ca tc vc rc lc ac cc pt bk t2.null (vv (Fi.nV p) t2.fst fo))∧Hid (Fi.fol p=(Q.run (fun fo=>Fi.bRu p t2 p.rules fo false) (f+1) fo).1))
    case atStart=>exact ⟨Q.weight (Fi.nV p) (Fi.ow (Fi.nT p) (Fi.o0 p)),Fi.o0 p,Lib.hid rfl,Lib.hid (Fi.o0_lt HO.out),Lib.hid (Nat.le_refl _),HW3,HT2⟩
    case round =>
     clear HW3 HT2
     obtain ⟨f,fo,HG,HLT,HWT,HW,HE⟩:=hrel
     have hcall:=behind10_any HW.out HO.out HC.out
     have hee:=HE.out
     rw [Q.run] at hee
     have hles:=Fi.behind_less HO.out fo HLT.out
     rw [HFS.out] at hles
     have hlt2:=Fi.bRu_lt (p:=p) HLT2.out p.rules fo false HLT.out
     generalize Fi.bRu p t2 p.rules fo false=q at hcall hee hles hlt2
     obtain ⟨fo2,b⟩:=q
     simp only at hcall hee hles hlt2
     have HE2:=Lib.hid hee
     have HL2:=Lib.hid hles
     have HLT3:=Lib.hid hlt2
     clear hee hles hlt2 HE
     go_wp2_with fail
     refine hcall.mono ?_
     rintro e w4 ⟨rfl,h4⟩
     have HW4:=Lib.hid h4
     clear hcall h4 HW
     cases b with
     | true =>
      have hee:=HE2.out
      rw [if_pos rfl] at hee
      have hless:=HL2.out rfl
      have hwt:=HWT.out
      obtain ⟨f,rfl⟩:∃ f2,f=f2+1:=⟨f - 1,by omega⟩
      have HE3:=Lib.hid hee
      have HWT3:Hid (Q.weight (Fi.nV p) (Fi.ow (Fi.nT p) fo2)≤f):=Lib.hid (by omega)
      clear hee hless hwt HE2 HL2 HWT
      go_wp2_with fail
      go_roundg (f+1)
      case measure=>have:=HG.out; omega
      case rel=>exact ⟨f,fo2,Lib.hid rfl,HLT3,HWT3,HW4,HE3⟩
     | false =>
      have hee:=HE2.out
      rw [if_neg (by simp)] at hee
      have HFO:Hid (Fi.fol p=fo2):=Lib.hid hee
      clear hee HE2 HL2 HWT HG HLT
      clear hrl hvlt
      have y6:=fun z:Wd w4.heap.size w4=>(HW4.out.below z.ok).cells.2.2.2.2.2.2.1
      have y7:=fun z:Wd w4.heap.size w4=>(HW4.out.below z.ok).cells.2.2.2.2.2.2.2.1
      have y8:=fun z:Wd w4.heap.size w4=>(HW4.out.below z.ok).cells.2.2.2.2.2.2.2.2
      go_wp2_with fail
      refine region_ge [0,1,2,3,4,5,6,7,9,10,11,12,14] [8,13,15,16] 2 49 w4.heap.size ?A7 (fun c a d v w h=>by cases d<;>exact h) (Nat.le_refl _) (by kernel_rfl) (by kernel_rfl) (by rfl) ?hh7 ?ht
      case hh7 =>
       intro z
       simp only [pickL,List.getElem?_cons_zero,List.getElem?_cons_succ]
       repeat (go_big_quiet_step (fail))
       refine wpQuiet_nil ?_
       exact rfl
      case ht =>
       simp only [pickL,List.getElem?_cons_zero,List.getElem?_cons_succ]
       clear y6 y7 y8
       have kd:Below w4.heap.size w4 w4.drew:=(Below.refl _ _).drew
       have HWD:=HW4.out.below kd
       have hvb:1≤Fi.nV p∧Fi.nV p≤1001:=by have:=HNV.out; omega
       have hl1:=lists_any (fc:=fc) hvb.1 hvb.2 (show Fi.nT p≤1000 from hnb) HWD.fst HWD.fam.part.1 HWD.tabw
       refine listE_callE1 (by rfl) 47 Tryd.call47 _ _ (by rfl) _ (by rfl) (fun v w'=>∃ lb cap,v=.slice (some ⟨lb,0,none⟩) (Fi.nV p) cap∧LstsB w4.drew.heap.size w' lb (Fi.nV p) (fun i=>natI (Bs.lst (Fi.nT p) (vv (Fi.nV p) t2.fst fo2 i)))∧Below w4.drew.heap.size w4.drew w') (hl1.mono fun e w' ⟨lb,cap,e1,e2,e3⟩=>⟨_,e1,lb,cap,rfl,e2,e3⟩) ?_
       rintro v w5 ⟨lb,lcap,rfl,h51,k5⟩
       have k5':=kd.trans (k5.mono kd.size)
       refine ⟨⟨⟨w5,k5'⟩,rfl⟩,?_⟩
       have HW5:=HW4.out.below k5'
       have hl2:=lists_any (fc:=gc) hvb.1 hvb.2 (show Fi.nT p≤1000 from hnb) HW5.fol HW5.fam.part.2 HW5.tabw
       refine listE_callE1 (by rfl) 47 Tryd.call47 _ _ (by rfl) _ (by rfl) (fun v w'=>∃ lb cap,v=.slice (some ⟨lb,0,none⟩) (Fi.nV p) cap∧LstsB w5.heap.size w' lb (Fi.nV p) (fun i=>natI (Bs.lst (Fi.nT p) (vv (Fi.nV p) t2.fst fo2 (Fi.nV p+i))))∧Below w5.heap.size w5 w') (hl2.mono fun e w' ⟨lb,cap,e1,e2,e3⟩=>⟨_,e1,lb,cap,rfl,e2,e3⟩) ?_
       rintro v w6 ⟨mb,mcap,rfl,h61,k6⟩
       have k6':=k5'.trans (k6.mono k5'.size)
       refine ⟨⟨⟨w6,k6'⟩,rfl⟩,?_⟩
       change wpList _ _ _ _ _ _
       have HW6:=HW4.out.below k6'
       have hrb:rb < U.heap.size:=lt_of_block HR0.out
       have g0:=(HW6.base.block _ hrb).trans HR0.out
       have G0:=Lib.hid g0
       have hrw4:rb < w4.drew.heap.size:=by have:=kd.size; have:=HW4.out.base.size; omega
       have hrw5:rb < w5.heap.size:=by have:=k5.size; omega
       have HF1:=fun cs=>Lib.hid ((h51.below k6).row hrw4 cs)
       have HF2:=fun cs=>Lib.hid (h61.row hrw5 cs)
       have HNU:=Lib.hid HW6.nul
       have HNB:=Lib.hid (Nat.lt_of_lt_of_le hrb HW6.nB)
       have HB6:=Lib.hid HW6.base
       clear kd HWD hl1 hl2 h51 k5 k5' HW5 h61 k6 k6' HW6 HW4 hvb hrw4 hrw5
       simp only [Act.put,List.setIfInBounds_toArray,List.set_cons_succ,List.set_cons_zero]
       go_wp2_with (refine list_store_row rfl 37 _ _ rfl rb rfl _ rfl _ 37 g0 rfl facts_size (by simp [Value.oneCell']) ?_)
       refine bodyPost_ret (results_cell_row rfl _ _ rb 37 _ (0,0) _ rfl (setRow_heap _ _ _ _ _ _ g0) Tryd.underlying37 rfl facts_size) rfl ⟨_,rfl,⟨nb,lb,lcap,mb,mcap,?_,?_,?_,?_⟩,?_⟩
       ·rw [HFS.out]
       ·rw [HFS.out]
        exact HNU.out.kept (setRow_other _ _ _ _ (by have:=HNB.out; omega))
       ·have:=HF1 #[.slice (some ⟨nb,0,none⟩) (Fi.nV p) (Fi.nV p),.slice (some ⟨lb,0,none⟩) (Fi.nV p) lcap,.slice (some ⟨mb,0,none⟩) (Fi.nV p) mcap,.int .i64 r]
        rw [HFS.out]
        exact fun i hi=>by have:=this.out i hi; simp only [vv_lt hi] at this; exact this
       ·have:=HF2 #[.slice (some ⟨nb,0,none⟩) (Fi.nV p) (Fi.nV p),.slice (some ⟨lb,0,none⟩) (Fi.nV p) lcap,.slice (some ⟨mb,0,none⟩) (Fi.nV p) mcap,.int .i64 r]
        rw [HFO.out]
        exact fun i hi=>by have:=this.out i hi; simp only [vv_ge] at this; exact this
       ·exact below_setRow (HB.out.trans (HB6.out.mono HB.out.size)) (by have:=HRB.out; omega) _
end Go.Proofs.YtjbggogbnckllaaDoor
end
section
set_option maxRecDepth 100000
namespace Go.Proofs.YtjbggogbnckllaaDoor
open Go.RowKit
set_option linter.unusedVariables false
set_option linter.unusedSimpArgs false
set_option maxRecDepth 100000 in
set_option maxHeartbeats 16000000 in
theorem seq10_any {w:World} {fv v:Value} {p:Pl.Plan} {l:List Int} {na:Option Addr} {nc:Nat} (hf:FaV w fv p) (h:PnV w v p) (ho:Q.OK p) (hl:Ints w na l) (hll:l.length≤1000) (hx:∀ x ∈ l,-9223372036854775808≤x∧x≤9223372036854775807) (hT:Tab w) :
  Calls Tryd.prog 27 #[fv,v,.slice na l.length nc] w fun e w'=>∃ a cap,e=.returned (.tuple #[.slice a (natI (Bs.lst (Fi.nT p) (Fi.beg (Fi.nT p) (Q.cnt p) (Fi.fs p).1 l 0).1)).length cap,.bool (Fi.beg (Fi.nT p) (Q.cnt p) (Fi.fs p).1 l 0).2])∧Ints w' a (natI (Bs.lst (Fi.nT p) (Fi.beg (Fi.nT p) (Q.cnt p) (Fi.fs p).1 l 0).1))∧Below w.heap.size w w':=by
 obtain ⟨nb,lb,lc,mb,mc,rfl,f1,f2,f3⟩:=hf
 obtain ⟨ta,tc,va,vc,ra,rc,la,lc2,aa,ac,ca,cc,rfl,h⟩:=h
 obtain ⟨rd,hrd⟩:∃ rd,rd=(Fi.fs p).2:=⟨_,rfl⟩
 rw [← hrd]
 have k1:=(Below.refl w.heap.size w).alloc (Nat.le_refl _) (.cells #[.slice (some ⟨nb,0,none⟩) (Fi.nV p) (Fi.nV p),.slice (some ⟨lb,0,none⟩) (Fi.nV p) lc,.slice (some ⟨mb,0,none⟩) (Fi.nV p) mc,.int .i64 (rd:Nat)] 37)
 have hF0:=heap_alloc_new w (.cells #[.slice (some ⟨nb,0,none⟩) (Fi.nV p) (Fi.nV p),.slice (some ⟨lb,0,none⟩) (Fi.nV p) lc,.slice (some ⟨mb,0,none⟩) (Fi.nV p) mc,.int .i64 (rd:Nat)] 37)
 have HP0:=PB.new (tc:=tc) (vc:=vc) (rc:=rc) (lc:=lc2) (ac:=ac) (cc:=cc) (h.below k1)
 unfold pnC at HP0
 rw [World.size_alloc] at HP0
 have k2:=k1.alloc k1.size (.cells #[.slice ta p.terms.length tc,.slice va p.vars.length vc,.slice ra p.rules.length rc,.slice la p.levels.length lc2,.slice aa p.assocs.length ac,.slice ca p.acts.length cc] 32)
 have k3:=(Below.refl _ (w.alloc (.cells #[.slice (some ⟨nb,0,none⟩) (Fi.nV p) (Fi.nV p),.slice (some ⟨lb,0,none⟩) (Fi.nV p) lc,.slice (some ⟨mb,0,none⟩) (Fi.nV p) mc,.int .i64 (rd:Nat)] 37))).alloc (Nat.le_refl _) (.cells #[.slice ta p.terms.length tc,.slice va p.vars.length vc,.slice ra p.rules.length rc,.slice la p.levels.length lc2,.slice aa p.assocs.length ac,.slice ca p.acts.length cc] 32)
 have HF:=Lib.hid ((k3.block _ (lt_of_block hF0)).trans hF0)
 have HP:=Lib.hid HP0
 have HB:=Lib.hid k2
 have HN1:=Lib.hid (f1.below k2)
 have HL1:=Lib.hid (f2.below k2)
 have HT:=Lib.hid (hT.below k2)
 have HI:=Lib.hid (hl.below k2)
 have HX:=Lib.hid hx
 have HO:=Lib.hid ho
 have hnb:=ho.nb
 have hmb:=ho.m
 have hn1:=ho.n
 have d0:=HP0.c0
 have hws:Hid (Bs.wid (p.terms.length:Int)=p.terms.length∧Fi.nT p=p.terms.length∧Fi.nV p=p.vars.length+1∧Q.cnt p=p.terms.length+p.vars.length+1):=Lib.hid ⟨by unfold Bs.wid; omega,rfl,rfl,rfl⟩
 obtain ⟨S,hS⟩:∃ S,S=(Fi.fs p).1:=⟨_,rfl⟩
 have hSl:Fi.Lt (Fi.nT p) S.fst:=by rw [hS]; exact Fi.fs_lt
 rw [← hS] at HN1 HL1 ⊢
 have HSL:=Lib.hid hSl
 obtain ⟨R,hR⟩:∃ R,R=Fi.beg (Fi.nT p) (Q.cnt p) S l 0:=⟨_,rfl⟩
 have HR:=Lib.hid hR
 rw [← hR]
 clear h k1 k2 k3 hF0 HP0 f1 f2 f3 hl hx ho hT hrd hS hSl hR
 go_enter Tryd.func27,Tryd.ntmps27
 go_wp2_with fail
 generalize (w.alloc (.cells #[.slice (some ⟨nb,0,none⟩) (Fi.nV p) (Fi.nV p),.slice (some ⟨lb,0,none⟩) (Fi.nV p) lc,.slice (some ⟨mb,0,none⟩) (Fi.nV p) mc,.int .i64 (rd:Nat)] 37)).alloc (.cells #[.slice ta p.terms.length tc,.slice va p.vars.length vc,.slice ra p.rules.length rc,.slice la p.levels.length lc2,.slice aa p.assocs.length ac,.slice ca p.acts.length cc] 32)=V at HF HP HB HN1 HL1 HT HI d0 ⊢
 refine (new_any (p.terms.length:Int) V).mono ?_
 rintro e V1 ⟨q,ob,rfl,hq,hob,hset,kb⟩
 rw [hws.out.1] at hset
 have HS1:=Lib.hid hset
 have HB1:=Lib.hid kb
 clear d0 hset kb
 go_wp2_with fail
 go_loopg [18] l.length (fun gk iv wr=>∃ (i X:Nat),iv=.int .i64 i∧i≤l.length∧Hid (gk+i=l.length)∧Hid (Below V.heap.size V wr)∧Hid (SetAt wr q ob p.terms.length X)∧Hid (R=Fi.beg (Fi.nT p) (Q.cnt p) S (l.drop i) X))
 case atStart=>exact ⟨0,0,rfl,by omega,Lib.hid (by omega),HB1,HS1,HR⟩
 case round =>
  clear HB1 HS1 HR
  obtain ⟨i,X,rfl,hi,HG,HW,HS,HE⟩:=hrel
  by_cases hlt:i < l.length
  ·obtain ⟨b,off,rfl,q0⟩:=(HI.out.below HW.out) i hlt
   obtain ⟨x0,x1⟩:=HX.out _ (List.getElem_mem hlt)
   have hdr:=List.drop_eq_getElem_cons hlt
   have hee:=HE.out
   rw [hdr,Fi.beg] at hee
   generalize l[i]=x at q0 x0 x1 hee
   have hP:=HP.out.below HW.out
   have c0:=hP.c0
   have c1:=hP.c1
   have c2:=hP.c2
   have c3:=hP.c3
   have c4:=hP.c4
   have c5:=hP.c5
   have hT:=term_any (w:=wr) x (show PnV wr (.agg #[.slice ta p.terms.length tc,.slice va p.vars.length vc,.slice ra p.rules.length rc,.slice la p.levels.length lc2,.slice aa p.assocs.length ac,.slice ca p.acts.length cc]) p from ⟨ta,tc,va,vc,ra,rc,la,lc2,aa,ac,ca,cc,rfl,hP.a⟩) HO.out.nb
   have HEE:=Lib.hid hee
   clear hdr hee hP HE
   by_cases ht:0≤x∧x < (p.terms.length:Int)
   ·obtain ⟨n,rfl⟩:∃ n:Nat,x=n:=⟨x.toNat,by omega⟩
    rw [decide_eq_true ht] at hT
    have hee:=HEE.out
    rw [if_neg (by unfold Q.cnt; omega),if_pos (by unfold Fi.nT; omega)] at hee
    have HE2:=Lib.hid hee
    have hnn:n < p.terms.length:=by omega
    clear ht hee HEE
    go_wp2_with fail
    refine hT.mono ?_
    rintro e w1 ⟨rfl,k⟩
    have hadd:=add_any q ob p.terms.length X (n:Int) w1 (HS.out.below k)
    rw [addX_lt hnn] at hadd
    have HW1:=Lib.hid (HW.out.trans (k.mono HW.out.size))
    clear hT k c0 c1 c2 c3 c4 c5 q0
    go_wp2_with fail
    refine hadd.mono ?_
    rintro e w2 ⟨rfl,hs2,u2⟩
    have HW2:=Lib.hid (HW1.out.trans (u2.below hob HW1.out.size))
    have hli:=list_any q ob p.terms.length _ w2 hs2 (HT.out.below HW2.out)
    clear hadd hs2 u2
    go_wp2_with fail
    refine hli.mono ?_
    rintro e w3 ⟨a,cap,rfl,ha,hI3,k⟩
    have HI3:=Lib.hid hI3
    have HW3:=Lib.hid (HW2.out.trans (k.mono HW2.out.size))
    clear hli ha hI3 k
    go_wp2_with fail
    go_ret2
    rw [HE2.out]
    exact ⟨a,cap,rfl,HI3.out,HB.out.trans (HW3.out.mono HB.out.size)⟩
   ·rw [decide_eq_false ht] at hT
    by_cases hskip:x < 0∨((Q.cnt p:Nat):Int)≤x
    ·have hee:=HEE.out
     rw [if_pos hskip] at hee
     have HE2:=Lib.hid hee
     have hcn:=hws.out.2.2.2
     have hvn:=hws.out.2.2.1
     by_cases hx0:x < 0
     ·by_cases hwr:x - (p.terms.length:Int) < -9223372036854775808
      ·have e1:IntKind.i64.wrap (x - (p.terms.length:Int))=x - (p.terms.length:Int)+18446744073709551616:=by unfold IntKind.wrap; simp [IntKind.bits,IntKind.signed]; omega
       have t1:decide (x - (p.terms.length:Int)+18446744073709551616 < 0)=false:=by simp; omega
       have t2:decide ((Fi.nV p:Int)≤x - (p.terms.length:Int)+18446744073709551616)=true:=by simp; omega
       clear hcn hvn
       clear hskip hee HEE
       go_wp2_with fail
       refine hT.mono ?_
       rintro e w1 ⟨rfl,k⟩
       have HW1:=Lib.hid (HW.out.trans (k.mono HW.out.size))
       have HS1:=Lib.hid (HS.out.below k)
       have d0:=(HP.out.below HW1.out).c0
       have g1:w1.cell? ⟨w.heap.size,1,none⟩=some (.slice (some ⟨lb,0,none⟩) (Fi.nV p) lc):=by rw [cell_of_row _ _ _ _ _ _ ((HW1.out.block _ (lt_of_block HF.out)).trans HF.out)]; rfl
       clear hT k c0 c1 c2 c3 c4 c5 q0
       go_wp2_with fail
       go_roundg (l.length - (i+1))
       case measure=>have:=HG.out; omega
       case rel=>exact ⟨i+1,X,by go_num,by omega,Lib.hid (by omega),HW1,HS1,HE2⟩
      ·have t1:decide (x - (p.terms.length:Int) < 0)=true:=by simp; omega
       clear hcn hvn
       clear hskip hee HEE
       go_wp2_with fail
       refine hT.mono ?_
       rintro e w1 ⟨rfl,k⟩
       have HW1:=Lib.hid (HW.out.trans (k.mono HW.out.size))
       have HS1:=Lib.hid (HS.out.below k)
       have d0:=(HP.out.below HW1.out).c0
       have g1:w1.cell? ⟨w.heap.size,1,none⟩=some (.slice (some ⟨lb,0,none⟩) (Fi.nV p) lc):=by rw [cell_of_row _ _ _ _ _ _ ((HW1.out.block _ (lt_of_block HF.out)).trans HF.out)]; rfl
       clear hT k c0 c1 c2 c3 c4 c5 q0
       go_wp2_with fail
       go_roundg (l.length - (i+1))
       case measure=>have:=HG.out; omega
       case rel=>exact ⟨i+1,X,by go_num,by omega,Lib.hid (by omega),HW1,HS1,HE2⟩
     ·have t1:decide (x - (p.terms.length:Int) < 0)=false:=by simp; omega
      have t2:decide ((Fi.nV p:Int)≤x - (p.terms.length:Int))=true:=by simp; omega
      clear hcn hvn
      clear hskip hee HEE
      go_wp2_with fail
      refine hT.mono ?_
      rintro e w1 ⟨rfl,k⟩
      have HW1:=Lib.hid (HW.out.trans (k.mono HW.out.size))
      have HS1:=Lib.hid (HS.out.below k)
      have d0:=(HP.out.below HW1.out).c0
      have g1:w1.cell? ⟨w.heap.size,1,none⟩=some (.slice (some ⟨lb,0,none⟩) (Fi.nV p) lc):=by rw [cell_of_row _ _ _ _ _ _ ((HW1.out.block _ (lt_of_block HF.out)).trans HF.out)]; rfl
      clear hT k c0 c1 c2 c3 c4 c5 q0
      go_wp2_with fail
      go_roundg (l.length - (i+1))
      case measure=>have:=HG.out; omega
      case rel=>exact ⟨i+1,X,by go_num,by omega,Lib.hid (by omega),HW1,HS1,HE2⟩
    ·have hcn:=hws.out.2.2.2
     have hvn:=hws.out.2.2.1
     obtain ⟨n,rfl⟩:∃ n:Nat,x=n:=⟨x.toNat,by omega⟩
     obtain ⟨k,hk⟩:∃ k,k=n - p.terms.length:=⟨_,rfl⟩
     have hkv:k < Fi.nV p:=by omega
     have hxk:(n:Int) - (p.terms.length:Int)=(k:Nat):=by omega
     have hee:=HEE.out
     rw [if_neg hskip,if_neg (by unfold Fi.nT; omega),show ((n:Int).toNat - Fi.nT p)=k by rw [hk]; rfl] at hee
     have HE2:=Lib.hid hee
     have t1:decide ((k:Int) < 0)=false:=by simp
     have t2:decide ((Fi.nV p:Int)≤(k:Int))=false:=by simp; omega
     have HKV:=Lib.hid hkv
     clear hcn hvn hk hee hskip ht HEE t1 t2
     go_wp2_with fail
     refine hT.mono ?_
     rintro e w1 ⟨rfl,kb⟩
     have HW1:=Lib.hid (HW.out.trans (kb.mono HW.out.size))
     have HS1:=Lib.hid (HS.out.below kb)
     have y0:=fun z:Wd w1.heap.size w1=>(HP.out.below (HW1.out.trans (z.ok.mono HW1.out.size))).c0
     have y1:∀ z:Wd w1.heap.size w1,z.w.cell? ⟨w.heap.size,1,none⟩=some (.slice (some ⟨lb,0,none⟩) (Fi.nV p) lc):=fun z=>by rw [cell_of_row _ _ _ _ _ _ (((HW1.out.trans (z.ok.mono HW1.out.size)).block _ (lt_of_block HF.out)).trans HF.out)]; rfl
     obtain ⟨L2,hL2⟩:∃ L2,L2=natI (Bs.lst (Fi.nT p) (S.fst k)):=⟨_,rfl⟩
     have HL2:=Lib.hid hL2
     have hm:∃ a2 cp2,V.cell? ⟨lb,k,none⟩=some (.slice a2 L2.length cp2)∧Ints V a2 L2:=by rw [hL2]; exact HL1.out k HKV.out
     obtain ⟨a2,cp2,m1,m2⟩:=hm
     have y2:∀ z:Wd w1.heap.size w1,z.w.cell? ⟨lb,k,none⟩=some (.slice a2 L2.length cp2):=fun z=>((bcell (HW1.out.trans (z.ok.mono HW1.out.size))).1 _ _ (World.block_lt_of_cell? V _ m1)).trans m1
     have M2:=Lib.hid m2
     have hll2:L2.length≤maxLen:=by rw [hL2]; have:=Bs.lst_len (Fi.nT p) (S.fst k); simp only [natI,List.length_map]; have:=hws.out.2.1; unfold maxLen; omega
     have HLL2:=Lib.hid hll2
     have d0:=(HP.out.below HW1.out).c0
     have g1:w1.cell? ⟨w.heap.size,1,none⟩=some (.slice (some ⟨lb,0,none⟩) (Fi.nV p) lc):=by rw [cell_of_row _ _ _ _ _ _ ((HW1.out.block _ (lt_of_block HF.out)).trans HF.out)]; rfl
     clear hT kb c0 c1 c2 c3 c4 c5 q0 HW HS m1 m2 hL2 hll2
     go_wp2_with fail
     clear d0 g1
     refine region_ge [0,1,2,3,4,5,6,7,8] [9,10] 0 66 w1.heap.size ?_ (fun c a d v w h=>by cases d<;>exact h) (Nat.le_refl _) (by kernel_rfl) (by kernel_rfl) (by rfl) ?_ ?_
     rotate_left
     ·intro z
      simp only [pickL,List.getElem?_cons_zero,List.getElem?_cons_succ]
      repeat (go_big_quiet_step (fail))
      refine wpQuiet_nil ?_
      exact rfl
     simp only [pickL,List.getElem?_cons_zero,List.getElem?_cons_succ]
     change wpList _ _ _ _ _ _
     have kd:Below w1.heap.size w1 w1.drew:=(Below.refl _ _).drew
     have HW2:=Lib.hid (HW1.out.trans (kd.mono HW1.out.size))
     have HS2:=Lib.hid (HS1.out.below kd)
     generalize w1.drew=w2 at HW2 HS2 ⊢
     clear kd y0 y1 y2 HW1 HS1
     have hof:=of_any (p.terms.length:Int) a2 L2 cp2 w2 (M2.out.below HW2.out) HLL2.out
     rw [hws.out.1,HL2.out,show Bs.of p.terms.length (natI (Bs.lst (Fi.nT p) (S.fst k)))=S.fst k from of_lst (HSL.out k),← HL2.out] at hof
     go_wp2_with fail
     refine hof.mono ?_
     rintro e w3 ⟨o,ob2,rfl,-,-,hset,kb⟩
     have HW3:=Lib.hid (HW2.out.trans (kb.mono HW2.out.size))
     have hun:=union_any q ob p.terms.length X o ob2 p.terms.length (S.fst k) w3 (HS2.out.below kb) hset (HT.out.below HW3.out) (by have:=HT.out.lt; omega)
     clear hof hset kb HW2
     go_wp2_with fail
     refine hun.mono ?_
     rintro e w4 ⟨rfl,hs4,u4⟩
     rw [un_or HS2.out.lt (HSL.out k)] at hs4
     have HS4:=Lib.hid hs4
     have HW4:=Lib.hid (HW3.out.trans (u4.below hob HW3.out.size))
     have g0:w4.cell? ⟨w.heap.size,0,none⟩=some (.slice (some ⟨nb,0,none⟩) (Fi.nV p) (Fi.nV p)):=by rw [cell_of_row _ _ _ _ _ _ ((HW4.out.block _ (lt_of_block HF.out)).trans HF.out)]; rfl
     have n0:=(HN1.out.below HW4.out).cell HKV.out
     have he2:=HE2.out
     obtain ⟨nl,hnl⟩:∃ nl,nl=S.null k:=⟨_,rfl⟩
     rw [← hnl] at n0 he2
     have HE3:=Lib.hid he2
     clear hun hs4 u4 HS2 HW3 he2 hnl HE2
     cases nl with
     | true =>
      have HE4:Hid (R=Fi.beg (Fi.nT p) (Q.cnt p) S (l.drop (i+1)) (X|||S.fst k)):=Lib.hid HE3.out
      clear HE3
      go_wp2_with fail
      go_roundg (l.length - (i+1))
      case measure=>have:=HG.out; omega
      case rel=>exact ⟨i+1,_,by go_num,by omega,Lib.hid (by omega),HW4,HS4,HE4⟩
     | false =>
      have HE4:Hid (R=(X|||S.fst k,false)):=Lib.hid HE3.out
      have hli:=list_any q ob p.terms.length _ w4 HS4.out (HT.out.below HW4.out)
      clear HE3
      go_wp2_with fail
      refine hli.mono ?_
      rintro e w5 ⟨a,cap,rfl,ha,hI3,k⟩
      have HI3:=Lib.hid hI3
      have HW5:=Lib.hid (HW4.out.trans (k.mono HW4.out.size))
      clear hli ha hI3 k g0 n0
      go_wp2_with fail
      go_ret2
      rw [HE4.out]
      exact ⟨a,cap,rfl,HI3.out,HB.out.trans (HW5.out.mono HB.out.size)⟩
  ·obtain rfl:i=l.length:=by omega
   have hend:=HE.out
   rw [List.drop_length] at hend
   have HE2:Hid (R=(X,true)):=Lib.hid hend
   have hli:=list_any q ob p.terms.length X wr HS.out (HT.out.below HW.out)
   clear hlt HG HE hend
   go_wp2_with fail
   refine hli.mono ?_
   rintro e w3 ⟨a,cap,rfl,ha,hI3,k⟩
   have HI3:=Lib.hid hI3
   have HW3:=Lib.hid (HW.out.trans (k.mono HW.out.size))
   clear hli ha hI3 k
   go_wp2_with fail
   go_ret2
   rw [HE2.out]
   exact ⟨a,cap,rfl,HI3.out,HB.out.trans (HW3.out.mono HB.out.size)⟩
end Go.Proofs.YtjbggogbnckllaaDoor
end
section
set_option maxRecDepth 100000
namespace Go.Proofs.YtjbggogbnckllaaDoor
open Go.RowKit
set_option linter.unusedVariables false
set_option linter.unusedSimpArgs false
/-- Each of a list is in another one. -/
def allI (x y:List Int):Bool:=x.all fun z=>inI y z
set_option maxRecDepth 100000 in
set_option maxHeartbeats 4000000 in
theorem whole10_any {w:World} {fv v:Value} {p:Pl.Plan} (hf:FaV w fv p) (h:PnV w v p) (hm:p.vars.length≤1000) :
  Calls Tryd.prog 18 #[v,fv] w fun e w'=>e=.returned (.bool true)∧Below w.heap.size w w':=by
 obtain ⟨nb,lb,lc,mb,mc,rfl,f1,f2,f3⟩:=hf
 obtain ⟨ta,tc,va,vc,ra,rc,la,lc2,aa,ac,ca,cc,rfl,h⟩:=h
 generalize (Fi.fs p).2=rd
 have HP0:=PB.new (tc:=tc) (vc:=vc) (rc:=rc) (lc:=lc2) (ac:=ac) (cc:=cc) h
 have k1:=(Below.refl w.heap.size w).alloc (Nat.le_refl _) (.cells (pnC p ta va ra la aa ca tc vc rc lc2 ac cc) 32)
 unfold pnC at HP0 k1
 have k2:=k1.alloc k1.size (.cells #[.slice (some ⟨nb,0,none⟩) (Fi.nV p) (Fi.nV p),.slice (some ⟨lb,0,none⟩) (Fi.nV p) lc,.slice (some ⟨mb,0,none⟩) (Fi.nV p) mc,.int .i64 (rd:Nat)] 37)
 have k3:=(Below.refl _ (w.alloc (.cells #[.slice ta p.terms.length tc,.slice va p.vars.length vc,.slice ra p.rules.length rc,.slice la p.levels.length lc2,.slice aa p.assocs.length ac,.slice ca p.acts.length cc] 32))).alloc (Nat.le_refl _) (.cells #[.slice (some ⟨nb,0,none⟩) (Fi.nV p) (Fi.nV p),.slice (some ⟨lb,0,none⟩) (Fi.nV p) lc,.slice (some ⟨mb,0,none⟩) (Fi.nV p) mc,.int .i64 (rd:Nat)] 37)
 have d1:=(HP0.below k3).c1
 have HB:=Lib.hid k2
 have hF:=heap_alloc_new (w.alloc (.cells #[.slice ta p.terms.length tc,.slice va p.vars.length vc,.slice ra p.rules.length rc,.slice la p.levels.length lc2,.slice aa p.assocs.length ac,.slice ca p.acts.length cc] 32)) (.cells #[.slice (some ⟨nb,0,none⟩) (Fi.nV p) (Fi.nV p),.slice (some ⟨lb,0,none⟩) (Fi.nV p) lc,.slice (some ⟨mb,0,none⟩) (Fi.nV p) mc,.int .i64 (rd:Nat)] 37)
 rw [World.size_alloc] at hF
 have hn:Fi.nV p=p.vars.length+1:=rfl
 rw [hn] at d1 HB hF ⊢
 have g0:((w.alloc (.cells #[.slice ta p.terms.length tc,.slice va p.vars.length vc,.slice ra p.rules.length rc,.slice la p.levels.length lc2,.slice aa p.assocs.length ac,.slice ca p.acts.length cc] 32)).alloc (.cells #[.slice (some ⟨nb,0,none⟩) (p.vars.length+1) (p.vars.length+1),.slice (some ⟨lb,0,none⟩) (p.vars.length+1) lc,.slice (some ⟨mb,0,none⟩) (p.vars.length+1) mc,.int .i64 (rd:Nat)] 37)).cell? ⟨w.heap.size+1,0,none⟩=some (.slice (some ⟨nb,0,none⟩) (p.vars.length+1) (p.vars.length+1)):=by rw [cell_of_row _ _ _ _ _ _ hF]; rfl
 have g1:((w.alloc (.cells #[.slice ta p.terms.length tc,.slice va p.vars.length vc,.slice ra p.rules.length rc,.slice la p.levels.length lc2,.slice aa p.assocs.length ac,.slice ca p.acts.length cc] 32)).alloc (.cells #[.slice (some ⟨nb,0,none⟩) (p.vars.length+1) (p.vars.length+1),.slice (some ⟨lb,0,none⟩) (p.vars.length+1) lc,.slice (some ⟨mb,0,none⟩) (p.vars.length+1) mc,.int .i64 (rd:Nat)] 37)).cell? ⟨w.heap.size+1,1,none⟩=some (.slice (some ⟨lb,0,none⟩) (p.vars.length+1) lc):=by rw [cell_of_row _ _ _ _ _ _ hF]; rfl
 have g2:((w.alloc (.cells #[.slice ta p.terms.length tc,.slice va p.vars.length vc,.slice ra p.rules.length rc,.slice la p.levels.length lc2,.slice aa p.assocs.length ac,.slice ca p.acts.length cc] 32)).alloc (.cells #[.slice (some ⟨nb,0,none⟩) (p.vars.length+1) (p.vars.length+1),.slice (some ⟨lb,0,none⟩) (p.vars.length+1) lc,.slice (some ⟨mb,0,none⟩) (p.vars.length+1) mc,.int .i64 (rd:Nat)] 37)).cell? ⟨w.heap.size+1,2,none⟩=some (.slice (some ⟨mb,0,none⟩) (p.vars.length+1) mc):=by rw [cell_of_row _ _ _ _ _ _ hF]; rfl
 clear HP0 h k1 k2 k3 f1 f2 f3 hF hn
 go_enter Tryd.func18,Tryd.ntmps18
 go_wp2_with fail
 go_ret
 exact ⟨rfl,HB.out⟩
end Go.Proofs.YtjbggogbnckllaaDoor
end
