/-
  Walks of the reference of chapter 10: blank, Begin; its facts in memory.
-/
import Derived.Test.YtjbggogbnckllaaDoorTa
namespace Go.Proofs.YtjbggogbnckllaaDoor
open Go.RowKit
set_option linter.unusedVariables false
set_option linter.unusedSimpArgs false
theorem elt_brow:Elt Tryd.prog 52 34 1 24 where
 ht:=Tryd.underlying52
 hi:=by
  have h:(Tryd.prog.info? 34).map (fun i=>(i.zero.map (fun z=>z.cells.size),i.size,i.bytes))=some (some 1,1,24):=by kernel_rfl
  cases hi:Tryd.prog.info? 34 with
  | none=>simp [hi] at h
  | some i =>
   simp [hi] at h
   obtain ⟨⟨z,hz,hz1⟩,h2,h3⟩:=h
   exact ⟨i,z,rfl,hz,h2,h3,hz1⟩
 hsz:=by decide
def rowC (k n:Nat) (pt:Nat→Nat):List Value:=(List.range k).map fun i=>.slice (some ⟨pt i,0,none⟩) n n
theorem rowC_snoc (k n:Nat) (pt:Nat→Nat) (p:Nat):rowC (k+1) n (Q.up pt k p)=rowC k n pt++[.slice (some ⟨p,0,none⟩) n n]:=by
 unfold rowC
 rw [List.range_succ,List.map_append]
 congr 1
 ·refine List.map_congr_left fun i hi=>?_
  have:=List.mem_range.1 hi
  rw [Q.up_ne _ _ (by omega)]
 ·simp [Q.up_same]
/-- A row of rows. -/
def Srr (w:World) (b c n:Nat) (pt:Nat→Nat):Prop:=∃ cs:Array Value,w.heap[b]?=some (.cells cs 34 (0,0))∧∀ i,i < c→cs[i]?=some (.slice (some ⟨pt i,0,none⟩) n n)
section
variable {w w':World} {b c n:Nat} {pt:Nat→Nat}
theorem Srr.lt (h:Srr w b c n pt):b < w.heap.size:=by obtain ⟨_,e,_⟩:=h; exact lt_of_block e
theorem Srr.kept (h:Srr w b c n pt) (k:w'.heap[b]?=w.heap[b]?):Srr w' b c n pt:=by obtain ⟨cs,e,h⟩:=h; exact ⟨cs,k.trans e,h⟩
theorem Srr.below (h:Srr w b c n pt) (k:Below w.heap.size w w'):Srr w' b c n pt:=h.kept (k.block _ h.lt)
theorem Srr.cell (h:Srr w b c n pt) {i:Nat} (hi:i < c):w.cell? ⟨b,i,none⟩=some (.slice (some ⟨pt i,0,none⟩) n n):=by
 obtain ⟨cs,e,h⟩:=h
 rw [cell_of_row _ _ _ _ _ _ e]; exact h i hi
theorem Srr.ext {pt':Nat→Nat} (h:Srr w b c n pt) (e:∀ i,i < c→pt i=pt' i):Srr w b c n pt':=by
 obtain ⟨cs,e',h⟩:=h
 exact ⟨cs,e',fun i hi=>by rw [← e i hi]; exact h i hi⟩
end
theorem srr_of {w:World} {base c n cap g:Nat} {pt:Nat→Nat} (h:w.ownsRow base 34 1 (.slice (some ⟨g,0,none⟩) c cap) c (rowC c n pt)):Srr w g c n pt∧base≤g:=by
 rcases h.2 with ⟨e,_⟩ | ⟨g',cap',cur,e,hb,hh,h1,h2,h3,h4⟩
 ·cases e
 ·cases e
  refine ⟨⟨cur,hh,fun i hi=>?_⟩,hb⟩
  have:=congrArg (fun l=>l[i]?) h4
  simp only [Nat.mul_one,List.getElem?_take,if_pos hi,rowC,List.getElem?_map,List.getElem?_range hi,Option.map_some] at this
  rw [← Array.getElem?_toList]
  exact this
/-- Many rows of truths, each its own. -/
structure Bam (w:World) (B n c:Nat) (pt:Nat→Nat) (val:Nat→Nat):Prop where
 set:∀ i,i < c→Bit w (pt i) n (val i)
 low:∀ i,i < c→B≤pt i
 dis:∀ i j,i < c→j < c→i≠j→pt i≠pt j
section
variable {w w':World} {B n c:Nat} {pt val:Nat→Nat}
theorem Bam.kept (h:Bam w B n c pt val) (k:∀ i,i < c→w'.heap[pt i]?=w.heap[pt i]?):Bam w' B n c pt val:=⟨fun i hi=>Brr.kept (h.set i hi) (k i hi),h.low,h.dis⟩
theorem Bam.below (h:Bam w B n c pt val) (k:Below w.heap.size w w'):Bam w' B n c pt val:=h.kept fun i hi=>k.block _ (Brr.lt (h.set i hi))
theorem Bam.put (h:Bam w B n c pt val) {k X:Nat} (hk:k < c) (u:Upd (pt k) w w') (hs:Bit w' (pt k) n X):Bam w' B n c pt (Q.up val k X):=by
 refine ⟨fun i hi=>?_,h.low,h.dis⟩
 by_cases e:i=k
 ·subst e; rw [Q.up_same]; exact hs
 ·rw [Q.up_ne _ _ e]
  exact Brr.kept (h.set i hi) (u.block _ (Brr.lt (h.set i hi)) (h.dis i k hi hk e))
theorem Bam.ext {val':Nat→Nat} (h:Bam w B n c pt val) (e:∀ i,i < c→val i=val' i):Bam w B n c pt val':=⟨fun i hi=>by rw [← e i hi]; exact h.set i hi,h.low,h.dis⟩
theorem Bam.snoc (h:Bam w B n c pt val) {g X:Nat} (hs:Bit w g n X) (hB:B≤g) (hd:∀ i,i < c→pt i≠g):Bam w B n (c+1) (Q.up pt c g) (Q.up val c X):=by
 have key:∀ i,i < c→Q.up pt c g i=pt i:=fun i hi=>Q.up_ne _ _ (by omega)
 refine ⟨fun i hi=>?_,fun i hi=>?_,fun i j hi hj hne=>?_⟩
 ·by_cases e:i=c
  ·subst e; rw [Q.up_same,Q.up_same]; exact hs
  ·rw [Q.up_ne _ _ e,Q.up_ne _ _ e]; exact h.set i (by omega)
 ·by_cases e:i=c
  ·subst e; rw [Q.up_same]; exact hB
  ·rw [Q.up_ne _ _ e]; exact h.low i (by omega)
 ·by_cases e:i=c
  ·subst e
   rw [Q.up_same,Q.up_ne _ _ (Ne.symm hne)]
   exact Ne.symm (hd j (by omega))
  ·rw [Q.up_ne _ _ e]
   by_cases e2:j=c
   ·subst e2; rw [Q.up_same]; exact hd i (by omega)
   ·rw [Q.up_ne _ _ e2]; exact h.dis i j (by omega) (by omega) hne
theorem Bam.grown {base size m:Nat} {e:TypeId} {v:Value} {xs:List Value} (h:Bam w B n c pt val) (ho:w.ownsRow base e size v m xs) (hg:w.grownBy w' v.ownBlock) (h1:e≠4):Bam w' B n c pt val :=
 h.kept fun i hi=>by
  obtain ⟨cs,e',_⟩:=h.set i hi
  refine hg.block _ (lt_of_block e') (fun he=>?_)
  rcases ho.2 with ⟨rfl,_⟩ | ⟨g,cap,cur,rfl,_,hh,_⟩
  ·cases he
  ·have:pt i=g:=Option.some.inj he
   exact ne_of_types e' hh (Ne.symm h1) this
theorem Bam.join {c1 c2:Nat} {p1 v1 p2 v2:Nat→Nat} (h:Bam w B n c1 p1 v1) (k:Bam w B n c2 p2 v2) (hd:∀ i j,i < c1→j < c2→p1 i≠p2 j) :
  Bam w B n (c1+c2) (vv c1 p1 p2) (vv c1 v1 v2):=by
 refine ⟨fun i hi=>?_,fun i hi=>?_,fun i j hi hj hne=>?_⟩
 ·by_cases e:i < c1
  ·rw [vv_lt e,vv_lt e]; exact h.set i e
  ·obtain ⟨j,rfl⟩:∃ j,i=c1+j:=⟨i - c1,by omega⟩
   rw [vv_ge,vv_ge]; exact k.set j (by omega)
 ·by_cases e:i < c1
  ·rw [vv_lt e]; exact h.low i e
  ·obtain ⟨j,rfl⟩:∃ j,i=c1+j:=⟨i - c1,by omega⟩
   rw [vv_ge]; exact k.low j (by omega)
 ·by_cases e:i < c1
  ·rw [vv_lt e]
   by_cases e2:j < c1
   ·rw [vv_lt e2]; exact h.dis i j e e2 hne
   ·obtain ⟨j,rfl⟩:∃ j',j=c1+j':=⟨j - c1,by omega⟩
    rw [vv_ge]; exact hd i j e (by omega)
  ·obtain ⟨i,rfl⟩:∃ i',i=c1+i':=⟨i - c1,by omega⟩
   rw [vv_ge]
   by_cases e2:j < c1
   ·rw [vv_lt e2]; exact Ne.symm (hd j i e2 (by omega))
   ·obtain ⟨j,rfl⟩:∃ j',j=c1+j':=⟨j - c1,by omega⟩
    rw [vv_ge]; exact k.dis i j (by omega) (by omega) (by omega)
end
theorem bit_made (w:World) (n:Nat):Bit (w.alloc (.cells (madeCells #[.bool false] n) 4)) w.heap.size n 0:=(Brr.made w n).ext (fun i _=>by simp)
set_option maxRecDepth 100000 in
set_option maxHeartbeats 8000000 in
theorem blank10_any {w:World} {v:Value} {p:Pl.Plan} (h:PnV w v p) (ho:Q.OK p) :
  Calls Tryd.prog 49 #[v] w fun e w'=>∃ fb cap pt,e=.returned (.slice (some ⟨fb,0,none⟩) (Fi.nV p) cap)∧Srr w' fb (Fi.nV p) (Fi.nT p) pt∧Bam w' w.heap.size (Fi.nT p) (Fi.nV p) pt (fun _=>0)∧w.heap.size≤fb∧Below w.heap.size w w':=by
 obtain ⟨ta,tc,va,vc,ra,rc,la,lc,aa,ac,ca,cc,rfl,h⟩:=h
 have HP0:=PB.new (tc:=tc) (vc:=vc) (rc:=rc) (lc:=lc) (ac:=ac) (cc:=cc) h
 have k:=(Below.refl w.heap.size w).alloc (Nat.le_refl _) (.cells (pnC p ta va ra la aa ca tc vc rc lc ac cc) 32)
 have HB:=Lib.hid k
 unfold pnC at HP0 HB
 have HP:=Lib.hid HP0
 have hnb:=ho.nb
 have hmb:=ho.m
 clear HP0 h k ho
 go_enter Tryd.func49,Tryd.ntmps49
 go_wp2_with fail
 generalize w.alloc (.cells #[.slice ta p.terms.length tc,.slice va p.vars.length vc,.slice ra p.rules.length rc,.slice la p.levels.length lc,.slice aa p.assocs.length ac,.slice ca p.acts.length cc] 32)=V at HP HB ⊢
 generalize hpb:w.heap.size=pb at HP ⊢
 have HPB:=Lib.hid hpb
 clear hpb
 go_loopg [3,4] (p.vars.length+1) (fun gk ov iv wr=>∃ (k:Nat) (pt:Nat→Nat),iv=.int .i64 k∧k≤p.vars.length+1∧Hid (gk+k=p.vars.length+1)∧Hid (wr.ownsRow V.heap.size 34 1 ov k (rowC k p.terms.length pt))∧Hid (Bam wr V.heap.size p.terms.length k pt (fun _=>0))∧Hid (Below V.heap.size V wr))
 case atStart=>exact ⟨0,fun _=>0,rfl,by omega,Lib.hid (by omega),Lib.hid (World.ownsRow_nil _ _ _ _),Lib.hid ⟨fun i hi=>absurd hi (Nat.not_lt_zero _),fun i hi=>absurd hi (Nat.not_lt_zero _),fun i j hi=>absurd hi (Nat.not_lt_zero _)⟩,Lib.hid (Below.refl _ _)⟩
 case round =>
  obtain ⟨k,pt,rfl,hk,HG,HO,HF,HL⟩:=hrel
  have c0:=(HP.out.below HL.out).c0
  have c1:=(HP.out.below HL.out).c1
  by_cases hlt:k < p.vars.length+1
  ·have hkk:k≤p.vars.length:=by omega
   have hmk:=make_bools p.terms.length (by omega) wr
   have hA:=(Below.refl wr.heap.size wr).alloc (Nat.le_refl _) (.cells (madeCells #[.bool false] p.terms.length) 4)
   have HO2:=Lib.hid (owns_below HO.out hA)
   have HF2:=Lib.hid ((HF.out.below hA).snoc (bit_made wr p.terms.length) (by have:=HL.out.size; omega) (fun i hi=>by have:=Brr.lt (HF.out.set i hi); omega))
   have HL2:=Lib.hid (HL.out.trans (hA.mono HL.out.size))
   have hs1:(wr.alloc (.cells (madeCells #[.bool false] p.terms.length) 4)).heap.size=wr.heap.size+1:=World.size_alloc _ _
   have HO3:=Lib.hid (HO2.out.alloc (.cells #[.slice (some ⟨wr.heap.size,0,none⟩) p.terms.length p.terms.length] 34))
   have HF3:=Lib.hid (HF2.out.below ((Below.refl _ _).alloc (Nat.le_refl _) (.cells #[.slice (some ⟨wr.heap.size,0,none⟩) p.terms.length p.terms.length] 34)))
   have hsz:=HL2.out.size
   have HL3:=Lib.hid (HL2.out.alloc hsz (.cells #[.slice (some ⟨wr.heap.size,0,none⟩) p.terms.length p.terms.length] 34))
   clear hA HO HF HL
   go_wp2_with (refine list_append_one rfl _ _ _ rfl 34 V.heap.size 1 24 elt_brow _ k (rowC k p.terms.length pt) rfl HO3.out ⟨wr.heap.size+1,0,none⟩ 1 [.slice (some ⟨wr.heap.size,0,none⟩) p.terms.length p.terms.length] rfl rfl (by rw [← hs1]; exact World.news_of_block (cs:=#[.slice (some ⟨wr.heap.size,0,none⟩) p.terms.length p.terms.length]) (t:=34) (fr:=(0,0)) (heap_alloc_new _ _)) (by simp [Value.oneCell']) (by unfold maxLen; omega) (by omega) (by simp; omega) ?_; intro bg bcap wg hog hgg hb1 hb2 hb3; have HL4:=Lib.hid (HL3.out.trans (below_own HO3.out (by simp; omega) hgg)); have HF4:=Lib.hid (HF3.out.grown HO3.out hgg (by decide)); have HO4:=Lib.hid hog; clear hog hgg hb3)
   go_roundg (p.vars.length+1 - (k+1))
   case measure=>have:=HG.out; omega
   case rel=>exact ⟨k+1,Q.up pt k wr.heap.size,by go_num,by omega,Lib.hid (by omega),Lib.hid (by rw [rowC_snoc]; exact HO4.out),Lib.hid (HF4.out.ext (fun i hi=>by unfold Q.up; split<;>rfl)),HL4⟩
  ·obtain rfl:k=p.vars.length+1:=by omega
   clear hlt HG
   go_wp2_with fail
   go_ret
   obtain ⟨fb,cap,rfl,_⟩:=World.ownsRow.form HO.out (by omega)
   obtain ⟨hp1,hp2⟩:=srr_of HO.out
   have hv:w.heap.size≤V.heap.size:=by have:=HB.out.size; have:=HPB.out; omega
   have hbw:Below w.heap.size w wr:=by
    have h:=HB.out.trans (HL.out.mono HB.out.size)
    first | exact h | (rw [HPB.out]; exact h) | (rw [← HPB.out] at h; exact h)
   exact ⟨fb,cap,pt,rfl,hp1,⟨HF.out.set,fun i hi=>Nat.le_trans hv (HF.out.low i hi),HF.out.dis⟩,Nat.le_trans hv hp2,hbw⟩
/-- The facts of the reference. -/
structure FA (w:World) (B:Nat) (p:Pl.Plan) (f nb fb gb fc gc:Nat) (pt:Nat→Nat) (null:Nat→Bool) (val:Nat→Nat) (rd:Nat):Prop where
 row:w.heap[f]?=some (.cells #[.slice (some ⟨nb,0,none⟩) (Fi.nV p) (Fi.nV p),.slice (some ⟨fb,0,none⟩) (Fi.nV p) fc,.slice (some ⟨gb,0,none⟩) (Fi.nV p) gc,.int .i64 (rd:Nat)] 54 (0,0))
 n:Brr w nb (Fi.nV p) null
 sf:Srr w fb (Fi.nV p) (Fi.nT p) pt
 sg:Srr w gb (Fi.nV p) (Fi.nT p) (fun i=>pt (Fi.nV p+i))
 bam:Bam w B (Fi.nT p) (2*Fi.nV p) pt val
 nn:∀ i,i < 2*Fi.nV p→nb≠pt i
 lo:B≤f∧B≤nb∧B≤fb∧B≤gb
 lt:∀ i,i < 2*Fi.nV p→val i < 2 ^ Fi.nT p
section
variable {w w':World} {B f nb fb gb fc gc rd:Nat} {p:Pl.Plan} {pt:Nat→Nat} {null:Nat→Bool} {val:Nat→Nat}
theorem FA.below (h:FA w B p f nb fb gb fc gc pt null val rd) (k:Below w.heap.size w w'):FA w' B p f nb fb gb fc gc pt null val rd :=
 ⟨(k.block _ (lt_of_block h.row)).trans h.row,h.n.below k,h.sf.below k,h.sg.below k,h.bam.below k,h.nn,h.lo,h.lt⟩
theorem FA.c0 (h:FA w B p f nb fb gb fc gc pt null val rd):w.cell? ⟨f,0,none⟩=some (.slice (some ⟨nb,0,none⟩) (Fi.nV p) (Fi.nV p)):=by rw [cell_of_row _ _ _ _ _ _ h.row]; rfl
theorem FA.c1 (h:FA w B p f nb fb gb fc gc pt null val rd):w.cell? ⟨f,1,none⟩=some (.slice (some ⟨fb,0,none⟩) (Fi.nV p) fc):=by rw [cell_of_row _ _ _ _ _ _ h.row]; rfl
theorem FA.c2 (h:FA w B p f nb fb gb fc gc pt null val rd):w.cell? ⟨f,2,none⟩=some (.slice (some ⟨gb,0,none⟩) (Fi.nV p) gc):=by rw [cell_of_row _ _ _ _ _ _ h.row]; rfl
theorem FA.c3 (h:FA w B p f nb fb gb fc gc pt null val rd):w.cell? ⟨f,3,none⟩=some (.int .i64 (rd:Nat)):=by rw [cell_of_row _ _ _ _ _ _ h.row]; rfl
theorem FA.fz (h:FA w B p f nb fb gb fc gc pt null val rd) (j:Nat):w.frozen? ⟨f,j,none⟩=false:=frozen_of_row _ _ _ _ _ h.row
/-- A row alone is another one. -/
theorem FA.put (h:FA w B p f nb fb gb fc gc pt null val rd) {k X:Nat} (hk:k < 2*Fi.nV p) (u:Upd (pt k) w w') (hs:Bit w' (pt k) (Fi.nT p) X) (hX:X < 2 ^ Fi.nT p):FA w' B p f nb fb gb fc gc pt null (Q.up val k X) rd:=by
 have hb:=h.bam.set k hk
 obtain ⟨cs,hb0,_⟩:=hb
 obtain ⟨cf,hf0,_⟩:=h.sf
 obtain ⟨cg,hg0,_⟩:=h.sg
 have n1:f≠pt k:=ne_of_types h.row hb0 (by decide)
 have n2:fb≠pt k:=ne_of_types hf0 hb0 (by decide)
 have n3:gb≠pt k:=ne_of_types hg0 hb0 (by decide)
 exact ⟨(u.block _ (lt_of_block h.row) n1).trans h.row,h.n.upd u (h.nn k hk),h.sf.kept (u.block _ h.sf.lt n2),h.sg.kept (u.block _ h.sg.lt n3),h.bam.put hk u hs,h.nn,h.lo,fun i hi=>by
  by_cases e:i=k
  ·subst e; rw [Q.up_same]; exact hX
  ·rw [Q.up_ne _ _ e]; exact h.lt i hi⟩
theorem FA.setNull (h:FA w B p f nb fb gb fc gc pt null val rd) (i:Nat) (v:Bool):FA (w.setCell ⟨nb,i,none⟩ (.bool v)) B p f nb fb gb fc gc pt (Q.up null i v) val rd:=by
 have u:=(Upd.refl nb w).setCell ⟨nb,i,none⟩ rfl (.bool v)
 obtain ⟨cs,hn0,_⟩:=h.n
 obtain ⟨cf,hf0,_⟩:=h.sf
 obtain ⟨cg,hg0,_⟩:=h.sg
 have n1:f≠nb:=ne_of_types h.row hn0 (by decide)
 have n2:fb≠nb:=ne_of_types hf0 hn0 (by decide)
 have n3:gb≠nb:=ne_of_types hg0 hn0 (by decide)
 exact ⟨(u.block _ (lt_of_block h.row) n1).trans h.row,h.n.set i v,h.sf.kept (u.block _ h.sf.lt n2),h.sg.kept (u.block _ h.sg.lt n3),h.bam.kept (fun j hj=>u.block _ (Brr.lt (h.bam.set j hj)) (Ne.symm (h.nn j hj))),h.nn,h.lo,h.lt⟩
theorem FA.setRd (h:FA w B p f nb fb gb fc gc pt null val rd) (r:Nat):FA (w.setCell ⟨f,3,none⟩ (.int .i64 (r:Nat))) B p f nb fb gb fc gc pt null val r:=by
 have u:=(Upd.refl f w).setCell ⟨f,3,none⟩ rfl (.int .i64 (r:Nat))
 obtain ⟨cs,hn0,_⟩:=h.n
 obtain ⟨cf,hf0,_⟩:=h.sf
 obtain ⟨cg,hg0,_⟩:=h.sg
 have n1:nb≠f:=Ne.symm (ne_of_types h.row hn0 (by decide))
 have n2:fb≠f:=Ne.symm (ne_of_types h.row hf0 (by decide))
 have n3:gb≠f:=Ne.symm (ne_of_types h.row hg0 (by decide))
 exact ⟨heap_setCell_same _ _ _ _ _ _ h.row,h.n.upd u n1,h.sf.kept (u.block _ h.sf.lt n2),h.sg.kept (u.block _ h.sg.lt n3),h.bam.kept (fun j hj=>by
  obtain ⟨_,hb0,_⟩:=h.bam.set j hj
  exact u.block _ (Brr.lt (h.bam.set j hj)) (Ne.symm (ne_of_types h.row hb0 (by decide)))),h.nn,h.lo,h.lt⟩
theorem FA.ext {null':Nat→Bool} {val':Nat→Nat} (h:FA w B p f nb fb gb fc gc pt null val rd) (e:∀ i,i < Fi.nV p→null i=null' i) (e':∀ i,i < 2*Fi.nV p→val i=val' i):FA w B p f nb fb gb fc gc pt null' val' rd :=
 ⟨h.row,h.n.ext e,h.sf,h.sg,h.bam.ext e',h.nn,h.lo,fun i hi=>by rw [← e' i hi]; exact h.lt i hi⟩
end
end Go.Proofs.YtjbggogbnckllaaDoor
