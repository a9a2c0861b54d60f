/-
  The facts of chapter 10 in memory, while they grow.
  Walks of chapter 10: a variable's place; what a sequence begins with.
  Walks of chapter 10: one round.
  Walks of chapter 10: one round of what comes behind.
-/
import Derived.Test.YtjbggogbnckllaaDoorBa
import Derived.Test.YtjbggogbnckllaaDoorAb
import Derived.Test.YtjbggogbnckllaaDoorAq
section
set_option maxRecDepth 100000
namespace Go.Proofs.YtjbggogbnckllaaDoor
open Go.RowKit
set_option linter.unusedVariables false
set_option linter.unusedSimpArgs false
theorem ne_of_types {w:World} {b b':Nat} {cs cs':Array Value} {t t':TypeId} {f f':Nat×Nat} (h:w.heap[b]?=some (.cells cs t f)) (h':w.heap[b']?=some (.cells cs' t' f')) (ht:t≠t'):b≠b':=by
 intro e
 subst e
 rw [h] at h'
 injection h' with h'
 injection h' with _ h2 _
 exact ht h2
/-- A row of pointers. -/
def Prr (w:World) (b c:Nat) (pt:Nat→Nat):Prop:=∃ cs:Array Value,w.heap[b]?=some (.cells cs 85 (0,0))∧∀ i,i < c→cs[i]?=some (.pointer (some ⟨pt i,0,none⟩))
section
variable {w w':World} {b c:Nat} {pt:Nat→Nat}
theorem Prr.lt (h:Prr w b c pt):b < w.heap.size:=by obtain ⟨_,e,_⟩:=h; exact lt_of_block e
theorem Prr.kept (h:Prr w b c pt) (k:w'.heap[b]?=w.heap[b]?):Prr w' b c pt:=by obtain ⟨cs,e,h⟩:=h; exact ⟨cs,k.trans e,h⟩
theorem Prr.below (h:Prr w b c pt) (k:Below w.heap.size w w'):Prr w' b c pt:=h.kept (k.block _ h.lt)
theorem Prr.cell (h:Prr w b c pt) {i:Nat} (hi:i < c):w.cell? ⟨b,i,none⟩=some (.pointer (some ⟨pt i,0,none⟩)):=by
 obtain ⟨cs,e,h⟩:=h
 rw [cell_of_row _ _ _ _ _ _ e]; exact h i hi
theorem Prr.ext {pt':Nat→Nat} (h:Prr w b c pt) (e:∀ i,i < c→pt i=pt' i):Prr w b c pt':=by
 obtain ⟨cs,e',h⟩:=h
 exact ⟨cs,e',fun i hi=>by rw [← e i hi]; exact h i hi⟩
end
/-- Many sets, each with words of its own. -/
structure Fam (w:World) (B n c:Nat) (pt bk:Nat→Nat) (val:Nat→Nat):Prop where
 set:∀ i,i < c→SetAt w (pt i) (bk i) n (val i)
 low:∀ i,i < c→B≤bk i
 dis:∀ i j,i < c→j < c→i≠j→bk i≠bk j
section
variable {w w':World} {B n c:Nat} {pt bk:Nat→Nat} {val:Nat→Nat}
theorem Fam.ne (h:Fam w B n c pt bk val) {i j:Nat} (hi:i < c) (hj:j < c):pt i≠bk j:=by
 obtain ⟨_,e1⟩:=(h.set i hi).box
 obtain ⟨_,e2,_⟩:=(h.set j hj).row
 exact ne_of_types e1 e2 (by decide)
theorem Fam.kept (h:Fam w B n c pt bk val) (h1:∀ i,i < c→w'.heap[pt i]?=w.heap[pt i]?) (h2:∀ i,i < c→w'.heap[bk i]?=w.heap[bk i]?):Fam w' B n c pt bk val :=
 ⟨fun i hi=>(h.set i hi).kept (h1 i hi) (h2 i hi),h.low,h.dis⟩
theorem Fam.below (h:Fam w B n c pt bk val) (k:Below w.heap.size w w'):Fam w' B n c pt bk val :=
 h.kept (fun i hi=>k.block _ (h.set i hi).plt) (fun i hi=>k.block _ (h.set i hi).blt)
/-- A set alone is another one. -/
theorem Fam.put (h:Fam w B n c pt bk val) {k X:Nat} (hk:k < c) (u:Upd (bk k) w w') (hs:SetAt w' (pt k) (bk k) n X):Fam w' B n c pt bk (Q.up val k X):=by
 refine ⟨fun i hi=>?_,h.low,h.dis⟩
 by_cases e:i=k
 ·subst e
  rw [Q.up_same]; exact hs
 ·rw [Q.up_ne _ _ e]
  exact (h.set i hi).upd u (h.ne hi hk) (h.dis i k hi hk e)
/-- A block of another type is written. -/
theorem Fam.other (h:Fam w B n c pt bk val) {b:Nat} (u:Upd b w w') {cs:Array Value} {t:TypeId} {f:Nat×Nat} (hb:w.heap[b]?=some (.cells cs t f)) (h1:t≠118) (h2:t≠121):Fam w' B n c pt bk val :=
 h.kept (fun i hi=>u.block _ (h.set i hi).plt (by obtain ⟨_,e⟩:=(h.set i hi).box; exact ne_of_types e hb (Ne.symm h2)))
  (fun i hi=>u.block _ (h.set i hi).blt (by obtain ⟨_,e,_⟩:=(h.set i hi).row; exact ne_of_types e hb (Ne.symm h1)))
theorem Fam.ext {val':Nat→Nat} (h:Fam w B n c pt bk val) (e:∀ i,i < c→val i=val' i):Fam w B n c pt bk val' :=
 ⟨fun i hi=>by rw [← e i hi]; exact h.set i hi,h.low,h.dis⟩
/-- One more. -/
theorem Fam.snoc (h:Fam w B n c pt bk val) {p b X:Nat} (hs:SetAt w p b n X) (hB:B≤b) (hd:∀ i,i < c→bk i≠b):Fam w B n (c+1) (Q.up pt c p) (Q.up bk c b) (Q.up val c X):=by
 refine ⟨fun i hi=>?_,fun i hi=>?_,fun i j hi hj hij=>?_⟩
 ·by_cases e:i=c
  ·subst e; rw [Q.up_same,Q.up_same,Q.up_same]; exact hs
  ·rw [Q.up_ne _ _ e,Q.up_ne _ _ e,Q.up_ne _ _ e]; exact h.set i (by omega)
 ·by_cases e:i=c
  ·subst e; rw [Q.up_same]; exact hB
  ·rw [Q.up_ne _ _ e]; exact h.low i (by omega)
 ·by_cases e:i=c
  ·subst e
   rw [Q.up_same,Q.up_ne _ _ (by omega)]
   exact Ne.symm (hd j (by omega))
  ·by_cases e':j=c
   ·subst e'
    rw [Q.up_same,Q.up_ne _ _ e]
    exact hd i (by omega)
   ·rw [Q.up_ne _ _ e,Q.up_ne _ _ e']
    exact h.dis i j (by omega) (by omega) hij
/-- Two families. -/
theorem Fam.join {c1 c2:Nat} {p1 b1 v1 p2 b2 v2:Nat→Nat} (h:Fam w B n c1 p1 b1 v1) (k:Fam w B n c2 p2 b2 v2) (hd:∀ i j,i < c1→j < c2→b1 i≠b2 j) :
  Fam w B n (c1+c2) (fun i=>if i < c1 then p1 i else p2 (i - c1)) (fun i=>if i < c1 then b1 i else b2 (i - c1)) (fun i=>if i < c1 then v1 i else v2 (i - c1)):=by
 refine ⟨fun i hi=>?_,fun i hi=>?_,fun i j hi hj hij=>?_⟩
 ·by_cases e:i < c1
  ·simp only [if_pos e]; exact h.set i e
  ·simp only [if_neg e]; exact k.set _ (by omega)
 ·by_cases e:i < c1
  ·simp only [if_pos e]; exact h.low i e
  ·simp only [if_neg e]; exact k.low _ (by omega)
 ·by_cases e:i < c1
  ·by_cases e':j < c1
   ·simp only [if_pos e,if_pos e']; exact h.dis i j e e' hij
   ·simp only [if_pos e,if_neg e']; exact hd i _ e (by omega)
  ·by_cases e':j < c1
   ·simp only [if_neg e,if_pos e']; exact Ne.symm (hd j _ e' (by omega))
   ·simp only [if_neg e,if_neg e']; exact k.dis _ _ (by omega) (by omega) (by omega)
end
/-- The state of the walk: the variable at sb, its rows, the sets. What the i-th variable begins with is val i, what comes behind it val (c + i). -/
structure SS (U w:World) (p:Pl.Plan) (sb nb fb gb fc gc:Nat) (ta va ra la aa ca:Option Addr) (tc vc rc lc ac cc:Nat) (pt bk:Nat→Nat) (null:Nat→Bool) (val:Nat→Nat):Prop where
 base:Below U.heap.size U w
 a:PnA U p ta va ra la aa ca
 tab:Tab U
 box:w.heap[sb]?=some (.cells #[.slice ta p.terms.length tc,.slice va p.vars.length vc,.slice ra p.rules.length rc,.slice la p.levels.length lc,.slice aa p.assocs.length ac,.slice ca p.acts.length cc,.slice (some ⟨nb,0,none⟩) (Fi.nV p) (Fi.nV p),.slice (some ⟨fb,0,none⟩) (Fi.nV p) fc,.slice (some ⟨gb,0,none⟩) (Fi.nV p) gc] 84 (0,0))
 fam:Fam w U.heap.size (Fi.nT p) (2*Fi.nV p) pt bk val
 fst:Prr w fb (Fi.nV p) pt
 fol:Prr w gb (Fi.nV p) (fun i=>pt (Fi.nV p+i))
 nul:Brr w nb (Fi.nV p) null
 nB:U.heap.size≤nb
section
variable {U w w':World} {p:Pl.Plan} {sb nb fb gb fc gc:Nat} {ta va ra la aa ca:Option Addr} {tc vc rc lc ac cc:Nat} {pt bk:Nat→Nat} {null:Nat→Bool} {val:Nat→Nat}
theorem SS.tabw (h:SS U w p sb nb fb gb fc gc ta va ra la aa ca tc vc rc lc ac cc pt bk null val):Tab w:=h.tab.below h.base
theorem SS.pn (h:SS U w p sb nb fb gb fc gc ta va ra la aa ca tc vc rc lc ac cc pt bk null val):PnA w p ta va ra la aa ca:=h.a.below h.base
theorem SS.tne (h:SS U w p sb nb fb gb fc gc ta va ra la aa ca tc vc rc lc ac cc pt bk null val) {k:Nat} (hk:k < 2*Fi.nV p):0≠bk k:=by
 have h1:=h.tab.lt
 have h2:=h.fam.low k hk
 omega
theorem SS.cells (h:SS U w p sb nb fb gb fc gc ta va ra la aa ca tc vc rc lc ac cc pt bk null val) :
  w.cell? ⟨sb,0,none⟩=some (.slice ta p.terms.length tc)∧w.cell? ⟨sb,1,none⟩=some (.slice va p.vars.length vc)∧w.cell? ⟨sb,2,none⟩=some (.slice ra p.rules.length rc)∧w.cell? ⟨sb,3,none⟩=some (.slice la p.levels.length lc) ∧
  w.cell? ⟨sb,4,none⟩=some (.slice aa p.assocs.length ac)∧w.cell? ⟨sb,5,none⟩=some (.slice ca p.acts.length cc)∧w.cell? ⟨sb,6,none⟩=some (.slice (some ⟨nb,0,none⟩) (Fi.nV p) (Fi.nV p))∧w.cell? ⟨sb,7,none⟩=some (.slice (some ⟨fb,0,none⟩) (Fi.nV p) fc) ∧
  w.cell? ⟨sb,8,none⟩=some (.slice (some ⟨gb,0,none⟩) (Fi.nV p) gc):=by
 refine ⟨?_,?_,?_,?_,?_,?_,?_,?_,?_⟩<;>· rw [cell_of_row _ _ _ _ _ _ h.box]; rfl
theorem SS.below (h:SS U w p sb nb fb gb fc gc ta va ra la aa ca tc vc rc lc ac cc pt bk null val) (k:Below w.heap.size w w'):SS U w' p sb nb fb gb fc gc ta va ra la aa ca tc vc rc lc ac cc pt bk null val :=
 ⟨h.base.trans (k.mono h.base.size),h.a,h.tab,(k.block _ (lt_of_block h.box)).trans h.box,h.fam.below k,h.fst.below k,h.fol.below k,h.nul.below k,h.nB⟩
theorem SS.put (h:SS U w p sb nb fb gb fc gc ta va ra la aa ca tc vc rc lc ac cc pt bk null val) {k X:Nat} (hk:k < 2*Fi.nV p) (u:Upd (bk k) w w') (hs:SetAt w' (pt k) (bk k) (Fi.nT p) X):SS U w' p sb nb fb gb fc gc ta va ra la aa ca tc vc rc lc ac cc pt bk null (Q.up val k X):=by
 obtain ⟨_,e,_⟩:=(h.fam.set k hk).row
 refine ⟨h.base.trans (u.below (h.fam.low k hk) h.base.size),h.a,h.tab,(u.block _ (lt_of_block h.box) (ne_of_types h.box e (by decide))).trans h.box,h.fam.put hk u hs,?_,?_,?_,h.nB⟩
 ·refine h.fst.kept (u.block _ h.fst.lt ?_)
  obtain ⟨_,e',_⟩:=h.fst
  exact ne_of_types e' e (by decide)
 ·refine h.fol.kept (u.block _ h.fol.lt ?_)
  obtain ⟨_,e',_⟩:=h.fol
  exact ne_of_types e' e (by decide)
 ·refine h.nul.kept (u.block _ h.nul.lt ?_)
  obtain ⟨_,e',_⟩:=h.nul
  exact ne_of_types e' e (by decide)
theorem SS.setNull (h:SS U w p sb nb fb gb fc gc ta va ra la aa ca tc vc rc lc ac cc pt bk null val) (i:Nat) (v:Bool):SS U (w.setCell ⟨nb,i,none⟩ (.bool v)) p sb nb fb gb fc gc ta va ra la aa ca tc vc rc lc ac cc pt bk (Q.up null i v) val:=by
 have u:Upd nb w (w.setCell ⟨nb,i,none⟩ (.bool v)):=(Upd.refl nb w).setCell ⟨nb,i,none⟩ rfl _
 obtain ⟨_,e,_⟩:=h.nul
 refine ⟨h.base.trans (u.below h.nB h.base.size),h.a,h.tab,(u.block _ (lt_of_block h.box) (ne_of_types h.box e (by decide))).trans h.box,h.fam.other u e (by decide) (by decide),?_,?_,h.nul.set i v,h.nB⟩
 ·refine h.fst.kept (u.block _ h.fst.lt ?_)
  obtain ⟨_,e',_⟩:=h.fst
  exact ne_of_types e' e (by decide)
 ·refine h.fol.kept (u.block _ h.fol.lt ?_)
  obtain ⟨_,e',_⟩:=h.fol
  exact ne_of_types e' e (by decide)
theorem SS.ext {null':Nat→Bool} {val':Nat→Nat} (h:SS U w p sb nb fb gb fc gc ta va ra la aa ca tc vc rc lc ac cc pt bk null val) (e:∀ i,i < Fi.nV p→null i=null' i) (e':∀ i,i < 2*Fi.nV p→val i=val' i):SS U w p sb nb fb gb fc gc ta va ra la aa ca tc vc rc lc ac cc pt bk null' val' :=
 ⟨h.base,h.a,h.tab,h.box,h.fam.ext e',h.fst,h.fol,h.nul.ext e,h.nB⟩
end
/-- A union of sets as wide as each other. -/
theorem un_or {n X Y:Nat} (hX:X < 2 ^ n) (hY:Y < 2 ^ n):un n X n Y=X|||Y:=by
 refine Nat.eq_of_testBit_eq fun j=>?_
 rw [un_bit hY,Nat.testBit_or]
 rcases Nat.lt_or_ge j n with h | h
 ·simp [h]
 ·rw [Bs.bit_of_lt hY h]; simp
theorem unB_or {n X Y:Nat} (hX:X < 2 ^ n) (hY:Y < 2 ^ n):unB n X n Y=decide (X|||Y≠X):=by
 have e:unB n X n Y=!decide (un n X n Y=X):=rfl
 rw [e,un_or hX hY]
 simp
/-- A set of its list. -/
theorem of_lst {n X:Nat} (h:X < 2 ^ n):Bs.of n (natI (Bs.lst n X))=X:=by
 have e:Bs.of n (natI (Bs.lst n X))=un n 0 n X:=rfl
 rw [e,un_or (Nat.two_pow_pos n) h,Nat.zero_or]
end Go.Proofs.YtjbggogbnckllaaDoor
end
section
set_option maxRecDepth 100000
namespace Go.Proofs.YtjbggogbnckllaaDoor
open Go.RowKit
set_option linter.unusedVariables false
set_option linter.unusedSimpArgs false
theorem Ints.one (w:World) (x:Int):Ints (w.alloc (.cells #[.int .i64 x] 3)) (some ⟨w.heap.size,0,none⟩) [x]:=by
 intro i hi
 obtain rfl:i=0:=by simp at hi; omega
 refine ⟨w.heap.size,0,rfl,?_⟩
 rw [cell_of_row _ _ _ _ _ _ (heap_alloc_new w _)]; rfl
set_option maxRecDepth 100000 in
set_option maxHeartbeats 2000000 in
theorem at10_any {w:World} {sb n:Nat} {ta:Option Addr} {tc:Nat} (x:Int) (hc:w.cell? ⟨sb,0,none⟩=some (.slice ta n tc)) (hn:n≤1000) (h0:0≤x) (h1:x≤1000000) :
  Calls Tryd.prog 67 #[.pointer (some ⟨sb,0,none⟩),.int .i64 x] w fun e w'=>e=.returned (.int .i64 (x - (n:Int)))∧w=w':=by
 go_enter Tryd.func67,Tryd.ntmps67
 go_wp2_with fail
 go_ret
 exact ⟨rfl,rfl⟩
theorem of_one {n x:Nat} (h:x < n) (hn:n≤1000):Bs.of (Bs.wid (n:Int)) [(x:Int)]=2 ^ x∧Bs.wid (n:Int)=n:=by
 have hw:Bs.wid (n:Int)=n:=by unfold Bs.wid; omega
 refine ⟨?_,hw⟩
 rw [hw]
 refine Nat.eq_of_testBit_eq fun j=>?_
 rw [Bs.of_bit,Nat.testBit_two_pow]
 by_cases e:x=j
 ·subst e; simp [h]
 ·simp [e]
  omega
theorem up_id (f:Nat→Nat) (k j:Nat):f j=Q.up f k (f k) j:=by
 by_cases e:j=k
 ·rw [e,Q.up_same]
 ·rw [Q.up_ne _ _ e]
theorem grew_law {V X Y:Nat} (h:Fi.Sub V X):(decide (X|||Y≠X)||decide (X≠V))=decide (X|||Y≠V):=by
 rw [Bool.eq_iff_iff,Bool.or_eq_true,decide_eq_true_eq,decide_eq_true_eq,decide_eq_true_eq]
 constructor
 ·intro h1 h2
  have hX:X=V:=Fi.Sub.antisymm (h2▸Fi.sub_or_left X Y) h
  rcases h1 with h1 | h1
  ·exact h1 (h2.trans hX.symm)
  ·exact h1 hX
 ·intro h1
  by_cases h2:X|||Y=X
  ·exact .inr (fun e=>h1 (h2.trans e))
  ·exact .inl h2
section
variable {U w:World} {p:Pl.Plan} {sb nb fb gb fc gc:Nat} {ta va ra la aa ca:Option Addr} {tc vc rc lc ac cc:Nat} {pt bk:Nat→Nat} {val:Nat→Nat} {s:Fi.St}
theorem SS.pnv {w:World} {null:Nat→Bool} (h:SS U w p sb nb fb gb fc gc ta va ra la aa ca tc vc rc lc ac cc pt bk null val):PnV w (.agg #[.slice ta p.terms.length tc,.slice va p.vars.length vc,.slice ra p.rules.length rc,.slice la p.levels.length lc,.slice aa p.assocs.length ac,.slice ca p.acts.length cc]) p :=
 ⟨ta,tc,va,vc,ra,rc,la,lc,aa,ac,ca,cc,rfl,h.pn⟩
/-- A union through a set's method. -/
theorem SS.un {w:World} {null:Nat→Bool} {k X o ob Y:Nat} (h:SS U w p sb nb fb gb fc gc ta va ra la aa ca tc vc rc lc ac cc pt bk null (Q.up val k X)) (hk:k < 2*Fi.nV p) (ho:SetAt w o ob (Fi.nT p) Y) :
  Calls Tryd.prog 54 #[.pointer (some ⟨pt k,0,none⟩),.pointer (some ⟨o,0,none⟩)] w fun e w'=>e=.returned (.bool (decide (X|||Y≠X)))∧SS U w' p sb nb fb gb fc gc ta va ra la aa ca tc vc rc lc ac cc pt bk null (Q.up val k (X|||Y))∧Upd (bk k) w w':=by
 have hS:=h.fam.set k hk
 rw [Q.up_same] at hS
 refine (union_any (pt k) (bk k) (Fi.nT p) X o ob (Fi.nT p) Y w hS ho h.tabw (h.tne hk)).mono ?_
 rintro e w' ⟨rfl,h1,h2⟩
 rw [un_or hS.lt ho.lt] at h1
 refine ⟨by rw [unB_or hS.lt ho.lt],?_,h2⟩
 have h3:=h.put hk h2 h1
 have e:Q.up (Q.up val k X) k (X|||Y)=Q.up val k (X|||Y):=by
  funext j
  unfold Q.up
  split<;>rfl
 rw [e] at h3
 exact h3
end
set_option maxRecDepth 100000 in
set_option maxHeartbeats 8000000 in
theorem begins_any {U w:World} {p:Pl.Plan} {sb nb fb gb fc gc:Nat} {ta va ra la aa ca:Option Addr} {tc vc rc lc ac cc:Nat} {pt bk:Nat→Nat} {val:Nat→Nat} {s:Fi.St} (l:List Int) (na:Option Addr) (nc k:Nat) (h:SS U w p sb nb fb gb fc gc ta va ra la aa ca tc vc rc lc ac cc pt bk s.null val) (ho:Q.OK p) (hk:k < 2*Fi.nV p) (hs:∀ i,i < Fi.nV p→val i=s.fst i) (hl:Ints U na l) (hll:l.length≤1000) (hx:∀ x ∈ l,0≤x∧x < ((p.terms.length+p.vars.length:Nat):Int)) (hcnt:Q.cnt p≤1000) :
  Calls Tryd.prog 68 #[.pointer (some ⟨sb,0,none⟩),.slice na l.length nc,.func (.func 54) #[.pointer (some ⟨pt k,0,none⟩)] #[]] w fun e w' =>
   e=.returned (.tuple #[.bool (decide ((Fi.beg (Fi.nT p) (Q.cnt p) s l (val k)).1≠val k)),.bool (Fi.beg (Fi.nT p) (Q.cnt p) s l (val k)).2])∧SS U w' p sb nb fb gb fc gc ta va ra la aa ca tc vc rc lc ac cc pt bk s.null (Q.up val k (Fi.beg (Fi.nT p) (Q.cnt p) s l (val k)).1)∧Upd (bk k) w w':=by
 have HS:=Lib.hid h
 have HO:=Lib.hid ho
 have HV:=Lib.hid hs
 have HL:=Lib.hid hl
 have HX:=Lib.hid hx
 have HK:=Lib.hid hk
 have hnb:=ho.nb
 have hmb:=ho.m
 obtain ⟨R,hR⟩:∃ R,R=Fi.beg (Fi.nT p) (Q.cnt p) s l (val k):=⟨_,rfl⟩
 have HR:=Lib.hid hR
 rw [← hR]
 have HC:=Lib.hid hcnt
 clear h ho hs hl hx hR hk hcnt
 go_enter Tryd.func68,Tryd.ntmps68
 go_wp2_with fail
 go_loopg [6,12] l.length (fun gk gv iv wr=>∃ (i X:Nat) (gr:Bool),iv=.int .i64 i∧i≤l.length∧gv=.bool gr∧Hid (gr=decide (X≠val k))∧Hid (gk+i=l.length)∧Hid (SS U wr p sb nb fb gb fc gc ta va ra la aa ca tc vc rc lc ac cc pt bk s.null (Q.up val k X))∧Hid (Upd (bk k) w wr)∧Hid (Fi.Sub (val k) X)∧Hid (R=Fi.beg (Fi.nT p) (Q.cnt p) s (l.drop i) X))
 case atStart =>
  refine ⟨0,val k,false,rfl,by omega,rfl,Lib.hid (by simp),Lib.hid (by omega),Lib.hid (HS.out.ext (fun _ _=>rfl) (fun i _=>up_id val k i)),Lib.hid (Upd.refl _ _),Lib.hid (Fi.Sub.refl _),Lib.hid (by rw [HR.out]; rfl)⟩
 case round =>
  obtain ⟨i,X,gw,rfl,hi,rfl,HGB,HG,HW,HU,HSB,HE⟩:=hrel
  by_cases hlt:i < l.length
  ·have hl2:Ints wr na l:=HL.out.below HW.out.base
   obtain ⟨b,off,rfl,q0⟩:=hl2 i hlt
   obtain ⟨x0,x1⟩:=HX.out _ (List.getElem_mem hlt)
   have hdr:=List.drop_eq_getElem_cons hlt
   generalize l[i]=x at q0 x0 x1 hdr
   obtain ⟨n,rfl⟩:∃ n:Nat,x=n:=⟨x.toNat,by omega⟩
   have HE2:=HE.out
   rw [hdr,Fi.beg,if_neg (by unfold Q.cnt; omega)] at HE2
   obtain ⟨c0,c1,c2,c3,c4,c5,c6,c7,c8⟩:=HW.out.cells
   have hT:=term_any (w:=wr) (n:Int) HW.out.pnv HO.out.nb
   rcases Nat.lt_or_ge n p.terms.length with hn | hn
   ·have e:decide (0≤(n:Int)∧(n:Int) < (p.terms.length:Int))=true:=by simp; exact hn
    rw [e] at hT
    rw [if_pos (by unfold Fi.nT; omega)] at HE2
    have HE3:=Lib.hid HE2
    clear hdr HE2 hl2 c6 c7 c8 e
    go_wp2_with fail
    refine hT.mono ?_
    rintro e w1 ⟨rfl,kb⟩
    have HW1:=Lib.hid (HW.out.below kb)
    have HU1:=Lib.hid (HU.out.trans (Upd.of kb))
    have d0:=HW1.out.cells.1
    have d1:∀ o,(w1.alloc o).cell? ⟨sb,0,none⟩=some (.slice ta p.terms.length tc):=fun o=>(HW1.out.below ((Below.refl _ _).alloc (Nat.le_refl _) o)).cells.1
    have HOF:=of_any (p.terms.length:Int) (some ⟨w1.heap.size,0,none⟩) [(n:Int)] 1 (w1.alloc (.cells #[.int .i64 (n:Int)] 3)) (Ints.one w1 n) (by unfold maxLen; simp)
    have kA:=(Below.refl w1.heap.size w1).alloc (Nat.le_refl _) (.cells #[.int .i64 (n:Int)] 3)
    have HWA:=Lib.hid (HW1.out.below kA)
    have HUA:=Lib.hid (HU1.out.trans (Upd.of kA))
    rw [show ([(n:Int)]:List Int).length=1 from rfl] at HOF
    clear hT kb c0 c1 c2 c3 c4 c5 HW HU kA
    go_wp2_with fail
    refine HOF.mono ?_
    rintro e w2 ⟨o,ob,rfl,-,-,hset,kb⟩
    rw [(of_one hn hnb).1,(of_one hn hnb).2] at hset
    have HW2:=Lib.hid (HWA.out.below kb)
    have HU2:=Lib.hid (HUA.out.trans (Upd.of kb))
    have HUN:=SS.un HW2.out HK.out hset
    clear HOF kb d0 d1 HW1 HU1 HWA HUA
    go_wp2_with fail
    refine HUN.mono ?_
    rintro e w3 ⟨rfl,h3,h4⟩
    have HW3:=Lib.hid h3
    have HU3:=Lib.hid (HU2.out.trans h4)
    have hgl:=grew_law (Y:=2 ^ n) HSB.out
    have HE4:Hid (R=(X|||2 ^ n,false)):=HE3
    obtain ⟨u,hu⟩:∃ u,u=decide (X|||2 ^ n≠X):=⟨_,rfl⟩
    rw [← hu,← HGB.out] at hgl
    rw [← hu]
    have HGL:=Lib.hid hgl
    clear HUN h3 h4 hgl hu HE3 HE
    cases u with
    | true =>
     go_wp2_with fail
     go_ret2
     refine ⟨?_,by rw [HE4.out]; exact HW3.out,HU3.out⟩
     rw [HE4.out,← HGL.out]; rfl
    | false =>
     go_wp2_with fail
     go_ret2
     refine ⟨?_,by rw [HE4.out]; exact HW3.out,HU3.out⟩
     rw [HE4.out,← HGL.out]; simp
   ·have e:decide (0≤(n:Int)∧(n:Int) < (p.terms.length:Int))=false:=by simp; omega
    rw [e] at hT
    rw [if_neg (by unfold Fi.nT; omega)] at HE2
    obtain ⟨v,hv⟩:∃ v,v=n - p.terms.length:=⟨_,rfl⟩
    rw [show ((n:Int).toNat - Fi.nT p)=v by rw [hv]; rfl] at HE2
    have hvc:v < Fi.nV p:=by rw [hv]; unfold Fi.nV; omega
    have HVN:=Lib.hid hv
    have HE3:=Lib.hid HE2
    clear hdr HE2 hl2 c6 c7 c8 e hv
    go_wp2_with fail
    refine hT.mono ?_
    rintro e w1 ⟨rfl,kb⟩
    have HW1:=Lib.hid (HW.out.below kb)
    have HU1:=Lib.hid (HU.out.trans (Upd.of kb))
    have y7:=fun z:Wd w1.heap.size w1=>(HW1.out.below z.ok).cells.2.2.2.2.2.2.2.1
    have yp:=fun z:Wd w1.heap.size w1=>(HW1.out.below z.ok).fst.cell hvc
    have hat:∀ z:Wd w1.heap.size w1,Calls Tryd.prog 67 #[.pointer (some ⟨sb,0,none⟩),.int .i64 (n:Int)] z.w fun e w'=>e=.returned (.int .i64 (v:Nat))∧z.w=w':=fun z=>by
     have:=at10_any (n:Int) (HW1.out.below z.ok).cells.1 hnb (by omega) (by omega)
     rwa [show (n:Int) - (p.terms.length:Int)=(v:Nat) by have:=HVN.out; omega] at this
    clear hT kb c0 c1 c2 c3 c4 c5 HW HU
    go_wp2_with fail
    refine region_clst 10 w1.heap.size (by kernel_rfl) (by kernel_rfl) ?_
    simp only [List.take_succ_cons,List.take_zero,List.drop_succ_cons,List.drop_zero]
    repeat (go_big_quiet_step (first | (go_at_call 67; exact calls_cls_same _ (hat _))))
    refine wpQuiet_nil ?_
    intro x
    have HW2:=Lib.hid (HW1.out.below x.ok)
    have HU2:=Lib.hid (HU1.out.trans (Upd.of x.ok))
    have hset:=HW2.out.fam.set v (by omega)
    have HUN:=SS.un HW2.out HK.out hset
    have hor:X|||Q.up val k X v=X|||s.fst v:=by
     by_cases e:v=k
     ·subst e
      rw [Q.up_same,Nat.or_self,← HV.out v hvc,Fi.or_of_sub HSB.out]
     ·rw [Q.up_ne _ _ e,HV.out v hvc]
    rw [hor] at HUN
    generalize x.w=w2 at HW2 HU2 HUN ⊢
    clear x hat y7 yp hset hor HW1 HU1
    go_wp2_with fail
    refine HUN.mono ?_
    rintro e w3 ⟨rfl,h3,h4⟩
    have HW3:=Lib.hid h3
    have HU3:=Lib.hid (HU2.out.trans h4)
    have hgl:=grew_law (Y:=s.fst v) HSB.out
    have HSB3:=Lib.hid (HSB.out.trans (Fi.sub_or_left X (s.fst v)))
    have y6:=fun z:Wd w3.heap.size w3=>(HW3.out.below z.ok).cells.2.2.2.2.2.2.1
    have yn:=fun z:Wd w3.heap.size w3=>(HW3.out.below z.ok).nul.cell hvc
    have hat:∀ z:Wd w3.heap.size w3,Calls Tryd.prog 67 #[.pointer (some ⟨sb,0,none⟩),.int .i64 (n:Int)] z.w fun e w'=>e=.returned (.int .i64 (v:Nat))∧z.w=w':=fun z=>by
     have:=at10_any (n:Int) (HW3.out.below z.ok).cells.1 hnb (by omega) (by omega)
     rwa [show (n:Int) - (p.terms.length:Int)=(v:Nat) by have:=HVN.out; omega] at this
    obtain ⟨u,hu⟩:∃ u,u=decide (X|||s.fst v≠X):=⟨_,rfl⟩
    rw [← hu,← HGB.out] at hgl
    rw [← hu]
    obtain ⟨g2,hg2⟩:∃ g2,g2=(u||gw):=⟨_,rfl⟩
    rw [← hg2] at hgl
    have HGL:=Lib.hid hgl
    have HE4:=HE3.out
    clear HUN h3 h4 hgl hu HE3 HE HW2 HU2 HGB HSB
    obtain ⟨nl,hnl⟩:∃ nl,nl=s.null v:=⟨_,rfl⟩
    rw [← hnl] at yn HE4
    generalize hYY:X|||s.fst v=X2 at HW3 HGL HSB3 HE4
    have HEE:=Lib.hid HE4
    clear hnl hYY HE4
    cases u with
    | true =>
     simp only [Bool.true_or] at hg2
     subst hg2
     go_wp2_with fail
     refine region_cls w3.heap.size (by kernel_rfl) (by kernel_rfl) ?_
     repeat (go_big_quiet_step (first | (go_at_call 67; exact calls_cls_same _ (hat _))))
     refine wpQuiet_nil ?_
     intro x
     have HW4:=Lib.hid (HW3.out.below x.ok)
     have HU4:=Lib.hid (HU3.out.trans (Upd.of x.ok))
     generalize x.w=w4 at HW4 HU4 ⊢
     clear x hat y6 yn HW3 HU3
     cases nl with
     | true =>
      have HE5:Hid (R=Fi.beg (Fi.nT p) (Q.cnt p) s (l.drop (i+1)) X2):=HEE
      clear HEE
      go_wp2_with fail
      go_roundg (l.length - (i+1))
      case measure=>have:=HG.out; omega
      case rel=>exact ⟨i+1,X2,_,by go_num,by omega,rfl,HGL,Lib.hid (by omega),HW4,HU4,HSB3,HE5⟩
     | false =>
      have HE5:Hid (R=(X2,false)):=HEE
      clear HEE
      go_wp2_with fail
      go_ret2
      refine ⟨?_,by rw [HE5.out]; exact HW4.out,HU4.out⟩
      rw [HE5.out,← HGL.out]
      rfl
    | false =>
     simp only [Bool.false_or] at hg2
     subst hg2
     go_wp2_with fail
     refine region_cls w3.heap.size (by kernel_rfl) (by kernel_rfl) ?_
     repeat (go_big_quiet_step (first | (go_at_call 67; exact calls_cls_same _ (hat _))))
     refine wpQuiet_nil ?_
     intro x
     have HW4:=Lib.hid (HW3.out.below x.ok)
     have HU4:=Lib.hid (HU3.out.trans (Upd.of x.ok))
     generalize x.w=w4 at HW4 HU4 ⊢
     clear x hat y6 yn HW3 HU3
     cases nl with
     | true =>
      have HE5:Hid (R=Fi.beg (Fi.nT p) (Q.cnt p) s (l.drop (i+1)) X2):=HEE
      clear HEE
      go_wp2_with fail
      go_roundg (l.length - (i+1))
      case measure=>have:=HG.out; omega
      case rel=>exact ⟨i+1,X2,_,by go_num,by omega,rfl,HGL,Lib.hid (by omega),HW4,HU4,HSB3,HE5⟩
     | false =>
      have HE5:Hid (R=(X2,false)):=HEE
      clear HEE
      go_wp2_with fail
      go_ret2
      refine ⟨?_,by rw [HE5.out]; exact HW4.out,HU4.out⟩
      rw [HE5.out,← HGL.out]
      rfl
  ·obtain rfl:i=l.length:=by omega
   have hend:=HE.out
   rw [List.drop_length] at hend
   have HEE:Hid (R=(X,true)):=Lib.hid hend
   clear hlt HG HE hend
   go_wp2_with fail
   go_ret2
   refine ⟨?_,by rw [HEE.out]; exact HW.out,HU.out⟩
   rw [HEE.out,← HGB.out]
   rfl
end Go.Proofs.YtjbggogbnckllaaDoor
end
section
set_option maxRecDepth 100000
namespace Go.Proofs.YtjbggogbnckllaaDoor
open Go.RowKit
set_option linter.unusedVariables false
set_option linter.unusedSimpArgs false
/-- What is begun with, and behind it what comes behind. -/
def vv (c:Nat) (f g:Nat→Nat):Nat→Nat:=fun i=>if i < c then f i else g (i - c)
theorem vv_lt {c:Nat} {f g:Nat→Nat} {i:Nat} (h:i < c):vv c f g i=f i:=by unfold vv; rw [if_pos h]
theorem vv_ge {c:Nat} {f g:Nat→Nat} (i:Nat):vv c f g (c+i)=g i:=by unfold vv; rw [if_neg (by omega),Nat.add_sub_cancel_left]
theorem vv_up {c:Nat} {f g:Nat→Nat} {k X:Nat} (h:k < c):Q.up (vv c f g) k X=vv c (Q.up f k X) g:=by
 funext i
 unfold vv
 by_cases e:i=k
 ·subst e; rw [Q.up_same,if_pos h,Q.up_same]
 ·rw [Q.up_ne _ _ e,Q.up_ne _ _ e]
theorem vv_up2 {c:Nat} {f g:Nat→Nat} {k X:Nat}:Q.up (vv c f g) (c+k) X=vv c f (Q.up g k X):=by
 funext i
 unfold vv
 by_cases e:i=c+k
 ·subst e; rw [Q.up_same,if_neg (by omega),Nat.add_sub_cancel_left,Q.up_same]
 ·rw [Q.up_ne _ _ e]
  by_cases h:i < c
  ·rw [if_pos h,if_pos h]
  ·rw [if_neg h,if_neg h,Q.up_ne _ _ (by omega)]
theorem step_call3 {P:Program} {w:World} {ops:Array Oper} {o:Oper} {a:Act} {K:Act→World→Prop} {Q:Exit→Act→World→Prop} {F:Prop} (hgd:o.guard=none) (f:FuncId) (hcf:∀ args w,Sem.run P (callFunc f args) w=.ok (.enter f args) w) (x y z:Operand) (tys:Array TypeId)
  (ho:o.op=.call { callee:=.value (.func f),args:=#[x,y,z],argTypes:=tys }) (vx vy vz:Value) (hx:a.eval x=vx) (hy:a.eval y=vy) (hz:a.eval z=vz) (v:Value) (Ψ:World→Prop)
  (hc:Calls P f #[vx,vy,vz] w fun e w'=>e=.returned v∧Ψ w') (h:∀ w',Ψ w'→K (a.put o.dst v) w') :
  if Region.wanted o (yielded ops a.tmps)=true then Oper.wp P o a w K Q else F :=
 step_call hgd f hcf #[x,y,z] tys ho #[vx,vy,vz] (by simp [hx,hy,hz]) v Ψ hc h
set_option maxRecDepth 100000 in
set_option maxHeartbeats 8000000 in
theorem round10_any {U w:World} {p:Pl.Plan} {sb nb fb gb fc gc:Nat} {ta va ra la aa ca:Option Addr} {tc vc rc lc ac cc:Nat} {pt bk:Nat→Nat} {s:Fi.St} {fo:Nat→Nat} (h:SS U w p sb nb fb gb fc gc ta va ra la aa ca tc vc rc lc ac cc pt bk s.null (vv (Fi.nV p) s.fst fo)) (ho:Q.OK p) (hcnt:Q.cnt p≤1000) :
  Calls Tryd.prog 44 #[.pointer (some ⟨sb,0,none⟩)] w fun e w' =>
   e=.returned (.bool (Fi.rGo p p.rules s false).2)∧SS U w' p sb nb fb gb fc gc ta va ra la aa ca tc vc rc lc ac cc pt bk (Fi.rGo p p.rules s false).1.null (vv (Fi.nV p) (Fi.rGo p p.rules s false).1.fst fo):=by
 have HS:=Lib.hid h
 have HO:=Lib.hid ho
 have HC:=Lib.hid hcnt
 have hnr:=ho.r
 have hnb:=ho.nb
 have hmb:=ho.m
 obtain ⟨R,hR⟩:∃ R,R=Fi.rGo p p.rules s false:=⟨_,rfl⟩
 have HR:=Lib.hid hR
 rw [← hR]
 have c2:=h.cells.2.2.1
 clear h ho hR hcnt
 go_enter Tryd.func44,Tryd.ntmps44
 go_wp2_with fail
 clear c2
 go_loopg [3,15] p.rules.length (fun gk cv iv wr=>∃ (i:Nat) (ch:Bool) (t:Fi.St),iv=.int .i64 i∧i≤p.rules.length∧cv=.bool ch∧Hid (gk+i=p.rules.length)∧Hid (SS U wr p sb nb fb gb fc gc ta va ra la aa ca tc vc rc lc ac cc pt bk t.null (vv (Fi.nV p) t.fst fo))∧Hid (R=Fi.rGo p (p.rules.drop i) t ch))
 case atStart=>exact ⟨0,false,s,rfl,by omega,rfl,Lib.hid (by omega),HS,HR⟩
 case round =>
  clear HS HR
  obtain ⟨i,ch,t,rfl,hi,rfl,HG,HW,HE⟩:=hrel
  by_cases hlt:i < p.rules.length
  ·obtain ⟨rb,ro,xa,xc,rfl,u0,u1,u2,vinU⟩:=HW.out.a.r i hlt
   have b0:=World.block_lt_of_cell? U _ u0
   have v0:=((bcell HW.out.base).1 _ _ b0).trans u0
   have v1:=((bcell HW.out.base).1 _ _ b0).trans u1
   have v2:=((bcell HW.out.base).1 _ _ b0).trans u2
   have hxl:=HO.out.left _ (List.getElem_mem hlt)
   have hxr:=HO.out.right _ (List.getElem_mem hlt)
   have hx8:=HO.out.rl _ (List.getElem_mem hlt)
   have hdr:=List.drop_eq_getElem_cons hlt
   have hEE:=HE.out
   rw [hdr,Fi.rGo] at hEE
   generalize p.rules[i]=x at v0 v1 v2 vinU hxl hxr hx8 hEE u0 u1 u2
   have HXR:=Lib.hid hxr
   have HXI:=Lib.hid vinU
   have HEE:=Lib.hid hEE
   have kB:=(Below.refl wr.heap.size wr).alloc (Nat.le_refl _) (.cells #[.int .i64 (x.left:Nat),.slice xa x.right.length xc,.int .i64 (x.level:Nat)] 46)
   have HW1:=Lib.hid (HW.out.below kB)
   have HBX:=Lib.hid (heap_alloc_new wr (.cells #[.int .i64 (x.left:Nat),.slice xa x.right.length xc,.int .i64 (x.level:Nat)] 46))
   have e0:(wr.alloc (.cells #[.int .i64 (x.left:Nat),.slice xa x.right.length xc,.int .i64 (x.level:Nat)] 46)).cell? ⟨wr.heap.size,0,none⟩=some (.int .i64 (x.left:Nat)):=by rw [cell_of_row _ _ _ _ _ _ HBX.out]; rfl
   obtain ⟨v,hv⟩:∃ v,v=x.left - p.terms.length:=⟨_,rfl⟩
   have hvc:v < Fi.nV p:=by rw [hv]; unfold Fi.nV; omega
   have hat:=at10_any (x.left:Int) HW1.out.cells.1 hnb (by omega) (by omega)
   rw [show (x.left:Int) - (p.terms.length:Int)=(v:Nat) by omega] at hat
   have HVN:=Lib.hid hv
   clear hxr vinU hdr hEE u0 u1 u2 kB hv HE
   go_wp2_with fail
   refine hat.mono ?_
   rintro e w1 ⟨rfl,rfl⟩
   clear hat e0 v0 v1 v2 b0
   generalize wr.alloc (.cells #[.int .i64 (x.left:Nat),.slice xa x.right.length xc,.int .i64 (x.level:Nat)] 46)=W1 at HW1 HBX ⊢
   generalize wr.heap.size=xb at HBX ⊢
   have y7:W1.drew.cell? ⟨sb,7,none⟩=some (.slice (some ⟨fb,0,none⟩) (Fi.nV p) fc):=HW1.out.cells.2.2.2.2.2.2.2.1
   have yp:W1.drew.cell? ⟨fb,v,none⟩=some (.pointer (some ⟨pt v,0,none⟩)):=HW1.out.fst.cell hvc
   have x1:W1.drew.cell? ⟨xb,1,none⟩=some (.slice xa x.right.length xc):=by rw [show W1.drew.cell? ⟨xb,1,none⟩=W1.cell? ⟨xb,1,none⟩ from rfl,cell_of_row _ _ _ _ _ _ HBX.out]; rfl
   have HWD:=Lib.hid (HW1.out.below (Below.refl _ _).drew)
   have HBE:=begins_any (s:=t) x.right xa xc v HWD.out HO.out (by omega) (fun i hi=>vv_lt hi) HXI.out hx8 HXR.out HC.out
   rw [vv_lt hvc] at HBE
   go_upto_region 6 with fail
   go_cut [7,8] (fun gv nv wx=>gv=.bool (decide ((Fi.beg (Fi.nT p) (Q.cnt p) t x.right (t.fst v)).1≠t.fst v))∧nv=.bool (Fi.beg (Fi.nT p) (Q.cnt p) t x.right (t.fst v)).2∧Hid (SS U wx p sb nb fb gb fc gc ta va (some ⟨rb,ro,none⟩) la aa ca tc vc rc lc ac cc pt bk t.null (Q.up (vv (Fi.nV p) t.fst fo) v (Fi.beg (Fi.nT p) (Q.cnt p) t x.right (t.fst v)).1)))
   case first =>
    go_region_law (refine step_call3 (by rfl) 68 Tryd.call68 _ _ _ _ (by rfl) (.pointer (some ⟨sb,0,none⟩)) (.slice xa x.right.length xc) (.func (.func 54) #[.pointer (some ⟨pt v,0,none⟩)] #[]) (by rfl) (by rfl) (by rfl) (.tuple #[.bool (decide ((Fi.beg (Fi.nT p) (Q.cnt p) t x.right (t.fst v)).1≠t.fst v)),.bool (Fi.beg (Fi.nT p) (Q.cnt p) t x.right (t.fst v)).2]) _ HBE ?_; intro w3 hw3)
    all_goals
     have HW3:=Lib.hid hw3.1
     clear hw3 HBE y7 yp x1
     go_wp2_with fail
     go_meet
     case rel=>exact ⟨by simp,rfl,HW3⟩
   case rest =>
    obtain ⟨rfl,rfl,HW3⟩:=hcut
    clear HBE y7 yp x1 HWD HW1 HBX
    obtain ⟨B,hB⟩:∃ B,B=Fi.beg (Fi.nT p) (Q.cnt p) t x.right (t.fst v):=⟨_,rfl⟩
    have hst:Fi.stp p x t ch=(⟨Q.up t.null v (t.null v||B.2),Q.up t.fst v B.1⟩,ch||decide (B.1≠t.fst v)||(B.2&&!t.null v)):=by
     unfold Fi.stp
     rw [show x.left - Fi.nT p=v from HVN.out.symm,← hB]
    have hee:=HEE.out
    rw [hst] at hee
    rw [← hB] at HW3 ⊢
    rw [vv_up hvc] at HW3
    obtain ⟨g,hg⟩:∃ g,g=decide (B.1≠t.fst v):=⟨_,rfl⟩
    obtain ⟨nl,hnl⟩:∃ nl,nl=B.2:=⟨_,rfl⟩
    obtain ⟨tn,htn⟩:∃ tn,tn=t.null v:=⟨_,rfl⟩
    rw [← hg,← hnl,← htn] at hee
    rw [← hg,← hnl]
    have HE2:=Lib.hid hee
    have y6:=HW3.out.cells.2.2.2.2.2.2.1
    have yn:=HW3.out.nul.cell hvc
    rw [← htn] at yn
    have HTN:=Lib.hid htn
    clear hst hee hg hnl htn hB HEE HXR HXI
    go_upto_region 7 with fail
    go_cut [3] (fun cv wx=>cv=.bool (ch||g||(nl&&!tn))∧wx=wc)
    case first =>
     cases ch<;>cases g<;>cases nl<;>(go_wp2_with fail; go_meet; case rel=>exact ⟨by simp,rfl⟩)
    case rest =>
     obtain ⟨rfl,hwe⟩:=hcut
     subst hwe
     clear y6 yn
     have z6:=fun z:Wd wc.heap.size wc=>(HW3.out.below z.ok).cells.2.2.2.2.2.2.1
     have zn:=fun z:Wd wc.heap.size wc=>(HW3.out.below z.ok).nul.cell hvc
     rw [← HTN.out] at zn
     have HWD:=Lib.hid (HW3.out.below (Below.refl _ _).drew)
     have fz:=HWD.out.nul.fz v
     have cz:=HWD.out.nul.cell hvc
     have HX4:=Lib.hid ((HW3.out.setNull v (tn||nl)).below (Below.refl _ _).drew)
     rw [← HTN.out] at cz
     go_wp2_with fail
     cases tn with
     | true =>
      refine region_gb [0,1,2,3,4,5,6,7,8,9,10,11,12,13,14,15] [16] 73 wc.heap.size ?_ (fun c a d v w h=>by cases d<;>exact h) (Nat.le_refl _) (by kernel_rfl) (by kernel_rfl) (by rfl) ?_ ?_
      rotate_left
      ·intro z
       simp only [pickL,List.getElem?_cons_zero,List.getElem?_cons_succ]
       repeat (go_big_quiet_step (fail))
       refine wpQuiet_nil ?_
       exact rfl
      simp only [pickL,List.getElem?_cons_zero,List.getElem?_cons_succ]
      clear z6 zn
      go_wp2_with fail
      clear fz cz
      go_roundg (p.rules.length - (i+1))
      case measure=>have:=HG.out; omega
      case rel=>exact ⟨i+1,_,⟨Q.up t.null v _,Q.up t.fst v B.1⟩,by go_num,by omega,rfl,Lib.hid (by omega),HX4,HE2⟩
     | false =>
      cases nl with
      | true =>
       refine region_gb [0,1,2,3,4,5,6,7,8,9,10,11,12,13,14,15] [16] 73 wc.heap.size ?_ (fun c a d v w h=>by cases d<;>exact h) (Nat.le_refl _) (by kernel_rfl) (by kernel_rfl) (by rfl) ?_ ?_
       rotate_left
       ·intro z
        simp only [pickL,List.getElem?_cons_zero,List.getElem?_cons_succ]
        repeat (go_big_quiet_step (fail))
        refine wpQuiet_nil ?_
        exact rfl
       simp only [pickL,List.getElem?_cons_zero,List.getElem?_cons_succ]
       clear z6 zn
       go_wp2_with fail
       clear fz cz
       go_roundg (p.rules.length - (i+1))
       case measure=>have:=HG.out; omega
       case rel=>exact ⟨i+1,_,⟨Q.up t.null v _,Q.up t.fst v B.1⟩,by go_num,by omega,rfl,Lib.hid (by omega),HX4,HE2⟩
      | false =>
       refine region_gb [0,1,2,3,4,5,6,7,8,9,10,11,12,13,14,15] [16] 73 wc.heap.size ?_ (fun c a d v w h=>by cases d<;>exact h) (Nat.le_refl _) (by kernel_rfl) (by kernel_rfl) (by rfl) ?_ ?_
       rotate_left
       ·intro z
        simp only [pickL,List.getElem?_cons_zero,List.getElem?_cons_succ]
        repeat (go_big_quiet_step (fail))
        refine wpQuiet_nil ?_
        exact rfl
       simp only [pickL,List.getElem?_cons_zero,List.getElem?_cons_succ]
       clear z6 zn
       go_wp2_with fail
       clear fz cz
       go_roundg (p.rules.length - (i+1))
       case measure=>have:=HG.out; omega
       case rel=>exact ⟨i+1,_,⟨Q.up t.null v _,Q.up t.fst v B.1⟩,by go_num,by omega,rfl,Lib.hid (by omega),HX4,HE2⟩
  ·obtain rfl:i=p.rules.length:=by omega
   have hend:=HE.out
   rw [List.drop_length] at hend
   have HEE:Hid (R=(t,ch)):=Lib.hid hend
   clear hlt HG HE hend
   go_wp2_with fail
   go_ret
   exact ⟨by rw [HEE.out]; rfl,by rw [HEE.out]; exact HW.out⟩
end Go.Proofs.YtjbggogbnckllaaDoor
end
section
set_option maxRecDepth 100000
namespace Go.Proofs.YtjbggogbnckllaaDoor
open Go.RowKit
set_option linter.unusedVariables false
set_option linter.unusedSimpArgs false
set_option maxRecDepth 100000 in
set_option maxHeartbeats 16000000 in
theorem behind10_any {U w:World} {p:Pl.Plan} {sb nb fb gb fc gc:Nat} {ta va ra la aa ca:Option Addr} {tc vc rc lc ac cc:Nat} {pt bk:Nat→Nat} {s:Fi.St} {fo:Nat→Nat} (h:SS U w p sb nb fb gb fc gc ta va ra la aa ca tc vc rc lc ac cc pt bk s.null (vv (Fi.nV p) s.fst fo)) (ho:Q.OK p) (hcnt:Q.cnt p≤1000) :
  Calls Tryd.prog 46 #[.pointer (some ⟨sb,0,none⟩)] w fun e w' =>
   e=.returned (.bool (Fi.bRu p s p.rules fo false).2)∧SS U w' p sb nb fb gb fc gc ta va ra la aa ca tc vc rc lc ac cc pt bk s.null (vv (Fi.nV p) s.fst (Fi.bRu p s p.rules fo false).1):=by
 have HS:=Lib.hid h
 have HO:=Lib.hid ho
 have HC:=Lib.hid hcnt
 have hnr:=ho.r
 have hnb:=ho.nb
 have hmb:=ho.m
 obtain ⟨R,hR⟩:∃ R,R=Fi.bRu p s p.rules fo false:=⟨_,rfl⟩
 have HR:=Lib.hid hR
 rw [← hR]
 have c2:=h.cells.2.2.1
 clear h ho hR hcnt
 go_enter Tryd.func46,Tryd.ntmps46
 go_wp2_with fail
 clear c2
 go_loopg [3,17] p.rules.length (fun gk cv iv wr=>∃ (i:Nat) (ch:Bool) (fo:Nat→Nat),iv=.int .i64 i∧i≤p.rules.length∧cv=.bool ch∧Hid (gk+i=p.rules.length)∧Hid (SS U wr p sb nb fb gb fc gc ta va ra la aa ca tc vc rc lc ac cc pt bk s.null (vv (Fi.nV p) s.fst fo))∧Hid (R=Fi.bRu p s (p.rules.drop i) fo ch))
 case atStart=>exact ⟨0,false,fo,rfl,by omega,rfl,Lib.hid (by omega),HS,HR⟩
 case round =>
  clear HS HR
  obtain ⟨i,ch,fo,rfl,hi,rfl,HG,HW,HE⟩:=hrel
  by_cases hlt:i < p.rules.length
  ·obtain ⟨rb,ro,xa,xc,rfl,u0,u1,u2,vinU⟩:=HW.out.a.r i hlt
   have hcp:=HW.out.a.k i hlt rb ro xa xc rfl u1
   have b0:=World.block_lt_of_cell? U _ u0
   have v0:=((bcell HW.out.base).1 _ _ b0).trans u0
   have v1:=((bcell HW.out.base).1 _ _ b0).trans u1
   have v2:=((bcell HW.out.base).1 _ _ b0).trans u2
   have hxl:=HO.out.left _ (List.getElem_mem hlt)
   have hxr:=HO.out.right _ (List.getElem_mem hlt)
   have hx8:=HO.out.rl _ (List.getElem_mem hlt)
   have hdr:=List.drop_eq_getElem_cons hlt
   have hEE:=HE.out
   rw [hdr,Fi.bRu] at hEE
   generalize p.rules[i]=x at v0 v1 v2 vinU hxl hxr hx8 hEE u0 u1 u2 hcp
   have HXR:=Lib.hid hxr
   have HXI:=Lib.hid vinU
   have HCX:=Lib.hid hcp
   have kB:=(Below.refl wr.heap.size wr).alloc (Nat.le_refl _) (.cells #[.int .i64 (x.left:Nat),.slice xa x.right.length xc,.int .i64 (x.level:Nat)] 46)
   have HW1:=Lib.hid (HW.out.below kB)
   have HBX:=Lib.hid (heap_alloc_new wr (.cells #[.int .i64 (x.left:Nat),.slice xa x.right.length xc,.int .i64 (x.level:Nat)] 46))
   have e1:(wr.alloc (.cells #[.int .i64 (x.left:Nat),.slice xa x.right.length xc,.int .i64 (x.level:Nat)] 46)).cell? ⟨wr.heap.size,1,none⟩=some (.slice xa x.right.length xc):=by rw [cell_of_row _ _ _ _ _ _ HBX.out]; rfl
   obtain ⟨lv,hlv⟩:∃ lv,lv=x.left - p.terms.length:=⟨_,rfl⟩
   have hlvc:lv < Fi.nV p:=by rw [hlv]; unfold Fi.nV; omega
   have HLV:=Lib.hid (show x.left=p.terms.length+lv by omega)
   rw [show x.left - Fi.nT p=lv from hlv.symm] at hEE
   have hUx:U.heap.size≤wr.heap.size:=HW.out.base.size
   have HUX:=Lib.hid hUx
   obtain ⟨R2,hR2⟩:∃ R2,R2=Fi.bGo p s lv x.right fo ch:=⟨_,rfl⟩
   rw [← hR2] at hEE
   have HR2:=Lib.hid hR2
   have HEE:=Lib.hid hEE
   clear hxr vinU hdr hEE u0 u1 u2 kB hlv HE hR2 hUx hcp
   go_wp2_with fail
   clear e1 v0 v1 v2 b0
   generalize wr.alloc (.cells #[.int .i64 (x.left:Nat),.slice xa x.right.length xc,.int .i64 (x.level:Nat)] 46)=W1 at HW1 HBX ⊢
   have hxU:U.heap.size≤wr.heap.size:=HUX.out
   generalize wr.heap.size=xb at HBX hxU ⊢
   have HXU:=Lib.hid hxU
   clear hxU HW HUX
   go_loopg [3,24] x.right.length (fun gk cv jv w2=>∃ (j:Nat) (ch:Bool) (fo:Nat→Nat),jv=.int .i64 j∧j≤x.right.length∧cv=.bool ch∧Hid (gk+j=x.right.length)∧Hid (SS U w2 p sb nb fb gb fc gc ta va (some ⟨rb,ro,none⟩) la aa ca tc vc rc lc ac cc pt bk s.null (vv (Fi.nV p) s.fst fo))∧Hid (w2.heap[xb]?=some (.cells #[.int .i64 (x.left:Nat),.slice xa x.right.length xc,.int .i64 (x.level:Nat)] 46 (0,0)))∧Hid (R2=Fi.bGo p s lv (x.right.drop j) fo ch))
   case atStart=>exact ⟨0,ch,fo,rfl,by omega,rfl,Lib.hid (by omega),HW1,HBX,HR2⟩
   case round =>
    clear HW1 HBX HR2
    obtain ⟨j,ch,fo,rfl,hj,rfl,HJ,HW,HB,HE⟩:=hrel
    by_cases hlj:j < x.right.length
    ·obtain ⟨nb1,no1,rfl,q1⟩:=HXI.out j hlj
     have q0:=((bcell HW.out.base).1 _ _ (World.block_lt_of_cell? U _ q1)).trans q1
     obtain ⟨y0,y1⟩:=HXR.out _ (List.getElem_mem hlj)
     have hdr:=List.drop_eq_getElem_cons hlj
     have hEj:=HE.out
     rw [hdr,Fi.bGo] at hEj
     generalize x.right[j]=y at q0 q1 y0 y1 hEj
     obtain ⟨n,rfl⟩:∃ n:Nat,y=n:=⟨y.toNat,by omega⟩
     obtain ⟨c0,c1,c2,c3,c4,c5,_,_,_⟩:=HW.out.cells
     have hT:=term_any (w:=wr) (n:Int) HW.out.pnv HO.out.nb
     rcases Nat.lt_or_ge n p.terms.length with hn | hn
     ·have e:decide (0≤(n:Int)∧(n:Int) < (p.terms.length:Int))=true:=by simp; exact hn
      rw [e] at hT
      rw [if_pos (by unfold Fi.nT; omega)] at hEj
      have HEJ:=Lib.hid hEj
      clear hdr hEj e q1 HE
      go_wp2_with fail
      refine hT.mono ?_
      rintro e w3 ⟨rfl,kb⟩
      have HW3:=Lib.hid (HW.out.below kb)
      have HB3:=Lib.hid ((kb.block _ (lt_of_block HB.out)).trans HB.out)
      clear hT kb c0 c1 c2 c3 c4 c5 q0
      go_wp2_with fail
      go_roundg (x.right.length - (j+1))
      case measure=>have:=HJ.out; omega
      case rel=>exact ⟨j+1,ch,fo,by go_num,by omega,rfl,Lib.hid (by omega),HW3,HB3,HEJ⟩
     ·have e:decide (0≤(n:Int)∧(n:Int) < (p.terms.length:Int))=false:=by simp; omega
      rw [e] at hT
      rw [if_neg (by unfold Fi.nT; omega)] at hEj
      obtain ⟨v,hv⟩:∃ v,v=n - p.terms.length:=⟨_,rfl⟩
      rw [show ((n:Int).toNat - Fi.nT p)=v by rw [hv]; rfl] at hEj
      have hvc:v < Fi.nV p:=by rw [hv]; unfold Fi.nV; omega
      have HVN:=Lib.hid hv
      have HEJ:=Lib.hid hEj
      clear hdr hEj e hv q1 HE
      go_wp2_with fail
      refine hT.mono ?_
      rintro e w3 ⟨rfl,kb⟩
      have HW3:=Lib.hid (HW.out.below kb)
      have HB3:=Lib.hid ((kb.block _ (lt_of_block HB.out)).trans HB.out)
      have y8:=fun z:Wd w3.heap.size w3=>(HW3.out.below z.ok).cells.2.2.2.2.2.2.2.2
      have yp:=fun z:Wd w3.heap.size w3=>(HW3.out.below z.ok).fol.cell hvc
      have hat:∀ z:Wd w3.heap.size w3,Calls Tryd.prog 67 #[.pointer (some ⟨sb,0,none⟩),.int .i64 (n:Int)] z.w fun e w'=>e=.returned (.int .i64 (v:Nat))∧z.w=w':=fun z=>by
       have:=at10_any (n:Int) (HW3.out.below z.ok).cells.1 hnb (by omega) (by omega)
       rwa [show (n:Int) - (p.terms.length:Int)=(v:Nat) by have:=HVN.out; omega] at this
      clear hT kb c0 c1 c2 c3 c4 c5 q0 HW HB
      go_wp2_with fail
      refine region_clst 10 w3.heap.size (by kernel_rfl) (by kernel_rfl) ?_
      simp only [List.take_succ_cons,List.take_zero,List.drop_succ_cons,List.drop_zero]
      repeat (go_big_quiet_step (first | (go_at_call 67; exact calls_cls_same _ (hat _))))
      refine wpQuiet_nil ?_
      intro z
      have HW4:=Lib.hid (HW3.out.below z.ok)
      have HB4:=Lib.hid ((z.ok.block _ (lt_of_block HB3.out)).trans HB3.out)
      generalize z.w=w4 at HW4 HB4 ⊢
      clear z hat y8 yp HW3 HB3
      have e1:w4.cell? ⟨xb,1,none⟩=some (.slice (some ⟨nb1,no1,none⟩) x.right.length xc):=by rw [cell_of_row _ _ _ _ _ _ HB4.out]; rfl
      have hsl:=fun w=>int_slice nb1 no1 x.right.length (j+1) xc (by omega) w
      have hdl:(x.right.drop (j+1)).length=x.right.length - (j+1):=by simp
      have HBE:=begins_any (s:=s) (x.right.drop (j+1)) (some ⟨nb1,if xc=j+1 then no1 else no1+(j+1),none⟩) (xc - (j+1)) (Fi.nV p+v) HW4.out HO.out (by omega) (fun i hi=>vv_lt hi) (HXI.out.dropped HCX.out (by omega)) (by rw [hdl]; omega) (fun y hy=>HXR.out y (List.mem_of_mem_drop hy)) HC.out
      rw [vv_ge,hdl] at HBE
      obtain ⟨B,hB⟩:∃ B,B=Fi.beg (Fi.nT p) (Q.cnt p) s (x.right.drop (j+1)) (fo v):=⟨_,rfl⟩
      rw [← hB] at HBE
      have hej:=HEJ.out
      simp only [← hB] at hej
      have hsub:Fi.Sub (fo v) B.1:=by rw [hB]; exact Fi.beg_sub _ _
      have HSUB:=Lib.hid hsub
      have HEJ2:=Lib.hid hej
      have hcx:=HCX.out
      clear hdl hsl hB hej hsub HEJ
      go_upto_region 10 with fail
      go_cut [9,10] (fun gv nv wx=>gv=.bool (decide (B.1≠fo v))∧nv=.bool B.2∧Hid (SS U wx p sb nb fb gb fc gc ta va (some ⟨rb,ro,none⟩) la aa ca tc vc rc lc ac cc pt bk s.null (Q.up (vv (Fi.nV p) s.fst fo) (Fi.nV p+v) B.1))∧Hid (wx.heap[xb]?=some (.cells #[.int .i64 (x.left:Nat),.slice (some ⟨nb1,no1,none⟩) x.right.length xc,.int .i64 (x.level:Nat)] 46 (0,0))))
      case first =>
       by_cases hxc:xc=j+1
       ·rw [if_pos hxc] at HBE
        have hxd:decide (xc=j+1)=true:=decide_eq_true hxc
        have hxt:(xc=j+1)=True:=eq_true hxc
        clear hxc
        go_wp2_with fail
        refine HBE.mono ?_
        rintro e w5 ⟨rfl,h5,k5⟩
        have H5:=Lib.hid h5
        have K5:=Lib.hid ((k5.block _ (lt_of_block HB4.out) (by have h1:=HXU.out; have h2:=HW4.out.fam.set (Fi.nV p+v) (by omega); obtain ⟨_,h3,_⟩:=h2.row; exact ne_of_types HB4.out h3 (by decide))).trans HB4.out)
        clear HBE h5 k5 e1
        go_wp2_with fail
        go_meet
        case rel=>exact ⟨by simp,rfl,H5,K5⟩
       ·rw [if_neg hxc] at HBE
        go_wp2_with fail
        refine HBE.mono ?_
        rintro e w5 ⟨rfl,h5,k5⟩
        have H5:=Lib.hid h5
        have K5:=Lib.hid ((k5.block _ (lt_of_block HB4.out) (by have h1:=HXU.out; have h2:=HW4.out.fam.set (Fi.nV p+v) (by omega); obtain ⟨_,h3,_⟩:=h2.row; exact ne_of_types HB4.out h3 (by decide))).trans HB4.out)
        clear HBE h5 k5 e1
        go_wp2_with fail
        go_meet
        case rel=>exact ⟨by simp,rfl,H5,K5⟩
      case rest =>
       obtain ⟨rfl,rfl,HW5,HB5⟩:=hcut
       clear HBE e1 HW4 HB4 hcx
       obtain ⟨X,nl⟩:=B
       simp only at HW5 HEJ2 HSUB ⊢
       obtain ⟨g,hg⟩:∃ g,g=decide (X≠fo v):=⟨_,rfl⟩
       rw [← hg]
       have HGG:=Lib.hid hg
       clear hg
       cases nl with
       | false =>
        have HE6:=HEJ2
        simp only [Bool.false_eq_true,if_false] at HE6
        have he6:=HE6.out
        rw [← HGG.out] at he6
        have HE7:=Lib.hid he6
        have HW7:=HW5
        rw [vv_up2] at HW7
        clear HE6 he6 HEJ2 HW5
        cases ch with
        | true =>
         go_wp2_with fail
         go_roundg (x.right.length - (j+1))
         case measure=>have:=HJ.out; omega
         case rel=>exact ⟨j+1,_,_,by go_num,by omega,rfl,Lib.hid (by omega),HW7,HB5,HE7⟩
        | false =>
         go_wp2_with fail
         go_roundg (x.right.length - (j+1))
         case measure=>have:=HJ.out; omega
         case rel=>exact ⟨j+1,_,_,by go_num,by omega,rfl,Lib.hid (by omega),HW7,HB5,by simpa using HE7⟩
       | true =>
        have he6:=HEJ2.out
        simp only [if_true] at he6
        have HE6:=Lib.hid he6
        have y8:=fun z:Wd wc.heap.size wc=>(HW5.out.below z.ok).cells.2.2.2.2.2.2.2.2
        have yp:=fun z:Wd wc.heap.size wc=>(HW5.out.below z.ok).fol.cell hlvc
        have yx:∀ z:Wd wc.heap.size wc,z.w.cell? ⟨xb,0,none⟩=some (.int .i64 (x.left:Nat)):=fun z=>by rw [cell_of_row _ _ _ _ _ _ ((z.ok.block _ (lt_of_block HB5.out)).trans HB5.out)]; rfl
        have hat:∀ z:Wd wc.heap.size wc,Calls Tryd.prog 67 #[.pointer (some ⟨sb,0,none⟩),.int .i64 (x.left:Int)] z.w fun e w'=>e=.returned (.int .i64 (lv:Nat))∧z.w=w':=fun z=>by
         have:=at10_any (x.left:Int) (HW5.out.below z.ok).cells.1 hnb (by omega) (by omega)
         rwa [show (x.left:Int) - (p.terms.length:Int)=(lv:Nat) by have:=HLV.out; omega] at this
        clear he6 HEJ2
        go_wp2_with fail
        refine region_clst 11 wc.heap.size (by kernel_rfl) (by kernel_rfl) ?_
        simp only [List.take_succ_cons,List.take_zero,List.drop_succ_cons,List.drop_zero]
        repeat (go_big_quiet_step (first | (go_at_call 67; exact calls_cls_same _ (hat _))))
        refine wpQuiet_nil ?_
        intro z
        have HW6:=Lib.hid (HW5.out.below z.ok)
        have HB6:=Lib.hid ((z.ok.block _ (lt_of_block HB5.out)).trans HB5.out)
        generalize z.w=w6 at HW6 HB6 ⊢
        clear z hat y8 yp yx HW5 HB5
        have hset:=HW6.out.fam.set (Fi.nV p+lv) (by omega)
        have HUN:=SS.un HW6.out (show Fi.nV p+v < 2*Fi.nV p by omega) hset
        have hor:X|||Q.up (vv (Fi.nV p) s.fst fo) (Fi.nV p+v) X (Fi.nV p+lv)=X|||fo lv:=by
         by_cases e:lv=v
         ·subst e
          rw [Q.up_same,Nat.or_self,Fi.or_of_sub HSUB.out]
         ·rw [Q.up_ne _ _ (by omega),vv_ge]
        rw [hor,vv_up2] at HUN
        have hgl:=grew_law (Y:=fo lv) HSUB.out
        obtain ⟨u,hu⟩:∃ u,u=decide (X|||fo lv≠X):=⟨_,rfl⟩
        rw [← hu,← HGG.out] at hgl
        rw [← hu] at HUN
        have he7:=HE6.out
        rw [← hgl] at he7
        have HE7:=Lib.hid he7
        clear hset hor hgl hu he7 HE6
        go_wp2_with fail
        refine HUN.mono ?_
        rintro e w7 ⟨rfl,h7,k7⟩
        have HW7:=Lib.hid h7
        have HB7:=Lib.hid ((k7.block _ (lt_of_block HB6.out) (by obtain ⟨_,h3,_⟩:=(HW6.out.fam.set (Fi.nV p+v) (by omega)).row; exact ne_of_types HB6.out h3 (by decide))).trans HB6.out)
        clear HUN h7 k7 HW6 HB6
        cases u<;>cases ch<;>(
         go_wp2_with fail
         go_roundg (x.right.length - (j+1))
         case measure=>have:=HJ.out; omega
         case rel=>exact ⟨j+1,_,_,by go_num,by omega,rfl,Lib.hid (by omega),HW7,HB7,by simpa using HE7⟩)
    ·obtain rfl:j=x.right.length:=by omega
     have hend:=HE.out
     rw [List.drop_length] at hend
     have he:=HEE.out
     rw [show R2=(fo,ch) from hend] at he
     have HE3:=Lib.hid he
     clear hlj HJ HE hend he HEE HB
     go_wp2_with fail
     go_roundg (p.rules.length - (i+1))
     case measure=>have:=HG.out; omega
     case rel=>exact ⟨i+1,ch,fo,by go_num,by omega,rfl,Lib.hid (by omega),HW,HE3⟩
  ·obtain rfl:i=p.rules.length:=by omega
   have hend:=HE.out
   rw [List.drop_length] at hend
   have HEE:Hid (R=(fo,ch)):=Lib.hid hend
   clear hlt HG HE hend
   go_wp2_with fail
   go_ret
   exact ⟨by rw [HEE.out]; rfl,by rw [HEE.out]; exact HW.out⟩
end Go.Proofs.YtjbggogbnckllaaDoor
end
