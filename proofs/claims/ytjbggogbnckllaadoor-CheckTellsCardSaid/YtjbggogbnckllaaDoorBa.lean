/-
  Walks: counts that stop; a plan's variable; a row of numbers that is written.
  Walks of chapter 9: how many symbols; is a symbol a terminal; how long a right side is.
  A plan that Of makes keeps to the numbers of chapter 9.
  A row of truths that is written.
  A made row of truths.
  Parts of slices of numbers.
-/
import Derived.Test.YtjbggogbnckllaaDoorSmD
import Derived.Test.YtjbggogbnckllaaDoorAl
import Derived.Test.YtjbggogbnckllaaDoorAk
import Derived.Test.YtjbggogbnckllaaDoorAj
section
set_option maxRecDepth 100000
namespace Go.Proofs.YtjbggogbnckllaaDoor
open Go.RowKit
set_option linter.unusedVariables false
set_option linter.unusedSimpArgs false
/-- A row of numbers. -/
def Arr (w:World) (b n:Nat) (f:Nat→Int):Prop:=∃ cs:Array Value,w.heap[b]?=some (.cells cs 3 (0,0))∧n≤cs.size∧∀ i,i < n→cs[i]?=some (.int .i64 (f i))
section
variable {w w':World} {b n:Nat} {f:Nat→Int}
theorem Arr.lt (h:Arr w b n f):b < w.heap.size:=by obtain ⟨cs,e,_⟩:=h; exact lt_of_block e
theorem Arr.kept (h:Arr w b n f) (k:w'.heap[b]?=w.heap[b]?):Arr w' b n f:=by obtain ⟨cs,e,h⟩:=h; exact ⟨cs,k.trans e,h⟩
theorem Arr.below (h:Arr w b n f) (k:Below w.heap.size w w'):Arr w' b n f:=h.kept (k.block _ h.lt)
theorem Arr.upd {c:Nat} (h:Arr w b n f) (k:Upd c w w') (hb:b≠c):Arr w' b n f:=h.kept (k.block _ h.lt hb)
theorem Arr.cell (h:Arr w b n f) {i:Nat} (hi:i < n):w.cell? ⟨b,i,none⟩=some (.int .i64 (f i)):=by
 obtain ⟨cs,e,hn,h⟩:=h
 rw [cell_of_row _ _ _ _ _ _ e]; exact h i hi
theorem Arr.fz (h:Arr w b n f) (j:Nat):w.frozen? ⟨b,j,none⟩=false:=by obtain ⟨cs,e,_⟩:=h; exact frozen_of_row _ _ _ _ _ e
theorem Arr.set (h:Arr w b n f) (i:Nat) (v:Int):Arr (w.setCell ⟨b,i,none⟩ (.int .i64 v)) b n (Q.up f i v):=by
 obtain ⟨cs,e,hn,h⟩:=h
 refine ⟨_,heap_setCell_same _ _ _ _ _ _ e,by simpa using hn,fun j hj=>?_⟩
 by_cases hij:j=i
 ·subst hij
  rw [Q.up_same,Array.getElem?_setIfInBounds_self_of_lt (by omega)]
 ·rw [Q.up_ne _ _ hij,Array.getElem?_setIfInBounds_ne (fun e=>hij e.symm)]; exact h j hj
theorem Arr.setO (h:Arr w b n f) {c:Nat} (hc:b≠c) (i:Nat) (v:Value):Arr (w.setCell ⟨c,i,none⟩ v) b n f:=h.upd ((Upd.refl c w).setCell ⟨c,i,none⟩ rfl v) hc
theorem Arr.ext {g:Nat→Int} (h:Arr w b n f) (e:∀ i,i < n→f i=g i):Arr w b n g:=by
 obtain ⟨cs,e',hn,h⟩:=h
 exact ⟨cs,e',hn,fun i hi=>by rw [← e i hi]; exact h i hi⟩
end
def pnC (p:Pl.Plan) (ta va ra la aa ca:Option Addr) (tc vc rc lc ac cc:Nat):Array Value :=
 #[.slice ta p.terms.length tc,.slice va p.vars.length vc,.slice ra p.rules.length rc,.slice la p.levels.length lc,.slice aa p.assocs.length ac,.slice ca p.acts.length cc]
/-- A plan's variable. -/
structure PB (W:World) (b:Nat) (p:Pl.Plan) (ta va ra la aa ca:Option Addr) (tc vc rc lc ac cc:Nat):Prop where
 lt:b < W.heap.size
 c0:W.cell? ⟨b,0,none⟩=some (.slice ta p.terms.length tc)
 c1:W.cell? ⟨b,1,none⟩=some (.slice va p.vars.length vc)
 c2:W.cell? ⟨b,2,none⟩=some (.slice ra p.rules.length rc)
 c3:W.cell? ⟨b,3,none⟩=some (.slice la p.levels.length lc)
 c4:W.cell? ⟨b,4,none⟩=some (.slice aa p.assocs.length ac)
 c5:W.cell? ⟨b,5,none⟩=some (.slice ca p.acts.length cc)
 a:PnA W p ta va ra la aa ca
theorem PB.below {W W':World} {b:Nat} {p:Pl.Plan} {ta va ra la aa ca:Option Addr} {tc vc rc lc ac cc:Nat} (h:PB W b p ta va ra la aa ca tc vc rc lc ac cc) (k:Below W.heap.size W W'):PB W' b p ta va ra la aa ca tc vc rc lc ac cc :=
 ⟨Nat.lt_of_lt_of_le h.lt k.size,((bcell k).1 _ _ h.lt).trans h.c0,((bcell k).1 _ _ h.lt).trans h.c1,((bcell k).1 _ _ h.lt).trans h.c2,((bcell k).1 _ _ h.lt).trans h.c3,((bcell k).1 _ _ h.lt).trans h.c4,((bcell k).1 _ _ h.lt).trans h.c5,h.a.below k⟩
theorem PB.new {w:World} {p:Pl.Plan} {ta va ra la aa ca:Option Addr} {tc vc rc lc ac cc:Nat} (h:PnA w p ta va ra la aa ca):PB (w.alloc (.cells (pnC p ta va ra la aa ca tc vc rc lc ac cc) 32)) w.heap.size p ta va ra la aa ca tc vc rc lc ac cc:=by
 have hP:=heap_alloc_new w (.cells (pnC p ta va ra la aa ca tc vc rc lc ac cc) 32)
 have k:=(Below.refl w.heap.size w).alloc (Nat.le_refl _) (.cells (pnC p ta va ra la aa ca tc vc rc lc ac cc) 32)
 refine ⟨by simp,?_,?_,?_,?_,?_,?_,h.below k⟩
 all_goals (rw [cell_of_row _ _ _ _ _ _ hP]; rfl)
end Go.Proofs.YtjbggogbnckllaaDoor
end
section
set_option maxRecDepth 100000
namespace Go.Proofs.YtjbggogbnckllaaDoor
open Go.RowKit
set_option linter.unusedVariables false
set_option linter.unusedSimpArgs false
section
variable {w:World} {v:Value} {p:Pl.Plan}
set_option maxRecDepth 100000 in
set_option maxHeartbeats 2000000 in
theorem term_any (x:Int) (h:PnV w v p) (h1:p.terms.length≤1000) :
  Calls Tryd.prog 52 #[v,.int .i64 x] w fun e w'=>e=.returned (.bool (decide (0≤x∧x < (p.terms.length:Int))))∧Below w.heap.size w w':=by
 obtain ⟨ta,tc,va,vc,ra,rc,la,lc,aa,ac,ca,cc,rfl,h⟩:=h
 have HP:=PB.new (tc:=tc) (vc:=vc) (rc:=rc) (lc:=lc) (ac:=ac) (cc:=cc) h
 have HB:=Lib.hid ((Below.refl w.heap.size w).alloc (Nat.le_refl _) (.cells (pnC p ta va ra la aa ca tc vc rc lc ac cc) 32))
 unfold pnC at HP HB
 have c0:=HP.c0
 clear HP h
 by_cases h0:0≤x
 ·have d0:decide (0≤x)=true:=by simpa using h0
  by_cases h2:x < (p.terms.length:Int)
  ·have d2:decide (x < (p.terms.length:Int))=true:=by simpa using h2
   have hv:Hid (decide (0≤x∧x < (p.terms.length:Int))=true):=Lib.hid (by simp; omega)
   rw [hv.out]
   clear h0 h2
   go_enter Tryd.func52,Tryd.ntmps52
   go_wp2_with fail
   go_ret
   exact ⟨rfl,HB.out⟩
  ·have d2:decide (x < (p.terms.length:Int))=false:=by simpa using h2
   have hv:Hid (decide (0≤x∧x < (p.terms.length:Int))=false):=Lib.hid (by simp; omega)
   rw [hv.out]
   clear h0 h2
   go_enter Tryd.func52,Tryd.ntmps52
   go_wp2_with fail
   go_ret
   exact ⟨rfl,HB.out⟩
 ·have d0:decide (0≤x)=false:=by simpa using h0
  have hv:Hid (decide (0≤x∧x < (p.terms.length:Int))=false):=Lib.hid (by simp; omega)
  rw [hv.out]
  clear h0
  go_enter Tryd.func52,Tryd.ntmps52
  go_wp2_with fail
  go_ret
  exact ⟨rfl,HB.out⟩
end
end Go.Proofs.YtjbggogbnckllaaDoor
end
section
set_option maxRecDepth 100000
namespace Go.Proofs.YtjbggogbnckllaaDoor
namespace Q
theorem right_bounds {g:Rd.Gr} (h:Pl.right g=true):g.toks.length≤20∧g.rules.length≤40∧1≤g.rules.length∧∀ r ∈ g.rules,r.right.length≤8∧Pl.name r.left=true:=by
 unfold Pl.right at h
 simp only [Bool.and_eq_true,decide_eq_true_eq,List.all_eq_true] at h
 obtain ⟨⟨⟨⟨⟨⟨⟨⟨⟨⟨⟨h1,_⟩,_⟩,h4⟩,h5⟩,_⟩,_⟩,_⟩,_⟩,h10⟩,_⟩,_⟩:=h
 refine ⟨h1,h5,h4,fun r hr=>?_⟩
 have:=h10 r hr
 unfold Pl.okRule at this
 simp only [Bool.and_eq_true,decide_eq_true_eq] at this
 exact ⟨this.1.1.1.2,this.1.1.1.1⟩
theorem name_end:Pl.name Pl.endS=false:=by decide
theorem sym_left {tm vs:List ByteArray} {s:ByteArray} (h1:s ∉ tm) (h2:s ∈ vs):tm.length≤(Pl.sym tm vs s).toNat∧(Pl.sym tm vs s).toNat≤tm.length+vs.length:=by
 obtain ⟨k,hk,_,e⟩:=placeI_pos h2
 have hn:Pl.place tm s=none:=by
  cases hp:Pl.place tm s with
  | none=>rfl
  | some i=>exact absurd (place_iff.1 (by rw [hp]; rfl)) h1
 unfold Pl.sym
 rw [hn,e]
 simp only
 omega
theorem ok_of {g:Rd.Gr} {p:Pl.Plan} {s:ByteArray} (h:Pl.of g=(p,0,s)):OK p:=by
 obtain ⟨F,_⟩:=ofF h
 obtain ⟨b1,b2,b3,b4⟩:=right_bounds F.right
 have hr:∀ r ∈ p.rules,r=⟨p.terms.length+p.vars.length,[Pl.sym p.terms p.vars g.start],0⟩∨∃ i,∃ hi:i < g.rules.length,Pl.prod g.levs p.terms p.vars p.levels g.rules[i]=.ok r:=by
  intro r hr
  obtain ⟨j,hj,e⟩:=List.getElem_of_mem hr
  cases j with
  | zero =>
   left
   have h0:=F.r0
   rw [List.getElem?_eq_getElem hj] at h0
   rw [← e]
   exact Option.some.inj h0
  | succ i =>
   right
   have hi:i < g.rules.length:=by have:=F.len; omega
   obtain ⟨x,hx,hx2⟩:=F.r i hi
   rw [List.getElem?_eq_getElem hj] at hx2
   refine ⟨i,hi,?_⟩
   rw [hx,← e]
   exact congrArg _ (Option.some.inj hx2).symm
 have hv:p.vars.length≤40:=by
  have:=vars_len g.rules g.rules.length (Nat.le_refl _)
  rw [List.take_length] at this
  rw [F.vars]; omega
 have ht:p.terms.length=g.toks.length+1:=by rw [F.terms]; simp
 obtain ⟨k0,hk0,e0⟩:=sym_var (tm:=p.terms) F.start
 refine ⟨by omega,by omega,by omega,by have:=F.len; omega,?_,?_,?_⟩
 ·intro r hm
  rcases hr r hm with e | ⟨i,hi,e⟩
  ·rw [e]; exact ⟨by simp,Nat.le_refl _⟩
  ·obtain ⟨_,_,el,_⟩:=prod_ok e
   rw [el]
   have hmem:g.rules[i].left ∈ p.vars:=by rw [F.vars]; exact vars_mem _ _ (List.getElem_mem hi)
   refine sym_left ?_ hmem
   rw [F.terms]
   intro hx
   rcases List.mem_cons.1 hx with hx | hx
   ·have h2:=(b4 _ (List.getElem_mem hi)).2
    rw [hx,name_end] at h2
    cases h2
   ·obtain ⟨t,ht2,e2⟩:=List.mem_map.1 hx
    exact F.notv t ht2 (by rw [e2,← F.vars]; exact hmem)
 ·intro r hm
  rcases hr r hm with e | ⟨i,hi,e⟩
  ·rw [e]
   intro x hx
   simp only [List.mem_singleton] at hx
   rw [hx,e0]
   omega
  ·obtain ⟨_,e1,_,_⟩:=prod_ok e
   exact (rt_len e1).2 (by simp)
 ·intro r hm
  rcases hr r hm with e | ⟨i,hi,e⟩
  ·rw [e]; simp
  ·obtain ⟨_,e1,_,_⟩:=prod_ok e
   have h1:=(rt_len e1).1
   have h2:=(b4 _ (List.getElem_mem hi)).1
   simp at h1
   omega
end Q
end Go.Proofs.YtjbggogbnckllaaDoor
end
section
set_option maxRecDepth 100000
namespace Go.Proofs.YtjbggogbnckllaaDoor
open Go.RowKit
set_option linter.unusedVariables false
set_option linter.unusedSimpArgs false
/-- A row of truths. -/
def Brr (w:World) (b n:Nat) (f:Nat→Bool):Prop:=∃ cs:Array Value,w.heap[b]?=some (.cells cs 4 (0,0))∧n≤cs.size∧∀ i,i < n→cs[i]?=some (.bool (f i))
section
variable {w w':World} {b n:Nat} {f:Nat→Bool}
theorem Brr.lt (h:Brr w b n f):b < w.heap.size:=by obtain ⟨cs,e,_⟩:=h; exact lt_of_block e
theorem Brr.kept (h:Brr w b n f) (k:w'.heap[b]?=w.heap[b]?):Brr w' b n f:=by obtain ⟨cs,e,h⟩:=h; exact ⟨cs,k.trans e,h⟩
theorem Brr.below (h:Brr w b n f) (k:Below w.heap.size w w'):Brr w' b n f:=h.kept (k.block _ h.lt)
theorem Brr.upd {c:Nat} (h:Brr w b n f) (k:Upd c w w') (hb:b≠c):Brr w' b n f:=h.kept (k.block _ h.lt hb)
theorem Brr.cell (h:Brr w b n f) {i:Nat} (hi:i < n):w.cell? ⟨b,i,none⟩=some (.bool (f i)):=by
 obtain ⟨cs,e,hn,h⟩:=h
 rw [cell_of_row _ _ _ _ _ _ e]; exact h i hi
theorem Brr.fz (h:Brr w b n f) (j:Nat):w.frozen? ⟨b,j,none⟩=false:=by obtain ⟨cs,e,_⟩:=h; exact frozen_of_row _ _ _ _ _ e
theorem Brr.set (h:Brr w b n f) (i:Nat) (v:Bool):Brr (w.setCell ⟨b,i,none⟩ (.bool v)) b n (Q.up f i v):=by
 obtain ⟨cs,e,hn,h⟩:=h
 refine ⟨_,heap_setCell_same _ _ _ _ _ _ e,by simpa using hn,fun j hj=>?_⟩
 by_cases hij:j=i
 ·subst hij
  rw [Q.up_same,Array.getElem?_setIfInBounds_self_of_lt (by omega)]
 ·rw [Q.up_ne _ _ hij,Array.getElem?_setIfInBounds_ne (fun e=>hij e.symm)]; exact h j hj
theorem Brr.setO (h:Brr w b n f) {c:Nat} (hc:b≠c) (i:Nat) (v:Value):Brr (w.setCell ⟨c,i,none⟩ v) b n f:=h.upd ((Upd.refl c w).setCell ⟨c,i,none⟩ rfl v) hc
theorem Brr.ext {g:Nat→Bool} (h:Brr w b n f) (e:∀ i,i < n→f i=g i):Brr w b n g:=by
 obtain ⟨cs,e',hn,h⟩:=h
 exact ⟨cs,e',hn,fun i hi=>by rw [← e i hi]; exact h i hi⟩
end
end Go.Proofs.YtjbggogbnckllaaDoor
end
section
set_option maxRecDepth 100000
namespace Go.Proofs.YtjbggogbnckllaaDoor
open Go.RowKit
theorem info4b:(Tryd.prog.info? 4).map (fun i=>(i.zero,i.size,i.bytes))=some (some (Value.bool false),1,1):=by kernel_rfl
/-- The row of a made slice of truths. -/
theorem make_bools (n:Nat) (hn:n≤100000) (w:World) :
  (Instr.makeSlice 34 (.int .i64 (n:Nat)) (.int .i64 (n:Nat))).run Tryd.prog w=.ok (.slice (some ⟨w.heap.size,0,none⟩) n n) (w.alloc (.cells (madeCells #[.bool false] n) 4)):=by
 obtain ⟨i0,hi,hz0,hz1,hz2⟩:=info_parts info4b
 have hr:=run_make (P:=Tryd.prog) w 34 4 i0 (.bool false) Tryd.underlying34 hi hz0 .i64 .i64 n n (by omega) (Int.le_refl _) (by rw [hz2]; omega) (by omega)
 rw [hr,hz1]
 simp [Value.cells]
theorem Brr.made (w:World) (n:Nat):Brr (w.alloc (.cells (madeCells #[.bool false] n) 4)) w.heap.size n (fun _=>false):=by
 refine ⟨_,heap_alloc_new w _,by simp [madeCells],fun i hi=>?_⟩
 simp [madeCells,hi,Nat.mod_one]
end Go.Proofs.YtjbggogbnckllaaDoor
end
section
set_option maxRecDepth 100000
namespace Go.Proofs.YtjbggogbnckllaaDoor
open Go.RowKit
set_option linter.unusedVariables false
set_option linter.unusedSimpArgs false
theorem int_slice (b off n k c:Nat) (h:k≤n) (w:World):Sem.run Tryd.prog (Instr.sliceAt 30 (.slice (some ⟨b,off,none⟩) n c) (some (.int .i64 (k:Int))) none none) w=.ok (.slice (some ⟨b,if c=k then off else off+k,none⟩) (n - k) (c - k)) w:=by
 have he:Tryd.prog.elem 30=3:=by kernel_rfl
 obtain ⟨i,z,hi,hz,hsz,_⟩:=elt_int.hi
 rw [run_sliceAt_slice w 30 _ _ _ _ (by rw [he]; exact elt_int.ht),run_slice_l w 30 _ _ _ (by rw [he]; exact elt_int.ht) .i64 _ (by omega) (by omega),he]
 by_cases hc:c=k
 ·simp [sizeOf,typeInfo,hi,hsz,Result.andThen,sliced,hc]
 ·simp [sizeOf,typeInfo,hi,hsz,Result.andThen,sliced,hc,Addr.add]
theorem Arr.take {w:World} {g n m:Nat} {f:Nat→Int} (h:Arr w g n f) (hm:m≤n):Arr w g m f:=by
 obtain ⟨cs,e,h1,h2⟩:=h
 exact ⟨cs,e,by omega,fun i hi=>h2 i (by omega)⟩
theorem Ints.dropped {w:World} {b off c k:Nat} {l:List Int} (h:Ints w (some ⟨b,off,none⟩) l) (hc:l.length≤c) (hk:k≤l.length):Ints w (some ⟨b,if c=k then off else off+k,none⟩) (l.drop k):=by
 intro i hi
 have hi':k+i < l.length:=by simp at hi; omega
 obtain ⟨b',off',e,hcell⟩:=h (k+i) hi'
 cases e
 refine ⟨b,_,rfl,?_⟩
 rw [if_neg (by omega),List.getElem_drop,Nat.add_assoc]
 exact hcell
end Go.Proofs.YtjbggogbnckllaaDoor
end
