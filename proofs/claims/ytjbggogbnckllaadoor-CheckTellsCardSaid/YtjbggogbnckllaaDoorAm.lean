/-
  A cell's store as one of a tail's first operations.
  A queue of numbers: a slice of the call's own array, whose head goes and whose tail comes.
-/
import Derived.Test.YtjbggogbnckllaaDoorAk
import Derived.Test.YtjbggogbnckllaaDoorAj
import Derived.ArgAppend
section
set_option maxRecDepth 100000
namespace Go.Proofs.YtjbggogbnckllaaDoor
open Go Go.RowKit
set_option linter.unusedVariables false
theorem listE_store_cell {P:Program} {D:World→Prop} {ops:Array Oper} {rest:List Oper} {o:Oper} {a:Act} {w:World} {Q:Exit→Act→World→Prop} {k:Nat} (hgd:o.guard=none) (T:TypeId) (x y:Operand) (ho:o.op=.store T x y)
  (g j:Nat) (hx:a.eval x=.pointer (some ⟨g,j,none⟩)) (v:Value) (hy:a.eval y=v) (hv:v.oneCell'=true) (hi:(P.info? T).map (·.size)=some 1) (cs:Array Value) (t:TypeId) (hg:w.heap[g]?=some (.cells cs t (0,0))) (hj:j < cs.size)
  (h:D (w.setCell ⟨g,j,none⟩ v)∧wpListE P ops Q D k rest (a.put o.dst undef) (w.setCell ⟨g,j,none⟩ v)):wpListE P ops Q D (k+1) (o::rest) a w:=by
 refine listE_wp hgd ?_
 cases hq:P.info? T with
 | none=>simp [hq] at hi
 | some i =>
  have hsz:i.size=1:=by simpa [hq] using hi
  have hc:w.cell? ⟨g,j,none⟩=some cs[j]:=by rw [cell_of_row w g j cs t (0,0) hg]; simp [hj]
  have hf:w.frozen? ⟨g,j,none⟩=false:=frozen_of_row _ _ _ _ _ hg
  unfold Oper.wp execOp
  simp only [ho,hx,hy]
  have hcells:v.cells=#[v]:=by cases v<;>first | rfl | (simp [Value.oneCell'] at hv)
  simp [Instr.storeAt,Instr.sureAddr,storeVar,sizeOf,typeInfo,hq,hsz,hcells]
  have hst:=run_storeCells_at P g j t [v] 0 cs w hg (by simp; omega) (by simpa using hv)
  simp only [Nat.add_zero] at hst
  rw [hst]
  have e:(List.take j cs.toList++[v]++List.drop (j+[v].length) cs.toList).toArray=cs.setIfInBounds j v:=by
   apply Array.toList_inj.1
   rw [Array.toList_setIfInBounds,List.set_eq_take_append_cons_drop,if_pos (by simpa using hj)]
   simp
  rw [e,← setCell_eq_setRow w g j cs t (0,0) v hg]
  exact h
end Go.Proofs.YtjbggogbnckllaaDoor
end
section
set_option maxRecDepth 100000
namespace Go.Proofs.YtjbggogbnckllaaDoor
open Go.RowKit
set_option linter.unusedVariables false
set_option linter.unusedSimpArgs false
/-- A queue's numbers lie in block g, from off on. -/
structure Qu (w:World) (g off cap:Nat) (l:List Int):Prop where
 le:l.length≤cap
 row:∃ cs:Array Value,w.heap[g]?=some (.cells cs 3 (0,0))∧(0 < cap→off+cap≤cs.size)∧∀ i (h:i < l.length),cs[off+i]?=some (.int .i64 l[i])
section
variable {w w':World} {g off cap:Nat} {l:List Int}
theorem Qu.lt (h:Qu w g off cap l):g < w.heap.size:=by obtain ⟨cs,e,_⟩:=h.row; exact lt_of_block e
theorem Qu.kept (h:Qu w g off cap l) (k:w'.heap[g]?=w.heap[g]?):Qu w' g off cap l:=by
 obtain ⟨cs,e,h2⟩:=h.row; exact ⟨h.le,cs,k.trans e,h2⟩
theorem Qu.below (h:Qu w g off cap l) (k:Below w.heap.size w w'):Qu w' g off cap l:=h.kept (k.block _ h.lt)
theorem Qu.upd {c:Nat} (h:Qu w g off cap l) (k:Upd c w w') (hb:g≠c):Qu w' g off cap l:=h.kept (k.block _ h.lt hb)
theorem Qu.cell (h:Qu w g off cap l) {i:Nat} (hi:i < l.length):w.cell? ⟨g,off+i,none⟩=some (.int .i64 l[i]):=by
 obtain ⟨cs,e,_,h⟩:=h.row
 rw [cell_of_row _ _ _ _ _ _ e]; exact h i hi
/-- The head goes. -/
theorem Qu.tail {x:Int} {r:List Int} (h:Qu w g off cap (x::r)):Qu w g (if cap=1 then off else off+1) (cap - 1) r:=by
 obtain ⟨cs,e,h1,h2⟩:=h.row
 have hl:=h.le
 rw [List.length_cons] at hl
 refine ⟨by omega,cs,e,fun hc=>?_,fun i hi=>?_⟩
 ·have:=h1 (by omega)
  rw [if_neg (by omega)]; omega
 ·have:=h2 (i+1) (by simpa using hi)
  rw [if_neg (by omega),show off+1+i=off+(i+1) by omega]
  simpa using this
theorem qu_sliced (g off cap n:Nat):sliced (some ⟨g,off,none⟩) 1 n cap 1=.slice (some ⟨g,if cap=1 then off else off+1,none⟩) (n - 1) (cap - 1):=by
 unfold sliced
 by_cases h:cap=1
 ·simp [h]
 ·simp [h,Addr.add]
theorem Qu.new (w:World) (x:Int):Qu (w.alloc (.cells #[.int .i64 x] 3)) w.heap.size 0 1 [x] :=
 ⟨Nat.le_refl _,_,heap_alloc_new w _,fun _=>Nat.le_refl _,fun i hi=>by
  have:i=0:=by simpa using hi
  subst this; rfl⟩
end
theorem run_append_qu (w:World) (ty:TypeId) {g off cap:Nat} {l:List Int} (q:Qu w g off cap l) (ad:Addr) (c:Nat) (x:Int) (hx:w.cell? ad=some (.int .i64 x)) (hl:l.length≤1000000) :
  ∃ g' off' cap' w',(Builtin.append_ #[30,30] ty #[.slice (some ⟨g,off,none⟩) l.length cap,.slice (some ad) 1 c]).run Tryd.prog w=.ok (.slice (some ⟨g',off',none⟩) (l.length+1) cap') w' ∧
   Qu w' g' off' cap' (l++[x])∧Upd g w w'∧(g'=g∨g'=w.heap.size):=by
 obtain ⟨i,z,hi,hz,hsz,hby,hzs⟩:=elt_int.hi
 obtain ⟨cs,e,h1,h2⟩:=q.row
 have hle:=q.le
 have hnews:∀ j u,([.int .i64 x]:List Value)[j]?=some u→w.cell? (ad.add j)=some u:=by
  intro j u hu
  cases j with
  | zero=>simp only [List.getElem?_cons_zero,Option.some.injEq] at hu; subst hu; simpa [Addr.add] using hx
  | succ j=>simp at hu
 by_cases hr:l.length+1≤cap
 ·have hs:=h1 (by omega)
  have hc:(w.cell? ⟨g,off+l.length*i.size+0,none⟩).isSome=true:=by
   rw [hsz,cell_of_row _ _ _ _ _ _ e]
   simp only [Nat.mul_one,Nat.add_zero]
   rw [Array.getElem?_eq_getElem (by omega)]; rfl
  have hf:w.frozen? ⟨g,off+l.length*i.size+0,none⟩=false:=frozen_of_row _ _ _ _ _ e
  have hc2:∀ j,j < ([.int .i64 x]:List Value).length→(w.cell? ⟨g,off+l.length*i.size+j,none⟩).isSome=true:=fun j hj=>by
   have:j=0:=by simpa using hj
   subst this
   exact hc
  have hf2:∀ j,j < ([.int .i64 x]:List Value).length→w.frozen? ⟨g,off+l.length*i.size+j,none⟩=false:=fun j hj=>by
   have:j=0:=by simpa using hj
   subst this
   exact hf
  have hrun:=run_append_room_cells (P:=Tryd.prog) w 30 ty 3 i elt_int.ht hi g off l.length cap ad 1 c [.int .i64 x] (by rw [hsz]; rfl) hnews (by intro u hu; rw [List.mem_singleton.1 hu]; rfl) hr hc2 hf2
  rw [hsz,Nat.mul_one] at hrun
  refine ⟨g,off,cap,_,hrun,⟨by simpa using hr,?_⟩,(Upd.refl g w).setCell ⟨g,off+l.length,none⟩ rfl _,.inl rfl⟩
  refine ⟨_,heap_setCell_same _ _ _ _ _ _ e,by simpa using h1,fun k hk=>?_⟩
  rw [List.length_append,List.length_singleton] at hk
  by_cases hkl:k < l.length
  ·rw [Array.getElem?_setIfInBounds_ne (by omega),List.getElem_append_left hkl]
   exact h2 k hkl
  ·obtain rfl:k=l.length:=by omega
   rw [Array.getElem?_setIfInBounds_self_of_lt (by omega)]
   simp
 ·have hcap:cap=l.length:=by omega
  subst hcap
  have holds:∀ j u,(intV l)[j]?=some u→w.cell? ((⟨g,off,none⟩:Addr).add j)=some u:=by
   intro j u hu
   unfold intV at hu
   rw [List.getElem?_map] at hu
   by_cases hj:j < l.length
   ·rw [List.getElem?_eq_getElem hj] at hu
    simp only [Option.map_some,Option.some.injEq] at hu
    subst hu
    rw [Addr.add_lit]
    exact q.cell hj
   ·rw [List.getElem?_eq_none (by omega)] at hu
    cases hu
  have hlen:(intV l).length=l.length:=by simp [intV]
  have hrun:=run_append_grow (P:=Tryd.prog) w 30 ty 3 i z elt_int.ht hi hz ⟨g,off,none⟩ l.length l.length (intV l) (by rw [hsz,hlen,Nat.mul_one]) holds ad 1 c [.int .i64 x] (by rw [hsz]; rfl) hnews (by omega) (by omega) (by
   rw [hby]
   have h3:=nextcap_one (n:=l.length)
   exact Nat.le_trans (Nat.mul_le_mul_right 8 h3) (by omega))
  have hge:=grownCap_ge w (l.length+1) l.length 3
  refine ⟨w.heap.size,0,_,_,hrun,⟨by simpa using hge,?_⟩,⟨rfl,rfl,rfl,by simp,fun k hk _=>Below.heap_alloc w.drew _ k hk⟩,.inr rfl⟩
  refine ⟨_,heap_alloc_new w.drew _,fun _=>?_,fun k hk=>?_⟩
  ·simp only [Array.size_append,List.size_toArray,size_zeroCells,hzs,hlen,List.length_singleton,Nat.mul_one]
   omega
  ·rw [List.length_append,List.length_singleton] at hk
   have hk1:k < ((intV l).toArray++[Value.int .i64 x].toArray).size:=by
    simp only [Array.size_append,List.size_toArray,hlen,List.length_singleton]; omega
   rw [Nat.zero_add,Array.getElem?_append_left hk1]
   have e1:(intV l).toArray++[Value.int .i64 x].toArray=(intV (l++[x])).toArray:=by simp [intV]
   rw [e1,List.getElem?_toArray]
   unfold intV
   rw [List.getElem?_map,List.getElem?_eq_getElem (by simpa using hk)]
   rfl
theorem list_append_qu {ops:Array Oper} {rest:List Oper} {o:Oper} {a:Act} {w:World} {Q:Exit→Act→World→Prop} (hgd:o.guard=none) (s x:Operand)
  (ho:o.op=.call { callee:=.builtin .append,args:=#[s,x],argTypes:=#[30,30] }) {g off cap:Nat} {l:List Int} (q:Qu w g off cap l) (hs:a.eval s=.slice (some ⟨g,off,none⟩) l.length cap)
  (ad:Addr) (c:Nat) (n:Int) (hx:a.eval x=.slice (some ad) 1 c) (hc:w.cell? ad=some (.int .i64 n)) (hl:l.length≤1000000)
  (h:∀ g' off' cap' w',Qu w' g' off' cap' (l++[n])→Upd g w w'→(g'=g∨g'=w.heap.size)→wpList Tryd.prog ops Q rest (a.put o.dst (.slice (some ⟨g',off',none⟩) (l.length+1) cap')) w') :
  wpList Tryd.prog ops Q (o::rest) a w :=
 wpList_plain hgd fun _ hK=>by
  obtain ⟨g',off',cap',w',hr,h2,h3,h4⟩:=run_append_qu w o.type q ad c n hc hl
  unfold Oper.wp execOp
  simp only [ho,resolve,invoke,builtin,Sem.run_bind,Sem.run_pure,Result.andThen_ok,List.map_toArray,List.map_cons,List.map_nil,hs,hx,hr]
  exact hK _ _ (h g' off' cap' w' h2 h3 h4)
end Go.Proofs.YtjbggogbnckllaaDoor
end
