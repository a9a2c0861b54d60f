/-
  Small laws for the walks of this seat, over any program: a region whose operations each yield one value in every world of a class; a new variable of an array's type; a store of a whole array.
  append of one element onto a slice that is nil or the call's own, over any program: where the new slice lies, and what it owns; the room that is asked is what Go's own growth asks.
  A region that draws its order and ends in a forced tail, over any program: the head's operations each yield one value in every world of a class (calls may leave another world of the class); the tail is walked once, from any world of the class.
  A call of a Go function as one step of a region that draws.
  Plain laws of small sets: a set is a number; its words; which numbers are its own; the lowest one; what is left behind it.
  Small sets in memory: where one lies; what a call may change; walks of is and Has.
  Walks of Add and Drop.
  Walks of New, Width and Of.
-/
import Derived.WalkKit
import Derived.WalkSpells
import Derived.WalkLawsBesides
import Derived.BigQuiet
import Derived.Lib.Hide
import Derived.Deep.MidRow
import Derived.Deep.RegionWith
import Derived.Deep.DeepCutAuto
import Derived.Deep.RegionHeld3
import Derived.Deep.AppendLies
import Derived.KernelRfl
import Derived.StillTail
import Derived.Deep.RegionLaw
import Derived.Laws.Rows
import Derived.Lib.TrailingZeros
import Derived.Test.YtjbggogbnckllaaDoorRows
import Derived.Laws.Bits64b
import Derived.OneCell
import Derived.Laws.NewBlocks
import Derived.Laws.MakeOwn
section
set_option maxRecDepth 100000
namespace Go.Proofs.YtjbggogbnckllaaDoor
open Go.RowKit
/-- A world that is as w0 was below block number B. -/
structure Wd (B:Nat) (w0:World) where
 w:World
 ok:Below B w0 w
instance (B:Nat) (w0:World):Nonempty (Wd B w0):=⟨⟨w0,.refl _ _⟩⟩
/-- A region that draws its order, each of whose operations yields one value in every world that is as 'w' below B (a call may leave another such world): one walk of the text's order. -/
theorem region_cls {P:Program} {id:Nat} {Q:Exit→Act→World→Prop} {a:Act} {w:World} {l:List Oper} (B:Nat) (hm:P.follows .mixedOrders=true) (hB:Region.lexB .any l.toArray=true)
  (h:wpQuiet P l.toArray (fun w'=>∃ x:Wd B w,w'=x.w) (fun a'=>∀ x:Wd B w,Q .normal a' x.w) l a):(Code.region id l.toArray true).wp P Q a w :=
 wp_region_quiet (C:=fun w'=>∃ x:Wd B w,w'=x.w) hm hB ⟨⟨_,(Below.refl _ _).drew⟩,rfl⟩ (by
  have e:(fun a':Act=>∀ w',(∃ x:Wd B w,w'=x.w)→Q .normal a' w')=fun a'=>∀ x:Wd B w,Q .normal a' x.w:=by
   funext a'; apply propext; constructor
   ·intro g x; exact g _ ⟨x,rfl⟩
   ·rintro g w' ⟨x,rfl⟩; exact g x
  rw [e]; simpa using h)
/-- A call whose contract leaves all as it was below the heap's size, met in such a world. -/
theorem calls_cls {P:Program} {f:FuncId} {args:Array Value} {B:Nat} {w0:World} {v:Value} (x:Wd B w0) (hB:B≤w0.heap.size)
  (h:Calls P f args x.w fun e w'=>e=.returned v∧Below x.w.heap.size x.w w'):Calls P f args x.w fun e w''=>e=.returned v∧∃ y:Wd B w0,w''=y.w :=
 h.mono fun _ w' ⟨he,hw⟩=>⟨he,⟨w',x.ok.trans (hw.mono (Nat.le_trans hB x.ok.size))⟩,rfl⟩
/-- The same of a callee that leaves the world alone. -/
theorem calls_cls_same {P:Program} {f:FuncId} {args:Array Value} {B:Nat} {w0:World} {v:Value} (x:Wd B w0)
  (h:Calls P f args x.w fun e w'=>e=.returned v∧x.w=w'):Calls P f args x.w fun e w''=>e=.returned v∧∃ y:Wd B w0,w''=y.w :=
 h.mono fun _ _ ⟨he,hw⟩=>⟨he,x,hw.symm⟩
theorem bcell {B:Nat} {W w1:World} (hb:Below B W w1):(∀ b o,b < B→w1.cell? ⟨b,o,none⟩=W.cell? ⟨b,o,none⟩)∧(∀ b o,b < B→w1.frozen? ⟨b,o,none⟩=W.frozen? ⟨b,o,none⟩) :=
 ⟨fun b o h=>hb.cell (p:=⟨b,o,none⟩) h,fun b o h=>hb.frozen (p:=⟨b,o,none⟩) h⟩
/-- A whole array goes into a variable that lies alone in its block. -/
theorem list_store_row {P:Program} {ops:Array Oper} {rest:List Oper} {o:Oper} {a:Act} {w:World} {Q:Exit→Act→World→Prop} (hgd:o.guard=none) (T:TypeId) (x y:Operand) (ho:o.op=.store T x y)
  (g:Nat) (hx:a.eval x=.pointer (some ⟨g,0,none⟩)) (cs:Array Value) (hy:a.eval y=.agg cs) (old:Array Value) (t:TypeId) (hg:w.heap[g]?=some (.cells old t (0,0))) (hs:old.size=cs.size)
  (hi:(P.info? T).map (·.size)=some cs.size) (h1:∀ v ∈ cs.toList,v.oneCell'=true)
  (h:wpList P ops Q rest (a.put o.dst undef) (w.setRow g cs)):wpList P ops Q (o::rest) a w :=
 wpList_plain hgd fun _ hK=>by
  cases hq:P.info? T with
  | none=>simp [hq] at hi
  | some i =>
   have hsz:i.size=cs.size:=by simpa [hq] using hi
   have hst:=run_storeCells_from (P:=P) g t cs.toList 0 old w hg (by simp [hs]) h1
   unfold Oper.wp execOp
   simp only [ho,hx,hy]
   simp [Instr.storeAt,Instr.sureAddr,storeVar,sizeOf,typeInfo,hq,hsz,Value.cells]
   simp at hst
   rw [hst]
   exact hK _ _ h
end Go.Proofs.YtjbggogbnckllaaDoor
end
section
set_option maxRecDepth 100000
namespace Go.Proofs.YtjbggogbnckllaaDoor
open Go.RowKit
set_option linter.unusedVariables false
/-- A slice type's element: its cells, its bytes. -/
structure Elt (P:Program) (t e:TypeId) (size bytes:Nat):Prop where
 ht:P.underlying t=some (.slice e)
 hi:∃ i z,P.info? e=some i∧i.zero=some z∧i.size=size∧i.bytes=bytes∧z.cells.size=size
 hsz:0 < size
theorem nextcap_one {n:Nat}:Builtin.nextslicecap (n+1) n≤n+n / 4+512:=by
 unfold Builtin.nextslicecap
 split
 ·omega
 ·split
  ·omega
  ·rw [growBy_four]
   rw [if_neg (by omega),if_pos (by omega)]
   omega
theorem row_grown {w:World} {base:Nat} {e:TypeId} {size:Nat} (old:Nat) (n:Nat) (xs news:List Value) (z:Value) (hl:xs.length=n*size) (hn:news.length=size) (hz:z.cells.size=size) (h63:n+1≤maxLen) (hbase:base≤w.heap.size) :
  (w.drew.alloc (.cells (xs.toArray++news.toArray++Builtin.zeroCells z.cells (grownCap w (n+1) old e - (n+1))) e)).ownsRow base e size
   (.slice (some ⟨w.heap.size,0,none⟩) (n+1) (grownCap w (n+1) old e)) (n+1) (xs++news):=by
 have hge:=grownCap_ge w (n+1) old e
 have hcm:grownCap w (n+1) old e≤maxLen:=grownCap_le_maxLen w (n+1) old e h63
 have hlen:(xs++news).length=(n+1)*size:=by rw [List.length_append,hl,hn,Nat.add_mul,Nat.one_mul]
 refine ⟨hlen,.inr ⟨w.heap.size,_,_,rfl,hbase,heap_alloc_new w.drew _,hge,hcm,?_,?_⟩⟩
 ·simp only [Array.size_append,List.size_toArray,size_zeroCells,hz,hl,hn]
  rw [show n*size+size=(n+1)*size from by rw [Nat.add_mul,Nat.one_mul],← Nat.add_mul]
  congr 1
  omega
 ·simp only [Array.toList_append,List.append_assoc]
  rw [← List.append_assoc,← hlen]
  exact List.take_left
theorem run_append_one {P:Program} (w:World) (ty t e:TypeId) (base size bytes:Nat) (E:Elt P t e size bytes) (v:Value) (n:Nat) (xs:List Value) (hown:w.ownsRow base e size v n xs)
  (a:Addr) (c:Nat) (news:List Value) (hl:news.length=size) (hnews:∀ j u,news[j]?=some u→w.cell? (a.add j)=some u) (h1:∀ u ∈ news,u.oneCell'=true)
  (h63:n+1≤maxLen) (hroom:(n+n / 4+512)*bytes≤281474976710656) (hbase:base≤w.heap.size) :
  ∃ g cap w',(Builtin.append_ #[t,t] ty #[v,.slice (some a) 1 c]).run P w=.ok (.slice (some ⟨g,0,none⟩) (n+1) cap) w' ∧
   w'.ownsRow base e size (.slice (some ⟨g,0,none⟩) (n+1) cap) (n+1) (xs++news)∧w.grownBy w' v.ownBlock∧base≤g∧g < w'.heap.size∧(v.ownBlock=some g∨g=w.heap.size):=by
 obtain ⟨i,z,hi,hz,rfl,rfl,hzs⟩:=E.hi
 have h9:n+1≤9223372036854775807:=by unfold maxLen at h63; omega
 have hl':news.length=1*i.size:=by omega
 have hgrow:∀ (old:Nat) (row:Option Nat),w.grownBy (w.drew.alloc (.cells (xs.toArray++news.toArray++Builtin.zeroCells z.cells (grownCap w (n+1) old e - (n+1))) e)) row:=fun old row =>
  ⟨rfl,rfl,rfl,by simp,fun k hk _=>Below.heap_alloc w.drew _ k hk⟩
 rcases hown.2 with ⟨rfl,rfl⟩ | ⟨g,cap,cur,rfl,hbg,hg,hnc,hcm,hcs,htake⟩
 ·have hx:xs=[]:=List.eq_nil_of_length_eq_zero (by simpa using hown.1)
  subst hx
  have hr:=run_append_nil (P:=P) w t ty e i z E.ht hi hz a 1 c news hl' hnews (by omega) (by omega) (by omega)
  have hrow:=row_grown (w:=w) (base:=base) (e:=e) 0 0 [] news z (by simp) hl hzs (by omega) hbase
  simp only [Nat.zero_add,List.nil_append,Array.empty_append] at hrow hgrow ⊢
  exact ⟨_,_,_,hr,hrow,hgrow 0 _,hbase,by simp,.inr rfl⟩
 ·by_cases hroomc:n+1≤cap
  ·have hfit:n*i.size+news.length≤cur.size:=by
    rw [hl,hcs,show n*i.size+i.size=(n+1)*i.size from by rw [Nat.add_mul,Nat.one_mul]]
    exact Nat.mul_le_mul_right _ hroomc
   have hr:=run_append_room (P:=P) w t ty e i E.ht hi g n cap cur hg a 1 c news hl' hnews h1 hroomc hfit
   have hlen:(xs++news).length=(n+1)*i.size:=by rw [List.length_append,hown.1,hl,Nat.add_mul,Nat.one_mul]
   refine ⟨_,_,_,hr,⟨hlen,.inr ⟨g,cap,_,rfl,hbg,setRow_heap w g cur _ e _ hg,hroomc,hcm,?_,?_⟩⟩,⟨rfl,rfl,rfl,by simp,fun k _ hk=>setRow_other w g k _ (fun e=>hk (by simp [Value.ownBlock,e]))⟩,hbg,?_,.inl rfl⟩
   ·simp only [List.size_toArray,List.length_append,List.length_take,List.length_drop,Array.length_toList]
    omega
   ·rw [htake,← hlen]
    exact List.take_left
   ·simp; exact (Array.getElem?_eq_some_iff.1 hg).1
  ·obtain rfl:cap=n:=by omega
   have holds:∀ j u,xs[j]?=some u→w.cell? ((⟨g,0,none⟩:Addr).add j)=some u:=hown.cells (g:=g) rfl
   have hr:=run_append_grow (P:=P) w t ty e i z E.ht hi hz ⟨g,0,none⟩ cap cap xs hown.1 holds a 1 c news hl' hnews (by omega) (by omega) (Nat.le_trans (Nat.mul_le_mul_right _ nextcap_one) hroom)
   exact ⟨_,_,_,hr,row_grown (w:=w) (base:=base) (e:=e) cap cap xs news z hown.1 hl hzs h63 hbase,hgrow cap _,hbase,by simp,.inr rfl⟩
theorem wp_append_one {P:Program} {w:World} {o:Oper} {a:Act} {K:Act→World→Prop} {Q:Exit→Act→World→Prop} (s x:Operand) (t:TypeId)
  (ho:o.op=.call { callee:=.builtin .append,args:=#[s,x],argTypes:=#[t,t] }) (e:TypeId) (base size bytes:Nat) (E:Elt P t e size bytes) (v:Value) (n:Nat) (xs:List Value) (hs:a.eval s=v) (hown:w.ownsRow base e size v n xs)
  (ad:Addr) (c:Nat) (news:List Value) (hx:a.eval x=.slice (some ad) 1 c) (hl:news.length=size) (hnews:∀ j u,news[j]?=some u→w.cell? (ad.add j)=some u) (h1:∀ u ∈ news,u.oneCell'=true)
  (h63:n+1≤maxLen) (hroom:(n+n / 4+512)*bytes≤281474976710656) (hbase:base≤w.heap.size)
  (h:∀ g cap w',w'.ownsRow base e size (.slice (some ⟨g,0,none⟩) (n+1) cap) (n+1) (xs++news)→w.grownBy w' v.ownBlock→base≤g→g < w'.heap.size→(v.ownBlock=some g∨g=w.heap.size)→K (a.put o.dst (.slice (some ⟨g,0,none⟩) (n+1) cap)) w'):o.wp P a w K Q:=by
 obtain ⟨g,cap,w',hr,h2,h3,h4,h5,h6⟩:=run_append_one (P:=P) w o.type t e base size bytes E v n xs hown ad c news hl hnews h1 h63 hroom hbase
 unfold Oper.wp execOp
 simp only [ho,resolve,invoke,builtin,Sem.run_bind,Sem.run_pure,Result.andThen_ok,List.map_toArray,List.map_cons,List.map_nil,hs,hx,hr]
 exact h g cap w' h2 h3 h4 h5 h6
/-- At the list of a plain region's operations. -/
theorem list_append_one {P:Program} {w:World} {ops:Array Oper} {rest:List Oper} {o:Oper} {a:Act} {Q:Exit→Act→World→Prop} (hgd:o.guard=none) (s x:Operand) (t:TypeId)
  (ho:o.op=.call { callee:=.builtin .append,args:=#[s,x],argTypes:=#[t,t] }) (e:TypeId) (base size bytes:Nat) (E:Elt P t e size bytes) (v:Value) (n:Nat) (xs:List Value) (hs:a.eval s=v) (hown:w.ownsRow base e size v n xs)
  (ad:Addr) (c:Nat) (news:List Value) (hx:a.eval x=.slice (some ad) 1 c) (hl:news.length=size) (hnews:∀ j u,news[j]?=some u→w.cell? (ad.add j)=some u) (h1:∀ u ∈ news,u.oneCell'=true)
  (h63:n+1≤maxLen) (hroom:(n+n / 4+512)*bytes≤281474976710656) (hbase:base≤w.heap.size)
  (h:∀ g cap w',w'.ownsRow base e size (.slice (some ⟨g,0,none⟩) (n+1) cap) (n+1) (xs++news)→w.grownBy w' v.ownBlock→base≤g→g < w'.heap.size→(v.ownBlock=some g∨g=w.heap.size)→wpList P ops Q rest (a.put o.dst (.slice (some ⟨g,0,none⟩) (n+1) cap)) w') :
  wpList P ops Q (o::rest) a w :=
 wpList_plain hgd fun _ hK=>wp_append_one s x t ho e base size bytes E v n xs hs hown ad c news hx hl hnews h1 h63 hroom hbase fun g cap w' h2 h3 h4 h5 h6=>hK _ _ (h g cap w' h2 h3 h4 h5 h6)
/-- At a step of a region that draws its order. -/
theorem step_append_one {P:Program} {w:World} {ops:Array Oper} {o:Oper} {a:Act} {K:Act→World→Prop} {Q:Exit→Act→World→Prop} {F:Prop} (hgd:o.guard=none) (s x:Operand) (t:TypeId)
  (ho:o.op=.call { callee:=.builtin .append,args:=#[s,x],argTypes:=#[t,t] }) (e:TypeId) (base size bytes:Nat) (E:Elt P t e size bytes) (v:Value) (n:Nat) (xs:List Value) (hs:a.eval s=v) (hown:w.ownsRow base e size v n xs)
  (ad:Addr) (c:Nat) (news:List Value) (hx:a.eval x=.slice (some ad) 1 c) (hl:news.length=size) (hnews:∀ j u,news[j]?=some u→w.cell? (ad.add j)=some u) (h1:∀ u ∈ news,u.oneCell'=true)
  (h63:n+1≤maxLen) (hroom:(n+n / 4+512)*bytes≤281474976710656) (hbase:base≤w.heap.size)
  (h:∀ g cap w',w'.ownsRow base e size (.slice (some ⟨g,0,none⟩) (n+1) cap) (n+1) (xs++news)→w.grownBy w' v.ownBlock→base≤g→g < w'.heap.size→(v.ownBlock=some g∨g=w.heap.size)→K (a.put o.dst (.slice (some ⟨g,0,none⟩) (n+1) cap)) w') :
  if Region.wanted o (yielded ops a.tmps)=true then Oper.wp P o a w K Q else F:=by
 rw [if_pos (by simp [Region.wanted,hgd])]
 exact wp_append_one s x t ho e base size bytes E v n xs hs hown ad c news hx hl hnews h1 h63 hroom hbase h
end Go.Proofs.YtjbggogbnckllaaDoor
end
section
set_option maxRecDepth 100000
namespace Go.Proofs.YtjbggogbnckllaaDoor
open Go Go.RowKit
/-- A guard of the first n operations looks at one of them. -/
def guardsIn (n:Nat) (l:List Oper):Bool:=l.all fun o=>match o.guard with | none=>true | some (j,_)=>decide (j < n)
/-- The first n operations wait for earlier ones alone. -/
def backB (n:Nat) (l:List Oper):Bool:=(List.range n).all fun i=>match l[i]? with | none=>true | some o=>o.after.all fun e=>!Region.binds .any e||decide (e.on < i)
def tailB (l:List Oper) (n:Nat):Bool :=
 decide (n < l.length)&&Region.sinkB .any l.toArray n&&Region.chainB .any l.toArray n&&Region.lexB .any (l.take n).toArray&&guardsIn n (l.take n)&&backB n l &&
 Region.seqB .any l.toArray (l.length - n) n (Array.replicate n true++Array.replicate (l.length - n) false)
section
variable {P:Program} {l:List Oper} {n:Nat} {C:World→Prop}
theorem head_get {i:Nat} (h:i < n):(l.take n).toArray[i]?=l.toArray[i]?:=by simp [h]
theorem wanted_head {o:Oper} (hg:guardsIn n (l.take n)=true) (ho:o ∈ l.take n) (t:Array Value):Region.wanted o (yielded (l.take n).toArray t)=Region.wanted o (yielded l.toArray t):=by
 have h:=List.all_eq_true.1 hg o ho
 unfold Region.wanted
 cases hgd:o.guard with
 | none=>rfl
 | some p =>
  obtain ⟨j,b⟩:=p
  rw [hgd] at h
  have hj:j < n:=by simpa using h
  simp only
  congr 1
  unfold yielded
  rw [head_get hj]
theorem wpOp_head {Q':Exit→Act→World→Prop} {i:Nat} {K:Act→World→Prop} {a:Act} {w:World} (hg:guardsIn n (l.take n)=true) (hi:i < n) (h:wpOp P (l.take n).toArray Q' i K a w):wpOp P l.toArray Q' i K a w:=by
 unfold wpOp at *
 rw [head_get hi] at h
 cases ho:l.toArray[i]? with
 | none=>rw [ho] at h; exact h
 | some o =>
  rw [ho] at h
  simp only at h ⊢
  have hm:o ∈ l.take n:=by
   have:(l.take n).toArray[i]?=some o:=by rw [head_get hi]; exact ho
   have h2:(l.take n)[i]?=some o:=by simpa using this
   exact List.mem_of_getElem? h2
  rw [wanted_head hg hm] at h
  exact h
theorem ready_some {L:Array Bool} (hb:backB n l=true) (hn:n < l.length) (hsz:L.size=l.toArray.size):∀ i,i < n→L.getD i true=false→Region.ready .any l.toArray L≠[]:=by
 intro i
 induction i using Nat.strongRecOn with
 | _ i ih =>
  intro hi hu
  have hlt:i < l.toArray.size:=by simp; omega
  by_cases hall:∀ e ∈ (l.toArray[i]).after,Region.binds .any e=true→L.getD e.on false=true
  ·intro h0
   have:i ∈ Region.ready .any l.toArray L:=mem_ready.2 ⟨hu,_,Array.getElem?_eq_getElem hlt,hall⟩
   rw [h0] at this
   cases this
  ·obtain ⟨e,he⟩:=Classical.not_forall.1 hall
   obtain ⟨he,h2⟩:=Classical.not_forall.1 he
   obtain ⟨hbd,h3⟩:=Classical.not_forall.1 h2
   have h4:=List.all_eq_true.1 hb i (List.mem_range.2 hi)
   have h5:l[i]?=some l.toArray[i]:=by simp
   rw [h5] at h4
   have h6:=Array.all_eq_true'.1 h4 e he
   rw [hbd] at h6
   have h7:e.on < i:=by simpa using h6
   exact ih e.on h7 (by omega) (getD_in (by rw [hsz]; omega) (by simpa using h3))
theorem wpAny_of_headQ {Q:Act→Prop} {Q':Exit→Act→World→Prop} {g:Nat} (hn:n < l.length) (hs:Region.sinkB .any l.toArray n=true) (hc:Region.chainB .any l.toArray n=true) (hg:guardsIn n (l.take n)=true) (hb:backB n l=true)
  (hQ:∀ a w,Q a→C w→wpAny P .any l.toArray Q' g (Array.replicate n true++Array.replicate (l.length - n) false) a w) :
  ∀ (f:Nat) (rem:List Nat) (hl L:Array Bool) (a:Act) (w:World),rem.Nodup→rem.length=f→(∀ i,i ∈ rem↔i < n∧L.getD i true=false)→HeadInv .any l.toArray n L→(∀ i,i < n→hl[i]?=L[i]?)→C w →
   wpAnyQ P .any (l.take n).toArray C Q f hl a→wpAny P .any l.toArray Q' (f+g) L a w:=by
 intro f
 induction f with
 | zero =>
  intro rem hl L a w hnd hlen hrem inv hh hw h
  have hrem0:rem=[]:=List.eq_nil_of_length_eq_zero hlen
  subst hrem0
  have hL:L=Array.replicate n true++Array.replicate (l.length - n) false:=by
   have hsz:L.size=l.length:=by simpa using inv.size
   apply Array.ext
   ·simp [hsz]; omega
   ·intro i h1 h2
    rcases Nat.lt_or_ge i n with h3 | h3
    ·have h4:¬ L.getD i true=false:=fun h5=>by
      have:=(hrem i).2 ⟨h3,h5⟩
      cases this
     have h6:L.getD i true=L[i]:=by simp [h1]
     rw [h6] at h4
     rw [Array.getElem_append_left (by simpa using h3)]
     simpa using h4
    ·have h5:=inv.tail i h3 (by simp; omega)
     have h6:L.getD i true=L[i]:=by simp [h1]
     rw [h6] at h5
     rw [h5,Array.getElem_append_right (by simpa using h3)]
     simp
  subst hL
  rw [Nat.zero_add]
  exact hQ a w h.2 hw
 | succ f ih =>
  intro rem hl L a w hnd hlen hrem inv hh hw h
  obtain ⟨i0,hi0⟩:∃ i0,i0 ∈ rem:=by
   cases rem with
   | nil=>simp at hlen
   | cons x r=>exact ⟨x,by simp⟩
  obtain ⟨hi0n,hi0u⟩:=(hrem i0).1 hi0
  have hne:=ready_some hb hn inv.size i0 hi0n hi0u
  rw [show f+1+g=(f+g)+1 by omega]
  refine ⟨fun h0=>absurd h0 hne,fun i hi=>?_⟩
  have hin:i < n:=by
   rcases Nat.lt_or_ge i n with h1 | h1
   ·exact h1
   ·exact absurd hi (tail_waits hs hc (by simpa using hn) inv _ i0 rfl hi0n hi0u i h1)
  obtain ⟨hu,o,ho,hall⟩:=mem_ready.1 hi
  have hu':hl.getD i true=false:=by
   have:=hh i hin
   simp only [Array.getD_eq_getD_getElem?] at hu ⊢
   rw [this]; exact hu
  have hmem:i ∈ Region.ready .any (l.take n).toArray hl:=by
   refine mem_ready.2 ⟨hu',o,by rw [head_get hin]; exact ho,fun e he hbd=>?_⟩
   have h1:=hall e he hbd
   have hen:e.on < n:=by
    rcases Nat.lt_or_ge e.on n with h2 | h2
    ·exact h2
    ·exfalso
     rcases Nat.lt_or_ge e.on l.toArray.size with h3 | h3
     ·rw [getD_both (inv.tail e.on h2 h3)] at h1
      cases h1
     ·have:L.size≤e.on:=by rw [inv.size]; exact h3
      simp [Array.getElem?_eq_none this] at h1
   have:=hh e.on hen
   simp only [Array.getD_eq_getD_getElem?] at h1 ⊢
   rw [this]; exact h1
  have h2:=h.2 i hmem
  refine wpOp_head hg hin (wpOp_of_qOp hw (fun a' w' hw' hk=>?_) h2)
  refine ih (rem.erase i) (hl.setIfInBounds i true) (L.setIfInBounds i true) a' w' (hnd.erase i) ?_ ?_ (inv.set hi hin) ?_ hw' hk
  ·have:=List.length_erase_of_mem ((hrem i).2 ⟨hin,hu⟩)
   omega
  ·intro j
   rw [hnd.mem_erase_iff]
   by_cases hij:i=j
   ·subst hij
    have hsz:i < L.size:=by rw [inv.size]; simp; omega
    simp [hsz]
   ·rw [getD_set_ne true hij,hrem j]
    constructor
    ·rintro ⟨_,h⟩; exact h
    ·intro h; exact ⟨fun h=>hij h.symm,h⟩
  ·intro j hj
   by_cases hij:i=j
   ·subst hij
    have hsz:i < L.size:=by rw [inv.size]; simp; omega
    have hsz2:i < hl.size:=by
     have:=hh i hin
     rcases Nat.lt_or_ge i hl.size with h3 | h3
     ·exact h3
     ·rw [Array.getElem?_eq_none h3] at this
      have h4:L[i]?=some L[i]:=by simp
      rw [h4] at this
      cases this
    simp [hsz,hsz2]
   ·rw [Array.getElem?_setIfInBounds_ne hij,Array.getElem?_setIfInBounds_ne hij]
    exact hh j hj
/-- **A region with a forced tail.** -/
theorem region_tail {id:Nat} {Q:Exit→Act→World→Prop} {a:Act} {w:World} (n:Nat) (hm:P.follows .mixedOrders=true) (hB:tailB l n=true) (hC:C w.drew)
  (h:wpQuiet P (l.take n).toArray C (fun a'=>∀ w',C w'→wpList P l.toArray Q (l.drop n) a' w') (l.take n) a):(Code.region id l.toArray true).wp P Q a w:=by
 simp only [tailB,Bool.and_eq_true,decide_eq_true_eq] at hB
 obtain ⟨⟨⟨⟨⟨⟨hn,hs⟩,hc⟩,hlx⟩,hg⟩,hb⟩,hseq⟩:=hB
 simp only [Region.lexB,Bool.and_eq_true] at hlx
 have htl:(l.take n).length=n:=by simp; omega
 have hq:=wpAnyQ_lex (C:=C) (md:=.any) hlx.1 (l.take n) 0 (Array.replicate (l.take n).toArray.size false) a (by simp) (by simpa using hlx.2) h
 rw [htl] at hq
 refine wp_region_any hm ?_
 have hsize:l.toArray.size=n+(l.length - n):=by simp; omega
 have inv0:HeadInv .any l.toArray n (Array.replicate l.toArray.size false) :=
  ⟨by simp,fun j oj _ hl=>(by rw [getD_replicate_false] at hl; cases hl),fun t _ ht=>getD_in (by simpa using ht) (getD_replicate_false _ _)⟩
 have:=wpAny_of_headQ (Q':=Q) (g:=l.length - n) hn hs hc hg hb (fun a' w' hk hw'=>by
  have h2:=wpAny_of_seq (md:=.any) (Q':=Q) (l.drop n) n _ a' w' (fun j=>by simp [List.getElem?_drop]) (by rw [List.length_drop]; exact hseq) (hk w' hw')
  rwa [List.length_drop] at h2) n (List.range n) _ (Array.replicate l.toArray.size false) a _ List.nodup_range List.length_range (fun i=>by
   rw [List.mem_range]
   constructor
   ·intro hi
    exact ⟨hi,getD_in (by simp; omega) (getD_replicate_false _ _)⟩
   ·exact fun hi=>hi.1) inv0 (fun i hi=>by
    have h1:i < (l.take n).toArray.size:=by simp; omega
    have h2:i < l.toArray.size:=by simp; omega
    rw [Array.getElem?_replicate,Array.getElem?_replicate,if_pos h1,if_pos h2]) hC hq
 rw [← hsize] at this
 exact this
/-- The same, the class being the worlds that are as w below B. -/
theorem region_clst {id:Nat} {Q:Exit→Act→World→Prop} {a:Act} {w:World} (n B:Nat) (hm:P.follows .mixedOrders=true) (hB:tailB l n=true)
  (h:wpQuiet P (l.take n).toArray (fun w'=>∃ x:Wd B w,w'=x.w) (fun a'=>∀ x:Wd B w,wpList P l.toArray Q (l.drop n) a' x.w) (l.take n) a):(Code.region id l.toArray true).wp P Q a w :=
 region_tail (C:=fun w'=>∃ x:Wd B w,w'=x.w) n hm hB ⟨⟨_,(Below.refl _ _).drew⟩,rfl⟩ (by
  have e:(fun a':Act=>∀ w',(∃ x:Wd B w,w'=x.w)→wpList P l.toArray Q (l.drop n) a' w')=fun a'=>∀ x:Wd B w,wpList P l.toArray Q (l.drop n) a' x.w:=by
   funext a'; apply propext; constructor
   ·intro g x; exact g _ ⟨x,rfl⟩
   ·rintro g w' ⟨x,rfl⟩; exact g x
  rw [e]; exact h)
end
end Go.Proofs.YtjbggogbnckllaaDoor
end
section
set_option maxRecDepth 100000
namespace Go.Proofs.YtjbggogbnckllaaDoor
open Go Go.RowKit
theorem step_call {P:Program} {w:World} {ops:Array Oper} {o:Oper} {a:Act} {K:Act→World→Prop} {Q:Exit→Act→World→Prop} {F:Prop} (hgd:o.guard=none) (f:FuncId) (hcf:∀ args w,Sem.run P (callFunc f args) w=.ok (.enter f args) w) (xs:Array Operand) (tys:Array TypeId)
  (ho:o.op=.call { callee:=.value (.func f),args:=xs,argTypes:=tys }) (args:Array Value) (hargs:xs.map a.eval=args) (v:Value) (Ψ:World→Prop)
  (hc:Calls P f args w fun e w'=>e=.returned v∧Ψ w') (h:∀ w',Ψ w'→K (a.put o.dst v) w') :
  if Region.wanted o (yielded ops a.tmps)=true then Oper.wp P o a w K Q else F:=by
 rw [if_pos (by simp [Region.wanted,hgd])]
 subst hargs
 unfold Oper.wp
 have hr:(execOp a.eval o).run P w=.ok (.enter f (xs.map a.eval)) w:=by
  unfold execOp
  simp [ho,resolve,invoke,Act.eval,Deferred.ofValue,hcf]
 rw [hr]
 exact hc.mono fun e w' ⟨he,hw⟩=>by subst he; exact h _ hw
theorem step_call2 {P:Program} {w:World} {ops:Array Oper} {o:Oper} {a:Act} {K:Act→World→Prop} {Q:Exit→Act→World→Prop} {F:Prop} (hgd:o.guard=none) (f:FuncId) (hcf:∀ args w,Sem.run P (callFunc f args) w=.ok (.enter f args) w) (x y:Operand) (tys:Array TypeId)
  (ho:o.op=.call { callee:=.value (.func f),args:=#[x,y],argTypes:=tys }) (vx vy:Value) (hx:a.eval x=vx) (hy:a.eval y=vy) (v:Value) (Ψ:World→Prop)
  (hc:Calls P f #[vx,vy] w fun e w'=>e=.returned v∧Ψ w') (h:∀ w',Ψ w'→K (a.put o.dst v) w') :
  if Region.wanted o (yielded ops a.tmps)=true then Oper.wp P o a w K Q else F :=
 step_call hgd f hcf #[x,y] tys ho #[vx,vy] (by simp [hx,hy]) v Ψ hc h
theorem owns_below {w w':World} {base:Nat} {e:TypeId} {size:Nat} {v:Value} {n:Nat} {xs:List Value} (h:w.ownsRow base e size v n xs) (k:Below w.heap.size w w'):w'.ownsRow base e size v n xs:=by
 obtain ⟨h1,h2⟩:=h
 refine ⟨h1,?_⟩
 rcases h2 with h2 | ⟨g,cap,cur,hv,hbg,hg,h3⟩
 ·exact .inl h2
 ·exact .inr ⟨g,cap,cur,hv,hbg,(k.block _ (Array.getElem?_eq_some_iff.1 hg).1).trans hg,h3⟩
theorem owns_lt {w:World} {base:Nat} {e:TypeId} {size:Nat} {v:Value} {n:Nat} {xs:List Value} (h:w.ownsRow base e size v n xs):∀ g,v.ownBlock=some g→base≤g∧g < w.heap.size:=by
 intro k hk
 rcases h.2 with ⟨rfl,rfl⟩ | ⟨g,cap,cur,rfl,hbg,hg,_⟩
 ·cases hk
 ·simp [Value.ownBlock] at hk
  subst hk
  exact ⟨hbg,(Array.getElem?_eq_some_iff.1 hg).1⟩
/-- Two results: a slot and a variable of a struct's type. -/
theorem results_two_row {P:Program} {fn:Func} {p0 p:Tmp} {ty:TypeId} (h:fn.results=#[.tmp p0,.cell p ty]) (tmps:Array Value) (w:World) (v0:Value) (g:Nat) (t:TypeId) (cs:Array Value) (fr:Nat×Nat) (d:TypeDesc)
  (hv:tmps.getD p0 undef=v0) (hp:tmps.getD p undef=.pointer (some ⟨g,0,none⟩)) (hg:w.heap[g]?=some (.cells cs t fr))
  (hu:P.underlying ty=some d) (hd:(match d with | .struct _ | .array _ _=>true | _=>false)=true) (hi:(P.info? ty).map (·.size)=some cs.size) :
  (results fn tmps).run P w=.ok (.tuple #[v0,.agg cs]) w:=by
 have hp':tmps[p]?.getD undef=.pointer (some ⟨g,0,none⟩):=by simpa using hp
 have hv':tmps[p0]?.getD undef=v0:=by simpa using hv
 simp [results,h,hp',hv',asAddr,run_loadVar_row w g t ty cs fr d hg hu hd hi]
end Go.Proofs.YtjbggogbnckllaaDoor
end
section
set_option maxRecDepth 100000
namespace Go.Proofs.YtjbggogbnckllaaDoor
namespace Bs
/-- The word k of a set. -/
def word (X k:Nat):Nat:=X / 2 ^ (64*k) % 2 ^ 64
/-- As many words has a set of width n. -/
def nw (n:Nat):Nat:=(n+63) / 64
/-- Is it one of its numbers, that it has? -/
def has (X:Nat) (i:Int):Bool:=decide (0≤i)&&X.testBit i.toNat
/-- Its numbers. -/
def lst (n X:Nat):List Nat:=(List.range n).filter X.testBit
/-- A width. -/
def wid (n:Int):Nat:=(max 0 (min n 1000)).toNat
/-- A number is added, dropped. -/
def add (X i:Nat):Nat:=X|||2 ^ i
def drop (X i:Nat):Nat:=X ^^^ (X &&& 2 ^ i)
/-- Is it one of its numbers? -/
def is (n:Nat) (i:Int):Bool:=decide (0≤i)&&decide (i < n)
theorem word_lt (X k:Nat):word X k < 18446744073709551616:=Nat.mod_lt _ (by decide)
theorem word_bit (X k j:Nat):(word X k).testBit j=(decide (j < 64)&&X.testBit (64*k+j)):=by
 unfold word; rw [Nat.testBit_mod_two_pow,Nat.testBit_div_two_pow,Nat.add_comm]
theorem nw_lt {n i:Nat} (h:i < n):i / 64 < nw n:=by unfold nw; omega
theorem nw_le {n:Nat} (h:n≤1000):nw n≤16:=by unfold nw; omega
theorem bit_of_lt {X n i:Nat} (h:X < 2 ^ n) (hi:n≤i):X.testBit i=false :=
 Nat.testBit_lt_two_pow (Nat.lt_of_lt_of_le h (Nat.pow_le_pow_right (by decide) hi))
theorem has_word (X i:Nat):(word X (i / 64) / 2 ^ (i % 64)) % 2=(X.testBit i).toNat:=by
 have h:=word_bit X (i / 64) (i % 64)
 rw [Nat.div_add_mod,decide_eq_true (Nat.mod_lt _ (by decide)),Bool.true_and,Nat.testBit_eq_decide_div_mod_eq] at h
 rw [← h]
 rcases Nat.mod_two_eq_zero_or_one (word X (i / 64) / 2 ^ (i % 64)) with e | e<;>simp [e]
theorem add_bit (X i j:Nat):(add X i).testBit j=(X.testBit j||decide (i=j)):=by
 unfold add; rw [Nat.testBit_or,Nat.testBit_two_pow]
theorem add_lt {X n i:Nat} (h:X < 2 ^ n) (hi:i < n):add X i < 2 ^ n:=Nat.or_lt_two_pow h (Nat.pow_lt_pow_right (by decide) hi)
/-- The words of a set to which a number is added, from which it is dropped. -/
theorem word_add (X i k:Nat):word (add X i) k=if k=i / 64 then word X k|||2 ^ (i % 64) else word X k:=by
 apply Nat.eq_of_testBit_eq
 intro j
 rw [word_bit,add_bit]
 split
 ·rename_i h
  rw [Nat.testBit_or,word_bit,Nat.testBit_two_pow]
  by_cases hj:j < 64
  ·have:decide (i=64*k+j)=decide (i % 64=j):=by rw [decide_eq_decide]; omega
   simp [hj,this]
  ·have:decide (i % 64=j)=false:=by simp; omega
   simp [hj,this]
 ·rename_i h
  rw [word_bit]
  by_cases hj:j < 64
  ·have:decide (i=64*k+j)=false:=by simp; omega
   simp [hj,this]
  ·simp [hj]
theorem word_zero (k:Nat):word 0 k=0:=by simp [word]
/-! ### the numbers of a word, one by one -/
/-- The numbers of a word. -/
def bl (w:Nat):List Nat:=(List.range 64).filter w.testBit
theorem bl_zero:bl 0=[]:=by simp [bl]
/-- The lowest number of a word, and what is left behind it. -/
theorem low_spec {w:Nat} (h0:w≠0) (h:w < 2 ^ 64):Lib.ctz 64 w < 64∧w.testBit (Lib.ctz 64 w)=true∧(∀ j,j < Lib.ctz 64 w→w.testBit j=false)∧∀ j,(w &&& (w - 1)).testBit j=(w.testBit j&&!decide (Lib.ctz 64 w=j)):=by
 obtain ⟨m,hm,hk⟩:=Lib.ctzFrom_spec 64 w (by omega) h
 have e:Lib.ctz 64 w=Lib.ctzFrom 64 w:=by simp [Lib.ctz,h0]
 rw [e]
 generalize Lib.ctzFrom 64 w=k at hm hk ⊢
 have hw:w=2 ^ k*(2*m+1):=hm
 have b1:∀ j,w.testBit j=(decide (k≤j)&&(2*m+1).testBit (j - k)):=by
  intro j; rw [hw,Nat.testBit_two_pow_mul]
 have hp:0 < 2 ^ k:=Nat.two_pow_pos k
 have hw1:w - 1=2 ^ k*(2*m)+(2 ^ k - 1):=by rw [hw,Nat.mul_add,Nat.mul_one]; omega
 have b2:∀ j,(w - 1).testBit j=if j < k then true else (2*m).testBit (j - k):=by
  intro j
  rw [hw1,Nat.testBit_two_pow_mul_add _ (by omega)]
  split
  ·rename_i hj; rw [Nat.testBit_two_pow_sub_one]; simp [hj]
  ·rfl
 have t0:∀ i,(2*m+1).testBit i=(decide (i=0)||(2*m).testBit i):=by
  intro i
  cases i with
  | zero=>simp [Nat.testBit_zero]
  | succ i=>simp [Nat.testBit_succ]; congr 1; omega
 have t1:(2*m).testBit 0=false:=by simp [Nat.testBit_zero]
 refine ⟨hk,?_,?_,?_⟩
 ·rw [b1]; simp [t0]
 ·intro j hj; rw [b1]; simp; omega
 ·intro j
  rw [Nat.testBit_and,b1,b2]
  by_cases hj:j < k
  ·have:¬ k≤j:=by omega
   simp [hj,this]
  ·have h1:k≤j:=by omega
   simp only [hj,h1,if_false,decide_true,Bool.true_and]
   rw [t0]
   by_cases hjk:k=j
   ·subst hjk; simp [t1]
   ·have:decide (j - k=0)=false:=by simp; omega
    simp [this,hjk]
theorem bl_cons {w:Nat} (h0:w≠0) (h:w < 2 ^ 64):bl w=Lib.ctz 64 w::bl (w &&& (w - 1)):=by
 obtain ⟨hk,h1,h2,h3⟩:=low_spec h0 h
 generalize Lib.ctz 64 w=k at hk h1 h2 h3
 unfold bl
 have e:(List.range 64).filter (w &&& (w - 1)).testBit=((List.range 64).filter fun j=>w.testBit j&&!decide (k=j)):=by
  congr 1; funext j; exact h3 j
 rw [e]
 have sp:List.range 64=List.range k++k::(List.range (63 - k)).map (k+1+·):=by
  have:64=k+(1+(63 - k)):=by omega
  conv=>lhs; rw [this,List.range_add]
  rw [Nat.add_comm 1,List.range_succ_eq_map]
  simp only [List.map_cons,List.map_map,Nat.add_zero]
  congr 2
  apply List.map_congr_left
  intro a _
  simp; omega
 rw [sp,List.filter_append,List.filter_append,List.filter_cons,List.filter_cons]
 have z1:(List.range k).filter w.testBit=[]:=by
  rw [List.filter_eq_nil_iff]; intro a ha; simp [h2 a (List.mem_range.1 ha)]
 have z2:((List.range k).filter fun j=>w.testBit j&&!decide (k=j))=[]:=by
  rw [List.filter_eq_nil_iff]; intro a ha; simp [h2 a (List.mem_range.1 ha)]
 rw [z1,z2]
 simp [h1]
 apply List.filter_congr
 intro a ha
 obtain ⟨b,_,rfl⟩:=List.mem_map.1 ha
 have:¬ k=k+1+b:=by omega
 simp [this]
theorem next_lt {w:Nat} (h:w < 2 ^ 64):(w &&& (w - 1)) < 2 ^ 64:=Nat.lt_of_le_of_lt Nat.and_le_left h
/-- What comes of the words from k on. -/
def from_ (n X k:Nat):List Nat:=(List.range' k (nw n - k)).flatMap fun j=>(bl (word X j)).map (64*j+·)
theorem from_end (n X:Nat):from_ n X (nw n)=[]:=by simp [from_]
theorem from_step {n X k:Nat} (h:k < nw n):from_ n X k=(bl (word X k)).map (64*k+·)++from_ n X (k+1):=by
 unfold from_
 rw [show nw n - k=(nw n - (k+1))+1 from by omega,List.range'_succ]
 simp
theorem lst_from {n X:Nat} (h:X < 2 ^ n):from_ n X 0=lst n X:=by
 have aux:∀ m,(List.range (64*m)).filter X.testBit=(List.range m).flatMap fun j=>(bl (word X j)).map (64*j+·):=by
  intro m
  induction m with
  | zero=>simp
  | succ m ih =>
   rw [show 64*(m+1)=64*m+64 from by omega,List.range_add,List.filter_append,ih,List.range_succ (n:=m),List.flatMap_append]
   congr 1
   simp only [List.flatMap_cons,List.flatMap_nil,List.append_nil]
   unfold bl
   rw [List.filter_map]
   congr 1
   apply List.filter_congr
   intro j hj
   have:=List.mem_range.1 hj
   simp [word_bit,this]
 unfold from_
 rw [Nat.sub_zero,← List.range_eq_range',← aux]
 unfold lst
 have hn:n≤64*nw n:=by unfold nw; omega
 rw [show 64*nw n=n+(64*nw n - n) from by omega,List.range_add,List.filter_append]
 have:((List.range (64*nw n - n)).map (n+·)).filter X.testBit=[]:=by
  rw [List.filter_eq_nil_iff]
  intro a ha
  obtain ⟨b,_,rfl⟩:=List.mem_map.1 ha
  simp [bit_of_lt h (show n≤n+b by omega)]
 rw [this,List.append_nil]
theorem mem_lst {n X i:Nat}:i ∈ lst n X↔i < n∧X.testBit i=true:=by simp [lst]
theorem lst_len (n X:Nat):(lst n X).length≤n:=by
 have:=List.length_filter_le X.testBit (List.range n); simpa [lst] using this
/-- All of some numbers are added. -/
def adds (n X:Nat) (l:List Int):Nat:=l.foldl (fun X i=>if is n i then add X i.toNat else X) X
def of (n:Nat) (l:List Int):Nat:=adds n 0 l
theorem adds_bit (n:Nat) (l:List Int) (X j:Nat):(adds n X l).testBit j=(X.testBit j||(decide (j < n)&&l.contains (j:Int))):=by
 induction l generalizing X with
 | nil=>simp [adds]
 | cons i l ih =>
  unfold adds; rw [List.foldl_cons]
  show (adds n _ l).testBit j=_
  rw [ih]
  split
  ·rename_i hi
   simp [is] at hi
   rw [add_bit]
   have:decide (i.toNat=j)=decide ((j:Int)=i):=by rw [decide_eq_decide]; omega
   rw [this]
   have h2:decide (j < n)=true∨decide ((j:Int)=i)=false:=by
    by_cases h:j < n
    ·exact .inl (by simp [h])
    ·exact .inr (by simp; omega)
   rw [List.contains_cons]
   rcases h2 with h2 | h2
   ·simp only [h2,Bool.true_and,Bool.or_assoc]; rfl
   ·simp only [h2,Bool.or_false]
    have:((j:Int) == i)=false:=by simpa using h2
    simp [this]
  ·rename_i hi
   simp [is] at hi
   rw [List.contains_cons]
   by_cases h:j < n
   ·have:((j:Int) == i)=false:=by simp; omega
    simp [this]
   ·simp [h]
theorem of_bit (n:Nat) (l:List Int) (j:Nat):(of n l).testBit j=(decide (j < n)&&l.contains (j:Int)):=by
 rw [of,adds_bit]; simp
theorem adds_snoc (n X:Nat) (l:List Int) (i:Int):adds n X (l++[i])=if is n i then add (adds n X l) i.toNat else adds n X l:=by
 simp [adds]
theorem has_of_is {n X:Nat} {i:Int} (h:X < 2 ^ n) (hi:is n i=false):has X i=false:=by
 unfold has
 simp [is] at hi
 by_cases h0:0≤i
 ·simp [h0,bit_of_lt h (show n≤i.toNat by have:=hi h0; omega)]
 ·simp [h0]
theorem add_same {X i:Nat} (h:X.testBit i=true):add X i=X:=by
 apply Nat.eq_of_testBit_eq; intro j; rw [add_bit]
 by_cases e:i=j
 ·subst e; simp [h]
 ·simp [e]
end Bs
end Go.Proofs.YtjbggogbnckllaaDoor
end
section
set_option maxRecDepth 100000
namespace Go.Proofs.YtjbggogbnckllaaDoor
open Go.RowKit
set_option linter.unusedVariables false
theorem ret_int {k:IntKind} {a b:Int} (h:a=b):Ending.returned (.int k a)=.returned (.int k b):=by rw [h]
theorem ret_bool {a b:Bool} (h:a=b):Ending.returned (.bool a)=.returned (.bool b):=by rw [h]
/-- A set lies at p: its width is n, its words lie in block b; it has the numbers of X. -/
structure SetAt (w:World) (p b n X:Nat):Prop where
 box:∃ cap,w.heap[p]?=some (.cells #[.int .i64 n,.slice (some ⟨b,0,none⟩) (Bs.nw n:Nat) cap] 121 (0,0))
 row:∃ cs:Array Value,w.heap[b]?=some (.cells cs 118 (0,0))∧Bs.nw n≤cs.size∧∀ k,k < Bs.nw n→cs[k]?=some (.int .u64 (Bs.word X k:Nat))
 ne:p≠b
 le:n≤1000
 lt:X < 2 ^ n
/-- Of what was there block b alone may be another one. -/
structure Upd (b:Nat) (w w':World):Prop where
 os:w'.os=w.os
 tape:w'.tape=w.tape
 output:w'.output=w.output
 size:w.heap.size≤w'.heap.size
 block:∀ k,k < w.heap.size→k≠b→w'.heap[k]?=w.heap[k]?
theorem Upd.refl (b:Nat) (w:World):Upd b w w:=⟨rfl,rfl,rfl,Nat.le_refl _,fun _ _ _=>rfl⟩
theorem Upd.trans {b:Nat} {w w1 w2:World} (h:Upd b w w1) (k:Upd b w1 w2):Upd b w w2 :=
 ⟨k.os.trans h.os,k.tape.trans h.tape,k.output.trans h.output,Nat.le_trans h.size k.size,fun i hi hb=>(k.block i (Nat.lt_of_lt_of_le hi h.size) hb).trans (h.block i hi hb)⟩
theorem Upd.of {b:Nat} {w w':World} (h:Below w.heap.size w w'):Upd b w w':=⟨h.os,h.tape,h.output,h.size,fun k hk _=>h.block k hk⟩
theorem Upd.drew {b:Nat} {w w':World} (h:Upd b w w'):Upd b w w'.drew:=⟨h.os,h.tape,h.output,h.size,h.block⟩
theorem Upd.alloc {b:Nat} {w w':World} (h:Upd b w w') (o:Obj):Upd b w (w'.alloc o):=h.trans (.of ((Below.refl _ _).alloc (Nat.le_refl _) _))
theorem Upd.setCell {b:Nat} {w w':World} (h:Upd b w w') (p:Addr) (hp:p.block=b) (u:Value):Upd b w (w'.setCell p u) :=
 h.trans ⟨rfl,rfl,rfl,by simp [World.setCell],fun k hk hb=>Below.heap_setCell _ _ _ _ (by rw [hp]; exact hb)⟩
theorem Upd.below {b n:Nat} {w w':World} (h:Upd b w w') (hn:n≤b) (hs:n≤w.heap.size):Below n w w':=⟨h.os,h.tape,h.output,h.size,fun k hk=>h.block k (by omega) (by omega)⟩
theorem SetAt.plt {w:World} {p b n X:Nat} (h:SetAt w p b n X):p < w.heap.size:=by obtain ⟨_,e⟩:=h.box; exact lt_of_block e
theorem SetAt.blt {w:World} {p b n X:Nat} (h:SetAt w p b n X):b < w.heap.size:=by obtain ⟨_,e,_⟩:=h.row; exact lt_of_block e
theorem SetAt.kept {w w':World} {p b n X:Nat} (h:SetAt w p b n X) (h1:w'.heap[p]?=w.heap[p]?) (h2:w'.heap[b]?=w.heap[b]?):SetAt w' p b n X:=by
 obtain ⟨c,e⟩:=h.box
 obtain ⟨cs,f,g⟩:=h.row
 exact ⟨⟨c,h1.trans e⟩,⟨cs,h2.trans f,g⟩,h.ne,h.le,h.lt⟩
theorem SetAt.below {w w':World} {p b n X:Nat} (h:SetAt w p b n X) (k:Below w.heap.size w w'):SetAt w' p b n X:=h.kept (k.block _ h.plt) (k.block _ h.blt)
theorem SetAt.upd {w w':World} {p b n X c:Nat} (h:SetAt w p b n X) (k:Upd c w w') (h1:p≠c) (h2:b≠c):SetAt w' p b n X:=h.kept (k.block _ h.plt h1) (k.block _ h.blt h2)
/-- What a walk reads of a set. -/
theorem SetAt.cells {w:World} {p b n X:Nat} (h:SetAt w p b n X):w.cell? ⟨p,0,none⟩=some (.int .i64 n)∧(∃ cap,w.cell? ⟨p,1,none⟩=some (.slice (some ⟨b,0,none⟩) (Bs.nw n:Nat) cap)) ∧
  (∀ k,k < Bs.nw n→w.cell? ⟨b,k,none⟩=some (.int .u64 (Bs.word X k:Nat)))∧∀ k,w.frozen? ⟨b,k,none⟩=false:=by
 obtain ⟨c,e⟩:=h.box
 obtain ⟨cs,f,hn,g⟩:=h.row
 refine ⟨by simp [World.cell?,e],⟨c,by simp [World.cell?,e]⟩,fun k hk=>by simp [World.cell?,f,g k hk],fun k=>by simp [World.frozen?,f]⟩
/-- A word of a set is put anew. -/
theorem SetAt.put {w:World} {p b n X:Nat} (h:SetAt w p b n X) {i Y:Nat} (hi:i < n) (hY:Y < 2 ^ n) (hw:∀ k,k≠i / 64→Bs.word Y k=Bs.word X k) {v:Value} (hv:v=.int .u64 (Bs.word Y (i / 64):Nat)) :
  SetAt (w.setCell ⟨b,i / 64,none⟩ v) p b n Y:=by
 obtain ⟨c,e⟩:=h.box
 obtain ⟨cs,f,hn,g⟩:=h.row
 have hlt:=Bs.nw_lt hi
 refine ⟨⟨c,(Below.heap_setCell _ _ _ _ h.ne).trans e⟩,⟨_,heap_setCell_same _ _ _ _ _ _ f,by simpa using hn,?_⟩,h.ne,h.le,hY⟩
 intro k hk
 subst hv
 rw [Array.getElem?_setIfInBounds]
 by_cases hki:i / 64=k
 ·subst hki; simp; omega
 ·rw [if_neg hki,g k hk,hw k (by omega)]
set_option maxHeartbeats 400000 in
theorem is_any (p:Nat) (n:Nat) (i:Int) (w:World) (hc:w.cell? ⟨p,0,none⟩=some (.int .i64 n)) :
  Calls Tryd.prog 69 #[.pointer (some ⟨p,0,none⟩),.int .i64 i] w fun e w'=>e=.returned (.bool (Bs.is n i))∧w=w':=by
 by_cases h0:0≤i
 ·have h1:Hid (Bs.is n i=decide (i < n)):=Lib.hid (by simp [Bs.is,h0])
  go_enter Tryd.func69,Tryd.ntmps69
  go_wp2
  go_ret
  exact ⟨ret_bool h1.out.symm,rfl⟩
 ·have h1:Hid (Bs.is n i=false):=Lib.hid (by simp [Bs.is,h0])
  have h2:decide (0≤i)=false:=by simpa using h0
  go_enter Tryd.func69,Tryd.ntmps69
  go_wp2
  go_ret
  exact ⟨ret_bool h1.out.symm,rfl⟩
theorem cast_div_pow (W j:Nat):((W:Int) / 2 ^ j)=((W / 2 ^ j:Nat):Int):=by push_cast; rfl
theorem bit_law {X k W:Nat} (h:W / 2 ^ (k % 64) % 2=(X.testBit k).toNat) (hw:W < 18446744073709551616):(bits BinOp.and IntKind.u64 ((W:Int) / 2 ^ (k % 64)) 1 == 1)=Bs.has X k:=by
 have hq:W / 2 ^ (k % 64) < 18446744073709551616:=Nat.lt_of_le_of_lt (Nat.div_le_self _ _) hw
 rw [cast_div_pow]
 have:=bits_and_u64_nat (W / 2 ^ (k % 64)) 1 hq (by decide)
 rw [show ((1:Nat):Int)=1 from rfl] at this
 rw [this,Nat.and_one_is_mod,h]
 unfold Bs.has
 cases hb:X.testBit k<;>simp [hb]
set_option maxHeartbeats 400000 in
theorem has_any (p b n X:Nat) (i:Int) (w:World) (h:SetAt w p b n X) :
  Calls Tryd.prog 70 #[.pointer (some ⟨p,0,none⟩),.int .i64 i] w fun e w'=>e=.returned (.bool (Bs.has X i))∧w=w':=by
 obtain ⟨c0,⟨cap,c1⟩,c2,_⟩:=h.cells
 have hle:=h.le
 cases hi:Bs.is n i with
 | false =>
  have h1:=Lib.hid (Bs.has_of_is h.lt hi)
  have ht:∀ w,w.cell? ⟨p,0,none⟩=some (.int .i64 n)→Calls Tryd.prog 69 #[.pointer (some ⟨p,0,none⟩),.int .i64 i] w fun e w'=>e=.returned (.bool false)∧w=w':=by
   intro w hc; rw [← hi]; exact is_any p n i w hc
  clear hi h c2
  go_enter Tryd.func70,Tryd.ntmps70
  go_wp2_with (go_at_call 69; refine (ht _ (by assumption)).mono ?_; rintro e w' ⟨rfl,rfl⟩)
  go_ret
  exact ⟨ret_bool h1.out.symm,rfl⟩
 | true =>
  obtain ⟨k,rfl⟩:∃ k:Nat,i=k:=by simp [Bs.is] at hi; exact ⟨i.toNat,by omega⟩
  have hk:k < n:=by simp [Bs.is] at hi; omega
  have h1:=Lib.hid (Bs.has_word X k)
  have ht:∀ w,w.cell? ⟨p,0,none⟩=some (.int .i64 n)→Calls Tryd.prog 69 #[.pointer (some ⟨p,0,none⟩),.int .i64 (k:Nat)] w fun e w'=>e=.returned (.bool true)∧w=w':=by
   intro w hc; rw [← hi]; exact is_any p n k w hc
  have c3:=c2 _ (Bs.nw_lt hk)
  have hnw:=Bs.nw_lt hk
  have hnl:=Bs.nw_le hle
  have hwl:=Bs.word_lt X (k / 64)
  clear hi h c2
  go_enter Tryd.func70,Tryd.ntmps70
  go_wp2_with (go_at_call 69; refine (ht _ (by assumption)).mono ?_; rintro e w' ⟨rfl,rfl⟩)
  go_ret
  refine ⟨ret_bool ?_,rfl⟩
  exact bit_law h1.out hwl
end Go.Proofs.YtjbggogbnckllaaDoor
end
section
set_option maxRecDepth 100000
namespace Go.Proofs.YtjbggogbnckllaaDoor
open Go.RowKit
set_option linter.unusedVariables false
/-- What Add does. -/
def addB (n X:Nat) (i:Int):Bool:=Bs.is n i&&!Bs.has X i
def addX (n X:Nat) (i:Int):Nat:=if Bs.is n i then Bs.add X i.toNat else X
theorem pow_lt (k:Nat):2 ^ (k % 64) < 18446744073709551616:=Nat.pow_lt_pow_right (a:=2) (n:=64) (by decide) (Nat.mod_lt _ (by decide))
theorem pow_cast (k:Nat):IntKind.u64.wrap (2 ^ (k % 64))=((2 ^ (k % 64):Nat):Int):=by
 have:=pow_lt k
 rw [IntKind.wrap_u64]
 have e:((2:Int) ^ (k % 64))=((2 ^ (k % 64):Nat):Int):=by push_cast; rfl
 rw [e]
 generalize 2 ^ (k % 64)=a at *
 omega
theorem or_law (W k:Nat) (hw:W < 18446744073709551616):bits BinOp.or IntKind.u64 (W:Int) (IntKind.u64.wrap (2 ^ (k % 64)))=((W|||2 ^ (k % 64):Nat):Int):=by
 rw [pow_cast,bits_or_u64_nat _ _ hw (pow_lt k)]
set_option maxHeartbeats 1000000 in
theorem add_in (p b n X k:Nat) (w:World) (h:SetAt w p b n X) (hk:k < n) (hb:Bs.has X k=false) :
  Calls Tryd.prog 45 #[.pointer (some ⟨p,0,none⟩),.int .i64 (k:Nat)] w fun e w'=>e=.returned (.bool true)∧SetAt w' p b n (Bs.add X k)∧Upd b w w':=by
 obtain ⟨c0,⟨cap,c1⟩,c2,c4⟩:=h.cells
 have hle:=h.le
 have H:=Lib.hid h
 have hi:Bs.is n k=true:=by simp [Bs.is,hk]
 have ht:∀ w,w.cell? ⟨p,0,none⟩=some (.int .i64 n)→Calls Tryd.prog 69 #[.pointer (some ⟨p,0,none⟩),.int .i64 (k:Nat)] w fun e w'=>e=.returned (.bool true)∧w=w':=by
  intro w hc; rw [← hi]; exact is_any p n k w hc
 have hs:Calls Tryd.prog 70 #[.pointer (some ⟨p,0,none⟩),.int .i64 (k:Nat)] w fun e w'=>e=.returned (.bool false)∧w=w':=by
  rw [← hb]; exact has_any p b n X k w h
 have c3:=c2 _ (Bs.nw_lt hk)
 have c5:=c4 (k / 64)
 have hnw:=Bs.nw_lt hk
 have hnl:=Bs.nw_le hle
 have hwl:=Bs.word_lt X (k / 64)
 clear hi h c2 c4 hb
 go_enter Tryd.func45,Tryd.ntmps45
 go_wp2_with (first | (go_at_call 69; refine (ht _ (by assumption)).mono ?_; rintro e w' ⟨rfl,rfl⟩) | (go_at_call 70; refine hs.mono ?_; rintro e w' ⟨rfl,rfl⟩))
 go_region
 all_goals go_wp2
 all_goals go_ret
 all_goals
  have hs:=H.out.put (Y:=Bs.add X k) hk (Bs.add_lt H.out.lt hk) (fun j hj=>by rw [Bs.word_add,if_neg hj]) (congrArg (Value.int .u64) ((or_law _ k hwl).trans (by rw [Bs.word_add,if_pos rfl])))
  exact ⟨rfl,hs.kept rfl rfl,(((Upd.refl b w).setCell _ rfl _)).drew⟩
/-- Add where it adds nothing. -/
theorem add_out (p b n X:Nat) (i:Int) (w:World) (h:SetAt w p b n X) (hb:Bs.is n i=false∨Bs.has X i=true) :
  Calls Tryd.prog 45 #[.pointer (some ⟨p,0,none⟩),.int .i64 i] w fun e w'=>e=.returned (.bool false)∧w=w':=by
 obtain ⟨c0,_,_,_⟩:=h.cells
 have ht:=is_any p n i w c0
 have hs:=has_any p b n X i w h
 have hh:Bs.is n i=false∨(Bs.is n i=true∧Bs.has X i=true):=by
  rcases hb with hb | hb
  ·exact .inl hb
  ·cases e:Bs.is n i
   ·exact .inl rfl
   ·exact .inr ⟨rfl,hb⟩
 clear hb
 rcases hh with hi | ⟨hi,hx⟩
 ·rw [hi] at ht
  clear hi hs h
  go_enter Tryd.func45,Tryd.ntmps45
  go_wp2_with (go_at_call 69; refine ht.mono ?_; rintro e w' ⟨rfl,rfl⟩)
  go_ret
  exact ⟨rfl,rfl⟩
 ·rw [hi] at ht
  rw [hx] at hs
  clear hi hx h
  go_enter Tryd.func45,Tryd.ntmps45
  go_wp2_with (first | (go_at_call 69; refine ht.mono ?_; rintro e w' ⟨rfl,rfl⟩) | (go_at_call 70; refine hs.mono ?_; rintro e w' ⟨rfl,rfl⟩))
  go_ret
  exact ⟨rfl,rfl⟩
/-- Add. -/
theorem add_any (p b n X:Nat) (i:Int) (w:World) (h:SetAt w p b n X) :
  Calls Tryd.prog 45 #[.pointer (some ⟨p,0,none⟩),.int .i64 i] w fun e w'=>e=.returned (.bool (addB n X i))∧SetAt w' p b n (addX n X i)∧Upd b w w':=by
 cases hi:Bs.is n i with
 | false =>
  refine (add_out p b n X i w h (.inl hi)).mono ?_
  rintro e w' ⟨rfl,rfl⟩
  exact ⟨ret_bool (by simp [addB,hi]),by simp [addX,hi]; exact h,Upd.refl _ _⟩
 | true =>
  obtain ⟨k,rfl⟩:∃ k:Nat,i=k:=by simp [Bs.is] at hi; exact ⟨i.toNat,by omega⟩
  have hk:k < n:=by simp [Bs.is] at hi; omega
  cases hx:Bs.has X k with
  | true =>
   refine (add_out p b n X k w h (.inr hx)).mono ?_
   rintro e w' ⟨rfl,rfl⟩
   have hb:X.testBit k=true:=by simpa [Bs.has] using hx
   exact ⟨ret_bool (by simp [addB,hi,hx]),by simp [addX,hi,Bs.add_same hb]; exact h,Upd.refl _ _⟩
  | false =>
   refine (add_in p b n X k w h hk hx).mono ?_
   rintro e w' ⟨rfl,h1,h2⟩
   exact ⟨ret_bool (by simp [addB,hi,hx]),by simp [addX,hi]; exact h1,h2⟩
end Go.Proofs.YtjbggogbnckllaaDoor
end
section
set_option maxRecDepth 100000
namespace Go.Proofs.YtjbggogbnckllaaDoor
open Go.RowKit
set_option linter.unusedVariables false
/-- Words of nothing. -/
def noWords (c:Nat):Array Value:=madeCells #[.int .u64 0] c
theorem noWords_get {c k:Nat} (h:k < c):(noWords c)[k]?=some (.int .u64 0):=by
 unfold noWords madeCells
 simp [h,Nat.mod_one]
theorem noWords_size (c:Nat):(noWords c).size=c:=by simp [noWords,madeCells]
theorem info54:(Tryd.prog.info? 118).map (fun i=>(i.zero,i.size,i.bytes))=some (some (.int .u64 0),1,8):=by kernel_rfl
theorem make_words (z:Int) (c:Nat) (hz:z=c) (hc:c≤16) (w:World) :
  (Instr.makeSlice 119 (.int .i64 z) (.int .i64 z)).run Tryd.prog w=.ok (.slice (some ⟨w.heap.size,0,none⟩) c c) (w.alloc (.cells (noWords c) 118)):=by
 obtain ⟨i0,hi,hz0,hz1,hz2⟩:=info_parts info54
 have hr:=run_make (P:=Tryd.prog) w 119 118 i0 (.int .u64 0) Tryd.underlying119 hi hz0 .i64 .i64 c c (by omega) (Int.le_refl _) (by rw [hz2]; omega) (by omega)
 subst hz
 rw [hr,hz1]
 simp [noWords,Value.cells]
/-- The set that a New leaves. -/
theorem new_set (w:World) (m:Nat) (hm:m≤1000) (v:Value) (hv:v=.int .i64 m) :
  SetAt ((w.alloc (.cells (noWords (Bs.nw m)) 118)).alloc (.cells #[v,.slice (some ⟨w.heap.size,0,none⟩) (Bs.nw m:Nat) (Bs.nw m:Nat)] 121)) (w.heap.size+1) w.heap.size m 0:=by
 subst hv
 refine ⟨⟨Bs.nw m,?_⟩,⟨noWords (Bs.nw m),?_,by rw [noWords_size]; exact Nat.le_refl _,fun k hk=>by rw [noWords_get hk,Bs.word_zero]; rfl⟩,by omega,hm,Nat.two_pow_pos m⟩
 ·have:=heap_alloc_new (w.alloc (.cells (noWords (Bs.nw m)) 118)) (.cells #[.int .i64 m,.slice (some ⟨w.heap.size,0,none⟩) (Bs.nw m:Nat) (Bs.nw m:Nat)] 121)
  rw [World.size_alloc] at this
  exact this
 ·exact (Below.heap_alloc _ _ _ (by simp)).trans (heap_alloc_new w _)
def NewPost (w:World) (n:Nat) (e:Ending) (w':World):Prop :=
 ∃ p b,e=.returned (.pointer (some ⟨p,0,none⟩))∧w.heap.size≤p∧w.heap.size≤b∧SetAt w' p b n 0∧Below w.heap.size w w'
set_option maxHeartbeats 1000000 in
theorem new_any (n:Int) (w:World) :
  Calls Tryd.prog 51 #[.int .i64 n] w (NewPost w (Bs.wid n)):=by
 have fin:∀ (m:Nat) (v:Value),m≤1000→v=.int .i64 m→Hid (∀ e,e=.returned (.pointer (some ⟨w.heap.size+1,0,none⟩))→NewPost w m e ((w.alloc (.cells (noWords (Bs.nw m)) 118)).alloc (.cells #[v,.slice (some ⟨w.heap.size,0,none⟩) (Bs.nw m:Nat) (Bs.nw m:Nat)] 121))) :=
  fun m v hm hv=>Lib.hid fun e he=>⟨_,_,he,by omega,Nat.le_refl _,new_set w m hm v hv,((Below.refl _ _).alloc (Nat.le_refl _) _).alloc (by simp) _⟩
 by_cases h0:n≤0
 ·have f:=fin 0 (.int .i64 0) (by omega) rfl
  have e0:Bs.wid n=0:=by unfold Bs.wid; omega
  rw [e0]
  have hmk:=make_words 0 0 rfl (by omega)
  have h1:n≤1000:=by omega
  clear fin e0
  go_enter Tryd.func51,Tryd.ntmps51
  go_wp2
  go_ret
  exact f.out _ rfl
 by_cases h1:n≤1000
 ·obtain ⟨m,rfl⟩:∃ m:Nat,n=m:=⟨n.toNat,by omega⟩
  have f:=fin m (.int .i64 m) (by omega) rfl
  have e0:Bs.wid (m:Int)=m:=by unfold Bs.wid; omega
  rw [e0]
  have hmk:=make_words (((m:Int)+64 - 1) / 64) (Bs.nw m) (by unfold Bs.nw; omega) (Bs.nw_le (by omega))
  have hm:0 < m:=by omega
  have hm1:m≤1000:=by omega
  clear fin e0 h0 h1
  go_enter Tryd.func51,Tryd.ntmps51
  go_wp2
  go_ret
  exact f.out _ rfl
 ·have f:=fin 1000 (.int .i64 1000) (by omega) rfl
  have e0:Bs.wid n=1000:=by unfold Bs.wid; omega
  rw [e0]
  have hmk:=make_words 16 16 rfl (by omega)
  have h2:1000 < n:=by omega
  clear fin e0 h0 h1
  go_enter Tryd.func51,Tryd.ntmps51
  go_wp2
  go_ret
  exact f.out _ rfl
/-- A slice of numbers. -/
def Ints (w:World) (a:Option Addr) (l:List Int):Prop:=∀ i (h:i < l.length),∃ b off,a=some ⟨b,off,none⟩∧w.cell? ⟨b,off+i,none⟩=some (.int .i64 l[i])
theorem Ints.below {w w':World} {a:Option Addr} {l:List Int} (h:Ints w a l) (k:Below w.heap.size w w'):Ints w' a l:=by
 intro i hi
 obtain ⟨b,off,rfl,hc⟩:=h i hi
 have hlt:b < w.heap.size:=World.block_lt_of_cell? w _ hc
 exact ⟨b,off,rfl,((bcell k).1 _ _ hlt).trans hc⟩
/-- What a call that makes a set leaves. -/
def SetPost (w:World) (n X:Nat) (e:Ending) (w':World):Prop :=
 ∃ p b,e=.returned (.pointer (some ⟨p,0,none⟩))∧w.heap.size≤p∧w.heap.size≤b∧SetAt w' p b n X∧Below w.heap.size w w'
set_option maxRecDepth 100000 in
set_option maxHeartbeats 1000000 in
theorem of_any (n:Int) (a:Option Addr) (l:List Int) (c:Nat) (w:World) (hl:Ints w a l) (hn:l.length≤maxLen) :
  Calls Tryd.prog 55 #[.int .i64 n,.slice a l.length c] w (SetPost w (Bs.wid n) (Bs.of (Bs.wid n) l)):=by
 unfold maxLen at hn
 have Hl:=Lib.hid hl
 clear hl
 go_enter Tryd.func55,Tryd.ntmps55
 go_wp2_with fail
 refine (new_any n w).mono ?_
 rintro e w1 ⟨p,b,rfl,hp,hb,hs,hB⟩
 have H1:=Lib.hid hs
 have L1:=Lib.hid hB
 clear hs hB
 go_wp2_with fail
 go_loopw [12] (fun i wr=>∃ k:Nat,i=.int .i64 k∧k≤l.length∧Hid (SetAt wr p b (Bs.wid n) (Bs.adds (Bs.wid n) 0 (l.take k)))∧Hid (Below w.heap.size w wr)) (fun i _=>l.length - (intOf i).toNat)
 case atStart=>exact ⟨0,rfl,by omega,by simpa [Bs.adds] using H1,L1⟩
 case round =>
  obtain ⟨k,rfl,hk,S,L⟩:=hrel
  by_cases hlt:k < l.length
  ·obtain ⟨g,off,rfl,hc⟩:=(Hl.out.below L.out) k hlt
   go_wp2_with fail
   refine (add_any p b _ _ l[k] _ S.out).mono ?_
   rintro e w2 ⟨rfl,hs,hu⟩
   have L2:=Lib.hid (L.out.trans (hu.below hb L.out.size))
   have S2:Hid (SetAt w2 p b (Bs.wid n) (Bs.adds (Bs.wid n) 0 (l.take (k+1)))):=by
    refine Lib.hid ?_
    rw [List.take_succ_eq_append_getElem hlt,Bs.adds_snoc]
    exact hs
   clear hs hu S L hc
   go_wp2_with fail
   go_roundw
   case rel=>exact ⟨k+1,by go_num,by omega,S2,L2⟩
   case measure=>simp [intOf]; omega
  ·obtain rfl:k=l.length:=by omega
   rw [List.take_length] at S
   clear hlt
   go_wp2_with fail
   go_ret
   exact ⟨p,b,rfl,hp,hb,S.out,L.out⟩
end Go.Proofs.YtjbggogbnckllaaDoor
end
