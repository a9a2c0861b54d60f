/-
  A region with two calls, one behind the other, while something else is made: the three orders, whatever the calls give.
  A region that draws its order: a head that only reads or gives one value in each world of a class; then one call, whatever it gives; then operations that each yield one value.
  A region that draws its order: a reading head, a chain of operations whatever they give, and operations behind it that each yield one value.
-/
import Derived.Test.YtjbggogbnckllaaDoorIx
import Derived.Test.YtjbggogbnckllaaDoorAa
section
set_option maxRecDepth 100000
namespace Go.Proofs.YtjbggogbnckllaaDoor
open Go Go.RowKit
section
variable {P:Program} {D:World→Prop}
def gx3C (l:List Oper) (hs:List Nat) (b0 ap b1:Nat) (ts:List Nat) (e sz:Nat):Bool:=Region.noSelect l.toArray&&headsB .any l (earlyE hs (b0::ap::b1::ts) (e+3)) hs&&(ts.drop e).all (fun t=>!earlyE hs (b0::ap::b1::ts) (e+3) t)&&dstB (pickL l hs) sz&&decide (hs.length+(ts.length+3)=l.length) &&
 lexH3 .any l.toArray b0 ap b1 ts hs (Array.replicate l.length false)
/-- A call whose results are many, as an operation. -/
theorem op_callE1 {w:World} {o:Oper} {a:Act} {K:Act→World→Prop} {Q:Exit→Act→World→Prop} (f:FuncId) (hcf:∀ args w,Sem.run P (callFunc f args) w=.ok (.enter f args) w) (x:Operand) (tys:Array TypeId)
  (ho:o.op=.call { callee:=.value (.func f),args:=#[x],argTypes:=tys }) (vx:Value) (hx:a.eval x=vx) (Ψ:Value→World→Prop)
  (hc:Calls P f #[vx] w fun e w'=>∃ v,e=.returned v∧Ψ v w') (h:∀ v w',Ψ v w'→K (a.put o.dst v) w'):o.wp P a w K Q:=by
 subst hx
 unfold Oper.wp
 have hr:(execOp a.eval o).run P w=.ok (.enter f #[a.eval x]) w:=by
  unfold execOp
  simp [ho,resolve,invoke,Act.eval,Deferred.ofValue,hcf]
 rw [hr]
 exact hc.mono fun e w' ⟨v,he,hw⟩=>by subst he; exact h _ _ hw
end
end Go.Proofs.YtjbggogbnckllaaDoor
end
section
set_option maxRecDepth 100000
namespace Go.Proofs.YtjbggogbnckllaaDoor
open Go Go.RowKit
section
variable {P:Program} {l:List Oper} {n:Nat} {C:World→Prop}
/-- Each operation behind the n-th waits for one that is not ahead of the n-th. -/
def behB (ops:Array Oper) (n:Nat):Bool:=(List.range ops.size).all fun t=>decide (t≤n)||(List.range t).any fun j=>decide (n≤j)&&Region.waitsFor .any ops t j
def midL (l:List Oper) (n:Nat):Array Bool:=Array.replicate n true++Array.replicate (l.length - n) false
def midB (l:List Oper) (n:Nat):Bool :=
 decide (n < l.length)&&Region.noSelect l.toArray&&Region.sinkB .any l.toArray n&&behB l.toArray n&&Region.lexB .any (l.take n).toArray&&guardsIn n (l.take n)&&backB n l &&
 decide (Region.ready .any l.toArray (midL l n)=[n])&&Region.lexFrom .any l.toArray (l.length - (n+1)) (n+1) ((midL l n).setIfInBounds n true)
/-- A call as an operation, whatever it gives. -/
theorem op_callE {w:World} {o:Oper} {a:Act} {K:Act→World→Prop} {Q:Exit→Act→World→Prop} (f:FuncId) (hcf:∀ args w,Sem.run P (callFunc f args) w=.ok (.enter f args) w) (xs:Array Operand) (tys:Array TypeId)
  (ho:o.op=.call { callee:=.value (.func f),args:=xs,argTypes:=tys }) (args:Array Value) (hargs:xs.map a.eval=args) (Ψ:Value→World→Prop)
  (hc:Calls P f args w fun e w'=>∃ v,e=.returned v∧Ψ v w') (h:∀ v w',Ψ v w'→K (a.put o.dst v) w'):o.wp P a w K Q:=by
 subst hargs
 unfold Oper.wp
 have hr:(execOp a.eval o).run P w=.ok (.enter f (xs.map a.eval)) w:=by
  unfold execOp
  simp [ho,resolve,invoke,Act.eval,Deferred.ofValue,hcf]
 rw [hr]
 exact hc.mono fun e w' ⟨v,he,hw⟩=>by subst he; exact h _ _ hw
theorem op_callE2 {w:World} {o:Oper} {a:Act} {K:Act→World→Prop} {Q:Exit→Act→World→Prop} (f:FuncId) (hcf:∀ args w,Sem.run P (callFunc f args) w=.ok (.enter f args) w) (x y:Operand) (tys:Array TypeId)
  (ho:o.op=.call { callee:=.value (.func f),args:=#[x,y],argTypes:=tys }) (vx vy:Value) (hx:a.eval x=vx) (hy:a.eval y=vy) (Ψ:Value→World→Prop)
  (hc:Calls P f #[vx,vy] w fun e w'=>∃ v,e=.returned v∧Ψ v w') (h:∀ v w',Ψ v w'→K (a.put o.dst v) w'):o.wp P a w K Q :=
 op_callE f hcf #[x,y] tys ho #[vx,vy] (by simp [hx,hy]) Ψ hc h
end
end Go.Proofs.YtjbggogbnckllaaDoor
end
section
set_option maxRecDepth 100000
namespace Go.Proofs.YtjbggogbnckllaaDoor
open Go Go.RowKit
section
variable {P:Program} {md:Region.Mode} {D:World→Prop}
/-- The chain: the first e operations keep the class; what holds behind it is R. -/
def wpListM (P:Program) (ops:Array Oper) (Q:Exit→Act→World→Prop) (D:World→Prop) (R:Act→World→Prop):Nat→List Oper→Act→World→Prop
 | _,[],a,w=>R a w
 | 0,o::l,a,w=>if Region.wanted o (yielded ops a.tmps)=true then o.wp P a w (fun a' w'=>wpListM P ops Q D R 0 l a' w') Q else wpListM P ops Q D R 0 l (a.put o.dst undef) w
 | e+1,o::l,a,w=>if Region.wanted o (yielded ops a.tmps)=true then o.wp P a w (fun a' w'=>D w'∧wpListM P ops Q D R e l a' w') Q else D w∧wpListM P ops Q D R e l (a.put o.dst undef) w
def seqM (md:Region.Mode) (ops:Array Oper) (r:Nat):List Nat→Array Bool→Bool
 | [],L=>Region.lexFrom md ops r (ops.size - r) L
 | k::ts,L=>decide (Region.ready md ops L=[k])&&seqM md ops r ts (L.setIfInBounds k true)
def lexM (md:Region.Mode) (ops:Array Oper) (r:Nat) (ts:List Nat):List Nat→Array Bool→Bool
 | [],L=>seqM md ops r ts L
 | k::hs,L=>(Region.ready md ops L).contains k&&Region.free md ops L k&&lexM md ops r ts hs (L.setIfInBounds k true)
def gmB (l:List Oper) (hs ts:List Nat) (e r sz:Nat):Bool:=Region.noSelect l.toArray&&headsB .any l (earlyE hs ts e) hs&&(ts.drop e).all (fun t=>!earlyE hs ts e t)&&dstB (pickL l hs) sz&&decide (hs.length+(ts.length+r)=l.length)&&lexM .any l.toArray r ts hs (Array.replicate l.length false)
/-- What holds behind the chain: the rest is quiet. -/
def restM (P:Program) (l:List Oper) (Q:Exit→Act→World→Prop) (r:Nat) (a:Act) (w:World):Prop:=wpQuiet P l.toArray (fun w'=>w'=w) (fun a2=>Q .normal a2 w) (l.drop (l.length - r)) a
end
end Go.Proofs.YtjbggogbnckllaaDoor
end
