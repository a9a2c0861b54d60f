/-
  A region that draws its order, whose head only reads, whose tail makes a slice, appends and stores: over any program. The head's loads are walked once, in the order of the text; a slice that is made ahead of some of them changes nothing of what they read.
  A region that draws its order, over any program: a head (in any order that its edges allow) of reads and of calls that leave the world alone; a tail in a forced order, of which a slice that is made, and the first few operations, may come ahead of some of the head.
  A region whose head reads, and whose tail begins with a call that makes memory and may come ahead of some of the head.
  A call of a Go function as a step of a region: what it gives is one of many values.
-/
import Derived.Test.YtjbggogbnckllaaDoorAa
section
set_option maxRecDepth 100000
namespace Go.Proofs.YtjbggogbnckllaaDoor
open Go Go.RowKit
section
variable {P:Program} {ops:Array Oper} {md:Region.Mode} {C:World→Prop}
/-- Operation j waits for operation i. -/
def waitsB (md:Region.Mode) (ops:Array Oper):Nat→Nat→Nat→Bool
 | 0,_,_=>false
 | f+1,j,i=>match ops[j]? with
  | none=>false
  | some o=>o.after.any fun e=>Region.binds md e&&(e.on == i||waitsB md ops f e.on i)
def Closed (md:Region.Mode) (ops:Array Oper) (L:Array Bool):Prop:=∀ j oj,ops[j]?=some oj→L.getD j false=true→∀ e ∈ oj.after,Region.binds md e=true→L.getD e.on false=true
theorem Closed.set {i:Nat} {L:Array Bool} (h:Closed md ops L) (hi:i ∈ Region.ready md ops L):Closed md ops (L.setIfInBounds i true):=by
 obtain ⟨_,oi,hoi,hall⟩:=mem_ready.1 hi
 intro j oj hj hl e he hb
 by_cases hij:i=j
 ·subst hij
  have:oj=oi:=Option.some.inj (hj.symm.trans hoi)
  subst this
  exact getD_set_true (hall e he hb)
 ·rw [getD_set_ne false hij] at hl
  exact getD_set_true (h j oj hj hl e he hb)
theorem waits_listed {L:Array Bool} (hc:Closed md ops L):∀ (f j i:Nat) (oj:Oper),ops[j]?=some oj→(∀ e ∈ oj.after,Region.binds md e=true→L.getD e.on false=true)→waitsB md ops f j i=true→L.getD i false=true:=by
 intro f
 induction f with
 | zero=>intro j i oj _ _ h; cases h
 | succ f ih =>
  intro j i oj hj hall h
  rw [waitsB,hj] at h
  obtain ⟨e,he,hb⟩:=Array.any_eq_true'.1 h
  simp only [Bool.and_eq_true,Bool.or_eq_true,beq_iff_eq] at hb
  obtain ⟨hb1,hb2⟩:=hb
  have h1:=hall e he hb1
  rcases hb2 with hb2 | hb2
  ·rw [← hb2]; exact h1
  ·cases ho:ops[e.on]? with
   | none =>
    cases f with
    | zero=>cases hb2
    | succ f=>rw [waitsB,ho] at hb2; cases hb2
   | some o2=>exact ih e.on i o2 ho (fun e2 he2 hb3=>hc e.on o2 ho h1 e2 he2 hb3) hb2
/-- It yields a value, whatever the world, and reads none. -/
def isMove (o:Oper):Bool:=match o.op with | .move _=>true | _=>false
def isBS (o:Oper):Bool:=match o.op with | .buildSlice ..=>true | _=>false
/-- What a head may hold. -/
def isRead (o:Oper):Bool:=match o.op with | .move _ | .assign _ | .load .. | .fieldAddr .. | .indexAddr .. | .build .. | .field .. | .index .. | .binOp .. | .nilCheck _ | .convert ..=>true | _=>false
theorem read_next {ev:Operand→Value} {o:Oper} {w w':World} {n:Next} (h:isRead o=true) (hr:(execOp ev o).run P w=.ok n w'):∃ v,n=.value v:=by
 have key:∀ m:Sem Value,((do pure (Next.value (← m)):Sem Next)).run P w=.ok n w'→∃ v,n=.value v:=by
  intro m hm
  rw [Sem.run_bind] at hm
  cases hq:m.run P w with
  | ok v w1=>rw [hq] at hm; simp at hm; exact ⟨v,hm.1.symm⟩
  | halt x w1=>rw [hq] at hm; simp at hm
 unfold isRead at h
 unfold execOp at hr
 cases ho:o.op<;>rw [ho] at h hr<;>try (cases h)
 case move x=>simp at hr; exact ⟨_,hr.1.symm⟩
 case assign x=>simp at hr; exact ⟨_,hr.1.symm⟩
 case nilCheck x =>
  simp only at hr
  split at hr
  ·simp [runtimePanic] at hr
  ·simp [runtimePanic] at hr
  ·simp [runtimePanic] at hr
  ·split at hr
   ·simp [runtimePanic] at hr
   ·rw [Sem.run_bind] at hr
    cases hp:(program:Sem Program).run P w with
    | halt x w1=>rw [hp] at hr; simp at hr
    | ok p w1 =>
     rw [hp] at hr
     simp only [Result.andThen_ok] at hr
     rw [Sem.run_bind] at hr
     generalize hm:Sem.run P (nilAhead _ _ _ _) w1=r at hr
     cases r with
     | halt x w2=>simp at hr
     | ok b w2 =>
      simp only [Result.andThen_ok] at hr
      split at hr
      ·rw [Sem.run_bind] at hr
       generalize hm2:Sem.run P (unsupported _) w2=r2 at hr
       cases r2 with
       | halt x w3=>simp at hr
       | ok b2 w3=>simp at hr; exact ⟨_,hr.1.symm⟩
      ·simp at hr; exact ⟨_,hr.1.symm⟩
   ·simp at hr; exact ⟨_,hr.1.symm⟩
  ·simp at hr; exact ⟨_,hr.1.symm⟩
 all_goals exact key _ hr
def Grs (P:Program) {α:Type} (m:Sem α):Prop:=∀ w v w',m.run P w=.ok v w'→Below w.heap.size w w'
theorem Grs.bind {α β:Type} {m:Sem α} {f:α→Sem β} (hm:Grs P m) (hf:∀ a,Grs P (f a)):Grs P (m >>= f):=by
 intro w v w' h
 rw [Sem.run_bind] at h
 cases hq:m.run P w with
 | halt x w1=>rw [hq] at h; simp at h
 | ok a w1 =>
  rw [hq] at h
  simp only [Result.andThen_ok] at h
  have h1:=hm w a w1 hq
  exact h1.trans ((hf a w1 v w' h).mono h1.size)
theorem Grs.pure {α:Type} (a:α):Grs P (Pure.pure a:Sem α):=by
 intro w v w' h
 simp at h
 rw [← h.2]
 exact Below.refl _ _
theorem Grs.program:Grs P (Go.program):=by
 intro w v w' h
 simp at h
 rw [← h.2]
 exact Below.refl _ _
theorem Grs.stuck {α:Type} (x:String):Grs P (Go.stuck x:Sem α):=by
 intro w v w' h
 simp [Go.stuck] at h
theorem Grs.unsupported {α:Type} (x:Unsupported):Grs P (Go.unsupported x:Sem α):=by
 intro w v w' h
 simp [Go.unsupported] at h
theorem Grs.underlying (t:TypeId):Grs P (Go.underlying t):=by
 unfold Go.underlying
 refine Grs.program.bind fun p=>?_
 split
 ·exact .pure _
 ·exact .stuck _
theorem Grs.typeInfo (t:TypeId):Grs P (Go.typeInfo t):=by
 unfold Go.typeInfo
 refine Grs.program.bind fun p=>?_
 split
 ·exact .pure _
 ·exact .stuck _
theorem Grs.sizeOf (t:TypeId):Grs P (Go.sizeOf t):=by
 unfold Go.sizeOf
 exact (Grs.typeInfo t).bind fun _=>.pure _
theorem Grs.zeroValue (t:TypeId):Grs P (Go.zeroValue t):=by
 unfold Go.zeroValue
 refine (Grs.typeInfo t).bind fun p=>?_
 split
 ·exact .pure _
 ·exact .unsupported _
theorem Grs.newRow (e:TypeId) (cs:Array Value):Grs P (Go.newRow e cs):=by
 intro w v w' h
 simp [Go.newRow] at h
 rw [← h.2]
 exact (Below.refl _ _).alloc (Nat.le_refl _) _
theorem Grs.buildSlice (t:TypeId) (n:Nat) (parts:Array (Nat×Value)):Grs P (Instr.buildSlice t n parts):=by
 unfold Instr.buildSlice
 refine (Grs.underlying t).bind fun d=>?_
 split
 ·refine (Grs.sizeOf _).bind fun sz=>?_
  have rest:∀ (e:TypeId) (z:Array Value),Grs P (do
   let some cells:=Instr.fill (fun i=>some (i*sz,sz)) ((Array.range (n*sz)).map (z[· % z.size]!)) parts.toList
    | Go.stuck "buildSlice: a part of the wrong size"
   Pure.pure (Value.slice (some (← Go.newRow e cells)) n n)):=by
   intro e z
   split
   ·exact (Grs.newRow _ _).bind fun _=>.pure _
   ·exact .stuck _
  split
  ·split
   ·exact (Grs.unsupported _).bind fun _=>(Grs.pure _).bind fun z=>rest _ z
   ·exact (Grs.pure _).bind fun z=>rest _ z
  ·split
   ·exact (Grs.unsupported _).bind fun _=>(Grs.zeroValue _).bind fun _=>(Grs.pure _).bind fun z=>rest _ z
   ·exact (Grs.zeroValue _).bind fun _=>(Grs.pure _).bind fun z=>rest _ z
 ·exact .stuck _
theorem bs_grows {ev:Operand→Value} {o:Oper} {w w':World} {n:Next} (h:isBS o=true) (hr:(execOp ev o).run P w=.ok n w'):Below w.heap.size w w':=by
 unfold isBS at h
 unfold execOp at hr
 cases ho:o.op<;>rw [ho] at h hr<;>try (cases h)
 case buildSlice t len parts=>exact ((Grs.buildSlice _ _ _).bind fun v=>.pure (Next.value v)) w n w' hr
theorem bs_value {ev:Operand→Value} {o:Oper} {w w':World} {n:Next} (h:isBS o=true) (hr:(execOp ev o).run P w=.ok n w'):∃ v,n=.value v:=by
 unfold isBS at h
 unfold execOp at hr
 cases ho:o.op<;>rw [ho] at h hr<;>try (cases h)
 case buildSlice t len parts =>
  simp only [Sem.run_bind] at hr
  cases hq:(Instr.buildSlice t len (parts.map fun x=>(x.1,ev x.2))).run P w with
  | ok v w1=>rw [hq] at hr; simp at hr; exact ⟨v,hr.1.symm⟩
  | halt x w1=>rw [hq] at hr; simp at hr
/-- In state a, in every world of the class, operation o yields v and leaves the world. -/
def YieldsE (P:Program) (ops:Array Oper) (C:World→Prop) (o:Oper) (v:Value) (a:Act):Prop :=
 (Region.wanted o (yielded ops a.tmps)=true∧∀ w,C w→(execOp a.eval o).run P w=.ok (.value v) w)∨(Region.wanted o (yielded ops a.tmps)=false∧v=undef)
theorem YieldsE.of_same {o:Oper} {v:Value} {a a':Act} (hy:YieldsE P ops C o v a) (he:execOp a'.eval o=execOp a.eval o)
  (hw:Region.wanted o (yielded ops a'.tmps)=Region.wanted o (yielded ops a.tmps)):YieldsE P ops C o v a':=by
 unfold YieldsE at *
 rw [he,hw]
 exact hy
theorem YieldsE.wpOp {Q:Exit→Act→World→Prop} {i:Nat} {o:Oper} {v:Value} {a:Act} (hi:ops[i]?=some o) (hy:YieldsE P ops C o v a) {K:Act→World→Prop} {w:World} (hw:C w) (h:K (a.put o.dst v) w):wpOp P ops Q i K a w:=by
 unfold Go.wpOp
 simp only [hi]
 rcases hy with ⟨hw1,hv⟩ | ⟨hw1,rfl⟩
 ·simp only [hw1,if_true,Oper.wp,hv w hw,Oper.upon]; exact .inl h
 ·simp only [hw1,Bool.false_eq_true,if_false]; exact h
/-- The tree of all orders; a step of the head keeps the class. -/
def wpAnyC (P:Program) (md:Region.Mode) (ops:Array Oper) (C:World→Prop) (n:Nat) (Q:Exit→Act→World→Prop):Nat→Array Bool→Act→World→Prop
 | 0,L,a,w=>Region.ready md ops L=[]∧Q .normal a w
 | f+1,L,a,w=>(Region.ready md ops L=[]→Q .normal a w)∧∀ i ∈ Region.ready md ops L,wpOp P ops Q i (fun a' w'=>(i < n→C w→C w')∧wpAnyC P md ops C n Q f (L.setIfInBounds i true) a' w') a w
theorem wpAny_of_C {n:Nat} {Q:Exit→Act→World→Prop}:∀ (f:Nat) (L:Array Bool) (a:Act) (w:World),wpAnyC P md ops C n Q f L a w→wpAny P md ops Q f L a w
 | 0,_,_,_,h=>h
 | f+1,_,_,_,h=>⟨h.1,fun i hi=>wpOp_mono (fun a' w' h'=>wpAny_of_C f _ a' w' h'.2) (h.2 i hi)⟩
theorem wpAnyC_of_seq {n:Nat} {Q:Exit→Act→World→Prop}:∀ (l:List Oper) (k:Nat) (L:Array Bool) (a:Act) (w:World),n≤k→(∀ j,l[j]?=ops[k+j]?) →
  Region.seqB md ops l.length k L=true→wpList P ops Q l a w→wpAnyC P md ops C n Q l.length L a w
 | [],_,_,_,_,_,_,hB,h=>⟨by simpa [Region.seqB] using hB,h⟩
 | o::l,k,L,a,w,hk,hl,hB,h=>by
  have h0:ops[k]?=some o:=by simpa using (hl 0).symm
  simp only [List.length_cons,Region.seqB,Bool.and_eq_true,decide_eq_true_eq] at hB
  refine ⟨fun h1=>(by rw [hB.1] at h1; cases h1),fun i hi=>?_⟩
  rw [hB.1] at hi
  have hik:i=k:=by simpa using hi
  subst hik
  have hw:wpOp P ops Q i (wpList P ops Q l) a w:=by unfold wpOp; simp only [h0]; exact h
  exact wpOp_mono (fun a' w' h'=>⟨fun hin=>absurd hin (by omega),wpAnyC_of_seq l (i+1) _ a' w' (by omega) (fun j=>by have:=hl (j+1); simpa [Nat.add_assoc,Nat.add_comm 1 j] using this) hB.2 h'⟩) hw
/-- What another operation, which comes first, does. -/
theorem wpOp_putE {Q:Exit→Act→World→Prop} {j:Nat} {oi oj:Oper} {v:Value} (hj:ops[j]?=some oj) (hap:oi.apart ops oj=true)
  (hsi:∀ cs b,oi.op≠.select cs b) (hsj:∀ cs b,oj.op≠.select cs b)
  (hQ:∀ c a w,Q (.panic c) (a.put oi.dst v) w→Q (.panic c) a w) {K:Act→World→Prop} {a:Act} {w:World}
  (hy:YieldsE P ops C oi v a) (hG:isBS oj=true∨isRead oj=true) (h:wpOp P ops Q j K (a.put oi.dst v) w) :
  wpOp P ops Q j (fun a' w'=>(isBS oj=true→Below w.heap.size w w')∧YieldsE P ops C oi v a'∧K (a'.put oi.dst v) w') a w:=by
 obtain ⟨h1,h2,h3⟩:=Oper.apart_spec hap
 have keep:∀ (a:Act),YieldsE P ops C oi v a→∀ u,YieldsE P ops C oi v (a.put oj.dst u):=fun a hy u =>
  hy.of_same (execOp_put oi hsi a oj.dst u h3) (wanted_put oi a oj.dst u h3)
 unfold wpOp at *
 simp only [hj] at *
 rw [wanted_put oj a oi.dst v h1] at h
 split
 ·rename_i hw
  simp only [hw,if_true] at h
  rcases h with h | ⟨hasks,hlets⟩
  case inr=>exact .inr ⟨by unfold Oper.asks at *; rw [execOp_put oj hsj a oi.dst v h1] at hasks; exact hasks,hlets⟩
  refine .inl ?_
  unfold Oper.wp at *
  rw [execOp_put oj hsj a oi.dst v h1] at h
  have hval:∀ n w',(execOp a.eval oj).run P w=.ok n w'→∃ u,n=.value u:=fun n w' hr=>hG.elim (fun hb=>bs_value hb hr) (fun hb=>read_next hb hr)
  have hbel:∀ n w',(execOp a.eval oj).run P w=.ok n w'→isBS oj=true→Below w.heap.size w w':=fun n w' hr hb=>bs_grows hb hr
  generalize (execOp a.eval oj).run P w=r at *
  cases r with
  | ok n w' =>
   obtain ⟨u,rfl⟩:=hval n w' rfl
   simp only [Oper.upon] at h ⊢
   exact ⟨hbel _ _ rfl,keep a hy u,by rw [← Act.put_comm a v u h2]; exact h⟩
  | halt x w' =>
   cases x<;>simp only [Oper.upon] at h ⊢
   case panic u=>exact hQ _ _ _ h
 ·rename_i hw
  simp only [hw] at h
  exact ⟨fun _=>Below.refl _ _,keep a hy _,by rw [← Act.put_comm a v undef h2]; exact h⟩
theorem yieldsE_of {o:Oper} {v:Value} {a:Act} (hr:isRead o=true) (h:YieldsIn P ops C o v a):YieldsE P ops C o v a:=by
 rcases h with ⟨hw,h⟩ | h
 ·refine .inl ⟨hw,fun w hc=>?_⟩
  have h1:=h w hc
  unfold Oper.quietAt at h1
  cases hq:(execOp a.eval o).run P w with
  | halt x w'=>rw [hq] at h1; exact h1.elim
  | ok n w' =>
   obtain ⟨u,rfl⟩:=read_next hr hq
   rw [hq] at h1
   obtain ⟨rfl,rfl⟩:=h1
   rfl
 ·exact .inr h
theorem yields_of {o:Oper} {v:Value} {a:Act} (hm:isMove o=true) (h:YieldsE P ops C o v a) {w:World} (hw:C w):Yields P ops o v a:=by
 rcases h with ⟨hw1,h⟩ | h
 ·refine .inl ⟨hw1,fun w'=>?_⟩
  have h1:=h w hw
  have hx:∃ x,o.op=.move x:=by
   unfold isMove at hm
   split at hm
   ·rename_i x ho; exact ⟨x,ho⟩
   ·cases hm
  obtain ⟨x,ho⟩:=hx
  simp only [execOp,ho] at h1 ⊢
  simp at h1 ⊢
  exact h1
 ·exact .inr h
/-- A move that may come up now may be taken first. -/
theorem wpAnyC_move {n:Nat} {Q:Exit→Act→World→Prop} {i:Nat} {oi:Oper} {v:Value} (hi:ops[i]?=some oi) (hsel:∀ (j:Nat) (o:Oper) cs b,ops[j]?=some o→o.op≠.select cs b)
  (hQ:∀ c a w,Q (.panic c) (a.put oi.dst v) w→Q (.panic c) a w) :
  ∀ (fuel:Nat) (L:Array Bool) (a:Act) (w:World),
   (∀ j oj,ops[j]?=some oj→j≠i→L.getD j true=false→(∀ e ∈ oj.after,Region.binds md e=true→e.on≠i)→oi.apart ops oj=true) →
   i ∈ Region.ready md ops L→Yields P ops oi v a →
   wpAnyC P md ops C n Q fuel (L.setIfInBounds i true) (a.put oi.dst v) w→wpAnyC P md ops C n Q (fuel+1) L a w:=by
 have hyi:∀ {a:Act} {K:Act→World→Prop} {w:World},Yields P ops oi v a→K (a.put oi.dst v) w→wpOp P ops Q i (fun a' w'=>(i < n→C w→C w')∧K a' w') a w:=by
  intro a K w hy h
  exact hy.wpOp hi ⟨fun _ h=>h,h⟩
 intro fuel
 induction fuel with
 | zero =>
  intro L a w _ hr hy H
  refine ⟨fun h=>(by rw [h] at hr; cases hr),fun j hj=>?_⟩
  by_cases hji:j=i
  ·subst hji; exact hyi hy H
  ·have:=ready_mono hj hji
   rw [H.1] at this
   cases this
 | succ fuel ih =>
  intro L a w hfree hr hy H
  refine ⟨fun h=>(by rw [h] at hr; cases hr),fun j hj=>?_⟩
  by_cases hji:j=i
  ·subst hji; exact hyi hy H
  ·have h1:=H.2 j (ready_mono hj hji)
   obtain ⟨hjun,oj,hoj,hall⟩:=mem_ready.1 hj
   have hnot:∀ e ∈ oj.after,Region.binds md e=true→e.on≠i:=fun e he hb heq=>by
    have h1:=hall e he hb
    rw [heq,getD_both (mem_ready.1 hr).1] at h1
    cases h1
   have h2:=wpOp_put hoj (hfree j oj hoj hji hjun hnot) (fun cs b=>hsel i oi cs b hi) (fun cs b=>hsel j oj cs b hoj) hQ hy h1
   have hfree':∀ k ok,ops[k]?=some ok→k≠i→(L.setIfInBounds j true).getD k true=false →
     (∀ e ∈ ok.after,Region.binds md e=true→e.on≠i)→oi.apart ops ok=true:=fun k ok hk hki hun hno=>by
    refine hfree k ok hk hki ?_ hno
    by_cases hjk:j=k
    ·subst hjk; exact hjun
    ·rw [getD_set_ne true hjk] at hun; exact hun
   refine wpOp_mono (fun a' w' h3=>⟨h3.2.1,ih (L.setIfInBounds j true) a' w' hfree' (ready_mono hr (Ne.symm hji)) h3.1 ?_⟩) h2
   rw [Array.setIfInBounds_comm _ _ hji]
   exact h3.2.2
/-- A load that may come up now may be taken first. -/
theorem wpAnyC_first {n:Nat} {Q:Exit→Act→World→Prop} {i:Nat} {oi:Oper} {v:Value} (hi:ops[i]?=some oi) (hsel:∀ (j:Nat) (o:Oper) cs b,ops[j]?=some o→o.op≠.select cs b)
  (hQ:∀ c a w,Q (.panic c) (a.put oi.dst v) w→Q (.panic c) a w) (hkeep:∀ w w',Below w.heap.size w w'→C w→C w')
  (hok:∀ j oj,ops[j]?=some oj→n≤j→isBS oj=true∨waitsB md ops ops.size j i=true) (hrd:∀ j oj,ops[j]?=some oj→j < n→isRead oj=true) :
  ∀ (fuel:Nat) (L:Array Bool) (a:Act) (w:World),Closed md ops L →
   (∀ j oj,ops[j]?=some oj→j≠i→L.getD j true=false→(∀ e ∈ oj.after,Region.binds md e=true→e.on≠i)→oi.apart ops oj=true) →
   i ∈ Region.ready md ops L→YieldsE P ops C oi v a→C w →
   wpAnyC P md ops C n Q fuel (L.setIfInBounds i true) (a.put oi.dst v) w→wpAnyC P md ops C n Q (fuel+1) L a w:=by
 have hyi:∀ {a:Act} {K:Act→World→Prop} {w:World},YieldsE P ops C oi v a→C w→K (a.put oi.dst v) w→wpOp P ops Q i (fun a' w'=>(i < n→C w→C w')∧K a' w') a w:=by
  intro a K w hy hc h
  exact hy.wpOp hi hc ⟨fun _ h=>h,h⟩
 intro fuel
 induction fuel with
 | zero =>
  intro L a w _ _ hr hy hc H
  refine ⟨fun h=>(by rw [h] at hr; cases hr),fun j hj=>?_⟩
  by_cases hji:j=i
  ·subst hji; exact hyi hy hc H
  ·have:=ready_mono hj hji
   rw [H.1] at this
   cases this
 | succ fuel ih =>
  intro L a w hcl hfree hr hy hc H
  refine ⟨fun h=>(by rw [h] at hr; cases hr),fun j hj=>?_⟩
  by_cases hji:j=i
  ·subst hji; exact hyi hy hc H
  ·have h1:=H.2 j (ready_mono hj hji)
   obtain ⟨hjun,oj,hoj,hall⟩:=mem_ready.1 hj
   have hun:=getD_both (mem_ready.1 hr).1
   have hnot:∀ e ∈ oj.after,Region.binds md e=true→e.on≠i:=fun e he hb heq=>by
    have h1:=hall e he hb
    rw [heq,hun] at h1
    cases h1
   have hkind:isBS oj=true∨(j < n∧isRead oj=true):=by
    rcases Nat.lt_or_ge j n with hjn | hjn
    ·exact .inr ⟨hjn,hrd j oj hoj hjn⟩
    ·rcases hok j oj hoj hjn with hb | hb
     ·exact .inl hb
     ·have:=waits_listed hcl _ j i oj hoj hall hb
      rw [hun] at this
      cases this
   have h2:=wpOp_putE hoj (hfree j oj hoj hji hjun hnot) (fun cs b=>hsel i oi cs b hi) (fun cs b=>hsel j oj cs b hoj) hQ hy (hkind.imp id (·.2)) h1
   have hfree':∀ k ok,ops[k]?=some ok→k≠i→(L.setIfInBounds j true).getD k true=false →
     (∀ e ∈ ok.after,Region.binds md e=true→e.on≠i)→oi.apart ops ok=true:=fun k ok hk hki hun hno=>by
    refine hfree k ok hk hki ?_ hno
    by_cases hjk:j=k
    ·subst hjk; exact hjun
    ·rw [getD_set_ne true hjk] at hun; exact hun
   refine wpOp_mono (fun a' w' h3=>⟨h3.2.2.1,ih (L.setIfInBounds j true) a' w' (hcl.set hj) hfree' (ready_mono hr (Ne.symm hji)) h3.2.1 (hkind.elim (fun hb=>hkeep _ _ (h3.1 hb) hc) (fun hb=>h3.2.2.1 hb.1 hc)) ?_⟩) h2
   rw [Array.setIfInBounds_comm _ _ hji]
   exact h3.2.2.2
/-- Of the first n operations each is a move, or all others wait for it but one that makes a slice. -/
def headB (md:Region.Mode) (ops:Array Oper) (n:Nat):Bool:=(List.range n).all fun i=>match ops[i]? with
 | none=>false
 | some oi=>isRead oi&&(isMove oi||(List.range ops.size).all fun j=>decide (j < n)||(match ops[j]? with | none=>true | some oj=>isBS oj)||waitsB md ops ops.size j i)
def fxB (l:List Oper) (n:Nat):Bool:=Region.noSelect l.toArray&&decide (n < l.length)&&headB .any l.toArray n&&Region.lexHead .any l.toArray (l.length - n) n 0 (Array.replicate l.length false)
theorem wpAnyC_lex {n g:Nat} {Q:Exit→Act→World→Prop} {tl:List Oper} (hsel:Region.noSelect ops=true) (hQ:∀ c (a:Act) (d:Option Tmp) (v:Value) w,Q (.panic c) (a.put d v) w→Q (.panic c) a w) (hkeep:∀ w w',Below w.heap.size w w'→C w→C w')
  (hh:headB md ops n=true) (htl:∀ j,tl[j]?=ops[n+j]?) (hg:tl.length=g) :
  ∀ (l:List Oper) (k:Nat) (L:Array Bool) (a:Act) (w:World),(∀ j,j < l.length→l[j]?=ops[k+j]?)→k+l.length=n→Closed md ops L →
  Region.lexHead md ops g l.length k L=true→C w→wpQuiet P ops C (fun a'=>∀ w',C w'→wpList P ops Q tl a' w') l a →
  wpAnyC P md ops C n Q (l.length+g) L a w
 | [],k,L,a,w,_,hk,_,hB,hc,h=>by
  have:k=n:=by simpa using hk
  subst this
  simp only [List.length_nil,Nat.zero_add]
  have hq:=wpAnyC_of_seq (n:=k) (C:=C) (md:=md) (Q:=Q) tl k L a w (Nat.le_refl _) htl (by rw [hg]; simpa [Region.lexHead] using hB) (h w hc)
  rw [hg] at hq
  exact hq
 | o::l,k,L,a,w,hl,hk,hcl,hB,hc,h=>by
  have h0:ops[k]?=some o:=by simpa using (hl 0 (by simp)).symm
  simp only [List.length_cons,Region.lexHead,Bool.and_eq_true] at hB
  obtain ⟨⟨hr,hf⟩,hB'⟩:=hB
  have hkn:k < n:=by simp only [List.length_cons] at hk; omega
  have hr':k ∈ Region.ready md ops L:=by simpa using hr
  have hst:qOp P ops C k (wpQuiet P ops C (fun a'=>∀ w',C w'→wpList P ops Q tl a' w') l) a:=by unfold qOp; simp only [h0]; exact h
  obtain ⟨v,hy,hK⟩:=yieldsIn_of_qOp h0 hst
  have hk1:=List.all_eq_true.1 hh k (List.mem_range.2 hkn)
  simp only [h0,Bool.and_eq_true,Bool.or_eq_true] at hk1
  have hy2:=yieldsE_of hk1.1 hy
  have hrest:=wpAnyC_lex (tl:=tl) hsel hQ hkeep hh htl hg l (k+1) _ _ w (fun j hj=>by have:=hl (j+1) (by simp; omega); simpa [Nat.add_assoc,Nat.add_comm 1 j] using this) (by simp only [List.length_cons] at hk; omega) (hcl.set hr') hB' hc hK
  rw [List.length_cons,show l.length+1+g=(l.length+g)+1 by omega]
  rcases hk1.2 with hm | hw
  ·exact wpAnyC_move h0 (Region.noSelect_spec hsel) (fun c a w=>hQ c a _ _ w) _ L a w (Region.free_spec h0 hf) hr' (yields_of hm hy2 hc) hrest
  ·refine wpAnyC_first h0 (Region.noSelect_spec hsel) (fun c a w=>hQ c a _ _ w) hkeep (fun j oj hj hjn=>?_) (fun j oj hj hjn=>?_) _ L a w hcl (Region.free_spec h0 hf) hr' hy2 hc hrest
   ·have h1:=List.all_eq_true.1 hw j (List.mem_range.2 (Array.getElem?_eq_some_iff.1 hj).1)
    simp only [hj,Bool.or_eq_true,decide_eq_true_eq] at h1
    rcases h1 with (h1 | h1) | h1
    ·omega
    ·exact .inl h1
    ·exact .inr h1
   ·have h1:=List.all_eq_true.1 hh j (List.mem_range.2 hjn)
    simp only [hj,Bool.and_eq_true] at h1
    exact h1.1
/-- **A region whose head reads, and whose tail makes a slice, appends, stores.** -/
theorem region_fx {id:Nat} {l:List Oper} {Q:Exit→Act→World→Prop} {a:Act} {w:World} (n B:Nat) (hQ:∀ c (a:Act) (d:Option Tmp) (v:Value) w,Q (.panic c) (a.put d v) w→Q (.panic c) a w) (hb:B≤w.heap.size) (hm:P.follows .mixedOrders=true) (hB:fxB l n=true)
  (h:wpQuiet P l.toArray (fun w'=>∃ x:Wd B w,w'=x.w) (fun a'=>∀ x:Wd B w,wpList P l.toArray Q (l.drop n) a' x.w) (l.take n) a):(Code.region id l.toArray true).wp P Q a w:=by
 simp only [fxB,Bool.and_eq_true,decide_eq_true_eq] at hB
 obtain ⟨⟨⟨hsel,hn⟩,hh⟩,hlex⟩:=hB
 have e:(fun a':Act=>∀ x:Wd B w,wpList P l.toArray Q (l.drop n) a' x.w)=fun a'=>∀ w',(∃ x:Wd B w,w'=x.w)→wpList P l.toArray Q (l.drop n) a' w':=by
  funext a'; apply propext; constructor
  ·rintro g w' ⟨x,rfl⟩; exact g x
  ·intro g x; exact g _ ⟨x,rfl⟩
 rw [e] at h
 have hlen:(l.take n).length=n:=by simp; omega
 refine wp_region_any hm ?_
 have key:=wpAnyC_lex (P:=P) (C:=fun w'=>∃ x:Wd B w,w'=x.w) (md:=.any) (g:=l.length - n) (Q:=Q) (tl:=l.drop n) hsel hQ (fun w1 w2 hk hx=>by
   obtain ⟨x,rfl⟩:=hx
   exact ⟨⟨w2,x.ok.trans (hk.mono (Nat.le_trans hb x.ok.size))⟩,rfl⟩) hh (fun j=>by simp [List.getElem?_drop]) (by simp)
  (l.take n) 0 (Array.replicate l.length false) a _ (fun j hj=>by
   have hj':j < n:=by rw [hlen] at hj; exact hj
   simp [hj']) (by simpa using hlen) (fun j oj _ hl=>(by rw [getD_replicate_false] at hl; cases hl)) (by rw [hlen]; exact hlex) ⟨⟨_,(Below.refl _ _).drew⟩,rfl⟩ h
 have key2:=wpAny_of_C _ _ _ _ key
 rw [hlen,show n+(l.length - n)=l.length by omega] at key2
 have hsz:l.toArray.size=l.length:=by simp
 rw [hsz]
 exact key2
end
end Go.Proofs.YtjbggogbnckllaaDoor
end
section
set_option maxRecDepth 100000
namespace Go.Proofs.YtjbggogbnckllaaDoor
open Go Go.RowKit
section
variable {P:Program} {ops:Array Oper} {md:Region.Mode} {D:World→Prop}
/-- In state a, in every world of the class, operation o yields v and leaves the world. -/
def YieldsS (P:Program) (ops:Array Oper) (D:World→Prop) (o:Oper) (v:Value) (a:Act):Prop :=
 (Region.wanted o (yielded ops a.tmps)=true∧∀ W,D W→o.quietAt P a (fun w'=>w'=W) W v)∨(Region.wanted o (yielded ops a.tmps)=false∧v=undef)
theorem YieldsS.of_same {o:Oper} {v:Value} {a a':Act} (hy:YieldsS P ops D o v a) (he:execOp a'.eval o=execOp a.eval o)
  (hw:Region.wanted o (yielded ops a'.tmps)=Region.wanted o (yielded ops a.tmps)):YieldsS P ops D o v a':=by
 unfold YieldsS Oper.quietAt at *
 rw [he,hw]
 exact hy
theorem YieldsS.wpOp {Q:Exit→Act→World→Prop} {i:Nat} {o:Oper} {v:Value} {a:Act} (hi:ops[i]?=some o) (hy:YieldsS P ops D o v a) {K:Act→World→Prop} {w:World} (hw:D w) (h:K (a.put o.dst v) w):wpOp P ops Q i K a w:=by
 unfold Go.wpOp
 simp only [hi]
 rcases hy with ⟨hw1,hv⟩ | ⟨hw1,rfl⟩
 ·simp only [hw1,if_true]
  exact .inl (Oper.wp_of_quiet (C:=fun w'=>w'=w) (K:=fun a'=>K a' w) rfl (fun a' w' e hk=>by rw [e]; exact hk) ⟨v,fun w1 e=>by rw [e]; exact hv w hw,h⟩)
 ·simp only [hw1,Bool.false_eq_true,if_false]; exact h
/-- The tree of all orders; a step of E keeps the class. -/
def wpAnyD (P:Program) (md:Region.Mode) (ops:Array Oper) (D:World→Prop) (E:Nat→Bool) (Q:Exit→Act→World→Prop):Nat→Array Bool→Act→World→Prop
 | 0,L,a,w=>Region.ready md ops L=[]∧Q .normal a w
 | f+1,L,a,w=>(Region.ready md ops L=[]→Q .normal a w)∧∀ i ∈ Region.ready md ops L,wpOp P ops Q i (fun a' w'=>(E i=true→D w→D w')∧wpAnyD P md ops D E Q f (L.setIfInBounds i true) a' w') a w
theorem wpAny_of_D {E:Nat→Bool} {Q:Exit→Act→World→Prop}:∀ (f:Nat) (L:Array Bool) (a:Act) (w:World),wpAnyD P md ops D E Q f L a w→wpAny P md ops Q f L a w
 | 0,_,_,_,h=>h
 | f+1,_,_,_,h=>⟨h.1,fun i hi=>wpOp_mono (fun a' w' h'=>wpAny_of_D f _ a' w' h'.2) (h.2 i hi)⟩
def pickL (l:List Oper):List Nat→List Oper
 | []=>[]
 | i::is=>match l[i]? with | some o=>o::pickL l is | none=>[]
/-- The tail, of which the first e operations keep the class. -/
def wpListE (P:Program) (ops:Array Oper) (Q:Exit→Act→World→Prop) (D:World→Prop):Nat→List Oper→Act→World→Prop
 | 0,l,a,w=>wpList P ops Q l a w
 | _+1,[],a,w=>Q .normal a w
 | e+1,o::l,a,w=>if Region.wanted o (yielded ops a.tmps) then o.wp P a w (fun a' w'=>D w'∧wpListE P ops Q D e l a' w') Q else D w∧wpListE P ops Q D e l (a.put o.dst undef) w
def seqH (md:Region.Mode) (ops:Array Oper):List Nat→Array Bool→Bool
 | [],L=>(Region.ready md ops L).isEmpty
 | k::ts,L=>decide (Region.ready md ops L=[k])&&seqH md ops ts (L.setIfInBounds k true)
def lexH (md:Region.Mode) (ops:Array Oper) (ts:List Nat):List Nat→Array Bool→Bool
 | [],L=>seqH md ops ts L
 | k::hs,L=>(Region.ready md ops L).contains k&&Region.free md ops L k&&lexH md ops ts hs (L.setIfInBounds k true)
theorem wpAnyD_seq {l:List Oper} {E:Nat→Bool} {Q:Exit→Act→World→Prop}:∀ (ts:List Nat) (e:Nat) (L:Array Bool) (a:Act) (w:World),(∀ t ∈ ts.drop e,E t=false)→seqH md l.toArray ts L=true→wpListE P l.toArray Q D e (pickL l ts) a w→wpAnyD P md l.toArray D E Q ts.length L a w
 | [],e,L,a,w,_,hB,h=>⟨by simpa [seqH] using hB,by cases e<;>exact h⟩
 | t::ts,e,L,a,w,hE,hB,h=>by
  simp only [seqH,Bool.and_eq_true,decide_eq_true_eq] at hB
  refine ⟨fun h1=>(by rw [hB.1] at h1; cases h1),fun i hi=>?_⟩
  rw [hB.1] at hi
  have hik:i=t:=by simpa using hi
  subst hik
  have hlt:i ∈ Region.ready md l.toArray L:=by rw [hB.1]; simp
  obtain ⟨_,o,ho,_⟩:=mem_ready.1 hlt
  have ho':l[i]?=some o:=by simpa using ho
  rw [pickL,ho'] at h
  cases e with
  | zero =>
   have hw:wpOp P l.toArray Q i (wpList P l.toArray Q (pickL l ts)) a w:=by unfold wpOp; simp only [ho]; exact h
   exact wpOp_mono (fun a' w' h'=>⟨fun hin=>(by rw [hE i (by simp)] at hin; cases hin),wpAnyD_seq ts 0 _ a' w' (fun t ht=>hE t (by simp at ht; simp [ht])) hB.2 h'⟩) hw
  | succ e =>
   have hw:wpOp P l.toArray Q i (fun a' w'=>D w'∧wpListE P l.toArray Q D e (pickL l ts) a' w') a w:=by
    unfold wpOp
    simp only [ho]
    simp only [wpListE] at h
    split
    ·rename_i hwt; rw [if_pos hwt] at h; exact .inl h
    ·rename_i hwt; rw [if_neg hwt] at h; exact h
   exact wpOp_mono (fun a' w' h'=>⟨fun _ _=>h'.1,wpAnyD_seq ts e _ a' w' (fun t ht=>hE t (by simpa using ht)) hB.2 h'.2⟩) hw
/-- What another operation, which comes first, does. -/
theorem wpOp_putS {Q:Exit→Act→World→Prop} {j:Nat} {oi oj:Oper} {v:Value} (hj:ops[j]?=some oj) (hap:oi.apart ops oj=true)
  (hsi:∀ cs b,oi.op≠.select cs b) (hsj:∀ cs b,oj.op≠.select cs b)
  (hQ:∀ c a w,Q (.panic c) (a.put oi.dst v) w→Q (.panic c) a w) {K:Act→World→Prop} {a:Act} {w:World}
  (hy:YieldsS P ops D oi v a) (h:wpOp P ops Q j K (a.put oi.dst v) w) :
  wpOp P ops Q j (fun a' w'=>(isBS oj=true→Below w.heap.size w w')∧YieldsS P ops D oi v a'∧K (a'.put oi.dst v) w') a w:=by
 obtain ⟨h1,h2,h3⟩:=Oper.apart_spec hap
 have keep:∀ (a:Act),YieldsS P ops D oi v a→∀ u,YieldsS P ops D oi v (a.put oj.dst u):=fun a hy u =>
  hy.of_same (execOp_put oi hsi a oj.dst u h3) (wanted_put oi a oj.dst u h3)
 have keepD:∀ d,YieldsS P ops D oi v { a with defers:=d::a.defers }:=fun d=>hy.of_same rfl rfl
 unfold wpOp at *
 simp only [hj] at *
 rw [wanted_put oj a oi.dst v h1] at h
 split
 ·rename_i hw
  simp only [hw,if_true] at h
  rcases h with h | ⟨hasks,hlets⟩
  case inr=>exact .inr ⟨by unfold Oper.asks at *; rw [execOp_put oj hsj a oi.dst v h1] at hasks; exact hasks,hlets⟩
  refine .inl ?_
  unfold Oper.wp at *
  rw [execOp_put oj hsj a oi.dst v h1] at h
  have hval:isBS oj=true→∀ n w',(execOp a.eval oj).run P w=.ok n w'→∃ u,n=.value u:=fun hb n w' hr=>bs_value hb hr
  have hbel:∀ n w',(execOp a.eval oj).run P w=.ok n w'→isBS oj=true→Below w.heap.size w w':=fun n w' hr hb=>bs_grows hb hr
  generalize (execOp a.eval oj).run P w=r at *
  cases r with
  | ok n w' =>
   cases n<;>simp only [Oper.upon] at h ⊢
   case value u=>exact ⟨hbel _ _ rfl,keep a hy u,by rw [← Act.put_comm a v u h2]; exact h⟩
   case skip=>exact ⟨hbel _ _ rfl,keep a hy _,by rw [← Act.put_comm a v undef h2]; exact h⟩
   case defer d =>
    refine ⟨hbel _ _ rfl,keep _ (keepD d) _,?_⟩
    rw [← Act.put_comm _ v undef h2,← Act.put_defers]
    exact h
   case enter f args =>
    refine Calls.mono h fun e w'' he=>?_
    cases e with
    | returned u=>exact ⟨fun hb=>(by obtain ⟨u,e⟩:=hval hb _ _ rfl; cases e),keep a hy u,by rw [← Act.put_comm a v u h2]; exact he⟩
    | panicked c=>exact hQ _ _ _ he
    | outgrown=>exact he
   case row row args=>exact Rows.mono h fun u w'' he=>⟨fun hb=>(by obtain ⟨u,e⟩:=hval hb _ _ rfl; cases e),keep a hy u,by rw [← Act.put_comm a v u h2]; exact he⟩
  | halt x w' =>
   cases x<;>simp only [Oper.upon] at h ⊢
   case panic u=>exact hQ _ _ _ h
 ·rename_i hw
  simp only [hw] at h
  exact ⟨fun _=>Below.refl _ _,keep a hy _,by rw [← Act.put_comm a v undef h2]; exact h⟩
theorem yieldsS_move {o:Oper} {v:Value} {a:Act} (hm:isMove o=true) (h:YieldsS P ops D o v a) {w:World} (hw:D w):Yields P ops o v a:=by
 rcases h with ⟨hw1,h⟩ | h
 ·refine .inl ⟨hw1,fun w'=>?_⟩
  have h1:=h w hw
  have hx:∃ x,o.op=.move x:=by
   unfold isMove at hm
   split at hm
   ·rename_i x ho; exact ⟨x,ho⟩
   ·cases hm
  obtain ⟨x,ho⟩:=hx
  simp only [Oper.quietAt,execOp,ho] at h1 ⊢
  simp [Oper.quietUpon] at h1 ⊢
  exact h1
 ·exact .inr h
theorem wpAnyD_move {E:Nat→Bool} {Q:Exit→Act→World→Prop} {i:Nat} {oi:Oper} {v:Value} (hi:ops[i]?=some oi) (hsel:∀ (j:Nat) (o:Oper) cs b,ops[j]?=some o→o.op≠.select cs b)
  (hQ:∀ c a w,Q (.panic c) (a.put oi.dst v) w→Q (.panic c) a w) :
  ∀ (fuel:Nat) (L:Array Bool) (a:Act) (w:World),
   (∀ j oj,ops[j]?=some oj→j≠i→L.getD j true=false→(∀ e ∈ oj.after,Region.binds md e=true→e.on≠i)→oi.apart ops oj=true) →
   i ∈ Region.ready md ops L→Yields P ops oi v a →
   wpAnyD P md ops D E Q fuel (L.setIfInBounds i true) (a.put oi.dst v) w→wpAnyD P md ops D E Q (fuel+1) L a w:=by
 have hyi:∀ {a:Act} {K:Act→World→Prop} {w:World},Yields P ops oi v a→K (a.put oi.dst v) w→wpOp P ops Q i (fun a' w'=>(E i=true→D w→D w')∧K a' w') a w:=by
  intro a K w hy h
  exact hy.wpOp hi ⟨fun _ h=>h,h⟩
 intro fuel
 induction fuel with
 | zero =>
  intro L a w _ hr hy H
  refine ⟨fun h=>(by rw [h] at hr; cases hr),fun j hj=>?_⟩
  by_cases hji:j=i
  ·subst hji; exact hyi hy H
  ·have:=ready_mono hj hji
   rw [H.1] at this
   cases this
 | succ fuel ih =>
  intro L a w hfree hr hy H
  refine ⟨fun h=>(by rw [h] at hr; cases hr),fun j hj=>?_⟩
  by_cases hji:j=i
  ·subst hji; exact hyi hy H
  ·have h1:=H.2 j (ready_mono hj hji)
   obtain ⟨hjun,oj,hoj,hall⟩:=mem_ready.1 hj
   have hnot:∀ e ∈ oj.after,Region.binds md e=true→e.on≠i:=fun e he hb heq=>by
    have h1:=hall e he hb
    rw [heq,getD_both (mem_ready.1 hr).1] at h1
    cases h1
   have h2:=wpOp_put hoj (hfree j oj hoj hji hjun hnot) (fun cs b=>hsel i oi cs b hi) (fun cs b=>hsel j oj cs b hoj) hQ hy h1
   have hfree':∀ k ok,ops[k]?=some ok→k≠i→(L.setIfInBounds j true).getD k true=false →
     (∀ e ∈ ok.after,Region.binds md e=true→e.on≠i)→oi.apart ops ok=true:=fun k ok hk hki hun hno=>by
    refine hfree k ok hk hki ?_ hno
    by_cases hjk:j=k
    ·subst hjk; exact hjun
    ·rw [getD_set_ne true hjk] at hun; exact hun
   refine wpOp_mono (fun a' w' h3=>⟨h3.2.1,ih (L.setIfInBounds j true) a' w' hfree' (ready_mono hr (Ne.symm hji)) h3.1 ?_⟩) h2
   rw [Array.setIfInBounds_comm _ _ hji]
   exact h3.2.2
theorem wpAnyD_first {E:Nat→Bool} {Q:Exit→Act→World→Prop} {i:Nat} {oi:Oper} {v:Value} (hi:ops[i]?=some oi) (hsel:∀ (j:Nat) (o:Oper) cs b,ops[j]?=some o→o.op≠.select cs b)
  (hQ:∀ c a w,Q (.panic c) (a.put oi.dst v) w→Q (.panic c) a w) (hkeep:∀ w w',Below w.heap.size w w'→D w→D w')
  (hok:∀ j oj,ops[j]?=some oj→j≠i→E j=true∨isBS oj=true∨waitsB md ops ops.size j i=true) :
  ∀ (fuel:Nat) (L:Array Bool) (a:Act) (w:World),Closed md ops L →
   (∀ j oj,ops[j]?=some oj→j≠i→L.getD j true=false→(∀ e ∈ oj.after,Region.binds md e=true→e.on≠i)→oi.apart ops oj=true) →
   i ∈ Region.ready md ops L→YieldsS P ops D oi v a→D w →
   wpAnyD P md ops D E Q fuel (L.setIfInBounds i true) (a.put oi.dst v) w→wpAnyD P md ops D E Q (fuel+1) L a w:=by
 have hyi:∀ {a:Act} {K:Act→World→Prop} {w:World},YieldsS P ops D oi v a→D w→K (a.put oi.dst v) w→wpOp P ops Q i (fun a' w'=>(E i=true→D w→D w')∧K a' w') a w:=by
  intro a K w hy hc h
  exact hy.wpOp hi hc ⟨fun _ h=>h,h⟩
 intro fuel
 induction fuel with
 | zero =>
  intro L a w _ _ hr hy hc H
  refine ⟨fun h=>(by rw [h] at hr; cases hr),fun j hj=>?_⟩
  by_cases hji:j=i
  ·subst hji; exact hyi hy hc H
  ·have:=ready_mono hj hji
   rw [H.1] at this
   cases this
 | succ fuel ih =>
  intro L a w hcl hfree hr hy hc H
  refine ⟨fun h=>(by rw [h] at hr; cases hr),fun j hj=>?_⟩
  by_cases hji:j=i
  ·subst hji; exact hyi hy hc H
  ·have h1:=H.2 j (ready_mono hj hji)
   obtain ⟨hjun,oj,hoj,hall⟩:=mem_ready.1 hj
   have hun:=getD_both (mem_ready.1 hr).1
   have hnot:∀ e ∈ oj.after,Region.binds md e=true→e.on≠i:=fun e he hb heq=>by
    have h1:=hall e he hb
    rw [heq,hun] at h1
    cases h1
   have hkind:E j=true∨isBS oj=true:=by
    rcases hok j oj hoj hji with hb | hb | hb
    ·exact .inl hb
    ·exact .inr hb
    ·have:=waits_listed hcl _ j i oj hoj hall hb
     rw [hun] at this
     cases this
   have h2:=wpOp_putS hoj (hfree j oj hoj hji hjun hnot) (fun cs b=>hsel i oi cs b hi) (fun cs b=>hsel j oj cs b hoj) hQ hy h1
   have hfree':∀ k ok,ops[k]?=some ok→k≠i→(L.setIfInBounds j true).getD k true=false →
     (∀ e ∈ ok.after,Region.binds md e=true→e.on≠i)→oi.apart ops ok=true:=fun k ok hk hki hun hno=>by
    refine hfree k ok hk hki ?_ hno
    by_cases hjk:j=k
    ·subst hjk; exact hjun
    ·rw [getD_set_ne true hjk] at hun; exact hun
   refine wpOp_mono (fun a' w' h3=>⟨h3.2.2.1,ih (L.setIfInBounds j true) a' w' (hcl.set hj) hfree' (ready_mono hr (Ne.symm hji)) h3.2.1 (hkind.elim (fun hb=>h3.2.2.1 hb hc) (fun hb=>hkeep _ _ (h3.1 hb) hc)) ?_⟩) h2
   rw [Array.setIfInBounds_comm _ _ hji]
   exact h3.2.2.2
/-- What the walks of the head, one for each world of the class, have in common: their end is one frame. -/
def dstB:List Oper→Nat→Bool
 | [],_=>true
 | o::rest,sz=>(match o.dst with | some d=>decide (d < sz)&&rest.all (fun p=>p.dst != some d) | none=>false)&&dstB rest sz
theorem quiet_keeps {W:World} {A:Act} {d:Tmp}:∀ (l:List Oper) (a:Act),(∀ p ∈ l,p.dst≠some d)→wpQuiet P ops (fun w'=>w'=W) (fun a'=>a'=A) l a→A.tmps[d]?=a.tmps[d]?
 | [],a,_,h=>by rw [show a=A from h]
 | o::l,a,hd,h=>by
  have hne:=hd o (by simp)
  have key:∀ v,(a.put o.dst v).tmps[d]?=a.tmps[d]?:=by
   intro v
   unfold Act.put
   cases hq:o.dst with
   | none=>rfl
   | some d' =>
    have:d'≠d:=fun e=>hne (by rw [hq,e])
    simp [Array.getElem?_setIfInBounds_ne this]
  simp only [wpQuiet] at h
  split at h
  ·obtain ⟨v,_,h2⟩:=h
   rw [quiet_keeps l _ (fun p hp=>hd p (by simp [hp])) h2,key]
  ·rw [quiet_keeps l _ (fun p hp=>hd p (by simp [hp])) h,key]
theorem put_size (a:Act) (d:Option Tmp) (v:Value):(a.put d v).tmps.size=a.tmps.size:=by
 unfold Act.put
 cases d<;>simp
theorem fam_step {A:Act} {o:Oper} {rest:List Oper} {a:Act} {sz:Nat} (hne:∃ W,D W) (hd:dstB (o::rest) sz=true) (hsz:a.tmps.size=sz) (h:∀ W,D W→wpQuiet P ops (fun w'=>w'=W) (fun a'=>a'=A) (o::rest) a) :
  ∃ v,YieldsS P ops D o v a∧∀ W,D W→wpQuiet P ops (fun w'=>w'=W) (fun a'=>a'=A) rest (a.put o.dst v):=by
 rw [dstB] at hd
 cases hq:o.dst with
 | none=>rw [hq] at hd; cases hd
 | some d =>
  rw [hq] at hd
  simp only [Bool.and_eq_true,decide_eq_true_eq] at hd
  obtain ⟨⟨hlt,hall⟩,_⟩:=hd
  have hnr:∀ p ∈ rest,p.dst≠some d:=fun p hp=>by simpa using List.all_eq_true.1 hall p hp
  have hval:∀ W v,wpQuiet P ops (fun w'=>w'=W) (fun a'=>a'=A) rest (a.put (some d) v)→A.tmps[d]?=some v:=fun W v hk=>by
   rw [quiet_keeps rest _ hnr hk]
   simp [Act.put,hsz▸hlt]
  by_cases hw:Region.wanted o (yielded ops a.tmps)=true
  ·have h2:∀ W,D W→∃ v,o.quietAt P a (fun w'=>w'=W) W v∧wpQuiet P ops (fun w'=>w'=W) (fun a'=>a'=A) rest (a.put (some d) v):=fun W hW=>by
    have:=h W hW
    simp only [wpQuiet,hw,if_true] at this
    obtain ⟨v,h1,h2⟩:=this
    rw [hq] at h2
    exact ⟨v,h1 W rfl,h2⟩
   obtain ⟨W0,hW0⟩:=hne
   obtain ⟨v0,_,k0⟩:=h2 W0 hW0
   have e0:=hval W0 v0 k0
   refine ⟨v0,.inl ⟨hw,fun W hW=>?_⟩,fun W hW=>?_⟩
   ·obtain ⟨v,q,k⟩:=h2 W hW
    have e:=hval W v k
    rw [e0] at e
    obtain rfl:v0=v:=by simpa using e
    exact q
   ·obtain ⟨v,q,k⟩:=h2 W hW
    have e:=hval W v k
    rw [e0] at e
    obtain rfl:v0=v:=by simpa using e
    exact k
  ·have hw':Region.wanted o (yielded ops a.tmps)=false:=by simpa using hw
   refine ⟨undef,.inr ⟨hw',rfl⟩,fun W hW=>?_⟩
   have:=h W hW
   simp only [wpQuiet,hw',Bool.false_eq_true,if_false] at this
   rw [hq] at this
   exact this
def headsB (md:Region.Mode) (l:List Oper) (E:Nat→Bool) (hs:List Nat):Bool:=hs.all fun i=>match l[i]? with
 | none=>false
 | some oi=>isMove oi||(List.range l.length).all fun j=>j == i||E j||(match l[j]? with | none=>true | some oj=>isBS oj)||waitsB md l.toArray l.length j i
def earlyE (hs ts:List Nat) (e:Nat) (j:Nat):Bool:=hs.contains j||(ts.take e).contains j
def gxB (l:List Oper) (hs ts:List Nat) (e sz:Nat):Bool:=Region.noSelect l.toArray&&headsB .any l (earlyE hs ts e) hs&&(ts.drop e).all (fun t=>!earlyE hs ts e t)&&dstB (pickL l hs) sz&&decide (hs.length+ts.length=l.length)&&lexH .any l.toArray ts hs (Array.replicate l.length false)
theorem wpAnyD_lex {l:List Oper} {E:Nat→Bool} {Q:Exit→Act→World→Prop} {A:Act} {ts:List Nat} {e sz:Nat} (hsel:Region.noSelect l.toArray=true) (hQ:∀ c (a:Act) (d:Option Tmp) (v:Value) w,Q (.panic c) (a.put d v) w→Q (.panic c) a w) (hkeep:∀ w w',Below w.heap.size w w'→D w→D w') (hne:∃ W,D W)
  (hE:∀ t ∈ ts.drop e,E t=false) (w:World) (hw:D w) (ht:wpListE P l.toArray Q D e (pickL l ts) A w) :
  ∀ (hs:List Nat) (L:Array Bool) (a:Act),headsB md l E hs=true→dstB (pickL l hs) sz=true→a.tmps.size=sz→Closed md l.toArray L→lexH md l.toArray ts hs L=true →
  (∀ W,D W→wpQuiet P l.toArray (fun w'=>w'=W) (fun a'=>a'=A) (pickL l hs) a)→wpAnyD P md l.toArray D E Q (hs.length+ts.length) L a w
 | [],L,a,_,_,_,_,hB,h=>by
  have:a=A:=h w hw
  subst this
  rw [List.length_nil,Nat.zero_add]
  exact wpAnyD_seq ts e L a w hE hB ht
 | i::hs,L,a,hh,hd,hsz,hcl,hB,h=>by
  simp only [lexH,Bool.and_eq_true] at hB
  obtain ⟨⟨hr,hf⟩,hB'⟩:=hB
  have hr':i ∈ Region.ready md l.toArray L:=by simpa using hr
  obtain ⟨_,o,ho,_⟩:=mem_ready.1 hr'
  have ho':l[i]?=some o:=by simpa using ho
  have hp:pickL l (i::hs)=o::pickL l hs:=by rw [pickL,ho']
  rw [hp] at hd h
  simp only [headsB,List.all_cons,ho',Bool.and_eq_true] at hh
  obtain ⟨hk1,hh'⟩:=hh
  obtain ⟨v,hy,hrest⟩:=fam_step hne hd hsz h
  have hd':dstB (pickL l hs) sz=true:=by
   rw [dstB,Bool.and_eq_true] at hd
   exact hd.2
  have hrec:=wpAnyD_lex (sz:=sz) (e:=e) hsel hQ hkeep hne hE w hw ht hs (L.setIfInBounds i true) (a.put o.dst v) hh' hd' (by rw [put_size]; exact hsz) (hcl.set hr') hB' hrest
  rw [List.length_cons,show hs.length+1+ts.length=(hs.length+ts.length)+1 by omega]
  rw [Bool.or_eq_true] at hk1
  rcases hk1 with hm | hwt
  ·exact wpAnyD_move ho (Region.noSelect_spec hsel) (fun c a w=>hQ c a _ _ w) _ L a w (Region.free_spec ho hf) hr' (yieldsS_move hm hy hw) hrec
  ·refine wpAnyD_first ho (Region.noSelect_spec hsel) (fun c a w=>hQ c a _ _ w) hkeep (fun j oj hj hji=>?_) _ L a w hcl (Region.free_spec ho hf) hr' hy hw hrec
   have hj':l[j]?=some oj:=by simpa using hj
   have h1:=List.all_eq_true.1 hwt j (List.mem_range.2 (List.getElem?_eq_some_iff.1 hj').1)
   simp only [hj',Bool.or_eq_true,beq_iff_eq] at h1
   rcases h1 with ((h1 | h1) | h1) | h1
   ·exact absurd h1 hji
   ·exact .inl h1
   ·exact .inr (.inl h1)
   ·exact .inr (.inr (by simpa using h1))
/-- **A region with a reading head and a tail in a forced order.** -/
theorem region_gx {id:Nat} {l:List Oper} {Q:Exit→Act→World→Prop} {a:Act} {w:World} (hs ts:List Nat) (e sz:Nat) (D:World→Prop) (A:Act) (hQ:∀ c (a:Act) (d:Option Tmp) (v:Value) w,Q (.panic c) (a.put d v) w→Q (.panic c) a w)
  (hD:D w.drew) (hkeep:∀ w w',Below w.heap.size w w'→D w→D w') (hm:P.follows .mixedOrders=true) (hB:gxB l hs ts e sz=true) (hsz:a.tmps.size=sz)
  (hh:∀ W,D W→wpQuiet P l.toArray (fun w'=>w'=W) (fun a'=>a'=A) (pickL l hs) a) (ht:wpListE P l.toArray Q D e (pickL l ts) A w.drew):(Code.region id l.toArray true).wp P Q a w:=by
 simp only [gxB,Bool.and_eq_true,decide_eq_true_eq] at hB
 obtain ⟨⟨⟨⟨⟨hsel,hh1⟩,hE⟩,hd⟩,hlen⟩,hlex⟩:=hB
 refine wp_region_any hm ?_
 have key:=wpAnyD_lex (P:=P) (D:=D) (md:=.any) (Q:=Q) (A:=A) (ts:=ts) (e:=e) (sz:=sz) hsel hQ hkeep ⟨_,hD⟩ (fun t ht=>by simpa using List.all_eq_true.1 hE t ht) w.drew hD ht hs (Array.replicate l.length false) a hh1 hd hsz
  (fun j oj _ hl=>(by rw [getD_replicate_false] at hl; cases hl)) hlex hh
 have key2:=wpAny_of_D _ _ _ _ key
 rw [hlen] at key2
 have hz:l.toArray.size=l.length:=by simp
 rw [hz]
 exact key2
/-- The class: the worlds that are as w below B. -/
theorem region_gb {id:Nat} {l:List Oper} {Q:Exit→Act→World→Prop} {a:Act} {w:World} (hs ts:List Nat) (sz B:Nat) (A:Act) (hQ:∀ c (a:Act) (d:Option Tmp) (v:Value) w,Q (.panic c) (a.put d v) w→Q (.panic c) a w)
  (hb:B≤w.heap.size) (hm:P.follows .mixedOrders=true) (hB:gxB l hs ts 0 sz=true) (hsz:a.tmps.size=sz)
  (hh:∀ z:Wd B w,wpQuiet P l.toArray (fun w'=>w'=z.w) (fun a'=>a'=A) (pickL l hs) a) (ht:wpList P l.toArray Q (pickL l ts) A w.drew):(Code.region id l.toArray true).wp P Q a w :=
 region_gx hs ts 0 sz (fun w'=>∃ x:Wd B w,w'=x.w) A hQ ⟨⟨_,(Below.refl _ _).drew⟩,rfl⟩ (fun w1 w2 hk hx=>by
   obtain ⟨x,rfl⟩:=hx
   exact ⟨⟨w2,x.ok.trans (hk.mono (Nat.le_trans hb x.ok.size))⟩,rfl⟩) hm hB hsz (fun W hW=>by obtain ⟨x,rfl⟩:=hW; exact hh x) ht
/-- The class: the worlds in which the blocks that meet p are as in w. -/
structure Wq (p:Nat→Prop) (w0:World) where
 w:World
 ok:w0.heap.size≤w.heap.size∧∀ k,k < w0.heap.size→p k→w.heap[k]?=w0.heap[k]?
theorem Wq.cell {p:Nat→Prop} {w0:World} (z:Wq p w0) {b o:Nat} {v:Value} (hp:p b) (h:w0.cell? ⟨b,o,none⟩=some v):z.w.cell? ⟨b,o,none⟩=some v:=by
 have hb:=World.block_lt_of_cell? w0 _ h
 rw [← h]
 simp [World.cell?,z.ok.2 b hb hp]
theorem region_gq {id:Nat} {l:List Oper} {Q:Exit→Act→World→Prop} {a:Act} {w:World} (hs ts:List Nat) (e sz:Nat) (p:Nat→Prop) (A:Act) (hQ:∀ c (a:Act) (d:Option Tmp) (v:Value) w,Q (.panic c) (a.put d v) w→Q (.panic c) a w)
  (hm:P.follows .mixedOrders=true) (hB:gxB l hs ts e sz=true) (hsz:a.tmps.size=sz)
  (hh:∀ z:Wq p w,wpQuiet P l.toArray (fun w'=>w'=z.w) (fun a'=>a'=A) (pickL l hs) a) (ht:wpListE P l.toArray Q (fun w'=>∃ x:Wq p w,w'=x.w) e (pickL l ts) A w.drew):(Code.region id l.toArray true).wp P Q a w :=
 region_gx hs ts e sz (fun w'=>∃ x:Wq p w,w'=x.w) A hQ ⟨⟨w.drew,⟨Nat.le_refl _,fun _ _ _=>rfl⟩⟩,rfl⟩ (fun w1 w2 hk hx=>by
   obtain ⟨x,rfl⟩:=hx
   exact ⟨⟨w2,⟨Nat.le_trans x.ok.1 hk.size,fun k hk1 hk2=>(hk.block k (Nat.lt_of_lt_of_le hk1 x.ok.1)).trans (x.ok.2 k hk1 hk2)⟩⟩,rfl⟩) hm hB hsz (fun W hW=>by obtain ⟨x,rfl⟩:=hW; exact hh x) ht
/-- A whole array goes into a variable, as one of the tail's first operations. -/
theorem listE_store_row {ops:Array Oper} {rest:List Oper} {o:Oper} {a:Act} {w:World} {Q:Exit→Act→World→Prop} {e:Nat} (hgd:o.guard=none) (T:TypeId) (x y:Operand) (ho:o.op=.store T x y)
  (g:Nat) (hx:a.eval x=.pointer (some ⟨g,0,none⟩)) (cs:Array Value) (hy:a.eval y=.agg cs) (old:Array Value) (t:TypeId) (hg:w.heap[g]?=some (.cells old t (0,0))) (hs:old.size=cs.size)
  (hi:(P.info? T).map (·.size)=some cs.size) (h1:∀ v ∈ cs.toList,v.oneCell'=true) (hD:D (w.setRow g cs))
  (h:wpListE P ops Q D e rest (a.put o.dst undef) (w.setRow g cs)):wpListE P ops Q D (e+1) (o::rest) a w:=by
 have hw:Region.wanted o (yielded ops a.tmps)=true:=by simp [Region.wanted,hgd]
 rw [wpListE,if_pos hw]
 cases hq:P.info? T with
 | none=>simp [hq] at hi
 | some i =>
  have hsz:i.size=cs.size:=by simpa [hq] using hi
  have hst:=run_storeCells_from (P:=P) g t cs.toList 0 old w hg (by simp [hs]) h1
  unfold Oper.wp execOp
  simp only [ho,hx,hy]
  simp [Instr.storeAt,Instr.sureAddr,storeVar,sizeOf,typeInfo,hq,hsz,Value.cells]
  simp at hst
  rw [hst]
  exact ⟨hD,h⟩
end
/-- A contract that leaves the world alone, at a head's call. -/
theorem calls_eq {P:Program} {f:FuncId} {args:Array Value} {w:World} {v:Value} (h:Calls P f args w fun e w'=>e=.returned v∧w=w'):Calls P f args w fun e w''=>e=.returned v∧w''=w :=
 h.mono fun _ _ ⟨he,hw⟩=>⟨he,hw.symm⟩
end Go.Proofs.YtjbggogbnckllaaDoor
end
section
set_option maxRecDepth 100000
namespace Go.Proofs.YtjbggogbnckllaaDoor
open Go Go.RowKit
theorem region_ge {P:Program} {id:Nat} {l:List Oper} {Q:Exit→Act→World→Prop} {a:Act} {w:World} (hs ts:List Nat) (e sz B:Nat) (A:Act) (hQ:∀ c (a:Act) (d:Option Tmp) (v:Value) w,Q (.panic c) (a.put d v) w→Q (.panic c) a w)
  (hb:B≤w.heap.size) (hm:P.follows .mixedOrders=true) (hB:gxB l hs ts e sz=true) (hsz:a.tmps.size=sz)
  (hh:∀ z:Wd B w,wpQuiet P l.toArray (fun w'=>w'=z.w) (fun a'=>a'=A) (pickL l hs) a) (ht:wpListE P l.toArray Q (fun w'=>∃ x:Wd B w,w'=x.w) e (pickL l ts) A w.drew):(Code.region id l.toArray true).wp P Q a w :=
 region_gx hs ts e sz (fun w'=>∃ x:Wd B w,w'=x.w) A hQ ⟨⟨_,(Below.refl _ _).drew⟩,rfl⟩ (fun w1 w2 hk hx=>by
   obtain ⟨x,rfl⟩:=hx
   exact ⟨⟨w2,x.ok.trans (hk.mono (Nat.le_trans hb x.ok.size))⟩,rfl⟩) hm hB hsz (fun W hW=>by obtain ⟨x,rfl⟩:=hW; exact hh x) ht
theorem listE_call {P:Program} {D:World→Prop} {ops:Array Oper} {rest:List Oper} {o:Oper} {a:Act} {w:World} {Q:Exit→Act→World→Prop} {e:Nat} (hgd:o.guard=none) (f:FuncId) (hcf:∀ args w,Sem.run P (callFunc f args) w=.ok (.enter f args) w) (xs:Array Operand) (tys:Array TypeId)
  (ho:o.op=.call { callee:=.value (.func f),args:=xs,argTypes:=tys }) (args:Array Value) (hargs:xs.map a.eval=args) (v:Value) (Ψ:World→Prop)
  (hc:Calls P f args w fun e w'=>e=.returned v∧Ψ w') (h:∀ w',Ψ w'→D w'∧wpListE P ops Q D e rest (a.put o.dst v) w'):wpListE P ops Q D (e+1) (o::rest) a w:=by
 have hw:Region.wanted o (yielded ops a.tmps)=true:=by simp [Region.wanted,hgd]
 have:=step_call (ops:=ops) (Q:=Q) (K:=fun a' w'=>D w'∧wpListE P ops Q D e rest a' w') (F:=False) hgd f hcf xs tys ho args hargs v Ψ hc h
 rw [if_pos hw] at this
 rw [wpListE,if_pos hw]
 exact this
theorem listE_call2 {P:Program} {D:World→Prop} {ops:Array Oper} {rest:List Oper} {o:Oper} {a:Act} {w:World} {Q:Exit→Act→World→Prop} {e:Nat} (hgd:o.guard=none) (f:FuncId) (hcf:∀ args w,Sem.run P (callFunc f args) w=.ok (.enter f args) w) (x y:Operand) (tys:Array TypeId)
  (ho:o.op=.call { callee:=.value (.func f),args:=#[x,y],argTypes:=tys }) (vx vy:Value) (hx:a.eval x=vx) (hy:a.eval y=vy) (v:Value) (Ψ:World→Prop)
  (hc:Calls P f #[vx,vy] w fun e w'=>e=.returned v∧Ψ w') (h:∀ w',Ψ w'→D w'∧wpListE P ops Q D e rest (a.put o.dst v) w'):wpListE P ops Q D (e+1) (o::rest) a w :=
 listE_call hgd f hcf #[x,y] tys ho #[vx,vy] (by simp [hx,hy]) v Ψ hc h
end Go.Proofs.YtjbggogbnckllaaDoor
end
section
set_option maxRecDepth 100000
namespace Go.Proofs.YtjbggogbnckllaaDoor
open Go Go.RowKit
theorem step_callE {P:Program} {w:World} {ops:Array Oper} {o:Oper} {a:Act} {K:Act→World→Prop} {Q:Exit→Act→World→Prop} {F:Prop} (hgd:o.guard=none) (f:FuncId) (hcf:∀ args w,Sem.run P (callFunc f args) w=.ok (.enter f args) w) (xs:Array Operand) (tys:Array TypeId)
  (ho:o.op=.call { callee:=.value (.func f),args:=xs,argTypes:=tys }) (args:Array Value) (hargs:xs.map a.eval=args) (Ψ:Value→World→Prop)
  (hc:Calls P f args w fun e w'=>∃ v,e=.returned v∧Ψ v w') (h:∀ v w',Ψ v w'→K (a.put o.dst v) w') :
  if Region.wanted o (yielded ops a.tmps)=true then Oper.wp P o a w K Q else F:=by
 rw [if_pos (by simp [Region.wanted,hgd])]
 subst hargs
 unfold Oper.wp
 have hr:(execOp a.eval o).run P w=.ok (.enter f (xs.map a.eval)) w:=by
  unfold execOp
  simp [ho,resolve,invoke,Act.eval,Deferred.ofValue,hcf]
 rw [hr]
 exact hc.mono fun e w' ⟨v,he,hw⟩=>by subst he; exact h _ _ hw
theorem listE_callE {P:Program} {D:World→Prop} {ops:Array Oper} {rest:List Oper} {o:Oper} {a:Act} {w:World} {Q:Exit→Act→World→Prop} {e:Nat} (hgd:o.guard=none) (f:FuncId) (hcf:∀ args w,Sem.run P (callFunc f args) w=.ok (.enter f args) w) (xs:Array Operand) (tys:Array TypeId)
  (ho:o.op=.call { callee:=.value (.func f),args:=xs,argTypes:=tys }) (args:Array Value) (hargs:xs.map a.eval=args) (Ψ:Value→World→Prop)
  (hc:Calls P f args w fun e w'=>∃ v,e=.returned v∧Ψ v w') (h:∀ v w',Ψ v w'→D w'∧wpListE P ops Q D e rest (a.put o.dst v) w'):wpListE P ops Q D (e+1) (o::rest) a w:=by
 have hw:Region.wanted o (yielded ops a.tmps)=true:=by simp [Region.wanted,hgd]
 have:=step_callE (ops:=ops) (Q:=Q) (K:=fun a' w'=>D w'∧wpListE P ops Q D e rest a' w') (F:=False) hgd f hcf xs tys ho args hargs Ψ hc h
 rw [if_pos hw] at this
 rw [wpListE,if_pos hw]
 exact this
theorem listE_callE1 {P:Program} {D:World→Prop} {ops:Array Oper} {rest:List Oper} {o:Oper} {a:Act} {w:World} {Q:Exit→Act→World→Prop} {e:Nat} (hgd:o.guard=none) (f:FuncId) (hcf:∀ args w,Sem.run P (callFunc f args) w=.ok (.enter f args) w) (x:Operand) (tys:Array TypeId)
  (ho:o.op=.call { callee:=.value (.func f),args:=#[x],argTypes:=tys }) (vx:Value) (hx:a.eval x=vx) (Ψ:Value→World→Prop)
  (hc:Calls P f #[vx] w fun e w'=>∃ v,e=.returned v∧Ψ v w') (h:∀ v w',Ψ v w'→D w'∧wpListE P ops Q D e rest (a.put o.dst v) w'):wpListE P ops Q D (e+1) (o::rest) a w :=
 listE_callE hgd f hcf #[x] tys ho #[vx] (by simp [hx]) Ψ hc h
end Go.Proofs.YtjbggogbnckllaaDoor
end
