/-
  What chapters 9 and 10 compute, in plain words, of a plan's numbers.
  Lengths in rounds: each round that changes something leaves less to do (plain).
  Which symbols make a sentence (plain): a length is there exactly where there is a derivation; the lengths are closed under the rules.
  Closures in rounds (plain): clauses 'if all of these, then that'; what the rounds reach is the least closed set.
  Chapter 9 by definition (plain): which symbols make a sentence, which are come to.
  A plan that holds another one's rules makes no less (plain): shorter lengths, more that is come to.
  Shortest sentences (plain): by which rule a length came; the sentences; how long they are.
  What is come to, by a list of what is yet to do (plain).
-/
import Derived.Test.YtjbggogbnckllaaDoorPl
import Derived.Test.YtjbggogbnckllaaDoorAa
section
set_option maxRecDepth 100000
namespace Go.Proofs.YtjbggogbnckllaaDoor
namespace Q
open Pl (Plan Prod)
/-- What a plan's numbers keep to. -/
structure OK (p:Plan):Prop where
 n:1≤p.terms.length
 nb:p.terms.length≤1000
 m:p.vars.length≤1000
 r:p.rules.length≤1000
 left:∀ r ∈ p.rules,p.terms.length≤r.left∧r.left≤p.terms.length+p.vars.length
 right:∀ r ∈ p.rules,∀ x ∈ r.right,0≤x∧x < ((p.terms.length+p.vars.length:Nat):Int)
 rl:∀ r ∈ p.rules,r.right.length≤1000
def cnt (p:Plan):Nat:=p.terms.length+p.vars.length+1
def up {α:Type} (f:Nat→α) (i:Nat) (v:α):Nat→α:=fun j=>if j=i then v else f j
theorem up_same {α:Type} (f:Nat→α) (i:Nat) (v:α):up f i v i=v:=by simp [up]
theorem up_ne {α:Type} (f:Nat→α) {i j:Nat} (v:α) (h:j≠i):up f i v j=f j:=by simp [up,h]
def M:Int:=1099511627776
def held (x:Int):Int:=max 0 (min x M)
def add (a b:Int):Int:=held (held a+held b)
theorem held_range (x:Int):0≤held x∧held x≤M:=by unfold held M; omega
theorem add_range (a b:Int):0≤add a b∧add a b≤M:=held_range _
/-- How long a right side is. -/
def sumF (long:Nat→Int):List Int→Int→Int
 | [],n=>n
 | x::r,n=>if long x.toNat < 0 then -1 else sumF long r (add n (long x.toNat))
structure Ls where
 long:Nat→Int
 by_:Nat→Int
/-- One rule, the i-th. -/
def lenStep (i:Nat) (r:Prod) (s:Ls) (ch:Bool):Ls×Bool :=
 if 0≤sumF s.long r.right 0∧(s.long r.left < 0∨sumF s.long r.right 0 < s.long r.left) then (⟨up s.long r.left (sumF s.long r.right 0),up s.by_ r.left (i:Nat)⟩,true) else (s,ch)
def lenGo:Nat→List Prod→Ls→Bool→Ls×Bool
 | _,[],s,ch=>(s,ch)
 | i,r::rs,s,ch=>lenGo (i+1) rs (lenStep i r s ch).1 (lenStep i r s ch).2
def len0 (p:Plan):Ls:=⟨fun i=>if i < p.terms.length then 1 else -1,fun _=>-1⟩
/-- Rounds, as long as something changes. -/
def run {α:Type} (step:α→α×Bool):Nat→α→α×Nat
 | 0,s=>(s,0)
 | f+1,s=>if (step s).2 then ((run step f (step s).1).1,(run step f (step s).1).2+1) else ((step s).1,1)
/-- How much there is to do yet. -/
def weight (c:Nat) (long:Nat→Int):Nat:=((List.range c).map fun i=>if long i < 0 then 1099511627777 else (long i).toNat).sum
def lenF (p:Plan):Nat:=weight (cnt p) (len0 p).long+1
def lens (p:Plan):Ls:=(run (fun s=>lenGo 0 p.rules s false) (lenF p) (len0 p)).1
theorem run_inv {α:Type} {step:α→α×Bool} (I:α→Prop) (hI:∀ s,I s→I (step s).1):∀ (f:Nat) (s:α),I s→I (run step f s).1
 | 0,_,h=>h
 | f+1,s,h=>by
  rw [run]
  split
  ·exact run_inv I hI f _ (hI s h)
  ·exact hI s h
/-- The last round changes nothing. -/
theorem run_last {α:Type} {step:α→α×Bool} (I:α→Prop) (μ:α→Nat) (hI:∀ s,I s→I (step s).1) (hμ:∀ s,I s→(step s).2=true→μ (step s).1 < μ s) (hs:∀ s,(step s).2=false→(step s).1=s):∀ (f:Nat) (s:α),I s→μ s < f→(step (run step f s).1).2=false∧(step (run step f s).1).1=(run step f s).1
 | 0,_,_,h=>absurd h (Nat.not_lt_zero _)
 | f+1,s,hi,h=>by
  rw [run]
  by_cases hc:(step s).2=true
  ·rw [if_pos hc]
   have:=hμ s hi hc
   exact run_last I μ hI hμ hs f _ (hI s hi) (by omega)
  ·have hc':(step s).2=false:=by simpa using hc
   rw [if_neg hc,hs s hc']
   exact ⟨hc',hs s hc'⟩
end Q
end Go.Proofs.YtjbggogbnckllaaDoor
end
section
set_option maxRecDepth 100000
namespace Go.Proofs.YtjbggogbnckllaaDoor
namespace Q
open Pl (Plan Prod)
def wt (x:Int):Nat:=if x < 0 then 1099511627777 else x.toNat
theorem weight_eq (c:Nat) (f:Nat→Int):weight c f=((List.range c).map fun i=>wt (f i)).sum:=rfl
theorem weight_succ (c:Nat) (f:Nat→Int):weight (c+1) f=weight c f+wt (f c):=by
 rw [weight_eq,weight_eq,List.range_succ]; simp
theorem weight_up:∀ (c:Nat) (f:Nat→Int) (i:Nat) (v:Int),i < c→weight c (up f i v)+wt (f i)=weight c f+wt v
 | 0,_,_,_,h=>absurd h (Nat.not_lt_zero _)
 | c+1,f,i,v,h=>by
  rw [weight_succ,weight_succ]
  by_cases hi:i=c
  ·subst hi
   rw [up_same]
   have:weight i (up f i v)=weight i f:=by
    rw [weight_eq,weight_eq]
    congr 1
    refine List.map_congr_left fun j hj=>?_
    rw [up_ne _ _ (by have:=List.mem_range.1 hj; omega)]
   omega
  ·rw [up_ne _ _ (fun e=>hi e.symm)]
   have:=weight_up c f i v (by omega)
   omega
theorem sumF_le (long:Nat→Int):∀ (r:List Int) (n:Int),n≤M→sumF long r n≤M
 | [],n,h=>h
 | x::r,n,h=>by
  rw [sumF]
  split
  ·unfold M; omega
  ·exact sumF_le long r _ (add_range _ _).2
theorem lenStep_yes {i:Nat} {r:Prod} {s:Ls} {ch:Bool} (h1:0≤sumF s.long r.right 0) (h2:s.long r.left < 0∨sumF s.long r.right 0 < s.long r.left):lenStep i r s ch=(⟨up s.long r.left (sumF s.long r.right 0),up s.by_ r.left (i:Nat)⟩,true):=by
 unfold lenStep; rw [if_pos ⟨h1,h2⟩]
theorem lenStep_less (c i:Nat) (r:Prod) (s:Ls) (ch:Bool) (hr:r.left < c):(lenStep i r s ch).1=s∧(lenStep i r s ch).2=ch∨(lenStep i r s ch).2=true∧weight c (lenStep i r s ch).1.long < weight c s.long:=by
 by_cases h:0≤sumF s.long r.right 0∧(s.long r.left < 0∨sumF s.long r.right 0 < s.long r.left)
 ·right
  rw [lenStep_yes h.1 h.2]
  refine ⟨rfl,?_⟩
  have h1:=weight_up c s.long r.left (sumF s.long r.right 0) hr
  have h2:=sumF_le s.long r.right 0 (by unfold M; omega)
  have h3:wt (sumF s.long r.right 0) < wt (s.long r.left):=by
   unfold wt M at *
   rw [if_neg (by omega)]
   split<;>omega
  show weight c (up s.long r.left (sumF s.long r.right 0)) < _
  omega
 ·left
  unfold lenStep
  rw [if_neg h]
  exact ⟨rfl,rfl⟩
theorem lenGo_less (c:Nat):∀ (rs:List Prod) (i:Nat) (s:Ls) (ch:Bool),(∀ r ∈ rs,r.left < c)→(lenGo i rs s ch).1=s∧(lenGo i rs s ch).2=ch∨(lenGo i rs s ch).2=true∧weight c (lenGo i rs s ch).1.long < weight c s.long
 | [],i,s,ch,_=>.inl ⟨rfl,rfl⟩
 | r::rs,i,s,ch,h=>by
  rw [lenGo]
  have h1:=lenStep_less c i r s ch (h r (by simp))
  have h2:=lenGo_less c rs (i+1) (lenStep i r s ch).1 (lenStep i r s ch).2 (fun x hx=>h x (by simp [hx]))
  rcases h1 with ⟨e1,e2⟩ | ⟨e1,e2⟩
  ·rw [e1,e2] at h2
   rw [e1,e2]; exact h2
  ·right
   rcases h2 with ⟨f1,f2⟩ | ⟨f1,f2⟩
   ·exact ⟨by rw [f2,e1],by rw [f1]; exact e2⟩
   ·exact ⟨f1,by omega⟩
/-- A whole round. -/
def round (p:Plan) (s:Ls):Ls×Bool:=lenGo 0 p.rules s false
theorem left_lt {p:Plan} (h:OK p):∀ r ∈ p.rules,r.left < cnt p:=fun r hr=>by have:=(h.left r hr).2; unfold cnt; omega
theorem round_less {p:Plan} (h:OK p) (s:Ls) (hc:(round p s).2=true):weight (cnt p) (round p s).1.long < weight (cnt p) s.long:=by
 rcases lenGo_less (cnt p) p.rules 0 s false (left_lt h) with ⟨_,e⟩ | ⟨_,e⟩
 ·unfold round at hc; rw [e] at hc; cases hc
 ·exact e
theorem run_go {p:Plan} {f:Nat} {s:Ls} (hc:(round p s).2=true):(run (round p) (f+1) s).1=(run (round p) f (round p s).1).1:=by rw [run,if_pos hc]
theorem run_end {p:Plan} {f:Nat} {s:Ls} (hc:(round p s).2=false):(run (round p) (f+1) s).1=(round p s).1:=by rw [run,if_neg (by rw [hc]; simp)]
end Q
end Go.Proofs.YtjbggogbnckllaaDoor
end
section
set_option maxRecDepth 100000
namespace Go.Proofs.YtjbggogbnckllaaDoor
namespace Q
open Pl (Plan Prod)
/-- A symbol that makes a sentence. -/
inductive Der (p:Plan):Nat→Prop
 | term (i:Nat) (h:i < p.terms.length):Der p i
 | rule (r:Prod) (h:r ∈ p.rules) (hx:∀ x ∈ r.right,Der p x.toNat):Der p r.left
/-- A rule that has nothing to give. -/
def Idle (s:Ls) (r:Prod):Prop:=sumF s.long r.right 0 < 0∨0≤s.long r.left∧s.long r.left≤sumF s.long r.right 0
end Q
end Go.Proofs.YtjbggogbnckllaaDoor
end
section
set_option maxRecDepth 100000
namespace Go.Proofs.YtjbggogbnckllaaDoor
namespace Q
abbrev Cl:=List Nat×Nat
def hStep (c:Cl) (s:Nat→Bool) (ch:Bool):(Nat→Bool)×Bool:=if c.1.all s=true∧s c.2=false then (up s c.2 true,true) else (s,ch)
def hGo:List Cl→(Nat→Bool)→Bool→(Nat→Bool)×Bool
 | [],s,ch=>(s,ch)
 | c::cs,s,ch=>hGo cs (hStep c s ch).1 (hStep c s ch).2
def bw (s:Nat→Bool):Nat→Int:=fun i=>if s i then 0 else 1
def hF (N:Nat) (s:Nat→Bool):Nat:=weight N (bw s)+1
def hRun (N:Nat) (H:List Cl) (s:Nat→Bool):Nat→Bool:=(run (fun t=>hGo H t false) (hF N s) s).1
inductive HDer (H:List Cl) (s:Nat→Bool):Nat→Prop
 | base (i:Nat) (h:s i=true):HDer H s i
 | step (c:Cl) (h:c ∈ H) (hx:∀ x ∈ c.1,HDer H s x):HDer H s c.2
theorem hStep_less (N:Nat) (c:Cl) (s:Nat→Bool) (ch:Bool) (hc:c.2 < N):(hStep c s ch).1=s∧(hStep c s ch).2=ch∨(hStep c s ch).2=true∧weight N (bw (hStep c s ch).1) < weight N (bw s):=by
 unfold hStep
 by_cases h:c.1.all s=true∧s c.2=false
 ·right
  rw [if_pos h]
  refine ⟨rfl,?_⟩
  have h1:=weight_up N (bw s) c.2 0 hc
  have h2:bw (up s c.2 true)=up (bw s) c.2 0:=by
   funext i
   unfold bw up
   by_cases hi:i=c.2<;>simp [hi]
  have h3:wt (bw s c.2)=1:=by simp [bw,h.2,wt]
  have h4:wt 0=0:=rfl
  show weight N (bw (up s c.2 true)) < _
  rw [h2]; omega
 ·left
  rw [if_neg h]; exact ⟨rfl,rfl⟩
theorem hGo_less (N:Nat):∀ (cs:List Cl) (s:Nat→Bool) (ch:Bool),(∀ c ∈ cs,c.2 < N)→(hGo cs s ch).1=s∧(hGo cs s ch).2=ch∨(hGo cs s ch).2=true∧weight N (bw (hGo cs s ch).1) < weight N (bw s)
 | [],s,ch,_=>.inl ⟨rfl,rfl⟩
 | c::cs,s,ch,h=>by
  rw [hGo]
  have h1:=hStep_less N c s ch (h c (by simp))
  have h2:=hGo_less N cs (hStep c s ch).1 (hStep c s ch).2 (fun x hx=>h x (by simp [hx]))
  rcases h1 with ⟨e1,e2⟩ | ⟨e1,e2⟩
  ·rw [e1,e2] at h2 ⊢; exact h2
  ·right
   rcases h2 with ⟨f1,f2⟩ | ⟨f1,f2⟩
   ·exact ⟨by rw [f2,e1],by rw [f1]; exact e2⟩
   ·exact ⟨f1,by omega⟩
theorem hGo_true:∀ (cs:List Cl) (s:Nat→Bool),(hGo cs s true).2=true
 | [],_=>rfl
 | c::cs,s=>by
  rw [hGo]
  have:(hStep c s true).2=true:=by unfold hStep; split<;>rfl
  rw [this]
  exact hGo_true cs _
theorem hGo_idle:∀ (cs:List Cl) (s:Nat→Bool),(hGo cs s false).2=false→∀ c ∈ cs,c.1.all s=true→s c.2=true
 | [],_,_=>fun c hc=>nomatch hc
 | c::cs,s,h=>by
  rw [hGo] at h
  by_cases hc:c.1.all s=true∧s c.2=false
  ·have e:hStep c s false=(up s c.2 true,true):=by unfold hStep; rw [if_pos hc]
   rw [e,hGo_true] at h
   cases h
  ·have e:hStep c s false=(s,false):=by unfold hStep; rw [if_neg hc]
   rw [e] at h
   intro x hx ha
   rcases List.mem_cons.1 hx with rfl | hx
   ·cases hs:s x.2 with
    | true=>rfl
    | false=>exact absurd ⟨ha,hs⟩ hc
   ·exact hGo_idle cs s h x hx ha
theorem hGo_inv (I:(Nat→Bool)→Prop):∀ (cs:List Cl) (s:Nat→Bool) (ch:Bool),(∀ c ∈ cs,∀ s,I s→c.1.all s=true→I (up s c.2 true))→I s→I (hGo cs s ch).1
 | [],_,_,_,h=>h
 | c::cs,s,ch,hI,h=>by
  rw [hGo]
  refine hGo_inv I cs _ _ (fun x hx=>hI x (by simp [hx])) ?_
  unfold hStep
  split
  ·exact hI c (by simp) s h (by rename_i h2; exact h2.1)
  ·exact h
/-- What the rounds reach. -/
theorem hRun_iff {N:Nat} {H:List Cl} (hH:∀ c ∈ H,c.2 < N) (s:Nat→Bool) (i:Nat):hRun N H s i=true↔HDer H s i:=by
 have hl:(hGo H (hRun N H s) false).2=false:=by
  refine (run_last (step:=fun t=>hGo H t false) (fun _=>True) (fun t=>weight N (bw t)) (fun _ _=>trivial) ?_ ?_ (hF N s) s trivial (Nat.lt_succ_self _)).1
  ·intro t _ hc
   rcases hGo_less N H t false hH with ⟨_,e⟩ | ⟨_,e⟩
   ·have hc':(hGo H t false).2=true:=hc
    rw [e] at hc'; cases hc'
   ·exact e
  ·intro t hc
   rcases hGo_less N H t false hH with ⟨e,_⟩ | ⟨e,_⟩
   ·exact e
   ·have hc':(hGo H t false).2=false:=hc
    rw [e] at hc'; cases hc'
 have h1:∀ i,hRun N H s i=true→HDer H s i:=by
  refine run_inv (step:=fun t=>hGo H t false) (fun t=>∀ i,t i=true→HDer H s i) (fun t ht=>hGo_inv (fun t=>∀ i,t i=true→HDer H s i) H t false ?_ ht) _ s (fun i hi=>HDer.base i hi)
  intro c hc t ht ha i hi
  unfold up at hi
  split at hi
  ·rename_i e
   rw [e]
   exact HDer.step c hc (fun x hx=>ht x (List.all_eq_true.1 ha x hx))
  ·exact ht i hi
 have h2:∀ i,s i=true→hRun N H s i=true:=by
  refine run_inv (step:=fun t=>hGo H t false) (fun t=>∀ i,s i=true→t i=true) (fun t ht=>hGo_inv (fun t=>∀ i,s i=true→t i=true) H t false ?_ ht) _ s (fun i hi=>hi)
  intro c _ t ht _ i hi
  unfold up
  split
  ·rfl
  ·exact ht i hi
 refine ⟨h1 i,fun hd=>?_⟩
 induction hd with
 | base i hi=>exact h2 i hi
 | step c hc _ ih=>exact hGo_idle H _ hl c hc (List.all_eq_true.2 ih)
end Q
end Go.Proofs.YtjbggogbnckllaaDoor
end
section
set_option maxRecDepth 100000
namespace Go.Proofs.YtjbggogbnckllaaDoor
namespace Q
open Pl (Plan Prod)
def mkH (p:Plan):List Cl:=p.rules.map fun r=>(r.right.map Int.toNat,r.left)
def mk0 (p:Plan):Nat→Bool:=fun i=>decide (i < p.terms.length)
def makes (p:Plan):Nat→Bool:=hRun (cnt p) (mkH p) (mk0 p)
def coH (p:Plan):List Cl:=p.rules.flatMap fun r=>r.right.map fun x=>([r.left],x.toNat)
def co0 (p:Plan):Nat→Bool:=fun i=>decide (i=cnt p - 1)
def come (p:Plan):Nat→Bool:=hRun (cnt p) (coH p) (co0 p)
theorem coH_lt {p:Plan} (h:OK p):∀ c ∈ coH p,c.2 < cnt p:=by
 intro c hc
 obtain ⟨r,hr,hc⟩:=List.mem_flatMap.1 hc
 obtain ⟨x,hx,rfl⟩:=List.mem_map.1 hc
 have:=h.right r hr x hx
 unfold cnt
 show x.toNat < _
 omega
/-- Come to. -/
inductive Rch (p:Plan):Nat→Prop
 | start:Rch p (cnt p - 1)
 | rule (r:Prod) (h:r ∈ p.rules) (hl:Rch p r.left) (x:Int) (hx:x ∈ r.right):Rch p x.toNat
theorem come_rch {p:Plan} (h:OK p) (i:Nat):come p i=true↔Rch p i:=by
 unfold come
 rw [hRun_iff (coH_lt h)]
 constructor
 ·intro hd
  induction hd with
  | base i hi =>
   have:i=cnt p - 1:=by simpa [co0] using hi
   rw [this]; exact Rch.start
  | step c hc _ ih =>
   obtain ⟨r,hr,hc⟩:=List.mem_flatMap.1 hc
   obtain ⟨x,hx,rfl⟩:=List.mem_map.1 hc
   exact Rch.rule r hr (ih _ (by simp)) x hx
 ·intro hd
  induction hd with
  | start=>exact HDer.base _ (by simp [co0])
  | rule r hr _ x hx ih =>
   refine HDer.step ([r.left],x.toNat) (List.mem_flatMap.2 ⟨r,hr,List.mem_map.2 ⟨x,hx,rfl⟩⟩) ?_
   intro y hy
   rw [List.mem_singleton.1 hy]
   exact ih
end Q
end Go.Proofs.YtjbggogbnckllaaDoor
end
section
set_option maxRecDepth 100000
namespace Go.Proofs.YtjbggogbnckllaaDoor
namespace Q
open Pl (Plan Prod)
/-- A plan's rules, renamed, are another one's: of those symbols that are D. -/
structure Sim (p q:Plan) (D:Nat→Prop) (φ:Nat→Nat):Prop where
 term:∀ i,D i→i < p.terms.length→φ i < q.terms.length
 rule:∀ r ∈ p.rules,D r.left→(∀ x ∈ r.right,D x.toNat)∧∃ r' ∈ q.rules,r'.left=φ r.left∧r'.right.map Int.toNat=(r.right.map Int.toNat).map φ
end Q
end Go.Proofs.YtjbggogbnckllaaDoor
end
section
set_option maxRecDepth 100000
namespace Go.Proofs.YtjbggogbnckllaaDoor
namespace Q
open Pl (Plan Prod)
/-- By which rule a length came, and when. -/
structure ByI (p:Plan) (tm:Nat→Nat) (now:Nat) (s:Ls):Prop where
 bound:now+weight (cnt p) s.long≤weight (cnt p) (len0 p).long
 le:∀ i,tm i≤now
 le0:∀ i,s.long i≤M
 rl:∀ i,p.terms.length≤i→0≤s.long i→∃ (k:Nat) (r:Prod),s.by_ i=(k:Int)∧p.rules[k]?=some r∧r.left=i∧0≤sumF s.long r.right 0∧sumF s.long r.right 0≤s.long i∧(sumF s.long r.right 0=s.long i→s.long i < M→∀ x ∈ r.right,tm x.toNat < tm i)
 tt:∀ i,i < p.terms.length→tm i=0
/-- A shortest sentence. -/
def sentF (p:Plan):Nat→Nat→List Int
 | 0,_=>[]
 | f+1,i=>if (lens p).long i=0 then [] else if i < p.terms.length then [(i:Int)] else ((p.rules[((lens p).by_ i).toNat]?).elim [] fun r=>r.right).flatMap fun x=>sentF p f x.toNat
def sent (p:Plan) (sym:Int):List Int :=
 if sym < 0∨((cnt p:Nat):Int)≤sym∨(lens p).long sym.toNat < 0∨1000 < (lens p).long sym.toNat then [] else sentF p (lenF p) sym.toNat
end Q
end Go.Proofs.YtjbggogbnckllaaDoor
end
section
set_option maxRecDepth 100000
namespace Go.Proofs.YtjbggogbnckllaaDoor
namespace Q
open Pl (Plan Prod)
/-- On the way: closed but for what is yet to do, and for the rules that E tells. -/
structure RI (p:Plan) (X:Nat) (T:List Int) (E:Prod→Prop):Prop where
 sub:∀ i,X.testBit i=true→Rch p i
 acc:X.testBit (cnt p - 1)=true
 pos:∀ t ∈ T,0≤t∧X.testBit t.toNat=true
 cl:∀ r ∈ p.rules,X.testBit r.left=true→(r.left:Int) ∈ T∨E r∨∀ x ∈ r.right,X.testBit x.toNat=true
def mu (N X:Nat):Nat:=weight N (bw X.testBit)
section
variable {p:Plan} {X:Nat} {T:List Int} {E E':Prod→Prop}
theorem RI.imp (h:RI p X T E) (he:∀ r ∈ p.rules,E r→E' r∨∀ x ∈ r.right,X.testBit x.toNat=true):RI p X T E' :=
 ⟨h.sub,h.acc,h.pos,fun r hr hx=>by
  rcases h.cl r hr hx with h1 | h1 | h1
  ·exact .inl h1
  ·rcases he r hr h1 with h2 | h2
   ·exact .inr (.inl h2)
   ·exact .inr (.inr h2)
  ·exact .inr (.inr h1)⟩
theorem RI.add (h:RI p X T E) {x:Int} (hx:0≤x) (hr:Rch p x.toNat):RI p (Bs.add X x.toNat) (T++[x]) E:=by
 have up:∀ i,X.testBit i=true→(Bs.add X x.toNat).testBit i=true:=fun i hi=>by rw [Bs.add_bit,hi]; rfl
 refine ⟨fun i hi=>?_,up _ h.acc,fun t ht=>?_,fun r hr2 hl=>?_⟩
 ·rw [Bs.add_bit,Bool.or_eq_true] at hi
  rcases hi with hi | hi
  ·exact h.sub i hi
  ·have:=of_decide_eq_true hi; subst this; exact hr
 ·rcases List.mem_append.1 ht with ht | ht
  ·exact ⟨(h.pos t ht).1,up _ (h.pos t ht).2⟩
  ·rw [List.mem_singleton.1 ht]; exact ⟨hx,by rw [Bs.add_bit]; simp⟩
 ·rw [Bs.add_bit,Bool.or_eq_true] at hl
  rcases hl with hl | hl
  ·rcases h.cl r hr2 hl with h1 | h1 | h1
   ·exact .inl (by simp [h1])
   ·exact .inr (.inl h1)
   ·exact .inr (.inr fun y hy=>up _ (h1 y hy))
  ·have:=of_decide_eq_true hl
   refine .inl ?_
   rw [← this]
   simp
   exact .inr (by omega)
theorem RI.start:RI p (Bs.of (cnt p) [((cnt p - 1:Nat):Int)]) [((cnt p - 1:Nat):Int)] fun _=>False:=by
 have hb:∀ j,(Bs.of (cnt p) [((cnt p - 1:Nat):Int)]).testBit j=decide (j=cnt p - 1):=by
  intro j
  unfold Bs.of
  rw [Bs.adds_bit]
  have hc:1≤cnt p:=by unfold cnt; omega
  by_cases hj:j=cnt p - 1
  ·subst hj
   have h1:decide (cnt p - 1 < cnt p)=true:=by simp; omega
   simp [h1]
  ·have h1:([((cnt p - 1:Nat):Int)].contains (j:Int))=false:=by
    rw [Bool.eq_false_iff]
    simp; omega
   rw [h1]; simp [hj]
 refine ⟨fun i hi=>?_,by rw [hb]; simp,fun t ht=>?_,fun r hr hl=>?_⟩
 ·rw [hb] at hi
  rw [of_decide_eq_true hi]; exact Rch.start
 ·rw [List.mem_singleton.1 ht]
  exact ⟨by omega,by rw [Int.toNat_natCast,hb]; simp⟩
 ·rw [hb] at hl
  exact .inl (by rw [of_decide_eq_true hl]; simp)
theorem RI.done (h:RI p X [] fun _=>False) (i:Nat):X.testBit i=true↔Rch p i:=by
 refine ⟨h.sub i,fun hr=>?_⟩
 induction hr with
 | start=>exact h.acc
 | rule r hm _ x hx ih =>
  rcases h.cl r hm ih with h1 | h1 | h1
  ·cases h1
  ·exact absurd h1 id
  ·exact h1 x hx
theorem RI.lst (ho:OK p) (h:RI p X [] fun _=>False):(Bs.lst (cnt p) X).map (fun (x:Nat)=>(x:Int))=((List.range (cnt p)).filter (come p)).map fun (i:Nat)=>(i:Int):=by
 unfold Bs.lst
 congr 1
 refine List.filter_congr fun i _=>?_
 rw [Bool.eq_iff_iff,h.done,come_rch ho]
end
end Q
end Go.Proofs.YtjbggogbnckllaaDoor
end
