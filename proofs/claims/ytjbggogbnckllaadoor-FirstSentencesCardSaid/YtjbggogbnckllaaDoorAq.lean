/-
  Chapter 10, plain: what symbols begin with and what follows them, in rounds; the rounds end.
  Chapter 10, plain: the facts are closed under the rules; more rules make no less; who is nullable, who begins with nothing, what sentences begin with.
-/
import Derived.Test.YtjbggogbnckllaaDoorAl
section
set_option maxRecDepth 100000
namespace Go.Proofs.YtjbggogbnckllaaDoor
set_option linter.unusedVariables false
set_option linter.unusedSimpArgs false
namespace Fi
open Pl (Plan Prod)
open Q (up OK cnt mu weight wt bw run)
structure St where
 null:Nat→Bool
 fst:Nat→Nat
/-- What a sequence begins with, put to X; is it nullable. -/
def beg (n c:Nat) (s:St):List Int→Nat→Nat×Bool
 | [],X=>(X,true)
 | x::r,X =>
  if x < 0∨(c:Int)≤x then beg n c s r X
  else if x < (n:Int) then (Bs.add X x.toNat,false)
  else if s.null (x.toNat - n) then beg n c s r (X|||s.fst (x.toNat - n)) else (X|||s.fst (x.toNat - n),false)
def nT (p:Plan):Nat:=p.terms.length
def nV (p:Plan):Nat:=p.vars.length+1
/-- One rule. -/
def stp (p:Plan) (r:Prod) (s:St) (ch:Bool):St×Bool :=
 (⟨up s.null (r.left - nT p) (s.null (r.left - nT p)||(beg (nT p) (cnt p) s r.right (s.fst (r.left - nT p))).2),up s.fst (r.left - nT p) (beg (nT p) (cnt p) s r.right (s.fst (r.left - nT p))).1⟩,
  ch||decide ((beg (nT p) (cnt p) s r.right (s.fst (r.left - nT p))).1≠s.fst (r.left - nT p))||((beg (nT p) (cnt p) s r.right (s.fst (r.left - nT p))).2&&!s.null (r.left - nT p)))
def rGo (p:Plan):List Prod→St→Bool→St×Bool
 | [],s,ch=>(s,ch)
 | r::rs,s,ch=>rGo p rs (stp p r s ch).1 (stp p r s ch).2
def s0:St:=⟨fun _=>false,fun _=>0⟩
def fw (n:Nat) (s:St):Nat→Int:=fun i=>((mu n (s.fst i)+(if s.null i then 0 else 1):Nat):Int)
def fF (p:Plan):Nat:=weight (nV p) (fw (nT p) s0)+1
def fs (p:Plan):St×Nat:=run (fun s=>rGo p p.rules s false) (fF p) s0
/-- What comes behind, in one right side of a rule of the left side l. -/
def bGo (p:Plan) (s:St) (l:Nat):List Int→(Nat→Nat)→Bool→(Nat→Nat)×Bool
 | [],fo,ch=>(fo,ch)
 | x::r,fo,ch =>
  if x < (nT p:Int) then bGo p s l r fo ch
  else
   let q:=beg (nT p) (cnt p) s r (fo (x.toNat - nT p))
   let X:=if q.2 then q.1|||fo l else q.1
   bGo p s l r (up fo (x.toNat - nT p) X) (ch||decide (X≠fo (x.toNat - nT p)))
def bRu (p:Plan) (s:St):List Prod→(Nat→Nat)→Bool→(Nat→Nat)×Bool
 | [],fo,ch=>(fo,ch)
 | r::rs,fo,ch=>bRu p s rs (bGo p s (r.left - nT p) r.right fo ch).1 (bGo p s (r.left - nT p) r.right fo ch).2
def o0 (p:Plan):Nat→Nat:=fun i=>if i=p.vars.length then 1 else 0
def ow (n:Nat) (fo:Nat→Nat):Nat→Int:=fun i=>(mu n (fo i):Nat)
def oF (p:Plan):Nat:=weight (nV p) (ow (nT p) (o0 p))+1
def fol (p:Plan):Nat→Nat:=(run (fun fo=>bRu p (fs p).1 p.rules fo false) (oF p) (o0 p)).1
/-- More bits, less to do. -/
theorem weight_le:∀ (c:Nat) (f g:Nat→Int),(∀ i,i < c→wt (g i)≤wt (f i))→weight c g≤weight c f∧((∃ i,i < c∧wt (g i) < wt (f i))→weight c g < weight c f)
 | 0,_,_,_=>⟨Nat.le_refl _,fun ⟨_,h,_⟩=>absurd h (Nat.not_lt_zero _)⟩
 | c+1,f,g,h=>by
  obtain ⟨h1,h2⟩:=weight_le c f g (fun i hi=>h i (by omega))
  have h3:=h c (by omega)
  rw [Q.weight_succ,Q.weight_succ]
  refine ⟨by omega,fun ⟨i,hi,hl⟩=>?_⟩
  by_cases hic:i=c
  ·subst hic; omega
  ·have:=h2 ⟨i,by omega,hl⟩; omega
theorem wt_nat (n:Nat):wt (n:Int)=n:=by unfold wt; rw [if_neg (by omega)]; simp
def Sub (X Y:Nat):Prop:=∀ j,X.testBit j=true→Y.testBit j=true
theorem Sub.refl (X:Nat):Sub X X:=fun _ h=>h
theorem Sub.trans {X Y Z:Nat} (h:Sub X Y) (k:Sub Y Z):Sub X Z:=fun j hj=>k j (h j hj)
theorem sub_or_left (X Y:Nat):Sub X (X|||Y):=fun j h=>by rw [Nat.testBit_or,h]; rfl
theorem sub_or_right (X Y:Nat):Sub Y (X|||Y):=fun j h=>by rw [Nat.testBit_or,h,Bool.or_true]
theorem or_sub {X Y Z:Nat} (h:Sub X Z) (k:Sub Y Z):Sub (X|||Y) Z:=fun j hj=>by
 rw [Nat.testBit_or,Bool.or_eq_true] at hj
 exact hj.elim (h j) (k j)
theorem sub_add (X i:Nat):Sub X (Bs.add X i):=fun j h=>by rw [Bs.add_bit,h]; rfl
theorem Sub.antisymm {X Y:Nat} (h:Sub X Y) (k:Sub Y X):X=Y:=Nat.eq_of_testBit_eq fun j=>by
 rw [Bool.eq_iff_iff]; exact ⟨h j,k j⟩
theorem or_of_sub {X Y:Nat} (h:Sub Y X):X|||Y=X:=Sub.antisymm (or_sub (Sub.refl _) h) (sub_or_left _ _)
theorem or_lt {X Y n:Nat} (h:X < 2 ^ n) (k:Y < 2 ^ n):X|||Y < 2 ^ n:=Nat.or_lt_two_pow h k
theorem mu_sup {n X Y:Nat} (hs:Sub X Y) (hY:Y < 2 ^ n) (hne:Y≠X):mu n Y < mu n X:=by
 unfold mu
 refine (weight_le n _ _ fun i _=>?_).2 ?_
 ·unfold bw
  by_cases hx:X.testBit i=true
  ·rw [if_pos hx,if_pos (hs i hx)]; exact Nat.le_refl _
  ·rw [if_neg hx]; split<;>simp [wt]
 ·have:∃ j,Y.testBit j=true∧X.testBit j=false:=by
   refine Classical.byContradiction fun hno=>hne (Sub.antisymm (fun j hj=>?_) hs)
   cases hx:X.testBit j with
   | true=>rfl
   | false=>exact absurd ⟨j,hj,hx⟩ hno
  obtain ⟨j,h1,h2⟩:=this
  refine ⟨j,?_,?_⟩
  ·rcases Nat.lt_or_ge j n with h | h
   ·exact h
   ·rw [Bs.bit_of_lt hY h] at h1; cases h1
  ·unfold bw; rw [h1,h2]; decide
theorem mu_mono {n X Y:Nat} (hs:Sub X Y) (hY:Y < 2 ^ n):mu n Y≤mu n X:=by
 by_cases h:Y=X
 ·rw [h]; exact Nat.le_refl _
 ·exact Nat.le_of_lt (mu_sup hs hY h)
section
variable {n c:Nat} {s:St}
theorem beg_sub:∀ (l:List Int) (X:Nat),Sub X (beg n c s l X).1
 | [],X=>Sub.refl _
 | x::r,X=>by
  rw [beg]
  split
  ·exact beg_sub r X
  ·split
   ·exact sub_add _ _
   ·split
    ·exact (sub_or_left _ _).trans (beg_sub r _)
    ·exact sub_or_left _ _
theorem beg_lt (hc:∀ i,s.fst i < 2 ^ n):∀ (l:List Int) (X:Nat),X < 2 ^ n→(beg n c s l X).1 < 2 ^ n
 | [],X,h=>h
 | x::r,X,h=>by
  rw [beg]
  split
  ·exact beg_lt hc r X h
  ·split
   ·exact Bs.add_lt h (by omega)
   ·split
    ·exact beg_lt hc r _ (or_lt h (hc _))
    ·exact or_lt h (hc _)
/-- What is there already, and what comes. -/
theorem beg_or:∀ (l:List Int) (X Y:Nat),beg n c s l (X|||Y)=(X|||(beg n c s l Y).1,(beg n c s l Y).2)
 | [],X,Y=>rfl
 | x::r,X,Y=>by
  rw [beg,beg]
  split
  ·exact beg_or r X Y
  ·split
   ·rw [Bs.add,Bs.add,Nat.or_assoc]
   ·split
    ·rw [Nat.or_assoc]; exact beg_or r X _
    ·rw [Nat.or_assoc]
theorem beg_zero (l:List Int) (X:Nat):beg n c s l X=(X|||(beg n c s l 0).1,(beg n c s l 0).2):=by
 have:=beg_or (n:=n) (c:=c) (s:=s) l X 0
 rwa [Nat.or_zero] at this
end
/-- All the sets have terminals alone. -/
def Lt (n:Nat) (f:Nat→Nat):Prop:=∀ i,f i < 2 ^ n
theorem Lt.up {n:Nat} {f:Nat→Nat} (h:Lt n f) (i:Nat) {X:Nat} (hX:X < 2 ^ n):Lt n (up f i X):=fun j=>by
 unfold Q.up; split
 ·exact hX
 ·exact h j
section
variable {p:Plan}
theorem stp_lt {r:Prod} {s:St} (ch:Bool) (h:Lt (nT p) s.fst):Lt (nT p) (stp p r s ch).1.fst:=h.up _ (beg_lt h _ _ (h _))
theorem rGo_lt:∀ (rs:List Prod) (s:St) (ch:Bool),Lt (nT p) s.fst→Lt (nT p) (rGo p rs s ch).1.fst
 | [],_,_,h=>h
 | r::rs,s,ch,h=>rGo_lt rs _ _ (stp_lt ch h)
theorem stp_less (r:Prod) (s:St) (ch:Bool) (h:Lt (nT p) s.fst) (hl:r.left - nT p < nV p) :
  (stp p r s ch).1=s∧(stp p r s ch).2=ch∨(stp p r s ch).2=true∧weight (nV p) (fw (nT p) (stp p r s ch).1) < weight (nV p) (fw (nT p) s):=by
 have hq1:=beg_sub (n:=nT p) (c:=cnt p) (s:=s) r.right (s.fst (r.left - nT p))
 have hq2:=beg_lt (n:=nT p) (c:=cnt p) (s:=s) h r.right _ (h (r.left - nT p))
 unfold stp
 generalize beg (nT p) (cnt p) s r.right (s.fst (r.left - nT p))=q at hq1 hq2
 generalize r.left - nT p=k at hq1 hq2 hl
 by_cases hch:q.1=s.fst k∧(q.2&&!s.null k)=false
 ·left
  obtain ⟨h1,h2⟩:=hch
  have h3:up s.fst k q.1=s.fst:=by
   funext j; unfold Q.up; split
   ·rename_i e; rw [e,h1]
   ·rfl
  have h4:up s.null k (s.null k||q.2)=s.null:=by
   funext j; unfold Q.up; split
   ·rename_i e
    rw [e]
    revert h2
    cases q.2<;>cases s.null k<;>simp
   ·rfl
  rw [h3,h4]
  refine ⟨rfl,?_⟩
  simp only [h2,Bool.or_false]
  simp [h1]
 ·right
  refine ⟨?_,?_⟩
  ·show (ch||decide (q.1≠s.fst k)||(q.2&&!s.null k))=true
   by_cases h1:q.1=s.fst k
   ·have:(q.2&&!s.null k)=true:=by
     cases hb:(q.2&&!s.null k) with
     | true=>rfl
     | false=>exact absurd ⟨h1,hb⟩ hch
    rw [this,Bool.or_true]
   ·have:decide (q.1≠s.fst k)=true:=by simpa using h1
    rw [this,Bool.or_true,Bool.true_or]
  ·have h5:wt (fw (nT p) (⟨up s.null k (s.null k||q.2),up s.fst k q.1⟩:St) k) < wt (fw (nT p) s k):=by
    have h6:=mu_mono hq1 hq2
    show wt ((mu (nT p) (up s.fst k q.1 k)+(if up s.null k (s.null k||q.2) k=true then 0 else 1):Nat):Int) < wt ((mu (nT p) (s.fst k)+(if s.null k=true then 0 else 1):Nat):Int)
    rw [Q.up_same,Q.up_same,wt_nat,wt_nat]
    by_cases h1:q.1=s.fst k
    ·have:(q.2&&!s.null k)=true:=by
      cases hb:(q.2&&!s.null k) with
      | true=>rfl
      | false=>exact absurd ⟨h1,hb⟩ hch
     simp only [Bool.and_eq_true,Bool.not_eq_true'] at this
     rw [this.1,this.2]
     simp; omega
    ·have h7:=mu_sup hq1 hq2 h1
     cases s.null k<;>cases q.2<;>simp<;>omega
   refine (weight_le (nV p) _ _ fun i _=>?_).2 ⟨k,hl,h5⟩
   by_cases hi:i=k
   ·subst hi; exact Nat.le_of_lt h5
   ·show wt ((mu (nT p) (up s.fst k q.1 i)+(if up s.null k (s.null k||q.2) i=true then 0 else 1):Nat):Int)≤wt ((mu (nT p) (s.fst i)+(if s.null i=true then 0 else 1):Nat):Int)
    rw [Q.up_ne _ _ hi,Q.up_ne _ _ hi]
    exact Nat.le_refl _
theorem rGo_less:∀ (rs:List Prod) (s:St) (ch:Bool),Lt (nT p) s.fst→(∀ r ∈ rs,r.left - nT p < nV p) →
  (rGo p rs s ch).1=s∧(rGo p rs s ch).2=ch∨(rGo p rs s ch).2=true∧weight (nV p) (fw (nT p) (rGo p rs s ch).1) < weight (nV p) (fw (nT p) s)
 | [],s,ch,_,_=>.inl ⟨rfl,rfl⟩
 | r::rs,s,ch,h,hl=>by
  rw [rGo]
  have h1:=stp_less r s ch h (hl r (by simp))
  have h2:=rGo_less rs (stp p r s ch).1 (stp p r s ch).2 (stp_lt ch h) (fun x hx=>hl x (by simp [hx]))
  rcases h1 with ⟨e1,e2⟩ | ⟨e1,e2⟩
  ·rw [e1,e2] at h2 ⊢; exact h2
  ·right
   rcases h2 with ⟨f1,f2⟩ | ⟨f1,f2⟩
   ·exact ⟨by rw [f2,e1],by rw [f1]; exact e2⟩
   ·exact ⟨f1,by omega⟩
theorem left_in (h:OK p):∀ r ∈ p.rules,r.left - nT p < nV p:=fun r hr=>by have:=h.left r hr; unfold nT nV; omega
theorem bGo_lt {s:St} (hs:Lt (nT p) s.fst) (l:Nat):∀ (r:List Int) (fo:Nat→Nat) (ch:Bool),Lt (nT p) fo→Lt (nT p) (bGo p s l r fo ch).1
 | [],_,_,h=>h
 | x::r,fo,ch,h=>by
  rw [bGo]
  split
  ·exact bGo_lt hs l r fo ch h
  ·refine bGo_lt hs l r _ _ (h.up _ ?_)
   have:=beg_lt (n:=nT p) (c:=cnt p) (s:=s) hs r _ (h (x.toNat - nT p))
   split
   ·exact or_lt this (h _)
   ·exact this
theorem bRu_lt {s:St} (hs:Lt (nT p) s.fst):∀ (rs:List Prod) (fo:Nat→Nat) (ch:Bool),Lt (nT p) fo→Lt (nT p) (bRu p s rs fo ch).1
 | [],_,_,h=>h
 | r::rs,fo,ch,h=>by rw [bRu]; exact bRu_lt hs rs _ _ (bGo_lt hs _ _ _ _ h)
theorem bGo_less {s:St} (hs:Lt (nT p) s.fst) (l:Nat):∀ (r:List Int) (fo:Nat→Nat) (ch:Bool),Lt (nT p) fo→(∀ x ∈ r,x.toNat - nT p < nV p) →
  (bGo p s l r fo ch).1=fo∧(bGo p s l r fo ch).2=ch∨(bGo p s l r fo ch).2=true∧weight (nV p) (ow (nT p) (bGo p s l r fo ch).1) < weight (nV p) (ow (nT p) fo)
 | [],fo,ch,_,_=>.inl ⟨rfl,rfl⟩
 | x::r,fo,ch,h,hr=>by
  rw [bGo]
  split
  ·exact bGo_less hs l r fo ch h (fun y hy=>hr y (by simp [hy]))
  ·have q1:=beg_sub (n:=nT p) (c:=cnt p) (s:=s) r (fo (x.toNat - nT p))
   have q2:=beg_lt (n:=nT p) (c:=cnt p) (s:=s) hs r _ (h (x.toNat - nT p))
   have hk:=hr x (by simp)
   generalize beg (nT p) (cnt p) s r (fo (x.toNat - nT p))=q at q1 q2
   simp only
   obtain ⟨X,hX⟩:∃ X,X=(if q.2=true then q.1|||fo l else q.1):=⟨_,rfl⟩
   have x1:Sub (fo (x.toNat - nT p)) X:=by rw [hX]; split; exact q1.trans (sub_or_left _ _); exact q1
   have x2:X < 2 ^ nT p:=by rw [hX]; split; exact or_lt q2 (h _); exact q2
   rw [← hX]
   generalize x.toNat - nT p=k at hk x1
   have h2:=bGo_less hs l r (up fo k X) (ch||decide (X≠fo k)) (h.up k x2) (fun y hy=>hr y (by simp [hy]))
   by_cases he:X=fo k
   ·have e1:up fo k X=fo:=by
     funext j; unfold Q.up; split
     ·rename_i e; rw [e,he]
     ·rfl
    have e2:(ch||decide (X≠fo k))=ch:=by simp [he]
    rw [e1,e2] at h2 ⊢
    exact h2
   ·have e2:(ch||decide (X≠fo k))=true:=by simp [he]
    have e3:weight (nV p) (ow (nT p) (up fo k X)) < weight (nV p) (ow (nT p) fo):=by
     have h5:wt (ow (nT p) (up fo k X) k) < wt (ow (nT p) fo k):=by
      show wt ((mu (nT p) (up fo k X k):Nat):Int) < wt ((mu (nT p) (fo k):Nat):Int)
      have:=mu_sup x1 x2 he
      rw [Q.up_same,wt_nat,wt_nat]; exact this
     refine (weight_le (nV p) _ _ fun i _=>?_).2 ⟨k,hk,h5⟩
     by_cases hi:i=k
     ·subst hi; exact Nat.le_of_lt h5
     ·show wt ((mu (nT p) (up fo k X i):Nat):Int)≤wt ((mu (nT p) (fo i):Nat):Int)
      rw [Q.up_ne _ _ hi]
      exact Nat.le_refl _
    rw [e2] at h2 ⊢
    right
    rcases h2 with ⟨f1,f2⟩ | ⟨f1,f2⟩
    ·exact ⟨f2,by rw [f1]; exact e3⟩
    ·exact ⟨f1,by omega⟩
theorem bRu_less {s:St} (hs:Lt (nT p) s.fst):∀ (rs:List Prod) (fo:Nat→Nat) (ch:Bool),Lt (nT p) fo→(∀ r ∈ rs,∀ x ∈ r.right,x.toNat - nT p < nV p) →
  (bRu p s rs fo ch).1=fo∧(bRu p s rs fo ch).2=ch∨(bRu p s rs fo ch).2=true∧weight (nV p) (ow (nT p) (bRu p s rs fo ch).1) < weight (nV p) (ow (nT p) fo)
 | [],fo,ch,_,_=>.inl ⟨rfl,rfl⟩
 | r::rs,fo,ch,h,hr=>by
  rw [bRu]
  have h1:=bGo_less hs (r.left - nT p) r.right fo ch h (hr r (by simp))
  have h2:=bRu_less hs rs (bGo p s (r.left - nT p) r.right fo ch).1 (bGo p s (r.left - nT p) r.right fo ch).2 (bGo_lt hs _ _ _ _ h) (fun x hx=>hr x (by simp [hx]))
  rcases h1 with ⟨e1,e2⟩ | ⟨e1,e2⟩
  ·rw [e1,e2] at h2 ⊢; exact h2
  ·right
   rcases h2 with ⟨f1,f2⟩ | ⟨f1,f2⟩
   ·exact ⟨by rw [f2,e1],by rw [f1]; exact e2⟩
   ·exact ⟨f1,by omega⟩
theorem right_in (h:OK p):∀ r ∈ p.rules,∀ x ∈ r.right,x.toNat - nT p < nV p:=fun r hr x hx=>by have:=h.right r hr x hx; unfold nT nV; omega
end
end Fi
end Go.Proofs.YtjbggogbnckllaaDoor
end
section
set_option maxRecDepth 100000
namespace Go.Proofs.YtjbggogbnckllaaDoor
set_option linter.unusedVariables false
set_option linter.unusedSimpArgs false
namespace Fi
open Pl (Plan Prod)
open Q (up OK cnt mu weight wt bw run)
section
variable {p:Plan}
/-- A rule has nothing to give. -/
def Cl (p:Plan) (s:St) (r:Prod):Prop:=(beg (nT p) (cnt p) s r.right (s.fst (r.left - nT p))).1=s.fst (r.left - nT p)∧((beg (nT p) (cnt p) s r.right (s.fst (r.left - nT p))).2=true→s.null (r.left - nT p)=true)
theorem stp_mono (r:Prod) (s:St):(stp p r s true).2=true:=by
 unfold stp; simp
theorem rGo_true:∀ (rs:List Prod) (s:St),(rGo p rs s true).2=true
 | [],_=>rfl
 | r::rs,s=>by rw [rGo,stp_mono]; exact rGo_true rs _
theorem stp_idle {r:Prod} {s:St} (h:(stp p r s false).2=false):Cl p s r:=by
 have h':(false||decide ((beg (nT p) (cnt p) s r.right (s.fst (r.left - nT p))).1≠s.fst (r.left - nT p))||((beg (nT p) (cnt p) s r.right (s.fst (r.left - nT p))).2&&!s.null (r.left - nT p)))=false:=h
 unfold Cl
 generalize beg (nT p) (cnt p) s r.right (s.fst (r.left - nT p))=q at h' ⊢
 rw [Bool.false_or,Bool.or_eq_false_iff] at h'
 obtain ⟨h1,h2⟩:=h'
 refine ⟨by simpa using h1,fun h3=>?_⟩
 rw [h3] at h2
 simpa using h2
theorem stp_same {r:Prod} {s:St} (h:Cl p s r) (ch:Bool):stp p r s ch=(s,ch):=by
 unfold Cl at h
 unfold stp
 generalize beg (nT p) (cnt p) s r.right (s.fst (r.left - nT p))=q at h
 obtain ⟨h1,h2⟩:=h
 generalize r.left - nT p=k at h1 h2
 have h3:up s.fst k q.1=s.fst:=by
  funext j; unfold Q.up; split
  ·rename_i e; rw [e,h1]
  ·rfl
 have h5:(q.2&&!s.null k)=false:=by
  cases hq:q.2 with
  | false=>rfl
  | true=>rw [h2 hq]; rfl
 have h4:up s.null k (s.null k||q.2)=s.null:=by
  funext j; unfold Q.up; split
  ·rename_i e
   rw [e]
   cases hq:q.2 with
   | false=>simp
   | true=>rw [h2 hq]; rfl
  ·rfl
 rw [h3,h4,h5]
 simp [h1]
theorem rGo_idle:∀ (rs:List Prod) (s:St),(rGo p rs s false).2=false→∀ r ∈ rs,Cl p s r
 | [],_,_=>fun r hr=>nomatch hr
 | r::rs,s,h=>by
  rw [rGo] at h
  cases hc:(stp p r s false).2 with
  | true=>rw [hc,rGo_true] at h; cases h
  | false =>
   have hi:=stp_idle hc
   rw [stp_same hi] at h
   intro x hx
   rcases List.mem_cons.1 hx with rfl | hx
   ·exact hi
   ·exact rGo_idle rs s h x hx
theorem rGo_inv (I:St→Prop):∀ (rs:List Prod) (s:St) (ch:Bool),(∀ r ∈ rs,∀ s ch,I s→I (stp p r s ch).1)→I s→I (rGo p rs s ch).1
 | [],_,_,_,h=>h
 | r::rs,s,ch,hI,h=>by
  rw [rGo]
  exact rGo_inv I rs _ _ (fun x hx=>hI x (by simp [hx])) (hI r (by simp) s ch h)
theorem fs_inv (I:St→Prop) (h0:I s0) (hI:∀ r ∈ p.rules,∀ s ch,I s→I (stp p r s ch).1):I (fs p).1 :=
 Q.run_inv I (fun s hs=>rGo_inv I p.rules s false hI hs) _ _ h0
theorem fs_lt:Lt (nT p) (fs p).1.fst:=fs_inv (fun s=>Lt (nT p) s.fst) (fun i=>Nat.two_pow_pos _) (fun r _ s ch h=>stp_lt ch h)
theorem round_less (h:OK p) (s:St) (hs:Lt (nT p) s.fst) (hc:(rGo p p.rules s false).2=true):weight (nV p) (fw (nT p) (rGo p p.rules s false).1) < weight (nV p) (fw (nT p) s):=by
 rcases rGo_less p.rules s false hs (left_in h) with ⟨_,e⟩ | ⟨_,e⟩
 ·rw [e] at hc; cases hc
 ·exact e
theorem round_same (s:St) (hc:(rGo p p.rules s false).2=false):(rGo p p.rules s false).1=s:=by
 have:∀ (rs:List Prod) (s:St),(∀ r ∈ rs,Cl p s r)→(rGo p rs s false).1=s:=by
  intro rs
  induction rs with
  | nil=>intro s _; rfl
  | cons r rs ih =>
   intro s h
   rw [rGo,stp_same (h r (by simp))]
   exact ih s (fun x hx=>h x (by simp [hx]))
 exact this _ _ (rGo_idle _ _ hc)
theorem fs_closed (h:OK p):∀ r ∈ p.rules,Cl p (fs p).1 r:=by
 refine rGo_idle p.rules (fs p).1 ?_
 exact (Q.run_last (step:=fun s=>rGo p p.rules s false) (fun s=>Lt (nT p) s.fst) (fun s=>weight (nV p) (fw (nT p) s)) (fun s hs=>rGo_lt _ _ _ hs) (fun s hs hc=>round_less h s hs hc) (fun s hc=>round_same s hc) (fF p) s0 (fun i=>Nat.two_pow_pos _) (Nat.lt_succ_self _)).1
theorem fs_rounds:1≤(fs p).2:=by
 unfold fs fF
 rw [Q.run]
 split<;>omega
/-- The facts hold what a rule's right side begins with. -/
theorem fs_has (h:OK p) {r:Prod} (hr:r ∈ p.rules):Sub (beg (nT p) (cnt p) (fs p).1 r.right 0).1 ((fs p).1.fst (r.left - nT p))∧((beg (nT p) (cnt p) (fs p).1 r.right 0).2=true→(fs p).1.null (r.left - nT p)=true):=by
 obtain ⟨h1,h2⟩:=fs_closed h r hr
 rw [beg_zero] at h1 h2
 refine ⟨?_,h2⟩
 have h3:(fs p).1.fst (r.left - nT p)|||(beg (nT p) (cnt p) (fs p).1 r.right 0).1=(fs p).1.fst (r.left - nT p):=h1
 have:=sub_or_right ((fs p).1.fst (r.left - nT p)) (beg (nT p) (cnt p) (fs p).1 r.right 0).1
 rwa [h3] at this
/-- In a right side: what comes behind. -/
def Beh (p:Plan) (s:St) (l:Nat) (fo:Nat→Nat) (r:List Int):Prop:=∀ pre x post,r=pre++x::post→(nT p:Int)≤x→Sub (beg (nT p) (cnt p) s post 0).1 (fo (x.toNat - nT p))∧((beg (nT p) (cnt p) s post 0).2=true→Sub (fo l) (fo (x.toNat - nT p)))
theorem bGo_true {s:St} {l:Nat}:∀ (r:List Int) (fo:Nat→Nat),(bGo p s l r fo true).2=true
 | [],_=>rfl
 | x::r,fo=>by
  rw [bGo]
  split
  ·exact bGo_true r fo
  ·simp only [Bool.true_or]
   exact bGo_true r _
theorem bGo_idle {s:St} {l:Nat}:∀ (r:List Int) (fo:Nat→Nat),(bGo p s l r fo false).2=false→Beh p s l fo r∧(bGo p s l r fo false).1=fo
 | [],fo,_=>⟨fun pre x post e=>(by cases pre<;>cases e),rfl⟩
 | x::r,fo,h=>by
  rw [bGo] at h ⊢
  split at h
  ·rename_i hx
   obtain ⟨h1,h2⟩:=bGo_idle r fo h
   rw [if_pos hx]
   refine ⟨fun pre y post e hy=>?_,h2⟩
   cases pre with
   | nil=>simp only [List.nil_append,List.cons.injEq] at e; omega
   | cons z pre =>
    simp only [List.cons_append,List.cons.injEq] at e
    exact h1 pre y post e.2 hy
  ·rename_i hx
   rw [if_neg hx]
   have hz:=beg_zero (n:=nT p) (c:=cnt p) (s:=s) r (fo (x.toNat - nT p))
   simp only at h ⊢
   generalize beg (nT p) (cnt p) s r (fo (x.toNat - nT p))=q at h hz
   obtain ⟨X,hX⟩:∃ X,X=(if q.2=true then q.1|||fo l else q.1):=⟨_,rfl⟩
   rw [← hX] at h ⊢
   by_cases he:X=fo (x.toNat - nT p)
   ·have e1:up fo (x.toNat - nT p) X=fo:=by
     funext j; unfold Q.up; split
     ·rename_i e; rw [e,he]
     ·rfl
    have e2:(false||decide (X≠fo (x.toNat - nT p)))=false:=by simp [he]
    rw [e1,e2] at h ⊢
    obtain ⟨h1,h2⟩:=bGo_idle r fo h
    refine ⟨fun pre y post e hy=>?_,h2⟩
    cases pre with
    | nil =>
     simp only [List.nil_append,List.cons.injEq] at e
     obtain ⟨rfl,rfl⟩:=e
     have hq1:Sub (beg (nT p) (cnt p) s r 0).1 q.1:=by rw [hz]; exact sub_or_right _ _
     have hq2:(beg (nT p) (cnt p) s r 0).2=q.2:=by rw [hz]
     rw [← he,hX,hq2]
     split
     ·exact ⟨hq1.trans (sub_or_left _ _),fun _=>sub_or_right _ _⟩
     ·rename_i hn
      exact ⟨hq1,fun hh=>absurd hh hn⟩
    | cons z pre =>
     simp only [List.cons_append,List.cons.injEq] at e
     exact h1 pre y post e.2 hy
   ·have e2:(false||decide (X≠fo (x.toNat - nT p)))=true:=by simp [he]
    rw [e2,bGo_true] at h
    cases h
theorem bRu_true {s:St}:∀ (rs:List Prod) (fo:Nat→Nat),(bRu p s rs fo true).2=true
 | [],_=>rfl
 | r::rs,fo=>by rw [bRu,bGo_true]; exact bRu_true rs _
theorem bRu_idle {s:St}:∀ (rs:List Prod) (fo:Nat→Nat),(bRu p s rs fo false).2=false→(∀ r ∈ rs,Beh p s (r.left - nT p) fo r.right)∧(bRu p s rs fo false).1=fo
 | [],_,_=>⟨fun r hr=>(nomatch hr),rfl⟩
 | r::rs,fo,h=>by
  rw [bRu] at h ⊢
  cases hc:(bGo p s (r.left - nT p) r.right fo false).2 with
  | true=>rw [hc,bRu_true] at h; cases h
  | false =>
   obtain ⟨h1,h2⟩:=bGo_idle _ _ hc
   rw [hc,h2] at h
   rw [h2]
   obtain ⟨h3,h4⟩:=bRu_idle rs fo h
   refine ⟨fun x hx=>?_,h4⟩
   rcases List.mem_cons.1 hx with rfl | hx
   ·exact h1
   ·exact h3 x hx
theorem bGo_inv {s:St} (I:(Nat→Nat)→Prop) (l:Nat):∀ (r:List Int) (fo:Nat→Nat) (ch:Bool),(∀ pre x post,r=pre++x::post→(nT p:Int)≤x→∀ fo,I fo→I (up fo (x.toNat - nT p) (if (beg (nT p) (cnt p) s post (fo (x.toNat - nT p))).2=true then (beg (nT p) (cnt p) s post (fo (x.toNat - nT p))).1|||fo l else (beg (nT p) (cnt p) s post (fo (x.toNat - nT p))).1)))→I fo→I (bGo p s l r fo ch).1
 | [],_,_,_,h=>h
 | x::r,fo,ch,hI,h=>by
  rw [bGo]
  split
  ·exact bGo_inv I l r fo ch (fun pre y post e=>hI (x::pre) y post (by rw [e]; rfl)) h
  ·refine bGo_inv I l r _ _ (fun pre y post e=>hI (x::pre) y post (by rw [e]; rfl)) ?_
   exact hI [] x r rfl (by omega) fo h
theorem bRu_inv {s:St} (I:(Nat→Nat)→Prop):∀ (rs:List Prod) (fo:Nat→Nat) (ch:Bool),(∀ rl ∈ rs,∀ pre x post,rl.right=pre++x::post→(nT p:Int)≤x→∀ fo,I fo→I (up fo (x.toNat - nT p) (if (beg (nT p) (cnt p) s post (fo (x.toNat - nT p))).2=true then (beg (nT p) (cnt p) s post (fo (x.toNat - nT p))).1|||fo (rl.left - nT p) else (beg (nT p) (cnt p) s post (fo (x.toNat - nT p))).1)))→I fo→I (bRu p s rs fo ch).1
 | [],_,_,_,h=>h
 | r::rs,fo,ch,hI,h=>by
  rw [bRu]
  exact bRu_inv I rs _ _ (fun x hx=>hI x (by simp [hx])) (bGo_inv I _ _ _ _ (hI r (by simp)) h)
theorem fol_inv (I:(Nat→Nat)→Prop) (h0:I (o0 p)) (hI:∀ rl ∈ p.rules,∀ pre x post,rl.right=pre++x::post→(nT p:Int)≤x→∀ fo,I fo→I (up fo (x.toNat - nT p) (if (beg (nT p) (cnt p) (fs p).1 post (fo (x.toNat - nT p))).2=true then (beg (nT p) (cnt p) (fs p).1 post (fo (x.toNat - nT p))).1|||fo (rl.left - nT p) else (beg (nT p) (cnt p) (fs p).1 post (fo (x.toNat - nT p))).1))):I (fol p) :=
 Q.run_inv I (fun fo hf=>bRu_inv I p.rules fo false hI hf) _ _ h0
theorem o0_lt (h:OK p):Lt (nT p) (o0 p):=fun i=>by
 unfold o0
 split
 ·exact Nat.one_lt_two_pow (by have:=h.n; unfold nT; omega)
 ·exact Nat.two_pow_pos _
theorem fol_lt (h:OK p):Lt (nT p) (fol p):=Q.run_inv (fun fo=>Lt (nT p) fo) (fun fo hf=>bRu_lt fs_lt p.rules fo false hf) _ _ (o0_lt h)
theorem behind_less (h:OK p) (fo:Nat→Nat) (hf:Lt (nT p) fo) (hc:(bRu p (fs p).1 p.rules fo false).2=true):weight (nV p) (ow (nT p) (bRu p (fs p).1 p.rules fo false).1) < weight (nV p) (ow (nT p) fo):=by
 rcases bRu_less fs_lt p.rules fo false hf (right_in h) with ⟨_,e⟩ | ⟨_,e⟩
 ·rw [e] at hc; cases hc
 ·exact e
theorem fol_closed (h:OK p):∀ r ∈ p.rules,Beh p (fs p).1 (r.left - nT p) (fol p) r.right:=by
 refine (bRu_idle p.rules (fol p) ?_).1
 exact (Q.run_last (step:=fun fo=>bRu p (fs p).1 p.rules fo false) (fun fo=>Lt (nT p) fo) (fun fo=>weight (nV p) (ow (nT p) fo)) (fun fo hf=>bRu_lt fs_lt p.rules fo false hf) (fun fo hf hc=>behind_less h fo hf hc) (fun fo hc=>(bRu_idle p.rules fo hc).2) (oF p) (o0 p) (o0_lt h) (Nat.lt_succ_self _)).1
theorem fol_end:(fol p p.vars.length).testBit 0=true:=by
 refine fol_inv (fun fo=>(fo p.vars.length).testBit 0=true) (by unfold o0; rw [if_pos rfl]; rfl) ?_
 intro rl hr pre x post e hx fo hf
 by_cases hk:p.vars.length=x.toNat - nT p
 ·rw [hk] at hf ⊢
  rw [Q.up_same]
  have:=beg_sub (n:=nT p) (c:=cnt p) (s:=(fs p).1) post (fo (x.toNat - nT p)) 0 hf
  split
  ·exact sub_or_left _ _ 0 this
  ·exact this
 ·rw [Q.up_ne _ _ hk]; exact hf
/-- A start's sentences end with the end. -/
theorem fol_start (h:OK p) {r:Prod} (hr:r ∈ p.rules) {x:Int} (e:r.right=[x]) (hx:(nT p:Int)≤x) (hl:r.left - nT p=p.vars.length):(fol p (x.toNat - nT p)).testBit 0=true:=by
 have:=(fol_closed h r hr [] x [] (by rw [e]; rfl) hx).2 rfl
 rw [hl] at this
 exact this 0 fol_end
end
/-- More is no less. -/
theorem beg_mono {n c:Nat} {s t:St} (hn:∀ i,s.null i=true→t.null i=true) (hf:∀ i,Sub (s.fst i) (t.fst i)):∀ (l:List Int) (X Y:Nat),Sub X Y→Sub (beg n c s l X).1 (beg n c t l Y).1∧((beg n c s l X).2=true→(beg n c t l Y).2=true)
 | [],X,Y,h=>⟨h,fun _=>rfl⟩
 | x::r,X,Y,h=>by
  rw [beg,beg]
  split
  ·exact beg_mono hn hf r X Y h
  ·split
   ·exact ⟨or_sub (h.trans (sub_or_left _ _)) (sub_or_right _ _),fun hh=>hh⟩
   ·have hu:Sub (X|||s.fst (x.toNat - n)) (Y|||t.fst (x.toNat - n)):=or_sub (h.trans (sub_or_left _ _)) ((hf _).trans (sub_or_right _ _))
    cases hs:s.null (x.toNat - n) with
    | true =>
     rw [if_pos rfl,if_pos (hn _ hs)]
     exact beg_mono hn hf r _ _ hu
    | false =>
     rw [if_neg (by simp)]
     split
     ·exact ⟨hu.trans (beg_sub _ _),fun hh=>by cases hh⟩
     ·exact ⟨hu,fun hh=>by cases hh⟩
theorem fs_mono {p q:Plan} (hq:OK q) (h1:p.terms=q.terms) (h2:p.vars=q.vars) (h:∀ r ∈ p.rules,r ∈ q.rules):∀ i,((fs p).1.null i=true→(fs q).1.null i=true)∧Sub ((fs p).1.fst i) ((fs q).1.fst i):=by
 have hn:nT p=nT q:=by unfold nT; rw [h1]
 have hc:cnt p=cnt q:=by unfold cnt; rw [h1,h2]
 refine fs_inv (fun s=>∀ i,(s.null i=true→(fs q).1.null i=true)∧Sub (s.fst i) ((fs q).1.fst i)) (fun i=>⟨fun hh=>(by cases hh),fun j hj=>(by simp [s0] at hj)⟩) ?_
 intro r hr s ch hs i
 obtain ⟨b1,b2⟩:=beg_mono (n:=nT p) (c:=cnt p) (s:=s) (t:=(fs q).1) (fun i=>(hs i).1) (fun i=>(hs i).2) r.right (s.fst (r.left - nT p)) ((fs q).1.fst (r.left - nT p)) (hs _).2
 obtain ⟨c1,c2⟩:=fs_closed hq r (h r hr)
 rw [← hn,← hc] at c1 c2
 rw [c1] at b1
 show (up s.null (r.left - nT p) _ i=true→_)∧Sub (up s.fst (r.left - nT p) _ i) _
 by_cases hi:i=r.left - nT p
 ·subst hi
  rw [Q.up_same,Q.up_same]
  refine ⟨fun hh=>?_,b1⟩
  rw [Bool.or_eq_true] at hh
  rcases hh with hh | hh
  ·exact (hs _).1 hh
  ·exact c2 (b2 hh)
 ·rw [Q.up_ne _ _ hi,Q.up_ne _ _ hi]
  exact hs i
theorem fol_mono {p q:Plan} (hq:OK q) (h1:p.terms=q.terms) (h2:p.vars=q.vars) (h:∀ r ∈ p.rules,r ∈ q.rules):∀ i,Sub (fol p i) (fol q i):=by
 have hn:nT p=nT q:=by unfold nT; rw [h1]
 have hc:cnt p=cnt q:=by unfold cnt; rw [h1,h2]
 have hm:=fs_mono hq h1 h2 h
 refine fol_inv (fun fo=>∀ i,Sub (fo i) (fol q i)) (fun i j hj=>?_) ?_
 ·unfold o0 at hj
  split at hj
  ·rename_i hi
   rw [hi,h2]
   have:j=0:=by
    cases j with
    | zero=>rfl
    | succ j=>simp [Nat.testBit_succ] at hj
   rw [this]; exact fol_end
  ·simp at hj
 ·intro rl hr pre x post e hx fo hf i
  by_cases hi:i=x.toNat - nT p
  ·subst hi
   rw [Q.up_same]
   obtain ⟨c1,c2⟩:=fol_closed hq rl (h rl hr) pre x post e (by rw [← hn]; exact hx)
   rw [← hn,← hc] at c1 c2
   obtain ⟨b1,b2⟩:=beg_mono (n:=nT p) (c:=cnt p) (s:=(fs p).1) (t:=(fs q).1) (fun i=>(hm i).1) (fun i=>(hm i).2) post 0 0 (Sub.refl _)
   rw [beg_zero post (fo (x.toNat - nT p))]
   have hb:Sub (fo (x.toNat - nT p)|||(beg (nT p) (cnt p) (fs p).1 post 0).1) (fol q (x.toNat - nT p)):=or_sub (hf _) (b1.trans c1)
   split
   ·rename_i hh
    exact or_sub hb ((hf _).trans (c2 (b2 hh)))
   ·exact hb
  ·rw [Q.up_ne _ _ hi]; exact hf i
/-- All of a nullable sequence is nullable. -/
theorem beg_null {n c:Nat} {s:St}:∀ (l:List Int) (X:Nat),(∀ x ∈ l,0≤x∧x < (c:Int))→((beg n c s l X).2=true↔∀ x ∈ l,(n:Int)≤x∧s.null (x.toNat - n)=true)
 | [],X,_=>by simp [beg]
 | x::r,X,h=>by
  have hx:=h x (by simp)
  have ih:=fun Y=>beg_null r Y (fun y hy=>h y (by simp [hy])) (n:=n) (s:=s)
  rw [beg,if_neg (by omega)]
  split
  ·rename_i hl
   simp only [Bool.false_eq_true,false_iff]
   intro hh
   have:=(hh x (by simp)).1
   omega
  ·rename_i hl
   cases hs:s.null (x.toNat - n) with
   | true =>
    rw [if_pos rfl,ih]
    simp only [List.mem_cons,forall_eq_or_imp]
    exact ⟨fun hh=>⟨⟨by omega,hs⟩,hh⟩,fun hh=>hh.2⟩
   | false =>
    rw [if_neg (by simp)]
    simp only [Bool.false_eq_true,false_iff]
    intro hh
    have:=(hh x (by simp)).2
    rw [hs] at this; cases this
section
variable {p:Plan}
theorem rb (h:OK p) {r:Prod} (hr:r ∈ p.rules):∀ x ∈ r.right,0≤x∧x < ((cnt p:Nat):Int):=fun x hx=>by have:=h.right r hr x hx; unfold cnt; omega
/-- Nullable: the shortest sentence is nothing. -/
theorem null_zero (h:OK p):∀ i,(fs p).1.null i=true→(Q.lens p).long (nT p+i)=0:=by
 refine fs_inv (fun s=>∀ i,s.null i=true→(Q.lens p).long (nT p+i)=0) (fun i hi=>by cases hi) ?_
 intro r hr s ch hs i hi
 have hl:=(h.left r hr).1
 have hi':up s.null (r.left - nT p) (s.null (r.left - nT p)||(beg (nT p) (cnt p) s r.right (s.fst (r.left - nT p))).2) i=true:=hi
 by_cases he:i=r.left - nT p
 ·subst he
  rw [Q.up_same,Bool.or_eq_true] at hi'
  rcases hi' with hi' | hi'
  ·exact hs _ hi'
  ·have ha:=(beg_null r.right _ (rb h hr)).1 hi'
   have hz:∀ x ∈ r.right,(Q.lens p).long x.toNat=0:=fun x hx=>by
    have:=ha x hx
    have h2:=hs _ this.2
    rwa [show nT p+(x.toNat - nT p)=x.toNat by omega] at h2
   have hsum:∀ l:List Int,(∀ x ∈ l,(Q.lens p).long x.toNat=0)→Q.sumF (Q.lens p).long l 0=0:=by
    intro l
    induction l with
    | nil=>intro _; rfl
    | cons y l ih =>
     intro hl
     rw [Q.sumF,hl y (by simp),if_neg (by omega)]
     exact ih (fun x hx=>hl x (by simp [hx]))
   have h0:=hsum r.right hz
   have hid:=Q.lens_idle h r hr
   unfold Q.Idle at hid
   rw [h0] at hid
   rw [show nT p+(r.left - nT p)=r.left by unfold nT at *; omega]
   omega
 ·rw [Q.up_ne _ _ he] at hi'; exact hs i hi'
theorem zero_null (h:OK p):∀ i,nT p≤i→(Q.lens p).long i=0→(fs p).1.null (i - nT p)=true:=by
 have:=Q.lens_inv (p:=p) (fun s=>(∀ i,i < nT p→s.long i=1)∧∀ i,nT p≤i→s.long i=0→(fs p).1.null (i - nT p)=true) ?_ ?_
 ·exact this.2
 ·refine ⟨fun i hi=>?_,fun i hi h0=>?_⟩
  ·show (if i < p.terms.length then (1:Int) else -1)=1
   rw [if_pos (show i < p.terms.length from hi)]
  ·have h0':(if i < p.terms.length then (1:Int) else -1)=0:=h0
   split at h0'<;>omega
 ·rintro r hr k s ⟨hs1,hs2⟩ h0 _
  have hl:=(h.left r hr).1
  refine ⟨fun i hi=>?_,fun i hi hz=>?_⟩
  ·show up s.long r.left _ i=1
   rw [Q.up_ne _ _ (by unfold nT at hi; omega)]; exact hs1 i hi
  ·have hz':up s.long r.left (Q.sumF s.long r.right 0) i=0:=hz
   by_cases he:i=r.left
   ·subst he
    rw [Q.up_same] at hz'
    have hall:=Q.sumF_all r.right 0 h0
    have hex:=Q.sumF_exact r.right 0 (Int.le_refl _) h0 (by rw [hz']; unfold Q.M; omega)
    have hge:=(Q.sum_ge r.right hall).2
    refine (fs_has h hr).2 ((beg_null r.right 0 (rb h hr)).2 fun x hx=>?_)
    have hx0:s.long x.toNat=0:=by have:=hge x hx; have:=hall x hx; omega
    have hxn:nT p≤x.toNat:=by
     rcases Nat.lt_or_ge x.toNat (nT p) with hlt | hge
     ·have:=hs1 _ hlt; omega
     ·exact hge
    exact ⟨by have:=(rb h hr x hx).1; omega,hs2 _ hxn hx0⟩
   ·rw [Q.up_ne _ _ he] at hz'; exact hs2 i hi hz'
/-- Who makes a sentence is nullable, or begins with something. -/
theorem der_some (h:OK p):∀ i,nT p≤i→0≤(Q.lens p).long i→(fs p).1.null (i - nT p)=true∨(fs p).1.fst (i - nT p)≠0:=by
 refine Q.lens_inv (p:=p) (fun s=>∀ i,nT p≤i→0≤s.long i→(fs p).1.null (i - nT p)=true∨(fs p).1.fst (i - nT p)≠0) ?_ ?_
 ·intro i hi h0
  have h0':0≤(if i < p.terms.length then (1:Int) else -1):=h0
  rw [if_neg (by unfold nT at hi; omega)] at h0'
  omega
 ·intro r hr k s hs h0 _ i hi hz
  have hz':0≤up s.long r.left (Q.sumF s.long r.right 0) i:=hz
  by_cases he:i=r.left
  ·subst he
   have hall:=Q.sumF_all r.right 0 h0
   have key:∀ (l:List Int) (X:Nat),(∀ x ∈ l,0≤x∧x < ((cnt p:Nat):Int))→(∀ x ∈ l,0≤s.long x.toNat)→(beg (nT p) (cnt p) (fs p).1 l X).2=true∨(beg (nT p) (cnt p) (fs p).1 l X).1≠0:=by
    intro l
    induction l with
    | nil=>intro X _ _; exact .inl rfl
    | cons y l ih =>
     intro X hb hp
     have hy:=hb y (by simp)
     have hy2:=hp y (by simp)
     rw [beg,if_neg (by omega)]
     split
     ·right
      intro e
      have e':Bs.add X y.toNat=0:=e
      have:=Bs.add_bit X y.toNat y.toNat
      rw [e'] at this
      simp at this
     ·rename_i hn
      split
      ·exact ih _ (fun x hx=>hb x (by simp [hx])) (fun x hx=>hp x (by simp [hx]))
      ·rename_i hnn
       right
       intro e
       have e':X|||(fs p).1.fst (y.toNat - nT p)=0:=e
       rcases hs y.toNat (by omega) hy2 with h3 | h3
       ·exact hnn h3
       ·refine h3 (Sub.antisymm (fun j hj=>?_) (fun j hj=>by simp at hj))
        have:=sub_or_right X _ j hj
        rwa [e'] at this
   obtain ⟨f1,f2⟩:=fs_has h hr
   rcases key r.right 0 (rb h hr) hall with h3 | h3
   ·exact .inl (f2 h3)
   ·right
    intro e
    rw [e] at f1
    exact h3 (Sub.antisymm f1 (fun j hj=>by simp at hj))
  ·rw [Q.up_ne _ _ he] at hz'; exact hs i hi hz'
/-- What shortest sentences begin with is in the facts. -/
theorem sent_first (h:OK p) {tm:Nat→Nat} (T:∀ i,p.terms.length≤i→0≤(Q.lens p).long i→(Q.lens p).long i < Q.M→∃ (k:Nat) (r:Prod),(Q.lens p).by_ i=(k:Int)∧p.rules[k]?=some r∧r.left=i∧(∀ x ∈ r.right,0≤(Q.lens p).long x.toNat∧(Q.lens p).long x.toNat≤(Q.lens p).long i∧tm x.toNat < tm i)∧(Q.lens p).long i=(r.right.map fun x=>(Q.lens p).long x.toNat).sum) :
  ∀ (f i:Nat),nT p≤i→tm i < f→0≤(Q.lens p).long i→(Q.lens p).long i < Q.M→∀ a l,Q.sentF p f i=a::l→((fs p).1.fst (i - nT p)).testBit a.toNat=true
 | 0,_,_,h,_,_=>absurd h (Nat.not_lt_zero _)
 | f+1,i,hi,hf,h0,hM=>by
  intro a l e
  rw [Q.sentF] at e
  split at e
  ·cases e
  ·rename_i hz
   rw [if_neg (by unfold nT at hi; omega)] at e
   obtain ⟨k,r,e1,e2,e3,e4,e5⟩:=T i hi h0 hM
   rw [e1,Int.toNat_natCast,e2] at e
   have e':(r.right.flatMap fun x=>Q.sentF p f x.toNat)=a::l:=e
   have hr:=List.mem_of_getElem? e2
   have key:∀ (m:List Int) (X:Nat),(∀ x ∈ m,0≤x∧x < ((cnt p:Nat):Int))→(∀ x ∈ m,0≤(Q.lens p).long x.toNat∧(Q.lens p).long x.toNat≤(Q.lens p).long i∧tm x.toNat < tm i)→∀ l,(m.flatMap fun x=>Q.sentF p f x.toNat)=a::l→((beg (nT p) (cnt p) (fs p).1 m X).1).testBit a.toNat=true:=by
    intro m
    induction m with
    | nil=>intro X _ _ l e; cases e
    | cons y m ih =>
     intro X hb hm l e
     have hy:=hb y (by simp)
     obtain ⟨y1,y2,y3⟩:=hm y (by simp)
     rw [List.flatMap_cons] at e
     obtain ⟨s1,s2⟩:=Q.sentF_len h T f y.toNat (by omega) y1 (by omega)
     rw [beg,if_neg (by omega)]
     cases hs:Q.sentF p f y.toNat with
     | nil =>
      rw [hs,List.nil_append] at e
      rw [hs] at s1
      have hy0:(Q.lens p).long y.toNat=0:=by rw [← s1]; rfl
      have hyn:nT p≤y.toNat:=by
       rcases Nat.lt_or_ge y.toNat (nT p) with hlt | hge
       ·have:=Q.lens_term h _ hlt; omega
       ·exact hge
      rw [if_neg (by omega),if_pos (zero_null h _ hyn hy0)]
      exact ih _ (fun x hx=>hb x (by simp [hx])) (fun x hx=>hm x (by simp [hx])) l e
     | cons b t =>
      rw [hs,List.cons_append,List.cons.injEq] at e
      obtain ⟨rfl,_⟩:=e
      by_cases hyn:y < (nT p:Int)
      ·rw [if_pos hyn]
       have hb2:b=y:=by
        cases f with
        | zero=>cases hs
        | succ f =>
         rw [Q.sentF] at hs
         split at hs
         ·cases hs
         ·rw [if_pos (by unfold nT at hyn; omega)] at hs
          have:=(List.cons.inj hs).1
          omega
       rw [hb2]
       show (Bs.add X y.toNat).testBit y.toNat=true
       rw [Bs.add_bit]; simp
      ·rw [if_neg hyn]
       have hbit:=sent_first h T f y.toNat (by omega) (by omega) y1 (by omega) b t hs
       split
       ·exact beg_sub _ _ _ (sub_or_right _ _ _ hbit)
       ·exact sub_or_right _ _ _ hbit
   have:=key r.right 0 (rb h hr) e4 l e'
   rw [← e3]
   exact (fs_has h hr).1 _ this
/-- The end is never begun with. -/
theorem fst_end (hr:∀ r ∈ p.rules,∀ x ∈ r.right,1≤x):∀ i,((fs p).1.fst i).testBit 0=false:=by
 refine fs_inv (fun s=>∀ i,(s.fst i).testBit 0=false) (fun i=>by simp [s0]) ?_
 intro r hm s ch hs i
 have key:∀ (m:List Int) (X:Nat),(∀ x ∈ m,1≤x)→X.testBit 0=false→((beg (nT p) (cnt p) s m X).1).testBit 0=false:=by
  intro m
  induction m with
  | nil=>intro X _ h; exact h
  | cons y m ih =>
   intro X hy hX
   have hy1:=hy y (by simp)
   rw [beg]
   split
   ·exact ih X (fun x hx=>hy x (by simp [hx])) hX
   ·split
    ·show (Bs.add X y.toNat).testBit 0=false
     rw [Bs.add_bit,hX]
     have:decide (y.toNat=0)=false:=by simp; omega
     rw [this]; rfl
    ·have h2:(X|||s.fst (y.toNat - nT p)).testBit 0=false:=by rw [Nat.testBit_or,hX,hs]; rfl
     split
     ·exact ih _ (fun x hx=>hy x (by simp [hx])) h2
     ·exact h2
 show (up s.fst (r.left - nT p) _ i).testBit 0=false
 by_cases hi:i=r.left - nT p
 ·subst hi; rw [Q.up_same]; exact key _ _ (hr r hm) (hs _)
 ·rw [Q.up_ne _ _ hi]; exact hs i
end
/-- Of two sequences. -/
theorem beg_append {n c:Nat} {s:St}:∀ (l r:List Int) (X:Nat),beg n c s (l++r) X=if (beg n c s l X).2=true then beg n c s r (beg n c s l X).1 else ((beg n c s l X).1,false)
 | [],r,X=>by simp [beg]
 | x::l,r,X=>by
  rw [List.cons_append,beg,beg]
  split
  ·exact beg_append l r X
  ·split
   ·simp
   ·split
    ·exact beg_append l r _
    ·simp
end Fi
end Go.Proofs.YtjbggogbnckllaaDoor
end
