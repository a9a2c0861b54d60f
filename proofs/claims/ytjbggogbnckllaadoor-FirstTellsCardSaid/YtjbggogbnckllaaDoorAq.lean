/-
  Chapter 10, plain: what symbols begin with and what follows them, in rounds; the rounds end.
  Chapter 10, plain: the facts are closed under the rules; more rules make no less; who is nullable, who begins with nothing, what sentences begin with.
-/
import Derived.Test.YtjbggogbnckllaaDoorAl
section
set_option maxRecDepth 100000
namespace Go.Proofs.YtjbggogbnckllaaDoor
set_option linter.unusedVariables false
set_option linter.unusedSimpArgs false
namespace Fi
open Pl (Plan Prod)
open Q (up OK cnt mu weight wt bw run)
structure St where
 null:Nat→Bool
 fst:Nat→Nat
/-- What a sequence begins with, put to X; is it nullable. -/
def beg (n c:Nat) (s:St):List Int→Nat→Nat×Bool
 | [],X=>(X,true)
 | x::r,X =>
  if x < 0∨(c:Int)≤x then beg n c s r X
  else if x < (n:Int) then (Bs.add X x.toNat,false)
  else if s.null (x.toNat - n) then beg n c s r (X|||s.fst (x.toNat - n)) else (X|||s.fst (x.toNat - n),false)
def nT (p:Plan):Nat:=p.terms.length
def nV (p:Plan):Nat:=p.vars.length+1
/-- One rule. -/
def stp (p:Plan) (r:Prod) (s:St) (ch:Bool):St×Bool :=
 (⟨up s.null (r.left - nT p) (s.null (r.left - nT p)||(beg (nT p) (cnt p) s r.right (s.fst (r.left - nT p))).2),up s.fst (r.left - nT p) (beg (nT p) (cnt p) s r.right (s.fst (r.left - nT p))).1⟩,
  ch||decide ((beg (nT p) (cnt p) s r.right (s.fst (r.left - nT p))).1≠s.fst (r.left - nT p))||((beg (nT p) (cnt p) s r.right (s.fst (r.left - nT p))).2&&!s.null (r.left - nT p)))
def rGo (p:Plan):List Prod→St→Bool→St×Bool
 | [],s,ch=>(s,ch)
 | r::rs,s,ch=>rGo p rs (stp p r s ch).1 (stp p r s ch).2
def s0:St:=⟨fun _=>false,fun _=>0⟩
def fw (n:Nat) (s:St):Nat→Int:=fun i=>((mu n (s.fst i)+(if s.null i then 0 else 1):Nat):Int)
def fF (p:Plan):Nat:=weight (nV p) (fw (nT p) s0)+1
def fs (p:Plan):St×Nat:=run (fun s=>rGo p p.rules s false) (fF p) s0
/-- What comes behind, in one right side of a rule of the left side l. -/
def bGo (p:Plan) (s:St) (l:Nat):List Int→(Nat→Nat)→Bool→(Nat→Nat)×Bool
 | [],fo,ch=>(fo,ch)
 | x::r,fo,ch =>
  if x < (nT p:Int) then bGo p s l r fo ch
  else
   let q:=beg (nT p) (cnt p) s r (fo (x.toNat - nT p))
   let X:=if q.2 then q.1|||fo l else q.1
   bGo p s l r (up fo (x.toNat - nT p) X) (ch||decide (X≠fo (x.toNat - nT p)))
def bRu (p:Plan) (s:St):List Prod→(Nat→Nat)→Bool→(Nat→Nat)×Bool
 | [],fo,ch=>(fo,ch)
 | r::rs,fo,ch=>bRu p s rs (bGo p s (r.left - nT p) r.right fo ch).1 (bGo p s (r.left - nT p) r.right fo ch).2
def o0 (p:Plan):Nat→Nat:=fun i=>if i=p.vars.length then 1 else 0
def ow (n:Nat) (fo:Nat→Nat):Nat→Int:=fun i=>(mu n (fo i):Nat)
def oF (p:Plan):Nat:=weight (nV p) (ow (nT p) (o0 p))+1
def fol (p:Plan):Nat→Nat:=(run (fun fo=>bRu p (fs p).1 p.rules fo false) (oF p) (o0 p)).1
/-- More bits, less to do. -/
theorem weight_le:∀ (c:Nat) (f g:Nat→Int),(∀ i,i < c→wt (g i)≤wt (f i))→weight c g≤weight c f∧((∃ i,i < c∧wt (g i) < wt (f i))→weight c g < weight c f)
 | 0,_,_,_=>⟨Nat.le_refl _,fun ⟨_,h,_⟩=>absurd h (Nat.not_lt_zero _)⟩
 | c+1,f,g,h=>by
  obtain ⟨h1,h2⟩:=weight_le c f g (fun i hi=>h i (by omega))
  have h3:=h c (by omega)
  rw [Q.weight_succ,Q.weight_succ]
  refine ⟨by omega,fun ⟨i,hi,hl⟩=>?_⟩
  by_cases hic:i=c
  ·subst hic; omega
  ·have:=h2 ⟨i,by omega,hl⟩; omega
theorem wt_nat (n:Nat):wt (n:Int)=n:=by unfold wt; rw [if_neg (by omega)]; simp
def Sub (X Y:Nat):Prop:=∀ j,X.testBit j=true→Y.testBit j=true
theorem Sub.refl (X:Nat):Sub X X:=fun _ h=>h
theorem Sub.trans {X Y Z:Nat} (h:Sub X Y) (k:Sub Y Z):Sub X Z:=fun j hj=>k j (h j hj)
theorem sub_or_left (X Y:Nat):Sub X (X|||Y):=fun j h=>by rw [Nat.testBit_or,h]; rfl
theorem or_sub {X Y Z:Nat} (h:Sub X Z) (k:Sub Y Z):Sub (X|||Y) Z:=fun j hj=>by
 rw [Nat.testBit_or,Bool.or_eq_true] at hj
 exact hj.elim (h j) (k j)
theorem sub_add (X i:Nat):Sub X (Bs.add X i):=fun j h=>by rw [Bs.add_bit,h]; rfl
theorem Sub.antisymm {X Y:Nat} (h:Sub X Y) (k:Sub Y X):X=Y:=Nat.eq_of_testBit_eq fun j=>by
 rw [Bool.eq_iff_iff]; exact ⟨h j,k j⟩
theorem or_of_sub {X Y:Nat} (h:Sub Y X):X|||Y=X:=Sub.antisymm (or_sub (Sub.refl _) h) (sub_or_left _ _)
theorem or_lt {X Y n:Nat} (h:X < 2 ^ n) (k:Y < 2 ^ n):X|||Y < 2 ^ n:=Nat.or_lt_two_pow h k
theorem mu_sup {n X Y:Nat} (hs:Sub X Y) (hY:Y < 2 ^ n) (hne:Y≠X):mu n Y < mu n X:=by
 unfold mu
 refine (weight_le n _ _ fun i _=>?_).2 ?_
 ·unfold bw
  by_cases hx:X.testBit i=true
  ·rw [if_pos hx,if_pos (hs i hx)]; exact Nat.le_refl _
  ·rw [if_neg hx]; split<;>simp [wt]
 ·have:∃ j,Y.testBit j=true∧X.testBit j=false:=by
   refine Classical.byContradiction fun hno=>hne (Sub.antisymm (fun j hj=>?_) hs)
   cases hx:X.testBit j with
   | true=>rfl
   | false=>exact absurd ⟨j,hj,hx⟩ hno
  obtain ⟨j,h1,h2⟩:=this
  refine ⟨j,?_,?_⟩
  ·rcases Nat.lt_or_ge j n with h | h
   ·exact h
   ·rw [Bs.bit_of_lt hY h] at h1; cases h1
  ·unfold bw; rw [h1,h2]; decide
theorem mu_mono {n X Y:Nat} (hs:Sub X Y) (hY:Y < 2 ^ n):mu n Y≤mu n X:=by
 by_cases h:Y=X
 ·rw [h]; exact Nat.le_refl _
 ·exact Nat.le_of_lt (mu_sup hs hY h)
section
variable {n c:Nat} {s:St}
theorem beg_sub:∀ (l:List Int) (X:Nat),Sub X (beg n c s l X).1
 | [],X=>Sub.refl _
 | x::r,X=>by
  rw [beg]
  split
  ·exact beg_sub r X
  ·split
   ·exact sub_add _ _
   ·split
    ·exact (sub_or_left _ _).trans (beg_sub r _)
    ·exact sub_or_left _ _
theorem beg_lt (hc:∀ i,s.fst i < 2 ^ n):∀ (l:List Int) (X:Nat),X < 2 ^ n→(beg n c s l X).1 < 2 ^ n
 | [],X,h=>h
 | x::r,X,h=>by
  rw [beg]
  split
  ·exact beg_lt hc r X h
  ·split
   ·exact Bs.add_lt h (by omega)
   ·split
    ·exact beg_lt hc r _ (or_lt h (hc _))
    ·exact or_lt h (hc _)
/-- What is there already, and what comes. -/
theorem beg_or:∀ (l:List Int) (X Y:Nat),beg n c s l (X|||Y)=(X|||(beg n c s l Y).1,(beg n c s l Y).2)
 | [],X,Y=>rfl
 | x::r,X,Y=>by
  rw [beg,beg]
  split
  ·exact beg_or r X Y
  ·split
   ·rw [Bs.add,Bs.add,Nat.or_assoc]
   ·split
    ·rw [Nat.or_assoc]; exact beg_or r X _
    ·rw [Nat.or_assoc]
theorem beg_zero (l:List Int) (X:Nat):beg n c s l X=(X|||(beg n c s l 0).1,(beg n c s l 0).2):=by
 have:=beg_or (n:=n) (c:=c) (s:=s) l X 0
 rwa [Nat.or_zero] at this
end
/-- All the sets have terminals alone. -/
def Lt (n:Nat) (f:Nat→Nat):Prop:=∀ i,f i < 2 ^ n
theorem Lt.up {n:Nat} {f:Nat→Nat} (h:Lt n f) (i:Nat) {X:Nat} (hX:X < 2 ^ n):Lt n (up f i X):=fun j=>by
 unfold Q.up; split
 ·exact hX
 ·exact h j
section
variable {p:Plan}
theorem stp_lt {r:Prod} {s:St} (ch:Bool) (h:Lt (nT p) s.fst):Lt (nT p) (stp p r s ch).1.fst:=h.up _ (beg_lt h _ _ (h _))
theorem rGo_lt:∀ (rs:List Prod) (s:St) (ch:Bool),Lt (nT p) s.fst→Lt (nT p) (rGo p rs s ch).1.fst
 | [],_,_,h=>h
 | r::rs,s,ch,h=>rGo_lt rs _ _ (stp_lt ch h)
theorem stp_less (r:Prod) (s:St) (ch:Bool) (h:Lt (nT p) s.fst) (hl:r.left - nT p < nV p) :
  (stp p r s ch).1=s∧(stp p r s ch).2=ch∨(stp p r s ch).2=true∧weight (nV p) (fw (nT p) (stp p r s ch).1) < weight (nV p) (fw (nT p) s):=by
 have hq1:=beg_sub (n:=nT p) (c:=cnt p) (s:=s) r.right (s.fst (r.left - nT p))
 have hq2:=beg_lt (n:=nT p) (c:=cnt p) (s:=s) h r.right _ (h (r.left - nT p))
 unfold stp
 generalize beg (nT p) (cnt p) s r.right (s.fst (r.left - nT p))=q at hq1 hq2
 generalize r.left - nT p=k at hq1 hq2 hl
 by_cases hch:q.1=s.fst k∧(q.2&&!s.null k)=false
 ·left
  obtain ⟨h1,h2⟩:=hch
  have h3:up s.fst k q.1=s.fst:=by
   funext j; unfold Q.up; split
   ·rename_i e; rw [e,h1]
   ·rfl
  have h4:up s.null k (s.null k||q.2)=s.null:=by
   funext j; unfold Q.up; split
   ·rename_i e
    rw [e]
    revert h2
    cases q.2<;>cases s.null k<;>simp
   ·rfl
  rw [h3,h4]
  refine ⟨rfl,?_⟩
  simp only [h2,Bool.or_false]
  simp [h1]
 ·right
  refine ⟨?_,?_⟩
  ·show (ch||decide (q.1≠s.fst k)||(q.2&&!s.null k))=true
   by_cases h1:q.1=s.fst k
   ·have:(q.2&&!s.null k)=true:=by
     cases hb:(q.2&&!s.null k) with
     | true=>rfl
     | false=>exact absurd ⟨h1,hb⟩ hch
    rw [this,Bool.or_true]
   ·have:decide (q.1≠s.fst k)=true:=by simpa using h1
    rw [this,Bool.or_true,Bool.true_or]
  ·have h5:wt (fw (nT p) (⟨up s.null k (s.null k||q.2),up s.fst k q.1⟩:St) k) < wt (fw (nT p) s k):=by
    have h6:=mu_mono hq1 hq2
    show wt ((mu (nT p) (up s.fst k q.1 k)+(if up s.null k (s.null k||q.2) k=true then 0 else 1):Nat):Int) < wt ((mu (nT p) (s.fst k)+(if s.null k=true then 0 else 1):Nat):Int)
    rw [Q.up_same,Q.up_same,wt_nat,wt_nat]
    by_cases h1:q.1=s.fst k
    ·have:(q.2&&!s.null k)=true:=by
      cases hb:(q.2&&!s.null k) with
      | true=>rfl
      | false=>exact absurd ⟨h1,hb⟩ hch
     simp only [Bool.and_eq_true,Bool.not_eq_true'] at this
     rw [this.1,this.2]
     simp; omega
    ·have h7:=mu_sup hq1 hq2 h1
     cases s.null k<;>cases q.2<;>simp<;>omega
   refine (weight_le (nV p) _ _ fun i _=>?_).2 ⟨k,hl,h5⟩
   by_cases hi:i=k
   ·subst hi; exact Nat.le_of_lt h5
   ·show wt ((mu (nT p) (up s.fst k q.1 i)+(if up s.null k (s.null k||q.2) i=true then 0 else 1):Nat):Int)≤wt ((mu (nT p) (s.fst i)+(if s.null i=true then 0 else 1):Nat):Int)
    rw [Q.up_ne _ _ hi,Q.up_ne _ _ hi]
    exact Nat.le_refl _
theorem rGo_less:∀ (rs:List Prod) (s:St) (ch:Bool),Lt (nT p) s.fst→(∀ r ∈ rs,r.left - nT p < nV p) →
  (rGo p rs s ch).1=s∧(rGo p rs s ch).2=ch∨(rGo p rs s ch).2=true∧weight (nV p) (fw (nT p) (rGo p rs s ch).1) < weight (nV p) (fw (nT p) s)
 | [],s,ch,_,_=>.inl ⟨rfl,rfl⟩
 | r::rs,s,ch,h,hl=>by
  rw [rGo]
  have h1:=stp_less r s ch h (hl r (by simp))
  have h2:=rGo_less rs (stp p r s ch).1 (stp p r s ch).2 (stp_lt ch h) (fun x hx=>hl x (by simp [hx]))
  rcases h1 with ⟨e1,e2⟩ | ⟨e1,e2⟩
  ·rw [e1,e2] at h2 ⊢; exact h2
  ·right
   rcases h2 with ⟨f1,f2⟩ | ⟨f1,f2⟩
   ·exact ⟨by rw [f2,e1],by rw [f1]; exact e2⟩
   ·exact ⟨f1,by omega⟩
theorem left_in (h:OK p):∀ r ∈ p.rules,r.left - nT p < nV p:=fun r hr=>by have:=h.left r hr; unfold nT nV; omega
theorem bGo_lt {s:St} (hs:Lt (nT p) s.fst) (l:Nat):∀ (r:List Int) (fo:Nat→Nat) (ch:Bool),Lt (nT p) fo→Lt (nT p) (bGo p s l r fo ch).1
 | [],_,_,h=>h
 | x::r,fo,ch,h=>by
  rw [bGo]
  split
  ·exact bGo_lt hs l r fo ch h
  ·refine bGo_lt hs l r _ _ (h.up _ ?_)
   have:=beg_lt (n:=nT p) (c:=cnt p) (s:=s) hs r _ (h (x.toNat - nT p))
   split
   ·exact or_lt this (h _)
   ·exact this
theorem bRu_lt {s:St} (hs:Lt (nT p) s.fst):∀ (rs:List Prod) (fo:Nat→Nat) (ch:Bool),Lt (nT p) fo→Lt (nT p) (bRu p s rs fo ch).1
 | [],_,_,h=>h
 | r::rs,fo,ch,h=>by rw [bRu]; exact bRu_lt hs rs _ _ (bGo_lt hs _ _ _ _ h)
theorem bGo_less {s:St} (hs:Lt (nT p) s.fst) (l:Nat):∀ (r:List Int) (fo:Nat→Nat) (ch:Bool),Lt (nT p) fo→(∀ x ∈ r,x.toNat - nT p < nV p) →
  (bGo p s l r fo ch).1=fo∧(bGo p s l r fo ch).2=ch∨(bGo p s l r fo ch).2=true∧weight (nV p) (ow (nT p) (bGo p s l r fo ch).1) < weight (nV p) (ow (nT p) fo)
 | [],fo,ch,_,_=>.inl ⟨rfl,rfl⟩
 | x::r,fo,ch,h,hr=>by
  rw [bGo]
  split
  ·exact bGo_less hs l r fo ch h (fun y hy=>hr y (by simp [hy]))
  ·have q1:=beg_sub (n:=nT p) (c:=cnt p) (s:=s) r (fo (x.toNat - nT p))
   have q2:=beg_lt (n:=nT p) (c:=cnt p) (s:=s) hs r _ (h (x.toNat - nT p))
   have hk:=hr x (by simp)
   generalize beg (nT p) (cnt p) s r (fo (x.toNat - nT p))=q at q1 q2
   simp only
   obtain ⟨X,hX⟩:∃ X,X=(if q.2=true then q.1|||fo l else q.1):=⟨_,rfl⟩
   have x1:Sub (fo (x.toNat - nT p)) X:=by rw [hX]; split; exact q1.trans (sub_or_left _ _); exact q1
   have x2:X < 2 ^ nT p:=by rw [hX]; split; exact or_lt q2 (h _); exact q2
   rw [← hX]
   generalize x.toNat - nT p=k at hk x1
   have h2:=bGo_less hs l r (up fo k X) (ch||decide (X≠fo k)) (h.up k x2) (fun y hy=>hr y (by simp [hy]))
   by_cases he:X=fo k
   ·have e1:up fo k X=fo:=by
     funext j; unfold Q.up; split
     ·rename_i e; rw [e,he]
     ·rfl
    have e2:(ch||decide (X≠fo k))=ch:=by simp [he]
    rw [e1,e2] at h2 ⊢
    exact h2
   ·have e2:(ch||decide (X≠fo k))=true:=by simp [he]
    have e3:weight (nV p) (ow (nT p) (up fo k X)) < weight (nV p) (ow (nT p) fo):=by
     have h5:wt (ow (nT p) (up fo k X) k) < wt (ow (nT p) fo k):=by
      show wt ((mu (nT p) (up fo k X k):Nat):Int) < wt ((mu (nT p) (fo k):Nat):Int)
      have:=mu_sup x1 x2 he
      rw [Q.up_same,wt_nat,wt_nat]; exact this
     refine (weight_le (nV p) _ _ fun i _=>?_).2 ⟨k,hk,h5⟩
     by_cases hi:i=k
     ·subst hi; exact Nat.le_of_lt h5
     ·show wt ((mu (nT p) (up fo k X i):Nat):Int)≤wt ((mu (nT p) (fo i):Nat):Int)
      rw [Q.up_ne _ _ hi]
      exact Nat.le_refl _
    rw [e2] at h2 ⊢
    right
    rcases h2 with ⟨f1,f2⟩ | ⟨f1,f2⟩
    ·exact ⟨f2,by rw [f1]; exact e3⟩
    ·exact ⟨f1,by omega⟩
theorem bRu_less {s:St} (hs:Lt (nT p) s.fst):∀ (rs:List Prod) (fo:Nat→Nat) (ch:Bool),Lt (nT p) fo→(∀ r ∈ rs,∀ x ∈ r.right,x.toNat - nT p < nV p) →
  (bRu p s rs fo ch).1=fo∧(bRu p s rs fo ch).2=ch∨(bRu p s rs fo ch).2=true∧weight (nV p) (ow (nT p) (bRu p s rs fo ch).1) < weight (nV p) (ow (nT p) fo)
 | [],fo,ch,_,_=>.inl ⟨rfl,rfl⟩
 | r::rs,fo,ch,h,hr=>by
  rw [bRu]
  have h1:=bGo_less hs (r.left - nT p) r.right fo ch h (hr r (by simp))
  have h2:=bRu_less hs rs (bGo p s (r.left - nT p) r.right fo ch).1 (bGo p s (r.left - nT p) r.right fo ch).2 (bGo_lt hs _ _ _ _ h) (fun x hx=>hr x (by simp [hx]))
  rcases h1 with ⟨e1,e2⟩ | ⟨e1,e2⟩
  ·rw [e1,e2] at h2 ⊢; exact h2
  ·right
   rcases h2 with ⟨f1,f2⟩ | ⟨f1,f2⟩
   ·exact ⟨by rw [f2,e1],by rw [f1]; exact e2⟩
   ·exact ⟨f1,by omega⟩
theorem right_in (h:OK p):∀ r ∈ p.rules,∀ x ∈ r.right,x.toNat - nT p < nV p:=fun r hr x hx=>by have:=h.right r hr x hx; unfold nT nV; omega
end
end Fi
end Go.Proofs.YtjbggogbnckllaaDoor
end
section
set_option maxRecDepth 100000
namespace Go.Proofs.YtjbggogbnckllaaDoor
set_option linter.unusedVariables false
set_option linter.unusedSimpArgs false
namespace Fi
open Pl (Plan Prod)
open Q (up OK cnt mu weight wt bw run)
section
variable {p:Plan}
/-- A rule has nothing to give. -/
def Cl (p:Plan) (s:St) (r:Prod):Prop:=(beg (nT p) (cnt p) s r.right (s.fst (r.left - nT p))).1=s.fst (r.left - nT p)∧((beg (nT p) (cnt p) s r.right (s.fst (r.left - nT p))).2=true→s.null (r.left - nT p)=true)
theorem rGo_inv (I:St→Prop):∀ (rs:List Prod) (s:St) (ch:Bool),(∀ r ∈ rs,∀ s ch,I s→I (stp p r s ch).1)→I s→I (rGo p rs s ch).1
 | [],_,_,_,h=>h
 | r::rs,s,ch,hI,h=>by
  rw [rGo]
  exact rGo_inv I rs _ _ (fun x hx=>hI x (by simp [hx])) (hI r (by simp) s ch h)
theorem fs_inv (I:St→Prop) (h0:I s0) (hI:∀ r ∈ p.rules,∀ s ch,I s→I (stp p r s ch).1):I (fs p).1 :=
 Q.run_inv I (fun s hs=>rGo_inv I p.rules s false hI hs) _ _ h0
theorem fs_lt:Lt (nT p) (fs p).1.fst:=fs_inv (fun s=>Lt (nT p) s.fst) (fun i=>Nat.two_pow_pos _) (fun r _ s ch h=>stp_lt ch h)
theorem round_less (h:OK p) (s:St) (hs:Lt (nT p) s.fst) (hc:(rGo p p.rules s false).2=true):weight (nV p) (fw (nT p) (rGo p p.rules s false).1) < weight (nV p) (fw (nT p) s):=by
 rcases rGo_less p.rules s false hs (left_in h) with ⟨_,e⟩ | ⟨_,e⟩
 ·rw [e] at hc; cases hc
 ·exact e
/-- In a right side: what comes behind. -/
def Beh (p:Plan) (s:St) (l:Nat) (fo:Nat→Nat) (r:List Int):Prop:=∀ pre x post,r=pre++x::post→(nT p:Int)≤x→Sub (beg (nT p) (cnt p) s post 0).1 (fo (x.toNat - nT p))∧((beg (nT p) (cnt p) s post 0).2=true→Sub (fo l) (fo (x.toNat - nT p)))
theorem o0_lt (h:OK p):Lt (nT p) (o0 p):=fun i=>by
 unfold o0
 split
 ·exact Nat.one_lt_two_pow (by have:=h.n; unfold nT; omega)
 ·exact Nat.two_pow_pos _
theorem behind_less (h:OK p) (fo:Nat→Nat) (hf:Lt (nT p) fo) (hc:(bRu p (fs p).1 p.rules fo false).2=true):weight (nV p) (ow (nT p) (bRu p (fs p).1 p.rules fo false).1) < weight (nV p) (ow (nT p) fo):=by
 rcases bRu_less fs_lt p.rules fo false hf (right_in h) with ⟨_,e⟩ | ⟨_,e⟩
 ·rw [e] at hc; cases hc
 ·exact e
end
section
variable {p:Plan}
theorem rb (h:OK p) {r:Prod} (hr:r ∈ p.rules):∀ x ∈ r.right,0≤x∧x < ((cnt p:Nat):Int):=fun x hx=>by have:=h.right r hr x hx; unfold cnt; omega
end
end Fi
end Go.Proofs.YtjbggogbnckllaaDoor
end
