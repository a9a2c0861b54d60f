/-
  The reference's sentence, by lists that are put in place of variables, is the sentence (plain).
-/
import Derived.Test.YtjbggogbnckllaaDoorZy
import Derived.Test.YtjbggogbnckllaaDoorAl
namespace Go.Proofs.YtjbggogbnckllaaDoor
set_option linter.unusedVariables false
set_option linter.unusedSimpArgs false
namespace Q
open Pl (Plan Prod)
def Tm (p:Plan) (tm:Nat→Nat):Prop:=∀ i,p.terms.length≤i→0≤(lens p).long i→(lens p).long i < M→∃ (k:Nat) (r:Prod),(lens p).by_ i=(k:Int)∧p.rules[k]?=some r∧r.left=i∧(∀ x ∈ r.right,0≤(lens p).long x.toNat∧(lens p).long x.toNat≤(lens p).long i∧tm x.toNat < tm i)∧(lens p).long i=(r.right.map fun x=>(lens p).long x.toNat).sum
/-- What a symbol is put as. -/
def rgt (p:Plan) (x:Int):List Int:=(p.rules[((lens p).by_ x.toNat).toNat]?).elim [] fun r=>r.right
def pos (p:Plan) (l:List Int):List Int:=l.filter fun y=>decide (0 < (lens p).long y.toNat)
def exp1 (p:Plan) (x:Int):List Int:=if x < (p.terms.length:Int) then [x] else pos p (rgt p x)
def expL (p:Plan) (l:List Int):List Int:=l.flatMap (exp1 p)
def anyV (p:Plan) (l:List Int):Bool:=l.any fun x=>decide ((p.terms.length:Int)≤x)
def snt (p:Plan):Nat→List Int→List Int
 | 0,l=>l
 | f+1,l=>if anyV p l=true then snt p f (expL p l) else expL p l
/-- A list on the way: places that are some, lengths that are. -/
structure Way (p:Plan) (tm:Nat→Nat) (k:Nat) (L:Int) (l:List Int):Prop where
 s:∀ x ∈ l,0≤x∧x < ((cnt p:Nat):Int)∧0≤(lens p).long x.toNat
 v:∀ x ∈ l,(p.terms.length:Int)≤x→tm x.toNat < k
 sum:(l.map fun x=>(lens p).long x.toNat).sum=L
section
variable {p:Plan} {tm:Nat→Nat}
theorem expL_term {l:List Int} (h:anyV p l=false):expL p l=l:=by
 induction l with
 | nil=>rfl
 | cons x l ih =>
  unfold anyV at h
  rw [List.any_cons,Bool.or_eq_false_iff] at h
  have hx:x < (p.terms.length:Int):=by have:=h.1; simp at this; omega
  unfold expL at ih ⊢
  rw [List.flatMap_cons,ih h.2]
  unfold exp1
  rw [if_pos hx]; rfl
theorem pos_sum {l:List Int} (h:∀ x ∈ l,0≤(lens p).long x.toNat):((pos p l).map fun x=>(lens p).long x.toNat).sum=(l.map fun x=>(lens p).long x.toNat).sum:=by
 induction l with
 | nil=>rfl
 | cons x l ih =>
  have h1:=h x (by simp)
  have h2:=ih (fun y hy=>h y (by simp [hy]))
  unfold pos at h2 ⊢
  rw [List.filter_cons,List.map_cons,List.sum_cons]
  split
  ·rw [List.map_cons,List.sum_cons,h2]
  ·rename_i hx
   have:¬ 0 < (lens p).long x.toNat:=by simpa using hx
   rw [h2]; omega
theorem pos_flat {l:List Int} {f:Nat} (h:∀ x ∈ l,0≤(lens p).long x.toNat):((pos p l).flatMap fun y=>sentF p f y.toNat)=l.flatMap fun y=>sentF p f y.toNat:=by
 induction l with
 | nil=>rfl
 | cons x l ih =>
  have h1:=h x (by simp)
  have h2:=ih (fun y hy=>h y (by simp [hy]))
  unfold pos at h2 ⊢
  rw [List.filter_cons,List.flatMap_cons]
  split
  ·rw [List.flatMap_cons,h2]
  ·rename_i hx
   have h0:(lens p).long x.toNat=0:=by
    have:¬ 0 < (lens p).long x.toNat:=by simpa using hx
    omega
   rw [h2]
   have:sentF p f x.toNat=[]:=by
    cases f with
    | zero=>rfl
    | succ f=>rw [sentF,if_pos h0]
   rw [this]; rfl
/-- One symbol: what it is put as is on the way. -/
theorem exp1_way (h:OK p) (T:Tm p tm) (ht:∀ i,tm i < lenF p) {k:Nat} {x:Int} (hx:0≤x∧x < ((cnt p:Nat):Int)∧0≤(lens p).long x.toNat) (hM:(lens p).long x.toNat < M) (hk:(p.terms.length:Int)≤x→tm x.toNat < k+1):Way p tm k ((lens p).long x.toNat) (exp1 p x)∧((exp1 p x).flatMap fun y=>sentF p (lenF p) y.toNat)=sentF p (lenF p) x.toNat:=by
 unfold exp1
 by_cases hl:x < (p.terms.length:Int)
 ·rw [if_pos hl]
  refine ⟨⟨fun y hy=>by rw [List.mem_singleton.1 hy]; exact hx,fun y hy h2=>?_,by simp⟩,by simp⟩
  rw [List.mem_singleton.1 hy] at h2; omega
 ·rw [if_neg hl]
  obtain ⟨j,r,e1,e2,e3,e4,e5⟩:=T x.toNat (by omega) hx.2.2 hM
  have hr:rgt p x=r.right:=by unfold rgt; rw [e1,Int.toNat_natCast,e2]; rfl
  have hm:=List.mem_of_getElem? e2
  rw [hr]
  have hall:∀ y ∈ r.right,0≤(lens p).long y.toNat:=fun y hy=>(e4 y hy).1
  refine ⟨⟨fun y hy=>?_,fun y hy h2=>?_,?_⟩,?_⟩
  ·have hy':=(List.mem_filter.1 hy).1
   have:=h.right r hm y hy'
   exact ⟨this.1,by unfold cnt; omega,hall y hy'⟩
  ·have hy':=(List.mem_filter.1 hy).1
   have:=(e4 y hy').2.2
   have:=hk (by omega)
   omega
  ·rw [pos_sum hall,e5]
  ·rw [pos_flat hall]
   have hf:lenF p=(lenF p - 1)+1:=by unfold lenF; omega
   have hx1:=ht x.toNat
   have key:∀ l:List Int,(∀ y ∈ l,y ∈ r.right)→(l.flatMap fun y=>sentF p (lenF p) y.toNat)=l.flatMap fun y=>sentF p (lenF p - 1) y.toNat:=by
    intro l
    induction l with
    | nil=>intro _; rfl
    | cons y l ih =>
     intro hl
     obtain ⟨y1,y2,y3⟩:=e4 y (hl y (by simp))
     rw [List.flatMap_cons,List.flatMap_cons,ih (fun z hz=>hl z (by simp [hz])),sentF_more h T (lenF p) (lenF p - 1) y.toNat (ht _) (by omega) y1 (by omega)]
   rw [key r.right (fun _ hy=>hy)]
   conv=>rhs; rw [hf,sentF]
   by_cases hz:(lens p).long x.toNat=0
   ·rw [if_pos hz]
    have hz2:∀ y ∈ r.right,sentF p (lenF p - 1) y.toNat=[]:=fun y hy=>by
     have h0:(lens p).long y.toNat=0:=by have:=e4 y hy; omega
     generalize lenF p - 1=f
     cases f with
     | zero=>rfl
     | succ f=>rw [sentF,if_pos h0]
    exact List.flatMap_eq_nil_iff.2 hz2
   ·rw [if_neg hz,if_neg (by omega),e1,Int.toNat_natCast,e2]
    rfl
/-- A list: what is put is on the way, and makes the same. -/
theorem expL_way (h:OK p) (T:Tm p tm) (ht:∀ i,tm i < lenF p) {k:Nat}:∀ (l:List Int) (L:Int),Way p tm (k+1) L l→L < M→Way p tm k L (expL p l)∧((expL p l).flatMap fun y=>sentF p (lenF p) y.toNat)=l.flatMap fun y=>sentF p (lenF p) y.toNat
 | [],L,w,_=>⟨⟨fun _ hy=>(nomatch hy),fun _ hy=>(nomatch hy),w.sum⟩,rfl⟩
 | x::l,L,w,hL=>by
  have hx:=w.s x (by simp)
  have hs:=w.sum
  rw [List.map_cons,List.sum_cons] at hs
  have hge:=(sum_ge l (fun y hy=>(w.s y (by simp [hy])).2.2)).1
  obtain ⟨a1,a2⟩:=exp1_way h T ht (k:=k) hx (by omega) (w.v x (by simp))
  obtain ⟨b1,b2⟩:=expL_way h T ht l (L - (lens p).long x.toNat) ⟨fun y hy=>w.s y (by simp [hy]),fun y hy=>w.v y (by simp [hy]),by omega⟩ (by omega)
  have e:expL p (x::l)=exp1 p x++expL p l:=by unfold expL; rw [List.flatMap_cons]
  rw [e]
  refine ⟨⟨fun y hy=>?_,fun y hy=>?_,?_⟩,?_⟩
  ·rcases List.mem_append.1 hy with hy | hy
   ·exact a1.s y hy
   ·exact b1.s y hy
  ·rcases List.mem_append.1 hy with hy | hy
   ·exact a1.v y hy
   ·exact b1.v y hy
  ·rw [List.map_append,List.sum_append,a1.sum,b1.sum]; omega
  ·rw [List.flatMap_append,a2,b2,List.flatMap_cons]
/-- All terminals: it makes itself. -/
theorem term_flat (h:OK p) {l:List Int} (hs:∀ x ∈ l,0≤x) (ha:anyV p l=false):(l.flatMap fun y=>sentF p (lenF p) y.toNat)=l:=by
 induction l with
 | nil=>rfl
 | cons x l ih =>
  unfold anyV at ha
  rw [List.any_cons,Bool.or_eq_false_iff] at ha
  have hx:x < (p.terms.length:Int):=by have:=ha.1; simp at this; omega
  have h0:=hs x (by simp)
  rw [List.flatMap_cons,ih (fun y hy=>hs y (by simp [hy])) ha.2]
  have hf:lenF p=(lenF p - 1)+1:=by unfold lenF; omega
  rw [hf,sentF,if_neg (by rw [lens_term h x.toNat (by omega)]; omega),if_pos (by omega)]
  simp; omega
end
/-- Each list on the way is short. -/
theorem way_len {p:Plan} {tm:Nat→Nat} {k:Nat} {L:Int} {l:List Int} (w:Way p tm k L l) (hp:∀ x ∈ l,1≤(lens p).long x.toNat):(l.length:Int)≤L:=by
 rw [← w.sum]
 have:∀ l:List Int,(∀ x ∈ l,1≤(lens p).long x.toNat)→(l.length:Int)≤(l.map fun x=>(lens p).long x.toNat).sum:=by
  intro l
  induction l with
  | nil=>intro _; simp
  | cons x l ih =>
   intro hl
   have h1:=hl x (by simp)
   have h2:=ih (fun y hy=>hl y (by simp [hy]))
   rw [List.map_cons,List.sum_cons,List.length_cons]
   push_cast; omega
 exact this l hp
end Q
end Go.Proofs.YtjbggogbnckllaaDoor
