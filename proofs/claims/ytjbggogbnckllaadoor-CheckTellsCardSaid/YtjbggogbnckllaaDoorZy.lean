/-
  Two laws beside those of the earlier texts.
-/
import Derived.Test.YtjbggogbnckllaaDoorZz
set_option maxRecDepth 100000
namespace Go.Proofs.YtjbggogbnckllaaDoor
open Go.RowKit
set_option linter.unusedVariables false
theorem Arr.ints {w:World} {g n:Nat} {f:Nat→Int} (h:Arr w g n f):Ints w (some ⟨g,0,none⟩) ((List.range n).map f):=by
 intro i hi
 have hi':i < n:=by simpa using hi
 refine ⟨g,0,rfl,?_⟩
 rw [Nat.zero_add,h.cell hi']
 simp
/-- A made row of numbers. -/
theorem ints_new (w:World) (l:List Int):Ints (w.alloc (.cells (intV l).toArray 3)) (some ⟨w.heap.size,0,none⟩) l:=by
 intro i hi
 refine ⟨_,_,rfl,?_⟩
 rw [cell_of_row _ _ _ _ _ _ (heap_alloc_new w _),Nat.zero_add]
 simp [intV,hi]
namespace Q
open Pl (Plan Prod)
/-- A fuel that is enough is enough. -/
theorem sentF_more {p:Plan} (h:OK p) {tm:Nat→Nat} (T:∀ i,p.terms.length≤i→0≤(lens p).long i→(lens p).long i < M→∃ (k:Nat) (r:Prod),(lens p).by_ i=(k:Int)∧p.rules[k]?=some r∧r.left=i∧(∀ x ∈ r.right,0≤(lens p).long x.toNat∧(lens p).long x.toNat≤(lens p).long i∧tm x.toNat < tm i)∧(lens p).long i=(r.right.map fun x=>(lens p).long x.toNat).sum) :
  ∀ (f g i:Nat),tm i < f→tm i < g→0≤(lens p).long i→(lens p).long i < M→sentF p f i=sentF p g i
 | 0,_,_,h,_,_,_=>absurd h (Nat.not_lt_zero _)
 | _+1,0,_,_,h,_,_=>absurd h (Nat.not_lt_zero _)
 | f+1,g+1,i,hf,hg,h0,hM=>by
  rw [sentF,sentF]
  by_cases hz:(lens p).long i=0
  ·rw [if_pos hz,if_pos hz]
  ·rw [if_neg hz,if_neg hz]
   by_cases ht:i < p.terms.length
   ·rw [if_pos ht,if_pos ht]
   ·rw [if_neg ht,if_neg ht]
    obtain ⟨k,r,e1,e2,e3,e4,e5⟩:=T i (by omega) h0 hM
    rw [e1,Int.toNat_natCast,e2]
    show (r.right.flatMap fun x=>sentF p f x.toNat)=r.right.flatMap fun x=>sentF p g x.toNat
    have key:∀ l:List Int,(∀ x ∈ l,x ∈ r.right)→(l.flatMap fun x=>sentF p f x.toNat)=l.flatMap fun x=>sentF p g x.toNat:=by
     intro l
     induction l with
     | nil=>intro _; rfl
     | cons y l ih =>
      intro hl
      obtain ⟨y1,y2,y3⟩:=e4 y (hl y (by simp))
      rw [List.flatMap_cons,List.flatMap_cons,sentF_more h T f g y.toNat (by omega) (by omega) y1 (by omega),ih (fun x hx=>hl x (by simp [hx]))]
    exact key r.right (fun _ hx=>hx)
end Q
end Go.Proofs.YtjbggogbnckllaaDoor
