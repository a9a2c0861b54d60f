/-
  What the law FirstSentences wants of the facts and of a plan that Of makes (plain).
-/
import Derived.Test.YtjbggogbnckllaaDoorAx
import Derived.Test.YtjbggogbnckllaaDoorRb
namespace Go.Proofs.YtjbggogbnckllaaDoor
open Go.RowKit
set_option linter.unusedVariables false
set_option linter.unusedSimpArgs false
theorem sym_pos {t vs:List ByteArray} {s:ByteArray} (hs:s≠Pl.endS) (h:¬ Pl.sym (Pl.endS::t) vs s < 0):1≤Pl.sym (Pl.endS::t) vs s:=by
 unfold Pl.sym at h ⊢
 rcases placeI_range (Pl.endS::t) s with ⟨_,h2⟩ | ⟨k,hk,_,h2,h3⟩
 ·rw [h2] at h ⊢
  rcases placeI_range vs s with ⟨_,h4⟩ | ⟨k,hk,_,h4,_⟩
  ·rw [h4] at h; simp at h
  ·rw [h4]; simp only [List.length_cons]; omega
 ·rw [h2]
  cases k with
  | zero=>simp at h3; exact absurd h3.symm hs
  | succ k=>simp only; omega
theorem rt_pos {t vs:List ByteArray} {lv:List Nat}:∀ {r:List ByteArray} {l:List Int} {k:Nat} {R:List Int×Nat},Pl.rt (Pl.endS::t) vs lv r l k=.ok R→(∀ s ∈ r,s≠Pl.endS)→(∀ x ∈ l,1≤x)→∀ x ∈ R.1,1≤x
 | [],l,k,R,h,_,hl=>by rw [Pl.rt] at h; cases h; exact hl
 | s::r,l,k,R,h,hs,hl=>by
  rw [Pl.rt] at h
  split at h
  ·cases h
  ·rename_i hn
   refine rt_pos h (fun u hu=>hs u (by simp [hu])) ?_
   intro x hx
   rcases List.mem_append.1 hx with hx | hx
   ·exact hl x hx
   ·rw [List.mem_singleton.1 hx]; exact sym_pos (hs s (by simp)) hn
namespace Q
theorem right_names {g:Rd.Gr} (h:Pl.right g=true):∀ r ∈ g.rules,∀ s ∈ r.right,s≠Pl.endS:=by
 intro r hr s hs e
 unfold Pl.right at h
 simp only [Bool.and_eq_true,decide_eq_true_eq,List.all_eq_true] at h
 have h10:=h.1.1.2 r hr
 unfold Pl.okRule at h10
 simp only [Bool.and_eq_true,decide_eq_true_eq] at h10
 obtain ⟨i,hi,es⟩:=List.getElem_of_mem hs
 have:=Pl.allN_true.1 h10.2 i hi
 unfold Pl.nth at this
 rw [List.getD_eq_getElem?_getD,List.getElem?_eq_getElem hi,Option.getD_some,es,e,name_end] at this
 cases this
theorem start_of {g:Rd.Gr} {p:Pl.Plan} {s:ByteArray} (h:Pl.of g=(p,0,s)):∃ u:Nat,u < p.vars.length∧p.rules[0]?=some ⟨p.terms.length+p.vars.length,[((p.terms.length+u:Nat):Int)],0⟩:=by
 obtain ⟨F,_⟩:=ofF h
 obtain ⟨b1,b2,b3,b4⟩:=right_bounds F.right
 have hn:g.start ∉ p.terms:=by
  rw [F.terms]
  intro hx
  have hv:=F.start
  rw [F.vars] at hv
  rcases List.mem_cons.1 hx with hx | hx
  ·have hnm:Pl.name g.start=true:=by
    have:=F.right
    unfold Pl.right at this
    simp only [Bool.and_eq_true,decide_eq_true_eq] at this
    exact this.1.1.1.1.1.1.2
   rw [hx,name_end] at hnm; cases hnm
  ·obtain ⟨t,ht2,e2⟩:=List.mem_map.1 hx
   exact F.notv t ht2 (by rw [e2]; exact hv)
 obtain ⟨k,hk,_,e⟩:=placeI_pos F.start
 refine ⟨k,hk,?_⟩
 rw [F.r0]
 unfold Pl.sym
 have:Pl.place p.terms g.start=none:=by
  cases hp:Pl.place p.terms g.start with
  | none=>rfl
  | some i=>exact absurd (place_iff.1 (by rw [hp]; rfl)) hn
 rw [this,e]
theorem pos_of {g:Rd.Gr} {p:Pl.Plan} {s:ByteArray} (h:Pl.of g=(p,0,s)) (hn:1≤p.terms.length):∀ r ∈ p.rules,∀ x ∈ r.right,1≤x:=by
 obtain ⟨u,hu,e0⟩:=start_of h
 obtain ⟨F,_⟩:=ofF h
 intro r hr
 obtain ⟨j,hj,e⟩:=List.getElem_of_mem hr
 cases j with
 | zero =>
  rw [List.getElem?_eq_getElem hj] at e0
  rw [← e,Option.some.inj e0]
  intro x hx
  rw [List.mem_singleton.1 hx]; omega
 | succ i =>
  have hi:i < g.rules.length:=by have:=F.len; omega
  obtain ⟨x,hx,hx2⟩:=F.r i hi
  rw [List.getElem?_eq_getElem hj] at hx2
  have ex:x=r:=by rw [← e]; exact (Option.some.inj hx2).symm
  subst ex
  obtain ⟨_,e1,_,_⟩:=prod_ok hx
  rw [F.terms] at e1
  exact rt_pos e1 (right_names F.right _ (List.getElem_mem hi)) (by simp)
end Q
namespace Fi
open Pl (Plan Prod)
/-- A list of a set's numbers: each is in it, in order. -/
theorem lst_at {n X k:Nat} (h:k < (natI (Bs.lst n X)).length):∃ a:Nat,(natI (Bs.lst n X))[k]=a∧a < n∧X.testBit a=true:=by
 have hk:k < (Bs.lst n X).length:=by simpa [natI] using h
 refine ⟨(Bs.lst n X)[k],by simp [natI],Bs.mem_lst.1 (List.getElem_mem hk)⟩
theorem lst_next {n X k:Nat} (h:k+1 < (natI (Bs.lst n X)).length):(natI (Bs.lst n X))[k] < (natI (Bs.lst n X))[k+1]:=by
 have hk:k+1 < (Bs.lst n X).length:=by simpa [natI] using h
 have:=List.pairwise_iff_getElem.1 (lst_sorted n X) k (k+1) (by omega) hk (by omega)
 simp only [natI,List.getElem_map]
 omega
theorem first_in {p:Plan} (h:Q.OK p) {i:Nat} {t:Int} {l:List Int} (e:Q.sent p ((p.terms.length:Int)+(i:Nat))=t::l):inI (natI (Bs.lst (nT p) ((fs p).1.fst i))) t=true:=by
 obtain ⟨tm,ht,T⟩:=Q.lens_by h
 have ei:((p.terms.length:Int)+(i:Nat)).toNat=p.terms.length+i:=by omega
 unfold Q.sent at e
 rw [ei] at e
 split at e
 ·cases e
 ·rename_i hc
  have hc1:0≤(Q.lens p).long (p.terms.length+i):=by omega
  have hc2:(Q.lens p).long (p.terms.length+i)≤1000:=by omega
  have h1:=sent_first h T (Q.lenF p) (p.terms.length+i) (by show p.terms.length≤_; omega) (ht _) hc1 (by unfold Q.M; omega) t l e
  have h2:=(Q.sentF_len h T (Q.lenF p) (p.terms.length+i) (ht _) hc1 (by unfold Q.M; omega)).2 t (by rw [e]; simp)
  rw [show p.terms.length+i - nT p=i by unfold nT; omega] at h1
  obtain ⟨n,rfl⟩:∃ n:Nat,t=n:=⟨t.toNat,by omega⟩
  rw [inI_lst]
  rw [Int.toNat_natCast] at h1
  rw [h1,Bool.and_true,decide_eq_true_eq]
  show n < p.terms.length
  omega
theorem start_in {p:Plan} (h:Q.OK p) {u:Nat} (e:p.rules[0]?=some ⟨p.terms.length+p.vars.length,[((p.terms.length+u:Nat):Int)],0⟩):inI (natI (Bs.lst (nT p) (fol p u))) 0=true:=by
 have h1:=fol_start h (List.mem_of_getElem? e) rfl (x:=((p.terms.length+u:Nat):Int)) (by show (p.terms.length:Int)≤_; omega) (by show p.terms.length+p.vars.length - p.terms.length=_; omega)
 have hn:=h.n
 rw [show ((p.terms.length+u:Nat):Int).toNat - nT p=u by unfold nT; omega] at h1
 have h2:=inI_lst (n:=nT p) (X:=fol p u) (i:=0)
 rw [h1,Bool.and_true,decide_eq_true (show 0 < nT p from hn)] at h2
 exact h2
end Fi
end Go.Proofs.YtjbggogbnckllaaDoor
