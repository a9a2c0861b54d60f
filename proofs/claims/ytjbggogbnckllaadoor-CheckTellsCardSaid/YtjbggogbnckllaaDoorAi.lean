/-
  Walks of the references of chapters 7 and 8: a text's place, a name's level, a name's symbol; can a text be a name.
  Walks of the reference of chapter 7: can a text be a name, a pattern one, an action one; names that come once.
  Walks of the reference of chapter 7: can an action be one; names that come once.
  The walk of the reference of chapter 7: can a pattern be one.
  The walk of the reference of chapter 7: a grammar that is right is said to be.
-/
import Derived.Test.YtjbggogbnckllaaDoorPl
import Derived.Test.YtjbggogbnckllaaDoorAh
section
set_option maxRecDepth 100000
namespace Go.Proofs.YtjbggogbnckllaaDoor
open Go.RowKit
set_option linter.unusedVariables false
set_option linter.unusedSimpArgs false
theorem nth_of {l:List ByteArray} {i:Nat} (h:i < l.length):Pl.nth l i=l[i]:=by simp [Pl.nth,h]
theorem placeF_some {l:List ByteArray} {s:ByteArray} {k:Nat} (h1:∀ j,j < k→Pl.nth l j≠s) (h2:Pl.nth l k=s):∀ n,k < n→Pl.placeF l s n=some k
 | 0,h=>absurd h (Nat.not_lt_zero _)
 | n+1,h=>by
  rw [Pl.placeF]
  rcases Nat.lt_or_ge k n with hk | hk
  ·rw [placeF_some h1 h2 n hk]
  ·obtain rfl:k=n:=by omega
   have h3:∀ m,m≤k→Pl.placeF l s m=none:=by
    intro m
    induction m with
    | zero=>intro _; rfl
    | succ m ih =>
     intro hm
     rw [Pl.placeF,ih (by omega)]
     simp only
     rw [eqS_no (h1 m (by omega))]
     rfl
   rw [h3 k (Nat.le_refl _)]
   simp only
   rw [eqS_yes h2]
   rfl
theorem placeF_none {l:List ByteArray} {s:ByteArray}:∀ n,(∀ j,j < n→Pl.nth l j≠s)→Pl.placeF l s n=none
 | 0,_=>rfl
 | n+1,h=>by
  rw [Pl.placeF,placeF_none n (fun j hj=>h j (by omega))]
  simp only
  rw [eqS_no (h n (by omega))]
  rfl
theorem placeI_at {l:List ByteArray} {s:ByteArray} {k:Nat} (hk:k < l.length) (h1:∀ j (h:j < l.length),j < k→l[j]≠s) (h2:l[k]=s):Pl.placeI l s=k:=by
 unfold Pl.placeI Pl.place
 rw [placeF_some (fun j hj=>by rw [nth_of (by omega)]; exact h1 j (by omega) hj) (by rw [nth_of hk]; exact h2) _ hk]
theorem placeI_no {l:List ByteArray} {s:ByteArray} (h1:∀ j (h:j < l.length),l[j]≠s):Pl.placeI l s=-1:=by
 unfold Pl.placeI Pl.place
 rw [placeF_none _ (fun j hj=>by rw [nth_of hj]; exact h1 j hj)]
set_option maxRecDepth 100000 in
set_option maxHeartbeats 8000000 in
theorem place_any {w:World} {a:Option Addr} {cap:Nat} {l:List ByteArray} (s:ByteArray) (h:Strs w a l) (hn:l.length≤100000) :
  Calls Tryd.prog 64 #[.slice a l.length cap,.string s] w fun e w'=>e=.returned (.int .i64 (Pl.placeI l s))∧w=w':=by
 have HV:=Lib.hid h
 clear h
 go_enter Tryd.func64,Tryd.ntmps64
 go_wp2_with fail
 go_loop [5] (fun i=>∃ k:Nat,i=.int .i64 k∧k≤l.length∧Hid (∀ j (h:j < l.length),j < k→l[j]≠s)) (fun i=>l.length - (intOf i).toNat)
 case atStart=>exact ⟨0,rfl,by omega,Lib.hid (fun j h hj=>by omega)⟩
 case round =>
  obtain ⟨k,rfl,hk,T⟩:=hrel
  by_cases hlt:k < l.length
  ·obtain ⟨b,off,rfl,e0⟩:=HV.out k hlt
   obtain ⟨x,hx⟩:∃ x,x=l[k]:=⟨_,rfl⟩
   rw [← hx] at e0
   have HX:=Lib.hid hx
   clear hx
   by_cases he:x=s
   ·have heq:strEq x s=true:=strEq_yes he
    have hv:Hid (Pl.placeI l s=k):=Lib.hid (placeI_at hlt T.out (by rw [← HX.out,he]))
    clear he HX T
    unfold strEq at heq
    go_wp2_with fail
    go_ret
    exact ⟨ret_int hv.out.symm,rfl⟩
   ·have heq:strEq x s=false:=strEq_no he
    have T2:Hid (∀ j (h:j < l.length),j < k+1→l[j]≠s):=Lib.hid (fun j h hj=>by
     by_cases hjk:j=k
     ·subst hjk; rw [← HX.out]; exact he
     ·exact T.out j h (by omega))
    clear he HX T
    unfold strEq at heq
    go_wp2_with fail
    go_round
    case rel=>exact ⟨k+1,by go_num,by omega,T2⟩
    case measure=>simp [intOf]; omega
  ·have hv:Hid (Pl.placeI l s=-1):=Lib.hid (placeI_no (fun j hj=>T.out j hj (by omega)))
   clear T
   go_wp2_with fail
   go_ret
   exact ⟨ret_int hv.out.symm,rfl⟩
theorem placeI_range (l:List ByteArray) (s:ByteArray):(Pl.placeI l s=-1∧Pl.place l s=none)∨∃ k,k < l.length∧Pl.placeI l s=(k:Nat)∧Pl.place l s=some k∧l[k]?=some s:=by
 by_cases h:∃ k,∃ h:k < l.length,l[k]=s
 ·have hex:∃ k,k < l.length∧l[k]?=some s∧∀ j,j < k→l[j]?≠some s:=by
   obtain ⟨k,hk,e⟩:=h
   induction k using Nat.strongRecOn with
   | _ k ih =>
    by_cases hj:∃ j,j < k∧l[j]?=some s
    ·obtain ⟨j,hj,ej⟩:=hj
     have hjl:j < l.length:=by omega
     exact ih j hj hjl (by rw [List.getElem?_eq_getElem hjl] at ej; exact Option.some.inj ej)
    ·exact ⟨k,hk,by rw [List.getElem?_eq_getElem hk,e],fun j hjk ej=>hj ⟨j,hjk,ej⟩⟩
  obtain ⟨k,hk,e,hmin⟩:=hex
  have e':l[k]=s:=by rw [List.getElem?_eq_getElem hk] at e; exact Option.some.inj e
  have h1:∀ j (h:j < l.length),j < k→l[j]≠s:=fun j hj hjk ej=>hmin j hjk (by rw [List.getElem?_eq_getElem hj,ej])
  refine .inr ⟨k,hk,placeI_at hk h1 e',?_,e⟩
  unfold Pl.place
  exact placeF_some (fun j hj=>by rw [nth_of (by omega)]; exact h1 j (by omega) hj) (by rw [nth_of hk]; exact e') _ hk
 ·have h1:∀ j (h:j < l.length),l[j]≠s:=fun j hj e=>h ⟨j,hj,e⟩
  refine .inl ⟨placeI_no h1,?_⟩
  unfold Pl.place
  exact placeF_none _ (fun j hj=>by rw [nth_of hj]; exact h1 j hj)
theorem levelF_zero {ls:List Rd.Lev} {s:ByteArray}:∀ n,(∀ j,j < n→(Pl.place (ls.getD j ⟨0,[]⟩).names s).isSome=false)→Pl.levelF ls s n=0
 | 0,_=>rfl
 | n+1,h=>by
  rw [Pl.levelF,levelF_zero n (fun j hj=>h j (by omega)),h n (by omega)]
  rfl
theorem levelF_at {ls:List Rd.Lev} {s:ByteArray} {k:Nat} (h1:∀ j,j < k→(Pl.place (ls.getD j ⟨0,[]⟩).names s).isSome=false) (h2:(Pl.place (ls.getD k ⟨0,[]⟩).names s).isSome=true):∀ n,k < n→Pl.levelF ls s n=k+1
 | 0,h=>absurd h (Nat.not_lt_zero _)
 | n+1,h=>by
  rw [Pl.levelF]
  rcases Nat.lt_or_ge k n with hk | hk
  ·rw [levelF_at h1 h2 n hk]
   rw [if_pos (by simp)]
  ·obtain rfl:k=n:=by omega
   rw [levelF_zero k h1,h2]
   rfl
set_option maxRecDepth 100000 in
set_option maxHeartbeats 8000000 in
theorem level8_any {w:World} {x0 x1 x3 x4:Value} {a:Option Addr} {cap:Nat} {ls:List Rd.Lev} (s:ByteArray) (h:LvV w a ls) (hn:ls.length≤5000) (hm:∀ i (hi:i < ls.length),ls[i].names.length≤100000) :
  Calls Tryd.prog 65 #[.agg #[x0,x1,.slice a ls.length cap,x3,x4],.string s] w fun e w'=>e=.returned (.int .i64 (Pl.level ls s:Nat))∧Below w.heap.size w w':=by
 have hB:=(Below.refl w.heap.size w).alloc (Nat.le_refl _) (.cells #[x0,x1,.slice a ls.length cap,x3,x4] 74)
 have HV:=Lib.hid (h.below hB)
 have HB:=Lib.hid hB
 have HM:=Lib.hid hm
 have c2:(w.alloc (.cells #[x0,x1,.slice a ls.length cap,x3,x4] 74)).cell? ⟨w.heap.size,2,none⟩=some (.slice a ls.length cap):=by rw [cell_of_row _ _ _ _ _ _ (heap_alloc_new w _)]; rfl
 clear h hm hB
 go_enter Tryd.func65,Tryd.ntmps65
 go_wp2_with fail
 generalize w.alloc (.cells #[x0,x1,.slice a ls.length cap,x3,x4] 74)=W at HV HB c2 ⊢
 go_loop [5] (fun i=>∃ k:Nat,i=.int .i64 k∧k≤ls.length∧Hid (∀ j,j < k→(Pl.place (ls.getD j ⟨0,[]⟩).names s).isSome=false)) (fun i=>ls.length - (intOf i).toNat)
 case atStart=>exact ⟨0,rfl,by omega,Lib.hid (fun j hj=>by omega)⟩
 case round =>
  obtain ⟨k,rfl,hk,T⟩:=hrel
  by_cases hlt:k < ls.length
  ·obtain ⟨b,off,na,ncap,rfl,_,e1,hst⟩:=HV.out k hlt
   obtain ⟨nm,hnm⟩:∃ nm,nm=ls[k].names:=⟨_,rfl⟩
   have hpl:=place_any (cap:=ncap) s hst (HM.out k hlt)
   rw [← hnm] at e1 hpl
   have hgd:Hid ((ls.getD k ⟨0,[]⟩).names=nm):=Lib.hid (by rw [hnm]; simp [hlt])
   clear hst hnm
   rcases placeI_range nm s with ⟨ep,eq⟩ | ⟨q,hq,ep,eq,_⟩
   ·rw [ep] at hpl
    have T2:Hid (∀ j,j < k+1→(Pl.place (ls.getD j ⟨0,[]⟩).names s).isSome=false):=Lib.hid (fun j hj=>by
     by_cases hjk:j=k
     ·subst hjk; rw [hgd.out,eq]; rfl
     ·exact T.out j (by omega))
    clear ep eq T
    go_wp2_with fail
    refine hpl.mono ?_
    rintro e w' ⟨rfl,rfl⟩
    clear hpl
    go_wp2_with fail
    go_round
    case rel=>exact ⟨k+1,by go_num,by omega,T2⟩
    case measure=>simp [intOf]; omega
   ·rw [ep] at hpl
    have hv:Hid (Pl.level ls s=k+1):=Lib.hid (levelF_at T.out (by rw [hgd.out,eq]; rfl) _ hlt)
    clear ep eq T
    go_wp2_with fail
    refine hpl.mono ?_
    rintro e w' ⟨rfl,rfl⟩
    clear hpl
    go_wp2_with fail
    go_ret
    exact ⟨by rw [hv.out]; rfl,HB.out⟩
  ·have hv:Hid (Pl.level ls s=0):=Lib.hid (levelF_zero _ (fun j hj=>T.out j (by omega)))
   clear T
   go_wp2_with fail
   go_ret
   exact ⟨by rw [hv.out]; rfl,HB.out⟩
set_option maxRecDepth 100000 in
set_option maxHeartbeats 8000000 in
theorem sym_any {w:World} {x2 x3 x4 x5:Value} {ta va:Option Addr} {tc vc:Nat} {tm vs:List ByteArray} (s:ByteArray) (h1:Strs w ta tm) (h2:Strs w va vs) (hn1:tm.length≤100000) (hn2:vs.length≤100000) :
  Calls Tryd.prog 66 #[.agg #[.slice ta tm.length tc,.slice va vs.length vc,x2,x3,x4,x5],.string s] w fun e w'=>e=.returned (.int .i64 (Pl.sym tm vs s))∧Below w.heap.size w w':=by
 have hB:=(Below.refl w.heap.size w).alloc (Nat.le_refl _) (.cells #[.slice ta tm.length tc,.slice va vs.length vc,x2,x3,x4,x5] 32)
 have HT:=Lib.hid (h1.below hB)
 have HS:=Lib.hid (h2.below hB)
 have HB:=Lib.hid hB
 have c0:(w.alloc (.cells #[.slice ta tm.length tc,.slice va vs.length vc,x2,x3,x4,x5] 32)).cell? ⟨w.heap.size,0,none⟩=some (.slice ta tm.length tc):=by rw [cell_of_row _ _ _ _ _ _ (heap_alloc_new w _)]; rfl
 have c1:(w.alloc (.cells #[.slice ta tm.length tc,.slice va vs.length vc,x2,x3,x4,x5] 32)).cell? ⟨w.heap.size,1,none⟩=some (.slice va vs.length vc):=by rw [cell_of_row _ _ _ _ _ _ (heap_alloc_new w _)]; rfl
 clear h1 h2 hB
 go_enter Tryd.func66,Tryd.ntmps66
 go_wp2_with fail
 generalize w.alloc (.cells #[.slice ta tm.length tc,.slice va vs.length vc,x2,x3,x4,x5] 32)=W at HT HS HB c0 c1 ⊢
 have hp1:=place_any (cap:=tc) s HT.out hn1
 have hp2:=place_any (cap:=vc) s HS.out hn2
 rcases placeI_range tm s with ⟨ep,eq⟩ | ⟨q,hq,ep,eq,_⟩
 ·rw [ep] at hp1
  have EQ:=Lib.hid eq
  clear ep eq
  refine hp1.mono ?_
  rintro e w' ⟨rfl,rfl⟩
  clear hp1
  rcases placeI_range vs s with ⟨fp,fq⟩ | ⟨q,hq,fp,fq,_⟩
  ·rw [fp] at hp2
   have hv:Hid (Pl.sym tm vs s=-1):=Lib.hid (by unfold Pl.sym; rw [EQ.out,fq])
   clear fp fq
   go_wp2_with fail
   refine hp2.mono ?_
   rintro e w' ⟨rfl,rfl⟩
   clear hp2
   go_wp2_with fail
   go_ret
   exact ⟨by rw [hv.out]; rfl,HB.out⟩
  ·rw [fp] at hp2
   have hv:Hid (Pl.sym tm vs s=((tm.length+q:Nat):Int)):=Lib.hid (by unfold Pl.sym; rw [EQ.out,fq])
   clear fp fq
   go_wp2_with fail
   refine hp2.mono ?_
   rintro e w' ⟨rfl,rfl⟩
   clear hp2
   go_wp2_with fail
   go_ret
   exact ⟨by rw [hv.out]; exact ret_int (by push_cast; rfl),HB.out⟩
 ·rw [ep] at hp1
  have hv:Hid (Pl.sym tm vs s=(q:Nat)):=Lib.hid (by unfold Pl.sym; rw [eq])
  clear ep eq
  refine hp1.mono ?_
  rintro e w' ⟨rfl,rfl⟩
  clear hp1
  go_wp2_with fail
  go_ret
  exact ⟨by rw [hv.out]; rfl,HB.out⟩
end Go.Proofs.YtjbggogbnckllaaDoor
end
section
set_option maxRecDepth 100000
namespace Go.Proofs.YtjbggogbnckllaaDoor
open Go.RowKit
set_option linter.unusedVariables false
set_option linter.unusedSimpArgs false
theorem toList_beq0 (s:ByteArray):(s.toList == [])=(s.size == 0):=by
 rw [ByteArray.toList_eq]
 rw [Bool.eq_iff_iff,beq_iff_eq,beq_iff_eq]
 constructor
 ·intro h; have:s.data.toList.length=0:=by rw [h]; rfl
  simpa using this
 ·intro h; exact List.eq_nil_of_length_eq_zero (by simpa using h)
theorem nm_no {s:ByteArray} {i:Nat} (hi:i < s.size) (h1:Lx.letter ((s[i].toNat:Nat):Int)=false) (h2:i=0∨Lx.digit ((s[i].toNat:Nat):Int)=false):Pl.nm s=false:=by
 unfold Pl.nm
 rw [Pl.allN_false hi (by rw [Lx.at_of hi,h1]; rcases h2 with rfl | h2<;>simp [*])]
 rfl
theorem nm_yes {s:ByteArray} (h:∀ i (hi:i < s.size),Lx.letter ((s[i].toNat:Nat):Int)=true∨(i≠0∧Lx.digit ((s[i].toNat:Nat):Int)=true)):Pl.nm s=(s.size != 0):=by
 unfold Pl.nm
 rw [Pl.allN_true.2 (fun i hi=>by
  rw [Lx.at_of hi]
  rcases h i hi with h1 | ⟨h1,h2⟩
  ·rw [h1]; rfl
  ·rw [h2]; simp [h1])]
 rfl
set_option maxRecDepth 100000 in
set_option maxHeartbeats 8000000 in
theorem nm_any (s:ByteArray) (w:World) (hs:s.size≤100000) :
  Calls Tryd.prog 95 #[.string s] w fun e w'=>e=.returned (.bool (Pl.nm s))∧w=w':=by
 go_enter Tryd.func95,Tryd.ntmps95
 go_wp2_with fail
 go_loop [3] (fun i=>∃ k:Nat,i=.int .i64 k∧k≤s.size∧Hid (∀ j (hj:j < s.size),j < k→Lx.letter ((s[j].toNat:Nat):Int)=true∨(j≠0∧Lx.digit ((s[j].toNat:Nat):Int)=true))) (fun i=>s.size - (intOf i).toNat)
 case atStart=>exact ⟨0,rfl,by omega,Lib.hid (fun j h hj=>by omega)⟩
 case round =>
  obtain ⟨k,rfl,hk,T⟩:=hrel
  by_cases hlt:k < s.size
  ·have hL:=letter_any ((s[k].toNat:Nat):Int) w
   have hD:=digit_any ((s[k].toNat:Nat):Int) w
   cases h1:Lx.letter ((s[k].toNat:Nat):Int)
   case true =>
    rw [h1] at hL
    have T2:Hid (∀ j (hj:j < s.size),j < k+1→Lx.letter ((s[j].toNat:Nat):Int)=true∨(j≠0∧Lx.digit ((s[j].toNat:Nat):Int)=true)):=Lib.hid (fun j hj hjk=>by
     by_cases e:j=k
     ·subst e; exact .inl h1
     ·exact T.out j hj (by omega))
    clear h1 T hD
    go_wp2_with fail
    refine hL.mono ?_
    rintro e w' ⟨rfl,rfl⟩
    clear hL
    go_wp2_with fail
    go_round
    case rel=>exact ⟨k+1,by go_num,by omega,T2⟩
    case measure=>simp [intOf]; omega
   case false =>
    rw [h1] at hL
    have H1:=Lib.hid h1
    clear h1
    by_cases hk0:k=0
    ·subst hk0
     have hv:Hid (Pl.nm s=false):=Lib.hid (nm_no hlt H1.out (.inl rfl))
     clear T hD H1
     go_wp2_with fail
     refine hL.mono ?_
     rintro e w' ⟨rfl,rfl⟩
     clear hL
     go_wp2_with fail
     go_ret
     exact ⟨ret_bool hv.out.symm,rfl⟩
    ·have hkz:((k:Int) == 0)=false:=by rw [beq0]; simpa using hk0
     cases h2:Lx.digit ((s[k].toNat:Nat):Int)
     case true =>
      rw [h2] at hD
      have T2:Hid (∀ j (hj:j < s.size),j < k+1→Lx.letter ((s[j].toNat:Nat):Int)=true∨(j≠0∧Lx.digit ((s[j].toNat:Nat):Int)=true)):=Lib.hid (fun j hj hjk=>by
       by_cases e:j=k
       ·subst e; exact .inr ⟨hk0,h2⟩
       ·exact T.out j hj (by omega))
      clear h2 T H1
      go_wp2_with fail
      refine hL.mono ?_
      rintro e w' ⟨rfl,rfl⟩
      clear hL
      go_wp2_with fail
      refine hD.mono ?_
      rintro e w' ⟨rfl,rfl⟩
      clear hD
      go_wp2_with fail
      go_round
      case rel=>exact ⟨k+1,by go_num,by omega,T2⟩
      case measure=>simp [intOf]; omega
     case false =>
      rw [h2] at hD
      have hv:Hid (Pl.nm s=false):=Lib.hid (nm_no hlt H1.out (.inr h2))
      clear h2 T H1
      go_wp2_with fail
      refine hL.mono ?_
      rintro e w' ⟨rfl,rfl⟩
      clear hL
      go_wp2_with fail
      refine hD.mono ?_
      rintro e w' ⟨rfl,rfl⟩
      clear hD
      go_wp2_with fail
      go_ret
      exact ⟨ret_bool hv.out.symm,rfl⟩
  ·have hv:Hid (Pl.nm s=(s.size != 0)):=Lib.hid (nm_yes (fun j hj=>T.out j hj (by omega)))
   clear T
   cases h0:(s.size == 0)
   case true =>
    have hb:(s.toList == [])=true:=by rw [toList_beq0]; exact h0
    have hv2:Hid (Pl.nm s=false):=Lib.hid (by rw [hv.out,bne,h0]; rfl)
    have hb2:s.toList=[]:=by simpa using hb
    clear h0
    go_wp2_with fail
    go_ret
    exact ⟨ret_bool hv2.out.symm,rfl⟩
   case false =>
    have hb:(s.toList == [])=false:=by rw [toList_beq0]; exact h0
    have hv2:Hid (Pl.nm s=true):=Lib.hid (by rw [hv.out,bne,h0]; rfl)
    have hb2:(!s.toList.isEmpty)=true:=empty_no hb
    clear h0
    go_wp2_with fail
    go_ret
    exact ⟨ret_bool hv2.out.symm,rfl⟩
set_option maxRecDepth 100000 in
set_option maxHeartbeats 8000000 in
theorem name7_any (s:ByteArray) (w:World) :
  Calls Tryd.prog 78 #[.string s] w fun e w'=>e=.returned (.bool (Pl.name s))∧w=w':=by
 by_cases h:s.size≤32
 ·have hn:=nm_any s w (by omega)
  have hd:decide ((s.size:Int)≤32)=true:=by simp; omega
  have hv:Hid (Pl.name s=Pl.nm s):=Lib.hid (by unfold Pl.name; simp [h])
  go_enter Tryd.func78,Tryd.ntmps78
  go_wp2_with fail
  refine hn.mono ?_
  rintro e w' ⟨rfl,rfl⟩
  clear hn
  go_wp2_with fail
  go_ret
  exact ⟨ret_bool hv.out.symm,rfl⟩
 ·have hd:decide ((s.size:Int)≤32)=false:=by simp; omega
  have hv:Hid (Pl.name s=false):=Lib.hid (by unfold Pl.name; simp [h])
  go_enter Tryd.func78,Tryd.ntmps78
  go_wp2_with fail
  go_ret
  exact ⟨ret_bool hv.out.symm,rfl⟩
end Go.Proofs.YtjbggogbnckllaaDoor
end
section
set_option maxRecDepth 100000
namespace Go.Proofs.YtjbggogbnckllaaDoor
open Go.RowKit
set_option linter.unusedVariables false
set_option linter.unusedSimpArgs false
theorem actF_end {s:ByteArray} {f o i:Nat} (h:s.size≤i):Pl.actF s f o i=(o == 1):=by
 cases f with
 | zero=>rfl
 | succ f=>rw [Pl.actF,if_pos h]
theorem actF_open {s:ByteArray} {f o i:Nat} (h:i < s.size) (hc:((s[i].toNat:Nat):Int)=123):Pl.actF s (f+1) o i=if decide (4 < o+1) then false else Pl.actF s f (o+1) (i+1):=by
 rw [Pl.actF,if_neg (by omega),Lx.at_of h,hc]
 simp
theorem actF_shut {s:ByteArray} {f o i:Nat} (h:i < s.size) (ho:o≤4) (hc:((s[i].toNat:Nat):Int)=125):Pl.actF s (f+1) o i=if o - 1 == 0 then false else Pl.actF s f (o - 1) (i+1):=by
 rw [Pl.actF,if_neg (by omega),Lx.at_of h,hc]
 have:decide (4 < o - 1)=false:=by simp; omega
 simp [this]
theorem actF_else {s:ByteArray} {f o i:Nat} (h:i < s.size) (ho:1≤o) (ho4:o≤4) (h1:((s[i].toNat:Nat):Int)≠123) (h2:((s[i].toNat:Nat):Int)≠125):Pl.actF s (f+1) o i=Pl.actF s f o (i+1):=by
 rw [Pl.actF,if_neg (by omega),Lx.at_of h]
 have e1:(((s[i].toNat:Nat):Int) == 123)=false:=by simpa using h1
 have e2:(((s[i].toNat:Nat):Int) == 125)=false:=by simpa using h2
 have e3:(decide (4 < o)||o == 0)=false:=by simp; omega
 simp only [e1,e2,Bool.false_eq_true,if_false,e3]
set_option maxRecDepth 100000 in
set_option maxHeartbeats 8000000 in
theorem act7_any (s:ByteArray) (w:World) :
  Calls Tryd.prog 80 #[.string s] w fun e w'=>e=.returned (.bool (Pl.action s))∧w=w':=by
 by_cases h:s.size≤200
 case neg =>
  have hd:decide ((200:Int) < (s.size:Int))=true:=by simp; omega
  have hv:Hid (Pl.action s=false):=Lib.hid (by unfold Pl.action; simp [h])
  go_enter Tryd.func80,Tryd.ntmps80
  go_wp2_with fail
  go_ret
  exact ⟨ret_bool hv.out.symm,rfl⟩
 case pos =>
  have hd:decide ((200:Int) < (s.size:Int))=false:=by simp; omega
  obtain ⟨R,hR⟩:∃ R,Pl.actF s s.size 1 0=R:=⟨_,rfl⟩
  have HR:=Lib.hid hR
  have hv:Hid (Pl.action s=R):=Lib.hid (by unfold Pl.action; rw [hR]; simp [h])
  clear hR
  go_enter Tryd.func80,Tryd.ntmps80
  go_wp2_with fail
  go_loop [3,4] (fun o i=>∃ (k q f:Nat),i=.int .i64 k∧o=.int .i64 q∧k≤s.size∧1≤q∧q≤4∧s.size≤k+f∧Hid (Pl.actF s f q k=R)) (fun _ i=>s.size - (intOf i).toNat)
  case atStart=>exact ⟨0,1,s.size,rfl,rfl,by omega,by omega,by omega,by omega,HR⟩
  case round =>
   clear HR
   obtain ⟨k,q,f,rfl,rfl,hk,hq1,hq4,hf,HRn⟩:=hrel
   by_cases hlt:k < s.size
   ·obtain ⟨f,rfl⟩:∃ g,f=g+1:=⟨f - 1,by omega⟩
    obtain ⟨c,hc⟩:∃ c,c=((s[k].toNat:Nat):Int):=⟨_,rfl⟩
    by_cases h1:((s[k].toNat:Nat):Int)=123
    ·have hst:=Lib.hid (actF_open (f:=f) (o:=q) hlt h1)
     have e1:(((s[k].toNat:Nat):Int) == 123)=true:=by simpa using h1
     have e2:(((s[k].toNat:Nat):Int) == 125)=false:=by rw [h1]; rfl
     clear h1 hc
     by_cases h5:q=4
     ·subst h5
      have hR:Hid (R=false):=Lib.hid (by rw [← HRn.out,hst.out]; rfl)
      clear HRn
      go_wp2_with fail
      go_ret
      exact ⟨ret_bool (by rw [hv.out,hR.out]),rfl⟩
     ·have hd4:decide ((4:Int) < (q:Int)+1)=false:=by simp; omega
      have hz:(((q:Int)+1) == 0)=false:=by simp; omega
      have hst2:Hid (Pl.actF s f (q+1) (k+1)=R):=Lib.hid (by
       have:=hst.out
       rw [if_neg (by simp; omega)] at this
       rw [← this]; exact HRn.out)
      clear HRn hst
      go_wp2_with fail
      go_round
      case rel=>exact ⟨k+1,q+1,f,by go_num,by go_num,by omega,by omega,by omega,by omega,hst2⟩
      case measure=>simp [intOf]; omega
    ·by_cases h2:((s[k].toNat:Nat):Int)=125
     ·have hst:=Lib.hid (actF_shut (f:=f) (o:=q) hlt hq4 h2)
      have e1:(((s[k].toNat:Nat):Int) == 123)=false:=by simpa using h1
      have e2:(((s[k].toNat:Nat):Int) == 125)=true:=by simpa using h2
      clear h1 h2 hc
      by_cases h5:q=1
      ·subst h5
       have hR:Hid (R=false):=Lib.hid (by rw [← HRn.out,hst.out]; rfl)
       clear HRn
       go_wp2_with fail
       go_ret
       exact ⟨ret_bool (by rw [hv.out,hR.out]),rfl⟩
      ·have hd4:decide ((4:Int) < (q:Int) - 1)=false:=by simp; omega
       have hz:(((q:Int) - 1) == 0)=false:=by simp; omega
       have hst2:Hid (Pl.actF s f (q - 1) (k+1)=R):=Lib.hid (by
        have:=hst.out
        rw [if_neg (by simp; omega)] at this
        rw [← this]; exact HRn.out)
       have e3:(q:Int) - 1=((q - 1:Nat):Int):=by omega
       have E3:=Lib.hid e3
       clear HRn hst e3
       go_wp2_with fail
       go_round
       case rel=>exact ⟨k+1,q - 1,f,by go_num,by rw [← E3.out],by omega,by omega,by omega,by omega,hst2⟩
       case measure=>simp [intOf]; omega
     ·have hst:=Lib.hid (actF_else (f:=f) (o:=q) hlt hq1 hq4 h1 h2)
      have e1:(((s[k].toNat:Nat):Int) == 123)=false:=by simpa using h1
      have e2:(((s[k].toNat:Nat):Int) == 125)=false:=by simpa using h2
      have hd4:decide ((4:Int) < (q:Int))=false:=by simp; omega
      have hz:((q:Int) == 0)=false:=by simp; omega
      have hst2:Hid (Pl.actF s f q (k+1)=R):=Lib.hid (by rw [← hst.out]; exact HRn.out)
      clear h1 h2 hc HRn hst
      go_wp2_with fail
      go_round
      case rel=>exact ⟨k+1,q,f,by go_num,rfl,by omega,by omega,by omega,by omega,hst2⟩
      case measure=>simp [intOf]; omega
   ·have hR:Hid (R=(q == 1)):=Lib.hid (by rw [← HRn.out,actF_end (by omega)])
    clear HRn
    have hb:((q:Int) == 1)=(q == 1):=by rw [Bool.eq_iff_iff,beq_iff_eq,beq_iff_eq]; omega
    have HB:=Lib.hid hb
    clear hb
    go_wp2_with fail
    go_ret
    exact ⟨ret_bool (by rw [hv.out,hR.out,HB.out]),rfl⟩
theorem once_bad {l:List ByteArray} {i:Nat} (hi:i < l.length) (h:Pl.name l[i]=false):Pl.once l=false:=by
 unfold Pl.once
 exact Pl.allN_false hi (by rw [nth_of hi,h]; rfl)
theorem once_twice {l:List ByteArray} {i k:Nat} (hi:i < l.length) (hk:k < i) (h:l[k]=l[i]):Pl.once l=false:=by
 unfold Pl.once
 refine Pl.allN_false hi ?_
 rw [Pl.allN_false (i:=k) hk (by rw [nth_of hi,nth_of (by omega),eqS_yes h]; rfl),Bool.and_false]
theorem once_yes {l:List ByteArray} (h:∀ i (hi:i < l.length),Pl.name l[i]=true∧∀ k (hk:k < i),l[k]≠l[i]):Pl.once l=true:=by
 unfold Pl.once
 refine Pl.allN_true.2 fun i hi=>?_
 obtain ⟨h1,h2⟩:=h i hi
 rw [nth_of hi,h1,Bool.true_and]
 refine Pl.allN_true.2 fun k hk=>?_
 rw [nth_of (by omega),eqS_no (h2 k hk)]
 rfl
/-- A region that only reads: behind it the very world, but for the draw. -/
theorem region_rd {P:Program} {id:Nat} {l:List Oper} {Q:Exit→Act→World→Prop} {a:Act} {w:World} (hs:List Nat) (sz:Nat) (A:Act) (hQ:∀ c (a:Act) (d:Option Tmp) (v:Value) w,Q (.panic c) (a.put d v) w→Q (.panic c) a w)
  (hm:P.follows .mixedOrders=true) (hB:gxB l hs [] 0 sz=true) (hsz:a.tmps.size=sz)
  (hh:∀ z:Wd w.heap.size w,wpQuiet P l.toArray (fun w'=>w'=z.w) (fun a'=>a'=A) (pickL l hs) a) (ht:Q .normal A w.drew):(Code.region id l.toArray true).wp P Q a w :=
 region_gb hs [] sz w.heap.size A hQ (Nat.le_refl _) hm hB hsz hh ht
theorem Strs.cellZ {w:World} {l:List ByteArray} {b off:Nat} {i:Nat} (h:Strs w (some ⟨b,off,none⟩) l) (hi:i < l.length) (z:Wd w.heap.size w):z.w.cell? ⟨b,off+i,none⟩=some (.string l[i]):=by
 obtain ⟨b',off',e,hc⟩:=h i hi
 cases e
 exact ((bcell z.ok).1 _ _ (World.block_lt_of_cell? w _ hc)).trans hc
set_option maxRecDepth 100000 in
set_option maxHeartbeats 8000000 in
theorem once_any {w:World} {a:Option Addr} {cap:Nat} {l:List ByteArray} (h:Strs w a l) (hn:l.length≤100000) :
  Calls Tryd.prog 81 #[.slice a l.length cap] w fun e w'=>e=.returned (.bool (Pl.once l))∧Below w.heap.size w w':=by
 have HV:=Lib.hid h
 clear h
 go_enter Tryd.func81,Tryd.ntmps81
 go_wp2_with fail
 go_loopg [3] l.length (fun g i wr=>∃ k:Nat,i=.int .i64 k∧k≤l.length∧Hid (g+k=l.length)∧Hid (∀ i (hi:i < l.length),i < k→Pl.name l[i]=true∧∀ k (hk:k < i),l[k]≠l[i])∧Hid (Below w.heap.size w wr))
 case atStart=>exact ⟨0,rfl,by omega,Lib.hid (by omega),Lib.hid (fun i hi h=>by omega),Lib.hid (Below.refl _ _)⟩
 case round =>
  obtain ⟨k,rfl,hk,HG,T,HB⟩:=hrel
  have hgk:=HG.out
  by_cases hlt:k < l.length
  ·have HW:=Lib.hid (HV.out.below HB.out)
   obtain ⟨b,off,rfl,e0⟩:=HW.out k hlt
   obtain ⟨x,hx⟩:∃ x,x=l[k]:=⟨_,rfl⟩
   have hnm:=name7_any x wr
   rw [← hx] at e0
   have HX:=Lib.hid hx
   clear hx
   cases hc:Pl.name x
   case false =>
    rw [hc] at hnm
    have hv:Hid (Pl.once l=false):=Lib.hid (once_bad hlt (by rw [← HX.out]; exact hc))
    clear hc T hgk
    go_wp2_with fail
    refine hnm.mono ?_
    rintro e w' ⟨rfl,rfl⟩
    clear hnm
    go_wp2_with fail
    go_ret
    exact ⟨ret_bool hv.out.symm,HB.out⟩
   case true =>
    rw [hc] at hnm
    have HC:=Lib.hid hc
    clear hc hgk
    go_wp2_with fail
    refine hnm.mono ?_
    rintro e w' ⟨rfl,rfl⟩
    clear hnm
    go_wp2_with fail
    go_loopg [4] k (fun g2 i wq=>∃ q:Nat,i=.int .i64 q∧q≤k∧Hid (g2+q=k)∧Hid (∀ j (hj:j < l.length),j < q→l[j]≠x)∧Hid (Below w.heap.size w wq))
    case atStart=>exact ⟨0,rfl,by omega,Lib.hid (by omega),Lib.hid (fun j hj h=>by omega),HB⟩
    case round =>
     clear HW HB e0
     obtain ⟨q,rfl,hq,HG2,U,HB⟩:=hrel
     have HW:=Lib.hid (HV.out.below HB.out)
     by_cases hqk:q < k
     ·have hql:q < l.length:=by omega
      obtain ⟨y,hy⟩:∃ y,y=l[q]'(by omega):=⟨_,rfl⟩
      have f0:=fun z=>(HW.out.cellZ hql z)
      have f1:=fun z=>(HW.out.cellZ hlt z)
      rw [← hy] at f0
      rw [← HX.out] at f1
      have HY:=Lib.hid hy
      clear hy
      by_cases he:y=x
      ·have heq:strEq y x=true:=strEq_yes he
       have hv:Hid (Pl.once l=false):=Lib.hid (once_twice hlt hqk (by rw [← HY.out,← HX.out,he]))
       clear he HY HX U T
       unfold strEq at heq
       go_wp2_with fail
       refine region_rd [0,1,2,3,4,5,6,7,8] 31 ?_ (fun c a d v w h=>by cases d<;>exact h) (by kernel_rfl) (by kernel_rfl) (by rfl) ?_ ?_
       rotate_left
       ·intro z
        simp only [pickL,List.getElem?_cons_zero,List.getElem?_cons_succ]
        repeat (go_big_quiet_step (fail))
        refine wpQuiet_nil ?_
        exact rfl
       clear f0 f1
       go_wp2_with fail
       go_ret
       exact ⟨ret_bool hv.out.symm,HB.out.drew⟩
      ·have heq:strEq y x=false:=strEq_no he
       have U2:Hid (∀ j (hj:j < l.length),j < q+1→l[j]≠x):=Lib.hid (fun j hj hjq=>by
        by_cases e:j=q
        ·subst e; rw [← HY.out]; exact he
        ·exact U.out j hj (by omega))
       have HB2:Hid (Below w.heap.size w wr.drew):=Lib.hid HB.out.drew
       clear he HY U HB
       unfold strEq at heq
       go_wp2_with fail
       refine region_rd [0,1,2,3,4,5,6,7,8] 31 ?_ (fun c a d v w h=>by cases d<;>exact h) (by kernel_rfl) (by kernel_rfl) (by rfl) ?_ ?_
       rotate_left
       ·intro z
        simp only [pickL,List.getElem?_cons_zero,List.getElem?_cons_succ]
        repeat (go_big_quiet_step (fail))
        refine wpQuiet_nil ?_
        exact rfl
       clear f0 f1
       have hg2:=HG2.out
       go_wp2_with fail
       go_roundg (gk - 1)
       case measure=>omega
       case rel=>exact ⟨q+1,by go_num,by omega,Lib.hid (by omega),U2,HB2⟩
     ·have T2:Hid (∀ i (hi:i < l.length),i < k+1→Pl.name l[i]=true∧∀ k (hk:k < i),l[k]≠l[i]):=Lib.hid (fun i hi hik=>by
       by_cases e:i=k
       ·subst e
        exact ⟨by rw [← HX.out]; exact HC.out,fun j hj=>by rw [← HX.out]; exact U.out j (by omega) (by omega)⟩
       ·exact T.out i hi (by omega))
      clear T U HC HX
      go_wp2_with fail
      go_roundg (l.length - (k+1))
      case measure=>have:=HG.out; omega
      case rel=>exact ⟨k+1,by go_num,by omega,Lib.hid (by omega),T2,HB⟩
  ·have hv:Hid (Pl.once l=true):=Lib.hid (once_yes (fun i hi=>T.out i hi (by omega)))
   clear T hgk
   go_wp2_with fail
   go_ret
   exact ⟨ret_bool hv.out.symm,HB.out⟩
end Go.Proofs.YtjbggogbnckllaaDoor
end
section
set_option maxRecDepth 100000
namespace Go.Proofs.YtjbggogbnckllaaDoor
open Go.RowKit
set_option linter.unusedVariables false
set_option linter.unusedSimpArgs false
theorem okPat_t {p:Rd.Pat} (h:(p.t.size != 0)=true):Pl.okPat p=(decide (p.t.size≤32)&&p.s.size == 0&&!p.m):=by unfold Pl.okPat; rw [if_pos h]
theorem okPat_no {p:Rd.Pat} {i:Nat} (h:(p.t.size != 0)=false) (hi:i < p.s.size) (h0:i≠0) (h1:((p.s[i].toNat:Nat):Int)≤((p.s[i - 1].toNat:Nat):Int)):Pl.okPat p=false:=by
 unfold Pl.okPat
 rw [h]
 simp only [Bool.false_eq_true,if_false]
 rw [Pl.allN_false hi (by
  rw [Lx.at_of hi,Lx.at_of (show i - 1 < p.s.size by omega)]
  simp; omega)]
 rfl
theorem okPat_yes {p:Rd.Pat} (h:(p.t.size != 0)=false) (h1:∀ i (hi:i < p.s.size),i≠0→((p.s[i - 1].toNat:Nat):Int) < ((p.s[i].toNat:Nat):Int)):Pl.okPat p=(p.s.size != 0):=by
 unfold Pl.okPat
 rw [h]
 simp only [Bool.false_eq_true,if_false]
 rw [Pl.allN_true.2 (fun i hi=>by
  by_cases h0:i=0
  ·simp [h0]
  ·rw [Lx.at_of hi,Lx.at_of (show i - 1 < p.s.size by omega)]
   have:=h1 i hi h0
   simp; omega)]
 rfl
set_option maxRecDepth 100000 in
set_option maxHeartbeats 8000000 in
theorem pat7_any (p:Rd.Pat) (w:World) (hs:p.s.size≤100000) :
  Calls Tryd.prog 79 #[.agg #[.string p.t,.string p.s,.bool p.m]] w fun e w'=>e=.returned (.bool (Pl.okPat p))∧Below w.heap.size w w':=by
 have hB:=(Below.refl w.heap.size w).alloc (Nat.le_refl _) (.cells #[.string p.t,.string p.s,.bool p.m] 109)
 have hP:=heap_alloc_new w (.cells #[.string p.t,.string p.s,.bool p.m] 109)
 cases h0:(p.t.size == 0)
 case false =>
  have hb:(p.t.toList == [])=false:=by rw [toList_beq0]; exact h0
  have hb2:(!p.t.toList.isEmpty)=true:=empty_no hb
  have hv:=okPat_t (p:=p) (by rw [bne,h0]; rfl)
  have HB:=Lib.hid hB
  clear h0 hP hB
  cases h1:decide (p.t.size≤32)
  case false =>
   have h1':decide ((p.t.size:Int)≤32)=false:=by simp at h1 ⊢; omega
   have hv2:Hid (Pl.okPat p=false):=Lib.hid (by rw [hv,h1]; rfl)
   clear h1 hv
   go_enter Tryd.func79,Tryd.ntmps79
   go_wp2_with fail
   go_ret
   exact ⟨ret_bool hv2.out.symm,HB.out⟩
  case true =>
   have h1':decide ((p.t.size:Int)≤32)=true:=by simp at h1 ⊢; omega
   cases h2:(p.s.size == 0)
   case false =>
    have hb3:(p.s.toList == [])=false:=by rw [toList_beq0]; exact h2
    have hb4:(!p.s.toList.isEmpty)=true:=empty_no hb3
    have hb5:p.s.toList.isEmpty=false:=by simpa using hb4
    have hv2:Hid (Pl.okPat p=false):=Lib.hid (by rw [hv,h1,h2]; rfl)
    clear h1 hv h2
    go_enter Tryd.func79,Tryd.ntmps79
    go_wp2_with fail
    go_ret
    exact ⟨ret_bool hv2.out.symm,HB.out⟩
   case true =>
    have hb3:(p.s.toList == [])=true:=by rw [toList_beq0]; exact h2
    have hb4:p.s.toList=[]:=by simpa using hb3
    cases hm:p.m
    all_goals
     have hv2:=Lib.hid (by rw [h1,h2,hm] at hv; exact hv)
     clear h1 hv h2
     rw [hm] at HB
     go_enter Tryd.func79,Tryd.ntmps79
     go_wp2_with fail
     go_ret
     exact ⟨ret_bool hv2.out.symm,HB.out⟩
 case true =>
  have hb:(p.t.toList == [])=true:=by rw [toList_beq0]; exact h0
  have hb2:p.t.toList=[]:=by simpa using hb
  have H0:Hid ((p.t.size != 0)=false):=Lib.hid (by rw [bne,h0]; rfl)
  have c0:(w.alloc (.cells #[.string p.t,.string p.s,.bool p.m] 109)).cell? ⟨w.heap.size,0,none⟩=some (.string p.t):=by rw [cell_of_row _ _ _ _ _ _ hP]; rfl
  have c1:(w.alloc (.cells #[.string p.t,.string p.s,.bool p.m] 109)).cell? ⟨w.heap.size,1,none⟩=some (.string p.s):=by rw [cell_of_row _ _ _ _ _ _ hP]; rfl
  have HB:=Lib.hid hB
  have hlt0:w.heap.size < (w.alloc (.cells #[.string p.t,.string p.s,.bool p.m] 109)).heap.size:=by simp
  clear h0 hP hB
  go_enter Tryd.func79,Tryd.ntmps79
  go_wp2_with fail
  generalize w.alloc (.cells #[.string p.t,.string p.s,.bool p.m] 109)=W at HB c0 c1 hlt0 ⊢
  have HC:=Lib.hid c1
  clear c0 c1
  go_loopg [3] p.s.size (fun g i wr=>∃ k:Nat,i=.int .i64 (k+1:Nat)∧Hid (g+k=p.s.size)∧Hid (∀ i (hi:i < p.s.size),i≠0→i < k+1→((p.s[i - 1].toNat:Nat):Int) < ((p.s[i].toNat:Nat):Int))∧Hid (Below W.heap.size W wr))
  case atStart=>exact ⟨0,rfl,Lib.hid (by omega),Lib.hid (fun i hi h0 h=>by omega),Lib.hid (Below.refl _ _)⟩
  case round =>
   obtain ⟨k,rfl,HG,T,HK⟩:=hrel
   have hgk:=HG.out
   have c1:wr.cell? ⟨w.heap.size,1,none⟩=some (.string p.s):=((bcell HK.out).1 _ _ hlt0).trans HC.out
   have hlr:w.heap.size < wr.heap.size:=Nat.lt_of_lt_of_le hlt0 HK.out.size
   have ek:((k+1:Nat):Int)=(k:Int)+1:=by omega
   rw [ek]
   clear ek
   by_cases hlt:k+1 < p.s.size
   ·have z1:∀ z:Wd wr.heap.size wr,z.w.cell? ⟨w.heap.size,1,none⟩=some (.string p.s):=fun z=>((bcell z.ok).1 _ _ hlr).trans c1
    have hkl:k < p.s.size:=by omega
    have e1:IntKind.i64.wrap ((k:Int)+1 - 1)=(k:Int):=by rw [show (k:Int)+1 - 1=k by omega]; exact IntWalk.i64_in _ (by omega)
    have hd1:decide ((k:Int)+1 < (p.s.size:Int))=true:=by simp; omega
    have n1:((k:Int)+1).toNat=k+1:=by omega
    have i1:(0:Int)≤(k:Int)+1:=by omega
    have i2:(k:Int)+1 < (p.s.size:Int):=by omega
    have i3:(0:Int)≤(k:Int):=by omega
    have i4:(k:Int) < (p.s.size:Int):=by omega
    by_cases hc:((p.s[k+1].toNat:Nat):Int)≤((p.s[k].toNat:Nat):Int)
    ·have hv:Hid (Pl.okPat p=false):=Lib.hid (okPat_no H0.out hlt (by omega) hc)
     clear T hgk
     go_wp2_with fail
     refine region_rd [0,1,2,3,4,5,6,7,8,9] 41 ?_ (fun c a d v w h=>by cases d<;>exact h) (by kernel_rfl) (by kernel_rfl) (by rfl) ?_ ?_
     rotate_left
     ·intro z
      simp only [pickL,List.getElem?_cons_zero,List.getElem?_cons_succ]
      repeat (go_big_quiet_step (fail))
      refine wpQuiet_nil ?_
      exact rfl
     clear z1
     go_wp2_with fail
     go_ret
     exact ⟨ret_bool hv.out.symm,(HB.out.trans (HK.out.mono (by have:=HB.out.size; omega))).drew⟩
    ·have hc':¬ ((p.s[k+1].toNat:Nat):Int)≤((p.s[k].toNat:Nat):Int):=hc
     have hd:decide (((p.s[k+1].toNat:Nat):Int)≤((p.s[k].toNat:Nat):Int))=false:=by simpa using hc
     have T2:Hid (∀ i (hi:i < p.s.size),i≠0→i < k+1+1→((p.s[i - 1].toNat:Nat):Int) < ((p.s[i].toNat:Nat):Int)):=Lib.hid (fun i hi h0 h=>by
      by_cases e:i=k+1
      ·subst e; simpa using hc
      ·exact T.out i hi h0 (by omega))
     have HK2:Hid (Below W.heap.size W wr.drew):=Lib.hid HK.out.drew
     clear T
     go_wp2_with fail
     refine region_rd [0,1,2,3,4,5,6,7,8,9] 41 ?_ (fun c a d v w h=>by cases d<;>exact h) (by kernel_rfl) (by kernel_rfl) (by rfl) ?_ ?_
     rotate_left
     ·intro z
      simp only [pickL,List.getElem?_cons_zero,List.getElem?_cons_succ]
      repeat (go_big_quiet_step (fail))
      refine wpQuiet_nil ?_
      exact rfl
     clear z1
     go_wp2_with fail
     have hgk:=HG.out
     go_roundg (gk - 1)
     case measure=>omega
     case rel=>exact ⟨k+1,by go_num,Lib.hid (by omega),T2,HK2⟩
   ·have hd1:decide ((k:Int)+1 < (p.s.size:Int))=false:=by simp; omega
    have hv:Hid (Pl.okPat p=(p.s.size != 0)):=Lib.hid (okPat_yes H0.out (fun i hi h0=>T.out i hi h0 (by omega)))
    clear T
    cases h2:(p.s.size == 0)
    case true =>
     have hb3:(p.s.toList == [])=true:=by rw [toList_beq0]; exact h2
     have hb4:p.s.toList=[]:=by simpa using hb3
     have hv2:Hid (Pl.okPat p=false):=Lib.hid (by rw [hv.out,bne,h2]; rfl)
     clear h2 hgk
     go_wp2_with fail
     go_ret
     exact ⟨ret_bool hv2.out.symm,HB.out.trans (HK.out.mono (by have:=HB.out.size; omega))⟩
    case false =>
     have hb3:(p.s.toList == [])=false:=by rw [toList_beq0]; exact h2
     have hb4:(!p.s.toList.isEmpty)=true:=empty_no hb3
     have hv2:Hid (Pl.okPat p=true):=Lib.hid (by rw [hv.out,bne,h2]; rfl)
     clear h2 hgk
     go_wp2_with fail
     go_ret
     exact ⟨ret_bool hv2.out.symm,HB.out.trans (HK.out.mono (by have:=HB.out.size; omega))⟩
end Go.Proofs.YtjbggogbnckllaaDoor
end
section
set_option maxRecDepth 100000
namespace Go.Proofs.YtjbggogbnckllaaDoor
open Go.RowKit
set_option linter.unusedVariables false
set_option linter.unusedSimpArgs false
/-- What of a grammar's size is asked. -/
structure GrSz (g:Rd.Gr):Prop where
 t:∀ x ∈ g.toks,x.pat.s.size≤100000
 s:∀ x ∈ g.skips,x.s.size≤100000
 l:∀ x ∈ g.levs,x.names.length≤5002
/-- What is true of a grammar that is right. -/
structure RightF (g:Rd.Gr):Prop where
 nt:g.toks.length≤20
 ns:g.skips.length≤4
 nl:g.levs.length≤10
 n1:1≤g.rules.length
 nr:g.rules.length≤40
 st:Pl.name g.start=true
 t:∀ i (h:i < g.toks.length),Pl.okPat g.toks[i].pat=true
 s:∀ i (h:i < g.skips.length),Pl.okPat g.skips[i]=true
 l:∀ i (h:i < g.levs.length),Pl.okLev g.levs[i]=true
 r:∀ i (h:i < g.rules.length),Pl.okRule g.rules[i]=true
 ot:Pl.once (g.toks.map (·.name))=true
 ol:Pl.once (g.levs.flatMap (·.names))=true
theorem all_getE {α:Type} {l:List α} {p:α→Bool} (h:l.all p=true) (i:Nat) (hi:i < l.length):p l[i]=true:=List.all_eq_true.1 h _ (List.getElem_mem hi)
theorem rightF {g:Rd.Gr} (h:Pl.right g=true):RightF g:=by
 unfold Pl.right at h
 simp only [Bool.and_eq_true,decide_eq_true_eq] at h
 obtain ⟨⟨⟨⟨⟨⟨⟨⟨⟨⟨⟨h1,h2⟩,h3⟩,h4⟩,h5⟩,h6⟩,h7⟩,h8⟩,h9⟩,h10⟩,h11⟩,h12⟩:=h
 exact ⟨h1,h2,h3,h4,h5,h6,all_getE h7,all_getE h8,all_getE h9,all_getE h10,h11,h12⟩
theorem okRuleF {r:Rd.Rul} (h:Pl.okRule r=true):Pl.name r.left=true∧r.right.length≤8∧((r.prec.size == 0)=true∨(r.prec.size == 0)=false∧Pl.name r.prec=true)∧Pl.action r.action=true∧∀ k (h:k < r.right.length),Pl.name r.right[k]=true:=by
 unfold Pl.okRule at h
 simp only [Bool.and_eq_true,decide_eq_true_eq,Bool.or_eq_true] at h
 obtain ⟨⟨⟨⟨h1,h2⟩,h3⟩,h4⟩,h5⟩:=h
 refine ⟨h1,h2,?_,h4,fun k hk=>?_⟩
 ·cases h0:(r.prec.size == 0)
  ·right; rw [h0] at h3; exact ⟨rfl,by simpa using h3⟩
  ·left; rfl
 ·have:=Pl.allN_true.1 h5 k hk
  rwa [nth_of hk] at this
theorem okLevF {l:Rd.Lev} (h:Pl.okLev l=true):1≤l.assoc∧l.assoc≤3∧l.names.length≠0:=by
 unfold Pl.okLev at h
 simp only [Bool.and_eq_true,decide_eq_true_eq,bne_iff_ne] at h
 exact ⟨h.1.1,h.1.2,h.2⟩
theorem strV_append (l m:List ByteArray):strV (l++m)=strV l++strV m:=by simp [strV]
theorem Strs.of_owns {w:World} {B n:Nat} {a:Option Addr} {m cap:Nat} {l:List ByteArray} (h:w.ownsRow B 9 1 (.slice a m cap) n (strV l)) (hn:l.length=n):Strs w a l:=by
 obtain ⟨a',cap',e,hs⟩:=(NsM.of_owns h hn).strs
 cases e
 exact hs
theorem len_flat (l:List Rd.Lev) (k:Nat) (h:∀ x ∈ l,x.names.length≤5002):((l.take k).flatMap (·.names)).length≤5002*k:=by
 induction k generalizing l with
 | zero=>simp
 | succ k ih =>
  cases l with
  | nil=>simp
  | cons x l =>
   rw [List.take_succ_cons,List.flatMap_cons,List.length_append]
   have:=ih l (fun y hy=>h y (List.mem_cons_of_mem _ hy))
   have:=h x List.mem_cons_self
   omega
theorem flat_snoc (l:List Rd.Lev) (k:Nat) (h:k < l.length):(l.take (k+1)).flatMap (·.names)=(l.take k).flatMap (·.names)++l[k].names:=by
 rw [List.take_succ_eq_append_getElem h,List.flatMap_append]
 simp
theorem names_snoc (l:List Rd.Tok) (k:Nat) (h:k < l.length):(l.take (k+1)).map (·.name)=(l.take k).map (·.name)++[l[k].name]:=by
 rw [List.take_succ_eq_append_getElem h,List.map_append]
 rfl
/-- Names in a row are read one by one. -/
theorem strs_news {w:World} {b off:Nat} {l:List ByteArray} (h:Strs w (some ⟨b,off,none⟩) l):∀ j u,(strV l)[j]?=some u→w.cell? ((⟨b,off,none⟩:Addr).add j)=some u:=by
 intro j u hu
 unfold strV at hu
 rw [List.getElem?_map] at hu
 by_cases hj:j < l.length
 ·obtain ⟨b',off',e,hc⟩:=h j hj
  cases e
  rw [List.getElem?_eq_getElem hj] at hu
  have hadd:(⟨b,off,none⟩:Addr).add j=⟨b,off+j,none⟩:=by unfold Addr.add; split<;>simp_all
  rw [hadd,hc]
  simpa using hu
 ·rw [List.getElem?_eq_none (by omega)] at hu
  simp at hu
theorem below_own {w w':World} {B n size:Nat} {e:TypeId} {xs:List Value} {v:Value} (ho:w.ownsRow B e size v n xs) (hb:B≤w.heap.size) (hg:w.grownBy w' v.ownBlock):Below B w w' :=
 (Below.refl B w).grown hg hb (fun g e=>(owns_lt ho _ e).1)
/-- Some are appended to a row of one's own. -/
theorem list_append_many {P:Program} {w:World} {ops:Array Oper} {rest:List Oper} {o:Oper} {a:Act} {Q:Exit→Act→World→Prop} (hgd:o.guard=none) (s x:Operand) (t:TypeId)
  (ho:o.op=.call { callee:=.builtin .append,args:=#[s,x],argTypes:=#[t,t] }) (e:TypeId) (base size bytes:Nat) (E:Elt P t e size bytes) (v:Value) (n:Nat) (xs:List Value) (hs:a.eval s=v) (hown:w.ownsRow base e size v n xs)
  (ad:Addr) (m c:Nat) (news:List Value) (hx:a.eval x=.slice (some ad) m c) (hl:news.length=m*size) (hnews:∀ j u,news[j]?=some u→w.cell? (ad.add j)=some u) (h1:∀ u ∈ news,u.oneCell'=true)
  (hm:0 < m) (h63:n+m≤maxLen) (hroom:(n+m)*bytes≤140737488355328) (hbase:base≤w.heap.size)
  (h:∀ g cap w',w'.ownsRow base e size (.slice (some ⟨g,0,none⟩) (n+m) cap) (n+m) (xs++news)→w.grownBy w' v.ownBlock→g < w'.heap.size→(v.ownBlock=some g∨g=w.heap.size)→wpList P ops Q rest (a.put o.dst (.slice (some ⟨g,0,none⟩) (n+m) cap)) w') :
  wpList P ops Q (o::rest) a w:=by
 obtain ⟨i,z,hi,hz,hsz,hby,hzs⟩:=E.hi
 exact wpList_append_lies w hgd s x t ho base e i z size bytes E.ht hi hz hsz hby hzs E.hsz v n xs hs hown ad m c news hx hl hnews h1 hm h63 hroom hbase w.heap.size rfl fun g cap w' h2 h3 h4 h5=>h g cap w' h2 h3 h5 h4
def gC (g:Rd.Gr) (ta sa la ra:Option Addr) (tc sc lc rc:Nat):Array Value:=#[.slice ta g.toks.length tc,.slice sa g.skips.length sc,.slice la g.levs.length lc,.string g.start,.slice ra g.rules.length rc]
/-- The grammar's variable, and what it has, in a world that is as W was. -/
structure GA (W:World) (b:Nat) (g:Rd.Gr) (ta sa la ra:Option Addr) (tc sc lc rc:Nat):Prop where
 lt:b < W.heap.size
 c0:W.cell? ⟨b,0,none⟩=some (.slice ta g.toks.length tc)
 c1:W.cell? ⟨b,1,none⟩=some (.slice sa g.skips.length sc)
 c2:W.cell? ⟨b,2,none⟩=some (.slice la g.levs.length lc)
 c3:W.cell? ⟨b,3,none⟩=some (.string g.start)
 c4:W.cell? ⟨b,4,none⟩=some (.slice ra g.rules.length rc)
 t:TkV W ta g.toks
 s:PtV W sa g.skips
 l:LvV W la g.levs
 r:RlV W ra g.rules
theorem GA.below {W W':World} {b:Nat} {g:Rd.Gr} {ta sa la ra:Option Addr} {tc sc lc rc:Nat} (h:GA W b g ta sa la ra tc sc lc rc) (k:Below W.heap.size W W'):GA W' b g ta sa la ra tc sc lc rc :=
 ⟨Nat.lt_of_lt_of_le h.lt k.size,((bcell k).1 _ _ h.lt).trans h.c0,((bcell k).1 _ _ h.lt).trans h.c1,((bcell k).1 _ _ h.lt).trans h.c2,((bcell k).1 _ _ h.lt).trans h.c3,((bcell k).1 _ _ h.lt).trans h.c4,h.t.below k,h.s.below k,h.l.below k,h.r.below k⟩
theorem GA.new {w:World} {g:Rd.Gr} {ta sa la ra:Option Addr} {tc sc lc rc:Nat} (h1:TkV w ta g.toks) (h2:PtV w sa g.skips) (h3:LvV w la g.levs) (h4:RlV w ra g.rules) :
  GA (w.alloc (.cells (gC g ta sa la ra tc sc lc rc) 74)) w.heap.size g ta sa la ra tc sc lc rc:=by
 have hP:=heap_alloc_new w (.cells (gC g ta sa la ra tc sc lc rc) 74)
 have k:=(Below.refl w.heap.size w).alloc (Nat.le_refl _) (.cells (gC g ta sa la ra tc sc lc rc) 74)
 refine ⟨by simp,?_,?_,?_,?_,?_,h1.below k,h2.below k,h3.below k,h4.below k⟩
 all_goals (rw [cell_of_row _ _ _ _ _ _ hP]; rfl)
set_option maxRecDepth 100000 in
set_option maxHeartbeats 16000000 in
theorem right_yes {w:World} {v:Value} {g:Rd.Gr} (h:GrV w v g) (hr:Pl.right g=true) (hz:GrSz g) :
  Calls Tryd.prog 63 #[v] w fun e w'=>e=.returned (.bool true)∧Below w.heap.size w w':=by
 obtain ⟨ta,tc,sa,sc,la,lc,ra,rc,rfl,h1,h2,h3,h4⟩:=h
 have HF:=Lib.hid (rightF hr)
 have HZ:=Lib.hid hz
 have HG:=Lib.hid (GA.new (tc:=tc) (sc:=sc) (lc:=lc) (rc:=rc) h1 h2 h3 h4)
 unfold gC at HG
 have HB:=Lib.hid ((Below.refl w.heap.size w).alloc (Nat.le_refl _) (.cells #[.slice ta g.toks.length tc,.slice sa g.skips.length sc,.slice la g.levs.length lc,.string g.start,.slice ra g.rules.length rc] 74))
 clear h1 h2 h3 h4 hr hz
 have nt:=HF.out.nt
 have ns:=HF.out.ns
 have nl:=HF.out.nl
 have n1:=HF.out.n1
 have nr:=HF.out.nr
 have d1:decide ((20:Int) < (g.toks.length:Int))=false:=by simp; omega
 have d2:decide ((4:Int) < (g.skips.length:Int))=false:=by simp; omega
 have d3:decide ((10:Int) < (g.levs.length:Int))=false:=by simp; omega
 have d4:decide ((g.rules.length:Int) < 1)=false:=by simp; omega
 have d5:decide ((40:Int) < (g.rules.length:Int))=false:=by simp; omega
 have hnm:=name7_any g.start (w.alloc (.cells #[.slice ta g.toks.length tc,.slice sa g.skips.length sc,.slice la g.levs.length lc,.string g.start,.slice ra g.rules.length rc] 74))
 rw [HF.out.st] at hnm
 have e0:=HG.out.c0
 have e1:=HG.out.c1
 have e2:=HG.out.c2
 have e3:=HG.out.c3
 have e4:=HG.out.c4
 go_enter Tryd.func63,Tryd.ntmps63
 go_wp2_with fail
 generalize w.alloc (.cells #[.slice ta g.toks.length tc,.slice sa g.skips.length sc,.slice la g.levs.length lc,.string g.start,.slice ra g.rules.length rc] 74)=W at HG HB hnm e0 e1 e2 e3 e4 ⊢
 refine hnm.mono ?_
 rintro e w' ⟨rfl,rfl⟩
 clear hnm d1 d2 d3 d4 d5 e0 e1 e2 e3 e4
 go_wp2_with fail
 have hW0:=HG.out.lt
 go_loopg [3,4] g.toks.length (fun gk tv i wr=>∃ (k:Nat) (na:Option Addr) (nc:Nat),i=.int .i64 k∧tv=.slice na k nc∧k≤g.toks.length∧Hid (gk+k=g.toks.length)∧Hid (wr.ownsRow W.heap.size 9 1 (.slice na k nc) k (strV ((g.toks.take k).map (·.name))))∧Hid (Below W.heap.size W wr))
 case atStart=>exact ⟨0,none,0,rfl,rfl,by omega,Lib.hid (by omega),Lib.hid (World.ownsRow_nil _ _ _ _),Lib.hid (Below.refl _ _)⟩
 case round =>
  obtain ⟨k,na,nc,rfl,rfl,hk,HK,HO,HL⟩:=hrel
  have hsz:=HL.out.size
  have G2:=Lib.hid (HG.out.below HL.out)
  have e0:=G2.out.c0
  by_cases hlt:k < g.toks.length
  ·obtain ⟨b,off,hta,t0,_⟩:=G2.out.t k hlt
   subst hta
   have hok:=HF.out.t k hlt
   have hszp:=HZ.out.t g.toks[k] (List.getElem_mem hlt)
   have hns:=names_snoc g.toks k hlt
   obtain ⟨x,hx⟩:∃ x,g.toks[k]=x:=⟨_,rfl⟩
   rw [hx] at t0 hok hszp hns
   have HX:=Lib.hid hx
   have HOK:=Lib.hid hok
   have HN:=Lib.hid hns
   have HO2:=Lib.hid (HO.out.alloc (.cells #[.string x.name] 9))
   have HL2:=Lib.hid (HL.out.alloc (by omega) (.cells #[.string x.name] 9))
   clear hns hx hok
   go_wp2_with (refine list_append_one rfl _ _ _ rfl 9 W.heap.size 1 16 elt_str (.slice na k nc) k (strV ((g.toks.take k).map (·.name))) rfl HO2.out ⟨wr.heap.size,0,none⟩ 1 [.string x.name] rfl rfl (World.news_of_block (cs:=#[.string x.name]) (t:=9) (fr:=(0,0)) (heap_alloc_new wr _)) (by simp [Value.oneCell']) (by unfold maxLen; omega) (by omega) (by simp; omega) ?_; intro bg bcap wg hog hgg hb1 hb2 hb3; have HL3:=Lib.hid (HL2.out.trans (below_own HO2.out (by simp; omega) hgg)); have HO3:=Lib.hid hog; have G3:=Lib.hid (HG.out.below HL3.out); have e0:=G3.out.c0; obtain ⟨b2,off2,ee,u0,u1,u2,u3⟩:=G3.out.t k hlt; cases ee; rw [HX.out] at u1 u2 u3; clear u0 hog hgg hb3)
   have hpat:=pat7_any x.pat wg hszp
   rw [HOK.out] at hpat
   refine hpat.mono ?_
   rintro e w' ⟨rfl,hBe⟩
   have HL4:=Lib.hid (HL3.out.trans (hBe.mono HL3.out.size))
   have HO4:=Lib.hid (owns_below HO3.out hBe)
   clear hBe hpat u1 u2 u3 e0
   go_wp2_with fail
   go_roundg (g.toks.length - (k+1))
   case measure=>have:=HK.out; omega
   case rel=>exact ⟨k+1,some ⟨bg,0,none⟩,bcap,by go_num,rfl,by omega,Lib.hid (by omega),Lib.hid (by rw [HN.out,strV_snoc]; exact HO4.out),HL4⟩
  ·obtain rfl:k=g.toks.length:=by omega
   rw [List.take_length] at HO
   clear HK hlt
   go_wp2_with fail
   have HT:=HO
   have HV1:=HL
   have G2:=Lib.hid (HG.out.below HV1.out)
   have hV1:=HV1.out.size
   clear e0 HO HL hk hsz
   generalize wr=V at HT HV1 G2 hV1 ⊢
   go_loopg [5] g.skips.length (fun gk i wr=>∃ k:Nat,i=.int .i64 k∧k≤g.skips.length∧Hid (gk+k=g.skips.length)∧Hid (Below V.heap.size V wr))
   case atStart=>exact ⟨0,rfl,by omega,Lib.hid (by omega),Lib.hid (Below.refl _ _)⟩
   case round =>
    obtain ⟨k,rfl,hk,HK,HL⟩:=hrel
    have G3:=Lib.hid (G2.out.below HL.out)
    have e1:=G3.out.c1
    by_cases hlt:k < g.skips.length
    ·obtain ⟨b,off,rfl,t0,t1,t2⟩:=G3.out.s k hlt
     have hszp:=HZ.out.s g.skips[k] (List.getElem_mem hlt)
     have hpat:=pat7_any g.skips[k] wr hszp
     rw [HF.out.s k hlt] at hpat
     generalize g.skips[k]=x at t0 t1 t2 hszp hpat
     go_wp2_with fail
     refine hpat.mono ?_
     rintro e w' ⟨rfl,hBe⟩
     have HL4:=Lib.hid (HL.out.trans (hBe.mono HL.out.size))
     clear hBe hpat t0 t1 t2 e1
     go_wp2_with fail
     go_roundg (g.skips.length - (k+1))
     case measure=>have:=HK.out; omega
     case rel=>exact ⟨k+1,by go_num,by omega,Lib.hid (by omega),HL4⟩
    ·clear HK
     go_wp2_with fail
     have HT2:=Lib.hid (owns_below HT.out HL.out)
     have HV2:=Lib.hid (HV1.out.trans (HL.out.mono hV1))
     have hV2:=HV2.out.size
     clear e1 HL hk hlt HT HV1 G2 hV1
     generalize wr=V at HT2 HV2 G3 hV2 ⊢
     go_loopg [6,7,8] g.levs.length (fun gk lv i px wr=>∃ (k n:Nat) (na:Option Addr) (nc:Nat),i=.int .i64 k∧lv=.slice na n nc∧k≤g.levs.length∧Hid (gk+k=g.levs.length)∧Hid (n=((g.levs.take k).flatMap (·.names)).length)∧Hid (wr.ownsRow V.heap.size 9 1 (.slice na n nc) n (strV ((g.levs.take k).flatMap (·.names))))∧Hid (Below V.heap.size V wr))
     case atStart=>exact ⟨0,0,none,0,rfl,rfl,by omega,Lib.hid (by omega),Lib.hid rfl,Lib.hid (World.ownsRow_nil _ _ _ _),Lib.hid (Below.refl _ _)⟩
     case round =>
      obtain ⟨k,n,na3,nc3,rfl,rfl,hk,HK,HN,HO,HL⟩:=hrel
      have hsz:=HL.out.size
      have G4:=Lib.hid (G3.out.below HL.out)
      have e2:=G4.out.c2
      by_cases hlt:k < g.levs.length
      ·obtain ⟨b,off,xa,xc,rfl,t0,t1,hst⟩:=G4.out.l k hlt
       obtain ⟨x,hx⟩:∃ x,g.levs[k]=x:=⟨_,rfl⟩
       have hxn:=HZ.out.l g.levs[k] (List.getElem_mem hlt)
       have hno:n≤5002*k:=by rw [HN.out]; exact len_flat _ _ HZ.out.l
       obtain ⟨h1,h3,h0⟩:=okLevF (HF.out.l k hlt)
       have hns:=flat_snoc g.levs k hlt
       rw [hx] at t0 t1 hst hxn h1 h3 h0 hns
       obtain ⟨b2,off2,rfl,_⟩:=hst 0 (by omega)
       have HX:=Lib.hid hx
       have HS:=Lib.hid hns
       have HST:=Lib.hid (hst.below ((Below.refl wr.heap.size wr).alloc (Nat.le_refl _) (.cells #[.int .i64 x.assoc,.slice (some ⟨b2,off2,none⟩) x.names.length xc] 107)))
       have HO2:=Lib.hid (HO.out.alloc (.cells #[.int .i64 x.assoc,.slice (some ⟨b2,off2,none⟩) x.names.length xc] 107))
       have HL2:=Lib.hid (HL.out.alloc (by omega) (.cells #[.int .i64 x.assoc,.slice (some ⟨b2,off2,none⟩) x.names.length xc] 107))
       have HP:=Lib.hid (heap_alloc_new wr (.cells #[.int .i64 x.assoc,.slice (some ⟨b2,off2,none⟩) x.names.length xc] 107))
       have d1:decide (x.assoc < 1)=false:=by simp; omega
       have d2:decide (3 < x.assoc)=false:=by simp; omega
       have d3:((x.names.length:Int) == 0)=false:=by rw [beq0]; simpa using h0
       clear hx hns hst h1 h3
       go_wp2_with (refine list_append_many rfl _ _ _ rfl 9 V.heap.size 1 16 elt_str (.slice na3 n nc3) n (strV ((g.levs.take k).flatMap (·.names))) rfl HO2.out ⟨b2,off2,none⟩ x.names.length xc (strV x.names) rfl (by simp [strV]) (strs_news HST.out) (by intro u hu; unfold strV at hu; obtain ⟨y,_,rfl⟩:=List.mem_map.1 hu; rfl) (by omega) (by unfold maxLen; omega) (by omega) (by simp; omega) ?_; intro bg bcap wg hog hgg hb2 hb3; have HL3:=Lib.hid (HL2.out.trans (below_own HO2.out (by simp; omega) hgg)); have HO3:=Lib.hid hog; have hxp:=(hgg.block wr.heap.size (by simp) (fun e=>by have:=(owns_lt HO.out _ e.symm).2; omega)).trans HP.out; have x0:wg.cell? ⟨wr.heap.size,0,none⟩=some (.int .i64 x.assoc):=(by rw [cell_of_row _ _ _ _ _ _ hxp]; rfl); have x1:wg.cell? ⟨wr.heap.size,1,none⟩=some (.slice (some ⟨b2,off2,none⟩) x.names.length xc):=(by rw [cell_of_row _ _ _ _ _ _ hxp]; rfl); clear hxp hog hgg hb3)
       go_roundg (g.levs.length - (k+1))
       case measure=>have:=HK.out; omega
       case rel=>exact ⟨k+1,n+x.names.length,some ⟨bg,0,none⟩,bcap,by go_num,rfl,by omega,Lib.hid (by omega),Lib.hid (by rw [HS.out,List.length_append,← HN.out]),Lib.hid (by rw [HS.out,strV_append]; exact HO3.out),HL3⟩
      ·obtain rfl:k=g.levs.length:=by omega
       rw [List.take_length] at HO HN
       clear HK hlt
       go_wp2_with fail
       have HL':=HO
       have HT3:=Lib.hid (owns_below HT2.out HL.out)
       have HV3:=Lib.hid (HV2.out.trans (HL.out.mono hV2))
       have hV3:=HV3.out.size
       have hVle:=HL.out.size
       clear e2 HL HO hk HT2 HV2 G3 hV2 hsz
       generalize wr=U at HT3 HV3 G4 hV3 HL' hVle ⊢
       go_loopg [9,10,11] g.rules.length (fun gk i px kk wr=>∃ k:Nat,i=.int .i64 k∧k≤g.rules.length∧Hid (gk+k=g.rules.length)∧Hid (Below U.heap.size U wr))
       case atStart=>exact ⟨0,rfl,by omega,Lib.hid (by omega),Lib.hid (Below.refl _ _)⟩
       case round =>
        obtain ⟨k,rfl,hk,HK,HL⟩:=hrel
        have hsz:=HL.out.size
        have G5:=Lib.hid (G4.out.below HL.out)
        have e4:=G5.out.c4
        by_cases hlt:k < g.rules.length
        ·obtain ⟨b,off,xa,xc,rfl,t0,t1,t2,t3,hst⟩:=G5.out.r k hlt
         obtain ⟨h1,h2,h3,h4,h5⟩:=okRuleF (HF.out.r k hlt)
         generalize g.rules[k]=x at t0 t1 t2 t3 hst h1 h2 h3 h4 h5
         have AL:=(Below.refl wr.heap.size wr).alloc (Nat.le_refl _) (.cells #[.string x.left,.slice xa x.right.length xc,.string x.prec,.string x.action] 77)
         have hP:=heap_alloc_new wr (.cells #[.string x.left,.slice xa x.right.length xc,.string x.prec,.string x.action] 77)
         have HST:=Lib.hid (hst.below AL)
         have HL2:=Lib.hid (HL.out.alloc (by omega) (.cells #[.string x.left,.slice xa x.right.length xc,.string x.prec,.string x.action] 77))
         have HP:=Lib.hid hP
         have n1:=name7_any x.left (wr.alloc (.cells #[.string x.left,.slice xa x.right.length xc,.string x.prec,.string x.action] 77))
         have n2:=act7_any x.action (wr.alloc (.cells #[.string x.left,.slice xa x.right.length xc,.string x.prec,.string x.action] 77))
         have n3:=name7_any x.prec (wr.alloc (.cells #[.string x.left,.slice xa x.right.length xc,.string x.prec,.string x.action] 77))
         rw [h1] at n1
         rw [h4] at n2
         have H5:=Lib.hid h5
         have d1:decide ((8:Int) < (x.right.length:Int))=false:=by simp; omega
         have x0:(wr.alloc (.cells #[.string x.left,.slice xa x.right.length xc,.string x.prec,.string x.action] 77)).cell? ⟨wr.heap.size,0,none⟩=some (.string x.left):=by rw [cell_of_row _ _ _ _ _ _ hP]; rfl
         have x1:(wr.alloc (.cells #[.string x.left,.slice xa x.right.length xc,.string x.prec,.string x.action] 77)).cell? ⟨wr.heap.size,1,none⟩=some (.slice xa x.right.length xc):=by rw [cell_of_row _ _ _ _ _ _ hP]; rfl
         have x2:(wr.alloc (.cells #[.string x.left,.slice xa x.right.length xc,.string x.prec,.string x.action] 77)).cell? ⟨wr.heap.size,2,none⟩=some (.string x.prec):=by rw [cell_of_row _ _ _ _ _ _ hP]; rfl
         have x3:(wr.alloc (.cells #[.string x.left,.slice xa x.right.length xc,.string x.prec,.string x.action] 77)).cell? ⟨wr.heap.size,3,none⟩=some (.string x.action):=by rw [cell_of_row _ _ _ _ _ _ hP]; rfl
         clear h1 h4 h5 hst AL hP
         rcases h3 with h3 | ⟨h3,h6⟩
         ·have q1:(x.prec.toList == [])=true:=by rw [toList_beq0]; exact h3
          have q2:x.prec.toList=[]:=by simpa using q1
          clear h3 n3
          go_wp2_with fail
          refine n1.mono ?_
          rintro e w' ⟨rfl,rfl⟩
          clear n1
          go_wp2_with fail
          refine n2.mono ?_
          rintro e w' ⟨rfl,rfl⟩
          clear n2 t0 t1 t2 t3 e4 q1 q2 x0 x2 x3
          go_wp2_with fail
          generalize wr.alloc (.cells #[.string x.left,.slice xa x.right.length xc,.string x.prec,.string x.action] 77)=Y at HST HL2 HP x1 ⊢
          go_loopg [11] x.right.length (fun gk2 i wq=>∃ q:Nat,i=.int .i64 q∧q≤x.right.length∧Hid (gk2+q=x.right.length)∧wq=Y)
          case atStart=>exact ⟨0,rfl,by omega,Lib.hid (by omega),rfl⟩
          case round =>
           obtain ⟨q,rfl,hq,HQ,rfl⟩:=hrel
           by_cases hql:q < x.right.length
           ·obtain ⟨b9,off9,rfl,z0⟩:=HST.out q hql
            have nq:=name7_any x.right[q] wr
            rw [H5.out q hql] at nq
            generalize x.right[q]=y at z0 nq
            go_wp2_with fail
            refine nq.mono ?_
            rintro e w' ⟨rfl,rfl⟩
            clear nq z0
            go_wp2_with fail
            go_roundg (x.right.length - (q+1))
            case measure=>have:=HQ.out; omega
            case rel=>exact ⟨q+1,by go_num,by omega,Lib.hid (by omega),rfl⟩
           ·clear HQ
            go_wp2_with fail
            go_roundg (g.rules.length - (k+1))
            case measure=>have:=HK.out; omega
            case rel=>exact ⟨k+1,by go_num,by omega,Lib.hid (by omega),HL2⟩
         ·have q1:(x.prec.toList == [])=false:=by rw [toList_beq0]; exact h3
          have q2:(!x.prec.toList.isEmpty)=true:=empty_no q1
          rw [h6] at n3
          clear h3 h6
          go_wp2_with fail
          refine n1.mono ?_
          rintro e w' ⟨rfl,rfl⟩
          clear n1
          go_wp2_with fail
          refine n3.mono ?_
          rintro e w' ⟨rfl,rfl⟩
          clear n3
          go_wp2_with fail
          refine n2.mono ?_
          rintro e w' ⟨rfl,rfl⟩
          clear n2 t0 t1 t2 t3 e4 q1 q2 x0 x2 x3
          go_wp2_with fail
          generalize wr.alloc (.cells #[.string x.left,.slice xa x.right.length xc,.string x.prec,.string x.action] 77)=Y at HST HL2 HP x1 ⊢
          go_loopg [11] x.right.length (fun gk2 i wq=>∃ q:Nat,i=.int .i64 q∧q≤x.right.length∧Hid (gk2+q=x.right.length)∧wq=Y)
          case atStart=>exact ⟨0,rfl,by omega,Lib.hid (by omega),rfl⟩
          case round =>
           obtain ⟨q,rfl,hq,HQ,rfl⟩:=hrel
           by_cases hql:q < x.right.length
           ·obtain ⟨b9,off9,rfl,z0⟩:=HST.out q hql
            have nq:=name7_any x.right[q] wr
            rw [H5.out q hql] at nq
            generalize x.right[q]=y at z0 nq
            go_wp2_with fail
            refine nq.mono ?_
            rintro e w' ⟨rfl,rfl⟩
            clear nq z0
            go_wp2_with fail
            go_roundg (x.right.length - (q+1))
            case measure=>have:=HQ.out; omega
            case rel=>exact ⟨q+1,by go_num,by omega,Lib.hid (by omega),rfl⟩
           ·clear HQ
            go_wp2_with fail
            go_roundg (g.rules.length - (k+1))
            case measure=>have:=HK.out; omega
            case rel=>exact ⟨k+1,by go_num,by omega,Lib.hid (by omega),HL2⟩
        ·clear HK
         go_wp2_with fail
         have O1:=Lib.hid (owns_below HT3.out HL.out)
         have O2:=Lib.hid (owns_below (owns_base HL'.out (Nat.le_refl _)) HL.out)
         have HE:=Lib.hid (HB.out.trans ((HV3.out.trans (HL.out.mono hV3)).mono (by have:=HB.out.size; omega)))
         have hfl:=len_flat g.levs g.levs.length HZ.out.l
         rw [List.take_length] at hfl
         have o1:=once_any (cap:=nc) (Strs.of_owns O1.out (by simp)) (by simp; omega)
         rw [List.length_map,HF.out.ot] at o1
         refine o1.mono ?_
         rintro e w' ⟨rfl,hB1⟩
         have o2:=once_any (cap:=nc3) (Strs.of_owns (owns_below O2.out hB1) HN.out.symm) (by omega)
         rw [← HN.out,HF.out.ol] at o2
         have HE2:=Lib.hid (HE.out.trans (hB1.mono (HE.out.size)))
         clear hfl o1 hB1
         go_wp2_with fail
         refine o2.mono ?_
         rintro e w' ⟨rfl,hB1⟩
         have HE3:=Lib.hid (HE2.out.trans (hB1.mono HE2.out.size))
         clear o2 hB1
         go_wp2_with fail
         go_ret
         exact ⟨rfl,HE3.out⟩
end Go.Proofs.YtjbggogbnckllaaDoor
end
