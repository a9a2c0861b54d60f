/-
  check.Shortest; slices.Index and slices.Contains on numbers.
  The walk of check.Productive.
-/
import Derived.Test.YtjbggogbnckllaaDoorQD
section
set_option maxRecDepth 100000
namespace Go.Proofs.YtjbggogbnckllaaDoor
open Go.RowKit
set_option linter.unusedVariables false
set_option linter.unusedSimpArgs false
namespace Q
/-- Where a number stands. -/
def idx (x:Int):List Int→Nat→Int
 | [],_=>-1
 | y::r,k=>if x=y then (k:Int) else idx x r (k+1)
theorem idx_mem (x:Int):∀ (r:List Int) (k:Nat),(0≤idx x r k)↔x ∈ r
 | [],k=>by simp [idx]
 | y::r,k=>by
  rw [idx]
  split
  ·rename_i h; subst h; simp
  ·rename_i h
   rw [idx_mem x r (k+1),List.mem_cons]
   exact ⟨Or.inr,fun h'=>h'.resolve_left h⟩
end Q
/-- The first field of the lengths' value. -/
theorem fld_lens0 (a b:Value) (w:World):Sem.run Tryd.prog (Instr.field 103 (.agg #[a,b]) 0) w=.ok a w:=by kernel_rfl
set_option maxRecDepth 100000 in
set_option maxHeartbeats 2000000 in
theorem shortest_any {w:World} {v:Value} {p:Pl.Plan} (h:PnV w v p) (ho:Q.OK p) :
  Calls Tryd.prog 35 #[v] w fun e w'=>∃ g1,e=.returned (.slice (some ⟨g1,0,none⟩) (Q.cnt p) (Q.cnt p))∧Arr w' g1 (Q.cnt p) (Q.lens p).long∧w.heap.size≤g1∧Below w.heap.size w w':=by
 have h0:=h
 obtain ⟨ta,tc,va,vc,ra,rc,la,lc,aa,ac,ca,cc,rfl,h⟩:=h
 have HP:=PB.new (tc:=tc) (vc:=vc) (rc:=rc) (lc:=lc) (ac:=ac) (cc:=cc) h
 have k:=(Below.refl w.heap.size w).alloc (Nat.le_refl _) (.cells (pnC p ta va ra la aa ca tc vc rc lc ac cc) 32)
 have HB:=Lib.hid k
 have HC:=reckon_any (h0.below k) ho
 unfold pnC at HP HB HC
 have c0:=HP.c0
 have c1:=HP.c1
 have c2:=HP.c2
 have c3:=HP.c3
 have c4:=HP.c4
 have c5:=HP.c5
 have HS:Hid (w.heap.size≤(w.alloc (.cells #[.slice ta p.terms.length tc,.slice va p.vars.length vc,.slice ra p.rules.length rc,.slice la p.levels.length lc,.slice aa p.assocs.length ac,.slice ca p.acts.length cc] 32)).heap.size):=Lib.hid (by simp)
 clear HP h h0 k ho
 go_enter Tryd.func35,Tryd.ntmps35
 go_wp2_with fail
 generalize w.alloc (.cells #[.slice ta p.terms.length tc,.slice va p.vars.length vc,.slice ra p.rules.length rc,.slice la p.levels.length lc,.slice aa p.assocs.length ac,.slice ca p.acts.length cc] 32)=W at HC HB HS c0 c1 c2 c3 c4 c5 ⊢
 go_wp2_with fail
 refine HC.mono ?_
 rintro e w' ⟨g1,g2,rfl,a1,a2,b1,b2,k⟩
 have HA:=Lib.hid a1
 have HG:=Lib.hid (And.intro (Nat.le_trans HS.out b1) (HB.out.trans (k.mono HS.out)))
 have hfl:=fld_lens0 (.slice (some ⟨g1,0,none⟩) (Q.cnt p) (Q.cnt p)) (.slice (some ⟨g2,0,none⟩) (Q.cnt p) (Q.cnt p))
 clear HC a1 a2 b1 b2 k HS HB c0 c1 c2 c3 c4 c5
 go_wp2_with fail
 go_ret
 exact ⟨g1,rfl,HA.out,HG.out.1,HG.out.2⟩
set_option maxRecDepth 100000 in
set_option maxHeartbeats 4000000 in
theorem index_any {w:World} {ra:Option Addr} {r:List Int} (x:Int) (rc:Nat) (hr:Ints w ra r) (hm:r.length≤1000000) :
  Calls Tryd.prog 75 #[.slice ra r.length rc,.int .i64 x] w fun e w'=>e=.returned (.int .i64 (Q.idx x r 0))∧w=w':=by
 have HR:=Lib.hid hr
 obtain ⟨R,hR⟩:∃ R,R=Q.idx x r 0:=⟨_,rfl⟩
 have HV:=Lib.hid hR.symm
 rw [← hR]
 clear hr hR
 go_enter Tryd.func75,Tryd.ntmps75
 go_wp2_with fail
 go_loop [5,8] (fun t i=>∃ (k:Nat),i=.int .i64 k∧k≤r.length∧Hid (Q.idx x (r.drop k) k=R)) (fun _ i=>r.length - (intOf i).toNat)
 case atStart=>exact ⟨0,rfl,by omega,HV⟩
 case round =>
  clear HV
  obtain ⟨k,rfl,hk,HS⟩:=hrel
  by_cases hlt:k < r.length
  ·obtain ⟨b,off,rfl,t0⟩:=HR.out k hlt
   have hs:=HS.out
   rw [List.drop_eq_getElem_cons hlt,Q.idx] at hs
   generalize r[k]=y at t0 hs
   clear HS
   by_cases hy:x=y
   ·have d:(x == y)=true:=by simpa using hy
    rw [if_pos hy] at hs
    have HS:=Lib.hid hs
    clear hs hy
    go_wp2_with fail
    go_ret
    exact ⟨ret_int HS.out,rfl⟩
   ·have d:(x == y)=false:=by simpa using hy
    rw [if_neg hy] at hs
    have HS:=Lib.hid hs
    clear hs hy
    go_wp2_with fail
    go_round
    case rel=>exact ⟨k+1,by go_num,by omega,HS⟩
    case measure=>simp [intOf]; omega
  ·have hs:=HS.out
   rw [List.drop_eq_nil_of_le (by omega),Q.idx] at hs
   have HE:=Lib.hid hs
   clear HS hs
   go_wp2_with fail
   go_ret
   exact ⟨ret_int HE.out,rfl⟩
set_option maxRecDepth 100000 in
set_option maxHeartbeats 2000000 in
theorem contains_any {w:World} {ra:Option Addr} {r:List Int} (x:Int) (rc:Nat) (hr:Ints w ra r) (hm:r.length≤1000000) :
  Calls Tryd.prog 57 #[.slice ra r.length rc,.int .i64 x] w fun e w'=>e=.returned (.bool (decide (x ∈ r)))∧w=w':=by
 have HC:=index_any x rc hr hm
 have hi:=Q.idx_mem x r 0
 obtain ⟨R,hR⟩:∃ R,R=Q.idx x r 0:=⟨_,rfl⟩
 rw [← hR] at HC hi
 have HV:Hid (decide (0≤R)=decide (x ∈ r)):=Lib.hid (decide_eq_decide.2 hi)
 clear hi hR hr
 go_enter Tryd.func57,Tryd.ntmps57
 go_wp2_with fail
 refine HC.mono ?_
 rintro e w' ⟨rfl,rfl⟩
 clear HC
 go_wp2_with fail
 go_ret
 exact ⟨congrArg (fun b=>Ending.returned (.bool b)) HV.out,rfl⟩
end Go.Proofs.YtjbggogbnckllaaDoor
end
section
set_option maxRecDepth 100000
namespace Go.Proofs.YtjbggogbnckllaaDoor
open Go.RowKit
set_option linter.unusedVariables false
set_option linter.unusedSimpArgs false
namespace Q
/-- A variable that makes a sentence. -/
def prodB (p:Pl.Plan) (i:Nat):Bool:=decide (0≤(lens p).long i)&&decide (p.terms.length≤i)&&decide (i≠p.terms.length+p.vars.length)
def ofB (f:Nat→Bool) (n:Nat):List Int:=((List.range n).filter f).map fun (i:Nat)=>(i:Int)
theorem ofB_yes {f:Nat→Bool} {n:Nat} (h:f n=true):ofB f (n+1)=ofB f n++[(n:Int)]:=by simp [ofB,List.range_succ,List.filter_append,h]
theorem ofB_no {f:Nat→Bool} {n:Nat} (h:f n=false):ofB f (n+1)=ofB f n:=by simp [ofB,List.range_succ,List.filter_append,h]
theorem ofB_len (f:Nat→Bool) (n:Nat):(ofB f n).length≤n:=by
 unfold ofB
 rw [List.length_map]
 exact Nat.le_trans (List.length_filter_le _ _) (by simp)
theorem mem_ofB {f:Nat→Bool} {n:Nat} {x:Int}:x ∈ ofB f n↔∃ i:Nat,i < n∧f i=true∧x=(i:Int):=by
 simp only [ofB,List.mem_map,List.mem_filter,List.mem_range]
 exact ⟨fun ⟨i,⟨h1,h2⟩,h3⟩=>⟨i,h1,h2,h3.symm⟩,fun ⟨i,h1,h2,h3⟩=>⟨i,⟨h1,h2⟩,h3.symm⟩⟩
end Q
set_option maxRecDepth 100000 in
set_option maxHeartbeats 8000000 in
theorem productive_any {w:World} {v:Value} {p:Pl.Plan} (h:PnV w v p) (ho:Q.OK p) :
  Calls Tryd.prog 33 #[v] w fun e w'=>∃ na nc,e=.returned (.slice na (Q.ofB (Q.prodB p) (Q.cnt p)).length nc)∧Ints w' na (Q.ofB (Q.prodB p) (Q.cnt p))∧Below w.heap.size w w':=by
 have h0:=h
 obtain ⟨ta,tc,va,vc,ra,rc,la,lc,aa,ac,ca,cc,rfl,h⟩:=h
 have HP0:=PB.new (tc:=tc) (vc:=vc) (rc:=rc) (lc:=lc) (ac:=ac) (cc:=cc) h
 have k:=(Below.refl w.heap.size w).alloc (Nat.le_refl _) (.cells (pnC p ta va ra la aa ca tc vc rc lc ac cc) 32)
 have HB:=Lib.hid k
 have HC:=shortest_any (h0.below k) ho
 unfold pnC at HP0 HB HC
 have HP:=Lib.hid HP0
 have c0:=HP0.c0
 have c1:=HP0.c1
 have c2:=HP0.c2
 have c3:=HP0.c3
 have c4:=HP0.c4
 have c5:=HP0.c5
 have HS:Hid ((w.alloc (.cells #[.slice ta p.terms.length tc,.slice va p.vars.length vc,.slice ra p.rules.length rc,.slice la p.levels.length lc,.slice aa p.assocs.length ac,.slice ca p.acts.length cc] 32)).heap.size=w.heap.size+1):=Lib.hid (by simp)
 have hnb:=ho.nb
 have hmb:=ho.m
 have hcn:Q.cnt p=p.terms.length+p.vars.length+1:=rfl
 clear HP0 h h0 k ho
 go_enter Tryd.func33,Tryd.ntmps33
 go_wp2_with fail
 generalize w.alloc (.cells #[.slice ta p.terms.length tc,.slice va p.vars.length vc,.slice ra p.rules.length rc,.slice la p.levels.length lc,.slice aa p.assocs.length ac,.slice ca p.acts.length cc] 32)=W at HC HB HS HP c0 c1 c2 c3 c4 c5 ⊢
 refine HC.mono ?_
 rintro e w' ⟨g1,rfl,a1,b1,k⟩
 have HA:=Lib.hid a1
 have HL0:=Lib.hid k
 clear HC a1 b1 k c0 c1 c2 c3 c4 c5
 go_wp2_with fail
 have hsz0:=HL0.out.size
 have HP:=Lib.hid (HP.out.below HL0.out)
 have HBV:=Lib.hid (HB.out.trans (HL0.out.mono (by have:=HS.out; omega)))
 have HSV:Hid (w.heap.size≤w'.heap.size):=Lib.hid (by have:=HS.out; omega)
 generalize w'=V at HA HP HBV HSV ⊢
 generalize hN:Q.cnt p=N at HA hcn ⊢
 go_loopg [3,9] N (fun gk tv i wr=>∃ (k:Nat) (na:Option Addr) (nc:Nat),i=.int .i64 k∧tv=.slice na (Q.ofB (Q.prodB p) k).length nc∧k≤N∧Hid (gk+k=N)∧Hid (wr.ownsRow V.heap.size 3 1 (.slice na (Q.ofB (Q.prodB p) k).length nc) (Q.ofB (Q.prodB p) k).length (intV (Q.ofB (Q.prodB p) k)))∧Hid (Below V.heap.size V wr))
 case atStart=>exact ⟨0,none,0,rfl,rfl,by omega,Lib.hid (by omega),Lib.hid (World.ownsRow_nil _ _ _ _),Lib.hid (Below.refl _ _)⟩
 case round =>
  obtain ⟨k,na,nc,rfl,rfl,hk,HK,HO,HL⟩:=hrel
  have HR:=Lib.hid (HA.out.below HL.out)
  have hsz:=HL.out.size
  have G2:=Lib.hid (HP.out.below HL.out)
  by_cases hlt:k < N
  ·have c0:=G2.out.c0
   have c1:=G2.out.c1
   have c2:=G2.out.c2
   have c3:=G2.out.c3
   have c4:=G2.out.c4
   have c5:=G2.out.c5
   have q0:=HR.out.cell hlt
   have hpb:Q.prodB p k=(decide (0≤(Q.lens p).long k)&&decide (p.terms.length≤k)&&decide (k≠p.terms.length+p.vars.length)):=rfl
   have HPV:=Lib.hid (show PnV wr (.agg #[.slice ta p.terms.length tc,.slice va p.vars.length vc,.slice ra p.rules.length rc,.slice la p.levels.length lc,.slice aa p.assocs.length ac,.slice ca p.acts.length cc]) p from ⟨ta,tc,va,vc,ra,rc,la,lc,aa,ac,ca,cc,rfl,G2.out.a⟩)
   generalize hy:(Q.lens p).long k=y at q0 hpb
   clear hy
   by_cases d:0≤y
   ·have d1:decide (0≤y)=true:=by simpa using d
    have HT:=term_any (k:Int) HPV.out hnb
    rw [d1,Bool.true_and] at hpb
    have HF:=Lib.hid hpb
    clear hpb
    go_wp2_with fail
    refine HT.mono ?_
    rintro e w1 ⟨rfl,k1⟩
    have HL1:=Lib.hid (HL.out.trans (k1.mono hsz))
    have HO1:=Lib.hid (owns_below HO.out k1)
    have HR1:=Lib.hid (HR.out.below k1)
    have HPV1:=Lib.hid (HPV.out.below k1)
    have G3:=Lib.hid (HP.out.below HL1.out)
    have c0:=G3.out.c0
    have c1:=G3.out.c1
    have c2:=G3.out.c2
    have c3:=G3.out.c3
    have c4:=G3.out.c4
    have c5:=G3.out.c5
    clear HT k1 HO HR HPV G2 HL
    by_cases ht:k < p.terms.length
    ·have d2:decide (0≤(k:Int)∧(k:Int) < (p.terms.length:Int))=true:=by simp; omega
     have hno:Q.prodB p k=false:=by
      have h1:decide (p.terms.length≤k)=false:=by simp; omega
      rw [HF.out,h1,Bool.false_and]
     have hno:=Lib.hid (Q.ofB_no hno)
     rw [d2]
     clear ht d
     go_wp2_with fail
     go_roundg (N - (k+1))
     case measure=>have:=HK.out; omega
     case rel=>exact ⟨k+1,na,nc,by go_num,by rw [hno.out],by omega,Lib.hid (by omega),Lib.hid (by rw [hno.out]; exact HO1.out),HL1⟩
    ·have d2:decide (0≤(k:Int)∧(k:Int) < (p.terms.length:Int))=false:=by simp; omega
     have h1:decide (p.terms.length≤k)=true:=by simp; omega
     have hf:=HF.out
     rw [h1,Bool.true_and] at hf
     have HT2:=accept_any HPV1.out hnb hmb
     rw [d2]
     clear ht d h1 HF
     go_wp2_with fail
     refine HT2.mono ?_
     rintro e w2 ⟨rfl,k1⟩
     have hsz1:=HL1.out.size
     have HL2:=Lib.hid (HL1.out.trans (k1.mono hsz1))
     have HO2:=Lib.hid (owns_below HO1.out k1)
     have HR2:=Lib.hid (HR1.out.below k1)
     clear HT2 k1 HO1 HR1 HPV1 G3 HL1 c0 c1 c2 c3 c4 c5
     by_cases ha:k=p.terms.length+p.vars.length
     ·have hd:decide (k≠p.terms.length+p.vars.length)=false:=by simpa using ha
      rw [hd] at hf
      have hno:=Lib.hid (Q.ofB_no hf)
      have e1:((k:Int) == (p.terms.length:Int)+(p.vars.length:Int))=true:=by simp; omega
      clear hd hf ha
      go_wp2_with fail
      go_roundg (N - (k+1))
      case measure=>have:=HK.out; omega
      case rel=>exact ⟨k+1,na,nc,by go_num,by rw [hno.out],by omega,Lib.hid (by omega),Lib.hid (by rw [hno.out]; exact HO2.out),HL2⟩
     ·have hd:decide (k≠p.terms.length+p.vars.length)=true:=by simpa using ha
      rw [hd] at hf
      have hyes:=Lib.hid (Q.ofB_yes hf)
      have hlen:=Lib.hid (Q.ofB_len (Q.prodB p) k)
      have e1:((k:Int) == (p.terms.length:Int)+(p.vars.length:Int))=false:=by simp; omega
      have hsz2:=HL2.out.size
      have HO3:=Lib.hid (HO2.out.alloc (.cells #[.int .i64 (k:Int)] 3))
      have HL3:=Lib.hid (HL2.out.alloc (by omega) (.cells #[.int .i64 (k:Int)] 3))
      have HR3:=Lib.hid (HR2.out.below ((Below.refl _ w2).alloc (Nat.le_refl _) (.cells #[.int .i64 (k:Int)] 3)))
      clear hd hf ha
      go_wp2_with (refine list_append_one rfl _ _ _ rfl 3 V.heap.size 1 8 elt_int (.slice na (Q.ofB (Q.prodB p) k).length nc) (Q.ofB (Q.prodB p) k).length (intV (Q.ofB (Q.prodB p) k)) rfl HO3.out ⟨w2.heap.size,0,none⟩ 1 [.int .i64 (k:Int)] rfl rfl (World.news_of_block (cs:=#[.int .i64 (k:Int)]) (t:=3) (fr:=(0,0)) (heap_alloc_new w2 _)) (by simp [Value.oneCell']) (by have:=hlen.out; unfold maxLen; omega) (by have:=hlen.out; omega) (by simp; omega) ?_; intro bg bcap wg hog hgg hb1 hb2 hb3; have HL4:=Lib.hid (HL3.out.trans (below_own HO3.out (by simp; omega) hgg)); have HO4:=Lib.hid hog; clear hog hb3)
      go_roundg (N - (k+1))
      case measure=>have:=HK.out; omega
      case rel=>exact ⟨k+1,some ⟨bg,0,none⟩,bcap,by go_num,by rw [hyes.out,List.length_append]; rfl,by omega,Lib.hid (by omega),Lib.hid (by rw [hyes.out,List.length_append,intV_snoc]; exact HO4.out),HL4⟩
   ·have d1:decide (0≤y)=false:=by simpa using d
    rw [d1,Bool.false_and,Bool.false_and] at hpb
    have hno:=Q.ofB_no hpb
    clear d hpb
    go_wp2_with fail
    go_roundg (N - (k+1))
    case measure=>have:=HK.out; omega
    case rel=>exact ⟨k+1,na,nc,by go_num,by rw [hno],by omega,Lib.hid (by omega),Lib.hid (by rw [hno]; exact HO.out),HL⟩
  ·obtain rfl:k=N:=by omega
   clear HK hlt
   go_wp2_with fail
   go_ret
   exact ⟨na,nc,by rw [hN]; rfl,by rw [hN]; exact Ints.of_owns HO.out,HBV.out.trans (HL.out.mono HSV.out)⟩
end Go.Proofs.YtjbggogbnckllaaDoor
end
