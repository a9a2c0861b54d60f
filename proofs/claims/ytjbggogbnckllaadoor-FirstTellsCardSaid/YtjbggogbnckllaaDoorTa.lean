/-
  Walks of the reference of chapter 10: put, List.
-/
import Derived.Test.YtjbggogbnckllaaDoorAw
namespace Go.Proofs.YtjbggogbnckllaaDoor
open Go.RowKit
set_option linter.unusedVariables false
set_option linter.unusedSimpArgs false
theorem own_sl10 {w:World} {B n:Nat} {v:Value} {l:List Int} (h:w.ownsRow B 3 1 v n (intV l)):∃ a cap,v=.slice a n cap∧Ints w a l:=by
 have h0:=h
 rcases h.2 with ⟨rfl,rfl⟩ | ⟨g,c,cur,rfl,_⟩
 ·exact ⟨none,0,rfl,Ints.of_owns h0⟩
 ·exact ⟨_,_,rfl,Ints.of_owns h0⟩
/-- A row of truths that is a set. -/
def Bit (w:World) (g n X:Nat):Prop:=Brr w g n X.testBit
def Grw (gr:Bool) (A B k:Nat):Prop:=gr=true↔∃ j,j < k∧B.testBit j=true∧A.testBit j=false
theorem Grw.iff {gr:Bool} {A B k:Nat} (h:Grw gr A B k):gr=true↔∃ j,j < k∧B.testBit j=true∧A.testBit j=false:=h
theorem Grw.skip {gr:Bool} {A B k:Nat} (h:Grw gr A B k) (hk:B.testBit k=false∨A.testBit k=true):Grw gr A B (k+1):=by
 unfold Grw
 rw [h.iff]
 constructor
 ·rintro ⟨j,h1,h2⟩; exact ⟨j,by omega,h2⟩
 ·rintro ⟨j,h1,h2,h3⟩
  have:j≠k:=fun e=>by
   rw [e] at h2 h3
   rcases hk with hk | hk
   ·rw [h2] at hk; cases hk
   ·rw [h3] at hk; cases hk
  exact ⟨j,by omega,h2,h3⟩
set_option maxRecDepth 100000 in
set_option maxHeartbeats 16000000 in
theorem put10_any {w:World} {ga gb n ca cb A B:Nat} (hA:Bit w ga n A) (hB:Bit w gb n B) (hX:A < 2 ^ n) (hY:B < 2 ^ n) (hab:ga=gb→A=B) (hn:n≤1000) :
  Calls Tryd.prog 50 #[.slice (some ⟨ga,0,none⟩) n ca,.slice (some ⟨gb,0,none⟩) n cb] w fun e w'=>e=.returned (.bool (decide (A|||B≠A)))∧Bit w' ga n (A|||B)∧Upd ga w w':=by
 have HA0:Hid (Brr w ga n (fun j=>A.testBit j||(decide (j < 0)&&B.testBit j))):=Lib.hid (hA.ext (fun i _=>by simp))
 have HB0:Hid (Brr w gb n B.testBit):=Lib.hid hB
 have HAB:=Lib.hid hab
 have HXY:=Lib.hid (And.intro hX hY)
 clear hA hB hX hY hab
 go_enter Tryd.func50,Tryd.ntmps50
 go_wp2_with fail
 go_loopg [5,6] n (fun gk gv iv wr=>∃ (k:Nat) (gr:Bool),iv=.int .i64 k∧gv=.bool gr∧k≤n∧Hid (gk+k=n)∧Hid (Upd ga w wr)∧Hid (Brr wr ga n (fun j=>A.testBit j||(decide (j < k)&&B.testBit j)))∧Hid (Brr wr gb n B.testBit)∧Hid (Grw gr A B k))
 case atStart=>exact ⟨0,false,rfl,rfl,by omega,Lib.hid (by omega),Lib.hid (Upd.refl _ _),HA0,HB0,Lib.hid ⟨fun h=>(by cases h),fun ⟨j,h,_⟩=>absurd h (Nat.not_lt_zero _)⟩⟩
 case round =>
  clear HA0 HB0
  obtain ⟨k,gr,rfl,rfl,hk,HK,HU,HA,HB,HG⟩:=hrel
  by_cases hlt:k < n
  ·have q0:=HB.out.cell hlt
   have q1:=HA.out.cell hlt
   have qf:=HA.out.fz k
   have hdk:decide (k < k)=false:=by simp
   simp only [hdk,Bool.false_and,Bool.or_false] at q1
   cases hb:B.testBit k with
   | false =>
    rw [hb] at q0
    have HA2:Hid (Brr wr ga n (fun j=>A.testBit j||(decide (j < k+1)&&B.testBit j))):=Lib.hid (HA.out.ext (fun j _=>by
     by_cases hj:j=k
     ·subst hj; rw [hb]; simp
     ·have:decide (j < k+1)=decide (j < k):=by simp; omega
      rw [this]))
    have HG2:Hid (Grw gr A B (k+1)):=Lib.hid (HG.out.skip (.inl hb))
    clear hb hdk q1 qf
    go_wp2_with fail
    go_roundg (n - (k+1))
    case measure=>have:=HK.out; omega
    case rel=>exact ⟨k+1,gr,by go_num,rfl,by omega,Lib.hid (by omega),HU,HA2,HB,HG2⟩
   | true =>
    rw [hb] at q0
    cases ha:A.testBit k with
    | true =>
     rw [ha] at q1
     have HA2:Hid (Brr wr ga n (fun j=>A.testBit j||(decide (j < k+1)&&B.testBit j))):=Lib.hid (HA.out.ext (fun j _=>by
      by_cases hj:j=k
      ·subst hj; rw [ha]; simp
      ·have:decide (j < k+1)=decide (j < k):=by simp; omega
       rw [this]))
     have HG2:Hid (Grw gr A B (k+1)):=Lib.hid (HG.out.skip (.inr ha))
     clear ha hb hdk
     go_wp2_with fail
     go_roundg (n - (k+1))
     case measure=>have:=HK.out; omega
     case rel=>exact ⟨k+1,gr,by go_num,rfl,by omega,Lib.hid (by omega),HU,HA2,HB,HG2⟩
    | false =>
     rw [ha] at q1
     have hne:gb≠ga:=fun e=>by rw [HAB.out e.symm,hb] at ha; cases ha
     have HA2:Hid (Brr (wr.setCell ⟨ga,k,none⟩ (.bool true)) ga n (fun j=>A.testBit j||(decide (j < k+1)&&B.testBit j))):=Lib.hid ((HA.out.set k true).ext (fun j _=>by
      by_cases hj:j=k
      ·subst hj; rw [Q.up_same,ha,hb]; simp
      ·have:decide (j < k+1)=decide (j < k):=by simp; omega
       rw [Q.up_ne _ _ hj,this]))
     have HB2:Hid (Brr (wr.setCell ⟨ga,k,none⟩ (.bool true)) gb n B.testBit):=Lib.hid (HB.out.setO hne k _)
     have HU2:=Lib.hid (HU.out.setCell ⟨ga,k,none⟩ rfl (.bool true))
     have HG2:Hid (Grw true A B (k+1)):=Lib.hid ⟨fun _=>⟨k,by omega,hb,ha⟩,fun _=>rfl⟩
     clear ha hb hdk hne
     go_wp2_with fail
     go_roundg (n - (k+1))
     case measure=>have:=HK.out; omega
     case rel=>exact ⟨k+1,true,by go_num,rfl,by omega,Lib.hid (by omega),HU2,HA2,HB2,HG2⟩
  ·obtain rfl:k=n:=by omega
   clear hlt HK
   go_wp2_with fail
   go_ret
   refine ⟨ret_bool ?_,HA.out.ext (fun j hj=>by rw [Nat.testBit_or,decide_eq_true hj,Bool.true_and]),HU.out⟩
   rw [Bool.eq_iff_iff,HG.out.iff,decide_eq_true_eq]
   constructor
   ·rintro ⟨j,h1,h2,h3⟩ e
    have:(A|||B).testBit j=A.testBit j:=by rw [e]
    rw [Nat.testBit_or,h2,h3] at this
    cases this
   ·intro hne
    apply Classical.byContradiction
    intro hno
    apply hne
    refine Fi.or_of_sub (fun j hj=>?_)
    cases ha:A.testBit j with
    | true=>rfl
    | false =>
     exfalso
     refine hno ⟨j,?_,hj,ha⟩
     rcases Nat.lt_or_ge j k with h | h
     ·exact h
     ·rw [Bs.bit_of_lt HXY.out.2 h] at hj; cases hj
def upto (X k:Nat):List Int:=natI ((List.range k).filter X.testBit)
theorem upto_all (n X:Nat):upto X n=natI (Bs.lst n X):=rfl
theorem upto_yes {X k:Nat} (h:X.testBit k=true):upto X (k+1)=upto X k++[((k:Nat):Int)]:=by simp [upto,natI,List.range_succ,List.filter_append,h]
theorem upto_no {X k:Nat} (h:X.testBit k=false):upto X (k+1)=upto X k:=by simp [upto,natI,List.range_succ,List.filter_append,h]
theorem upto_len (X k:Nat):(upto X k).length≤k:=by
 have:=List.length_filter_le X.testBit (List.range k)
 simp [upto,natI] at this ⊢
 omega
set_option maxRecDepth 100000 in
set_option maxHeartbeats 16000000 in
theorem list10_any {w:World} {g n c X:Nat} (hA:Bit w g n X) (hn:n≤1000) :
  Calls Tryd.prog 26 #[.slice (some ⟨g,0,none⟩) n c] w fun e w'=>∃ a cap,e=.returned (.slice a (natI (Bs.lst n X)).length cap)∧Ints w' a (natI (Bs.lst n X))∧Below w.heap.size w w':=by
 have HA:=Lib.hid hA
 clear hA
 go_enter Tryd.func26,Tryd.ntmps26
 go_wp2_with fail
 go_loopg [3,4] n (fun gk ov iv wr=>∃ k:Nat,iv=.int .i64 k∧k≤n∧Hid (gk+k=n)∧Hid (wr.ownsRow w.heap.size 3 1 ov (upto X k).length (intV (upto X k)))∧Hid (Below w.heap.size w wr))
 case atStart=>exact ⟨0,rfl,by omega,Lib.hid (by omega),Lib.hid (World.ownsRow_nil _ _ _ _),Lib.hid (Below.refl _ _)⟩
 case round =>
  obtain ⟨k,rfl,hk,HK,HO,HW⟩:=hrel
  by_cases hlt:k < n
  ·have q0:=Brr.cell (HA.out.below HW.out) hlt
   have hlen:=upto_len X k
   cases hb:X.testBit k with
   | false =>
    rw [hb] at q0
    have HN:=Lib.hid (upto_no hb)
    clear hb
    go_wp2_with fail
    go_roundg (n - (k+1))
    case measure=>have:=HK.out; omega
    case rel=>exact ⟨k+1,by go_num,by omega,Lib.hid (by omega),Lib.hid (by rw [HN.out]; exact HO.out),HW⟩
   | true =>
    rw [hb] at q0
    have HN:=Lib.hid (upto_yes hb)
    have hsz:=HW.out.size
    have HO2:=Lib.hid (HO.out.alloc (.cells #[.int .i64 (k:Nat)] 3))
    have HW2:=Lib.hid (HW.out.alloc hsz (.cells #[.int .i64 (k:Nat)] 3))
    clear hb
    go_wp2_with (refine list_append_one rfl _ _ _ rfl 3 w.heap.size 1 8 elt_int _ (upto X k).length (intV (upto X k)) rfl HO2.out ⟨wr.heap.size,0,none⟩ 1 [.int .i64 (k:Nat)] rfl rfl (World.news_of_block (cs:=#[.int .i64 (k:Nat)]) (t:=3) (fr:=(0,0)) (heap_alloc_new wr _)) (by simp [Value.oneCell']) (by unfold maxLen; omega) (by omega) (by simp; omega) ?_; intro bg bcap wg hog hgg hb1 hb2 hb3; have HW3:=Lib.hid (HW2.out.trans (below_own HO2.out (by simp; omega) hgg)); have HO3:=Lib.hid hog; clear hog hgg hb1 hb2 hb3 HW2 HO2)
    go_roundg (n - (k+1))
    case measure=>have:=HK.out; omega
    case rel=>exact ⟨k+1,by go_num,by omega,Lib.hid (by omega),Lib.hid (by rw [HN.out,List.length_append,intV_snoc]; exact HO3.out),HW3⟩
  ·obtain rfl:k=n:=by omega
   clear hlt HK
   obtain ⟨a,cap,rfl,hi⟩:=own_sl10 HO.out
   rw [upto_all] at hi HO ⊢
   go_wp2_with fail
   go_ret
   exact ⟨a,cap,rfl,hi,HW.out⟩
end Go.Proofs.YtjbggogbnckllaaDoor
