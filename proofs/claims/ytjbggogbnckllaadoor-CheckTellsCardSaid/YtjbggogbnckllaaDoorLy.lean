/-
  The walk of the reference's lexer: a class.
-/
import Derived.Test.YtjbggogbnckllaaDoorAe
import Derived.Test.YtjbggogbnckllaaDoorBa
namespace Go.Proofs.YtjbggogbnckllaaDoor
open Go.RowKit
set_option linter.unusedVariables false
set_option linter.unusedSimpArgs false
/-- The result's block, and a row of truths. -/
structure CX (w wr:World) (g:Nat) (has:Int→Bool):Prop where
 b:BX w wr
 r:Brr wr g 256 (fun n=>has (n:Nat))
 lt:w.heap.size < g
theorem CX.below {w wr v:World} {g:Nat} {has:Int→Bool} (h:CX w wr g has) (k:Below wr.heap.size wr v):CX w v g has:=⟨h.b.below k,h.r.below k,h.lt⟩
theorem CX.upd {w wr:World} {g:Nat} {has has':Int→Bool} (h:CX w wr g has) (i:Nat) (e:∀ n,n < 256→has' (n:Nat)=(has (n:Nat)||n == i)):CX w (wr.setCell ⟨g,i,none⟩ (.bool true)) g has':=by
 have u:=(Upd.refl g wr).setCell ⟨g,i,none⟩ rfl (.bool true)
 have hne:w.heap.size≠g:=by have:=h.lt; omega
 refine ⟨⟨(u.block _ h.b.2.2 hne).trans h.b.1,h.b.2.1.trans (u.below (Nat.le_of_lt h.lt) h.b.2.1.size),Nat.lt_of_lt_of_le h.b.2.2 (u.below (Nat.le_of_lt h.lt) h.b.2.1.size).size⟩,(h.r.set i true).ext (fun n hn=>?_),h.lt⟩
 rw [e n hn]
 by_cases hi:n=i
 ·subst hi; rw [Q.up_same]; simp
 ·rw [Q.up_ne _ _ hi]; simp [hi]
theorem CX.start (w:World):CX w ((w.alloc (.cells #[.int .i64 0,.string ⟨#[]⟩,.int .i64 0,.int .i64 0,.int .i64 0] 136)).alloc (.cells (madeCells #[.bool false] 256) 4)) (w.heap.size+1) (fun _=>false):=by
 have e:(w.alloc (.cells #[.int .i64 0,.string ⟨#[]⟩,.int .i64 0,.int .i64 0,.int .i64 0] 136)).heap.size=w.heap.size+1:=World.size_alloc _ _
 have h:=Brr.made (w.alloc (.cells #[.int .i64 0,.string ⟨#[]⟩,.int .i64 0,.int .i64 0,.int .i64 0] 136)) 256
 rw [e] at h
 exact ⟨(BX.start w).below ((Below.refl _ _).alloc (Nat.le_refl _) _),h,Nat.lt_succ_self _⟩
theorem cls_end (s:ByteArray) (frm f:Nat) (has:Int→Bool) (any:Bool) (single:Int) (i:Nat) (h:s.size≤i):Lx.cls s frm f has any single i=Lx.bad 11 frm:=by
 cases f with
 | zero=>rfl
 | succ f=>rw [Lx.cls,if_pos h]
theorem outOf_yes {has:Int→Bool} {k:Nat} (h:has (k:Nat)=true):Lx.outOf has (k+1)=Lx.outOf has k++Lx.one (k:Nat):=by rw [Lx.outOf,if_pos h]
theorem outOf_no {has:Int→Bool} {k:Nat} (h:has (k:Nat)=false):Lx.outOf has (k+1)=Lx.outOf has k:=by rw [Lx.outOf,if_neg (by rw [h]; simp)]
theorem outOf_len (has:Int→Bool) (k:Nat):(Lx.outOf has k).size≤k:=by
 induction k with
 | zero=>exact Nat.le_refl _
 | succ k ih =>
  rw [Lx.outOf]
  split
  ·rw [ByteArray.size_append,one_size]; omega
  ·omega
set_option maxRecDepth 100000 in
set_option maxHeartbeats 32000000 in
theorem class_any (s:ByteArray) (frm:Nat) (w:World) (hs:s.size≤4000) (hf:frm < s.size) :
  Calls Tryd.prog 101 #[.string s,.int .i64 frm] w fun e w'=>e=.returned (vFound (Lx.cls s frm s.size (fun _=>false) false (-1) (frm+1)))∧Below w.heap.size w w':=by
 obtain ⟨R,hR⟩:∃ R,Lx.cls s frm s.size (fun _=>false) false (-1) (frm+1)=R:=⟨_,rfl⟩
 rw [hR]
 have HR0:=Lib.hid hR
 have h0:=CX.start w
 have hmk:=make_bools 256 (by omega) (w.alloc (.cells #[.int .i64 0,.string ⟨#[]⟩,.int .i64 0,.int .i64 0,.int .i64 0] 136))
 have hsz:(w.alloc (.cells #[.int .i64 0,.string ⟨#[]⟩,.int .i64 0,.int .i64 0,.int .i64 0] 136)).heap.size=w.heap.size+1:=World.size_alloc _ _
 rw [hsz] at hmk
 simp only [Int.cast_ofNat_Int] at hmk
 clear hR
 go_enter Tryd.func101,Tryd.ntmps101
 go_wp2_with fail
 clear hmk hsz
 generalize ((w.alloc (.cells #[.int .i64 0,.string ⟨#[]⟩,.int .i64 0,.int .i64 0,.int .i64 0] 136)).alloc (.cells (madeCells #[.bool false] 256) 4))=W0 at h0 ⊢
 have H0:=Lib.hid h0
 clear h0
 obtain ⟨g,hg⟩:∃ g,g=w.heap.size+1:=⟨_,rfl⟩
 rw [← hg] at H0 ⊢
 clear hg
 go_loopg [6,7,8] s.size (fun gk av sv iv wr=>∃ (k f:Nat) (has:Int→Bool) (any:Bool) (single:Int),iv=.int .i64 k∧av=.bool any∧sv=.int .i64 single∧frm+1≤k∧k≤s.size∧s.size≤k+f∧-1≤single∧single < 256∧Hid (gk=f)∧Hid (Lx.cls s frm f has any single k=R)∧Hid (CX w wr g has))
 case atStart=>exact ⟨frm+1,s.size,fun _=>false,false,-1,by go_num,rfl,rfl,by omega,by omega,by omega,by omega,by omega,Lib.hid rfl,HR0,H0⟩
 case round =>
  clear H0 HR0
  obtain ⟨i,f,has,any,single,rfl,rfl,rfl,hk1,hk2,hf2,hs1,hs2,HGF,HR,HX⟩:=hrel
  have HB:Hid (BX w wr):=Lib.hid HX.out.b
  by_cases hlt:i < s.size
  ·obtain ⟨f,rfl⟩:∃ f2,f=f2+1:=⟨f - 1,by omega⟩
   have hst:=HR.out
   rw [Lx.cls,if_neg (by omega),Lx.at_of hlt] at hst
   clear HR
   cases c1:(((s[i].toNat:Nat):Int) == 10)
   case true =>
    rw [c1] at hst
    have hv:Hid (R=Lx.bad 11 frm):=Lib.hid hst.symm
    clear hst
    go_wp2_with fail
    refine (bad_any 11 frm _).mono ?_
    rintro e vb ⟨rfl,hbb⟩
    have HBX:=Lib.hid (HB.out.below hbb)
    have g0:=HBX.out.1
    clear hbb
    go_wp2_with (refine list_store_row rfl 136 _ _ rfl w.heap.size rfl _ rfl _ 136 g0 rfl found_size (by simp [Value.oneCell']) ?_)
    exact bodyPost_ret (results_cell_row rfl _ _ w.heap.size 136 _ (0,0) _ rfl (setRow_heap _ _ _ _ _ _ g0) Tryd.underlying136 rfl found_size) rfl ⟨by rw [hv.out]; first | rfl | (simp [vFound,Lx.bad]; done) | (simp [vFound,Lx.bad]; omega),HBX.out.fin⟩
   cases c2:(((s[i].toNat:Nat):Int) == 93)
   case true =>
    rw [c1,c2] at hst
    simp only [Bool.false_eq_true,if_false,if_true] at hst
    cases any
    case false =>
     have hv:Hid (R=Lx.bad 10 frm):=Lib.hid (by rw [← hst]; simp)
     clear hst
     go_wp2_with fail
     refine (bad_any 10 frm _).mono ?_
     rintro e vb ⟨rfl,hbb⟩
     have HBX:=Lib.hid (HB.out.below hbb)
     have g0:=HBX.out.1
     clear hbb
     go_wp2_with (refine list_store_row rfl 136 _ _ rfl w.heap.size rfl _ rfl _ 136 g0 rfl found_size (by simp [Value.oneCell']) ?_)
     exact bodyPost_ret (results_cell_row rfl _ _ w.heap.size 136 _ (0,0) _ rfl (setRow_heap _ _ _ _ _ _ g0) Tryd.underlying136 rfl found_size) rfl ⟨by rw [hv.out]; first | rfl | (simp [vFound,Lx.bad]; done) | (simp [vFound,Lx.bad]; omega),HBX.out.fin⟩
    case true =>
     have hv:Hid (R=⟨4,Lx.outOf has 256,i+1,0,0⟩):=Lib.hid (by rw [← hst]; simp)
     clear hst
     go_wp2_with fail
     go_loopg [9,10] 256 (fun gk ov cv wr=>∃ c:Nat,cv=.int .i64 c∧ov=.string (Lx.outOf has c)∧c≤256∧Hid (gk+c=256)∧Hid (CX w wr g has))
     case atStart=>exact ⟨0,rfl,rfl,by omega,Lib.hid rfl,HX⟩
     case round =>
      clear HX HB
      obtain ⟨c,rfl,rfl,hc,HGC,HX⟩:=hrel
      by_cases hlc:c < 256
      ·have q0:=HX.out.r.cell hlc
       have hol:=outOf_len has c
       have hon:=one_size ((c:Nat):Int)
       cases hh:has (c:Nat)
       case false =>
        rw [hh] at q0
        have HO:=Lib.hid (outOf_no hh)
        clear hh
        go_wp2_with fail
        go_roundg (256 - (c+1))
        case measure=>have:=HGC.out; omega
        case rel=>exact ⟨c+1,by go_num,by rw [HO.out],by omega,Lib.hid (by omega),HX⟩
       case true =>
        rw [hh] at q0
        have HO:=Lib.hid (outOf_yes hh)
        have hcv:=one_conv wr (c:Nat) (by omega) (by omega)
        have HX2:Hid (CX w (wr.alloc (.cells #[.int .u8 (c:Nat)] 5)) g has):=Lib.hid (HX.out.below ((Below.refl _ _).alloc (Nat.le_refl _) _))
        have hwr:IntKind.u8.wrap (c:Nat)=(c:Nat):=by rw [IntKind.wrap_u8]; omega
        clear hh
        go_wp2_with fail
        go_roundg (256 - (c+1))
        case measure=>have:=HGC.out; omega
        case rel=>exact ⟨c+1,by go_num,by rw [HO.out],by omega,Lib.hid (by omega),HX2⟩
      ·obtain rfl:c=256:=by omega
       have HB:Hid (BX w wr):=Lib.hid HX.out.b
       clear hlc HGC
       have g0:=HB.out.1
       go_wp2_with (refine list_store_row rfl 136 _ _ rfl w.heap.size rfl _ rfl _ 136 g0 rfl found_size (by simp [Value.oneCell']) ?_)
       exact bodyPost_ret (results_cell_row rfl _ _ w.heap.size 136 _ (0,0) _ rfl (setRow_heap _ _ _ _ _ _ g0) Tryd.underlying136 rfl found_size) rfl ⟨by rw [hv.out]; first | rfl | (simp [vFound,Lx.bad]; done) | (simp [vFound,Lx.bad]; omega),HB.out.fin⟩
   rw [c1,c2] at hst
   simp only [Bool.false_eq_true,if_false] at hst
   cases c3:(((s[i].toNat:Nat):Int) == 45)
   case false =>
    rw [c3] at hst
    simp only [Bool.false_and,Bool.false_eq_true,if_false] at hst
    rw [Lx.at_of hlt] at hst
    cases c5:(((s[i].toNat:Nat):Int) == 92)
    case false =>
     rw [c5] at hst
     simp only [Bool.false_and,Bool.true_and,Bool.false_eq_true,if_false,if_true] at hst
     have hcb:0≤((s[i].toNat:Nat):Int)∧((s[i].toNat:Nat):Int) < 256:=by have:=(s[i]).toNat_lt; omega
     have hcu:s[i].toNat < 256:=by omega
     have HN:Hid (Lx.cls s frm f (fun k=>has k||k == ((s[i].toNat:Nat):Int)) true (s[i].toNat:Nat) (i+1)=R):=Lib.hid (by first | exact hst | (rw [← hst]; simp))
     have HX2:=Lib.hid (HX.out.upd (has':=fun k=>has k||k == ((s[i].toNat:Nat):Int)) (s[i].toNat) (fun n hn=>by rw [show (((n:Nat):Int) == ((s[i].toNat:Nat):Int))=(n == s[i].toNat) by rw [Bool.eq_iff_iff]; simp only [beq_iff_eq]; omega]))
     have q0:=HX.out.r.cell hcu
     have qf:=HX.out.r.fz (s[i].toNat)
     clear hst
     go_wp2_with fail
     go_roundg f
     case measure=>have:=HGF.out; omega
     case rel=>exact ⟨i+1,f,_,true,_,by go_num,rfl,rfl,by omega,by omega,by omega,by omega,by omega,Lib.hid rfl,HN,HX2⟩
    case true =>
     rw [c5] at hst
     simp only [Bool.true_and,if_true] at hst
     have htd:=told_any s (i) true wr hs (by omega)
     obtain ⟨c,hc⟩:∃ c,c=Lx.told s (i) true:=⟨_,rfl⟩
     have htl:=told_lt s (i) true
     rw [← hc] at hst htd htl
     clear hc
     obtain ⟨c,ok⟩:=c
     unfold vTold at htd
     cases ok
     ·have hv:Hid (R=Lx.bad 10 (i)):=Lib.hid (by rw [← hst]; simp)
      clear hst htl
      go_wp2_with fail
      refine htd.mono ?_
      rintro e w' ⟨rfl,rfl⟩
      clear htd
      go_wp2_with fail
      refine (bad_any 10 (i) _).mono ?_
      rintro e vb ⟨rfl,hbb⟩
      have HBX:=Lib.hid (HB.out.below hbb)
      have g0:=HBX.out.1
      clear hbb
      go_wp2_with (refine list_store_row rfl 136 _ _ rfl w.heap.size rfl _ rfl _ 136 g0 rfl found_size (by simp [Value.oneCell']) ?_)
      exact bodyPost_ret (results_cell_row rfl _ _ w.heap.size 136 _ (0,0) _ rfl (setRow_heap _ _ _ _ _ _ g0) Tryd.underlying136 rfl found_size) rfl ⟨by rw [hv.out]; first | rfl | (simp [vFound,Lx.bad]; done) | (simp [vFound,Lx.bad]; omega),HBX.out.fin⟩
     ·obtain ⟨hl1,hl2,hl3⟩:=htl rfl
      obtain ⟨c,rfl⟩:∃ n:Nat,c=n:=⟨c.toNat,by omega⟩
      simp only [Bool.not_true,Bool.false_eq_true,if_false] at hst
      have hcu:c < 256:=by omega
      clear htl
      go_wp2_with fail
      refine htd.mono ?_
      rintro e w' ⟨rfl,rfl⟩
      clear htd
      have HN:Hid (Lx.cls s frm f (fun k=>has k||k == ((c:Nat):Int)) true (c:Nat) (i+2)=R):=Lib.hid (by first | exact hst | (rw [← hst]; simp))
      have HX2:=Lib.hid (HX.out.upd (has':=fun k=>has k||k == ((c:Nat):Int)) (c) (fun n hn=>by rw [show (((n:Nat):Int) == ((c:Nat):Int))=(n == c) by rw [Bool.eq_iff_iff]; simp only [beq_iff_eq]; omega]))
      have q0:=HX.out.r.cell hcu
      have qf:=HX.out.r.fz (c)
      clear hst
      go_wp2_with fail
      go_roundg f
      case measure=>have:=HGF.out; omega
      case rel=>exact ⟨i+2,f,_,true,_,by go_num,rfl,rfl,by omega,by omega,by omega,by omega,by omega,Lib.hid rfl,HN,HX2⟩
   case true =>
    rw [c3] at hst
    simp only [Bool.true_and,if_true] at hst
    by_cases hsn:single < 0
    ·have e4:decide (single < 0)=true:=by simpa using hsn
     have hv:Hid (R=Lx.bad 10 i):=Lib.hid (by rw [← hst,e4]; simp)
     clear hst hsn
     go_wp2_with fail
     refine (bad_any 10 i _).mono ?_
     rintro e vb ⟨rfl,hbb⟩
     have HBX:=Lib.hid (HB.out.below hbb)
     have g0:=HBX.out.1
     clear hbb
     go_wp2_with (refine list_store_row rfl 136 _ _ rfl w.heap.size rfl _ rfl _ 136 g0 rfl found_size (by simp [Value.oneCell']) ?_)
     exact bodyPost_ret (results_cell_row rfl _ _ w.heap.size 136 _ (0,0) _ rfl (setRow_heap _ _ _ _ _ _ g0) Tryd.underlying136 rfl found_size) rfl ⟨by rw [hv.out]; first | rfl | (simp [vFound,Lx.bad]; done) | (simp [vFound,Lx.bad]; omega),HBX.out.fin⟩
    have e4:decide (single < 0)=false:=by simpa using hsn
    rw [e4] at hst
    simp only [Bool.false_eq_true,if_false] at hst
    obtain ⟨sn,rfl⟩:∃ sn:Nat,single=sn:=⟨single.toNat,by omega⟩
    clear hsn
    by_cases hj:i+1 < s.size
    ·have e5:decide ((s.size:Int)≤(i:Int)+1)=false:=by simp; omega
     have e5b:decide (s.size≤i+1)=false:=by simp; omega
     rw [e5b,Lx.at_of hj] at hst
     simp only [Bool.false_or] at hst
     cases c4:(((s[i+1].toNat:Nat):Int) == 10)
     case true =>
      rw [c4] at hst
      have hv:Hid (R=Lx.bad 11 frm):=Lib.hid (by rw [← hst]; simp)
      clear hst
      go_wp2_with fail
      refine (bad_any 11 frm _).mono ?_
      rintro e vb ⟨rfl,hbb⟩
      have HBX:=Lib.hid (HB.out.below hbb)
      have g0:=HBX.out.1
      clear hbb
      go_wp2_with (refine list_store_row rfl 136 _ _ rfl w.heap.size rfl _ rfl _ 136 g0 rfl found_size (by simp [Value.oneCell']) ?_)
      exact bodyPost_ret (results_cell_row rfl _ _ w.heap.size 136 _ (0,0) _ rfl (setRow_heap _ _ _ _ _ _ g0) Tryd.underlying136 rfl found_size) rfl ⟨by rw [hv.out]; first | rfl | (simp [vFound,Lx.bad]; done) | (simp [vFound,Lx.bad]; omega),HBX.out.fin⟩
     cases c6:(((s[i+1].toNat:Nat):Int) == 93)
     case true =>
      rw [c4,c6] at hst
      have hv:Hid (R=Lx.bad 10 i):=Lib.hid (by rw [← hst]; simp)
      clear hst
      go_wp2_with fail
      refine (bad_any 10 i _).mono ?_
      rintro e vb ⟨rfl,hbb⟩
      have HBX:=Lib.hid (HB.out.below hbb)
      have g0:=HBX.out.1
      clear hbb
      go_wp2_with (refine list_store_row rfl 136 _ _ rfl w.heap.size rfl _ rfl _ 136 g0 rfl found_size (by simp [Value.oneCell']) ?_)
      exact bodyPost_ret (results_cell_row rfl _ _ w.heap.size 136 _ (0,0) _ rfl (setRow_heap _ _ _ _ _ _ g0) Tryd.underlying136 rfl found_size) rfl ⟨by rw [hv.out]; first | rfl | (simp [vFound,Lx.bad]; done) | (simp [vFound,Lx.bad]; omega),HBX.out.fin⟩
     rw [c4,c6] at hst
     simp only [Bool.false_eq_true,if_false] at hst
     cases c5:(((s[i+1].toNat:Nat):Int) == 92)
     case false =>
      rw [c5] at hst
      simp only [Bool.false_and,Bool.true_and,Bool.false_eq_true,if_false,if_true] at hst
      have hcb:0≤((s[i+1].toNat:Nat):Int)∧((s[i+1].toNat:Nat):Int) < 256:=by have:=(s[i+1]).toNat_lt; omega
      have hcu:s[i+1].toNat < 256:=by omega
      by_cases hcs:((s[i+1].toNat:Nat):Int) < ((sn:Nat):Int)
      ·have e6:decide (((s[i+1].toNat:Nat):Int) < ((sn:Nat):Int))=true:=by simpa using hcs
       have e6n:decide ((s[i+1].toNat:Nat) < sn)=true:=by simp; omega
       have hv:Hid (R=Lx.bad 10 i):=Lib.hid (by rw [← hst]; simp [hcs])
       clear hst hcs
       go_wp2_with fail
       refine (bad_any 10 i _).mono ?_
       rintro e vb ⟨rfl,hbb⟩
       have HBX:=Lib.hid (HB.out.below hbb)
       have g0:=HBX.out.1
       clear hbb
       go_wp2_with (refine list_store_row rfl 136 _ _ rfl w.heap.size rfl _ rfl _ 136 g0 rfl found_size (by simp [Value.oneCell']) ?_)
       exact bodyPost_ret (results_cell_row rfl _ _ w.heap.size 136 _ (0,0) _ rfl (setRow_heap _ _ _ _ _ _ g0) Tryd.underlying136 rfl found_size) rfl ⟨by rw [hv.out]; first | rfl | (simp [vFound,Lx.bad]; done) | (simp [vFound,Lx.bad]; omega),HBX.out.fin⟩
      ·have e6:decide (((s[i+1].toNat:Nat):Int) < ((sn:Nat):Int))=false:=by simpa using hcs
       have e6n:decide ((s[i+1].toNat:Nat) < sn)=false:=by simp; omega
       have HN:Hid (Lx.cls s frm f (fun k=>has k||(decide (((sn:Nat):Int)≤k)&&decide (k≤((s[i+1].toNat:Nat):Int)))) any (-1) (i+1+1)=R):=Lib.hid (by rw [← hst]; simp only [e6,Bool.and_false,Bool.true_and,Bool.false_eq_true,if_false,if_true]; done)
       clear hst
       go_wp2_with fail
       clear e6 e6n
       go_loopg [17] (s[i+1].toNat+1 - sn) (fun gk kv wr=>∃ k:Nat,kv=.int .i64 k∧sn≤k∧k≤s[i+1].toNat+1∧Hid (gk+k=s[i+1].toNat+1)∧Hid (CX w wr g (fun n=>has n||(decide (((sn:Nat):Int)≤n)&&decide (n < ((k:Nat):Int))))))
       case atStart=>exact ⟨sn,rfl,by omega,by omega,Lib.hid (by omega),Lib.hid ⟨HX.out.b,HX.out.r.ext (fun n hn=>by
        by_cases h:sn≤n
        ·have h2:decide (((n:Nat):Int) < ((sn:Nat):Int))=false:=by simp; omega
         rw [h2]; simp
        ·have h2:decide (((sn:Nat):Int)≤((n:Nat):Int))=false:=by simp; omega
         rw [h2]; simp),HX.out.lt⟩⟩
       case round =>
        clear HX HB
        obtain ⟨k,rfl,hk3,hk4,HGK,HX⟩:=hrel
        by_cases hlk:k≤s[i+1].toNat
        ·have e7:decide (((k:Nat):Int)≤((s[i+1].toNat:Nat):Int))=true:=by simp; omega
         have e7n:decide (k≤(s[i+1].toNat:Nat))=true:=by simp; omega
         have hku:k < 256:=by omega
         have q0:=HX.out.r.cell hku
         have qf:=HX.out.r.fz k
         have HX2:=Lib.hid (HX.out.upd (has':=fun n=>has n||(decide (((sn:Nat):Int)≤n)&&decide (n < ((k+1:Nat):Int)))) k (fun n hn=>by
          rw [Bool.or_assoc]
          congr 1
          rw [Bool.eq_iff_iff]
          simp only [Bool.and_eq_true,decide_eq_true_eq,Bool.or_eq_true,beq_iff_eq]
          omega))
         have HLK:=Lib.hid hlk
         clear hlk
         go_wp2_with fail
         go_roundg (s[i+1].toNat+1 - (k+1))
         case measure=>have:=HGK.out; have:=HLK.out; omega
         case rel=>exact ⟨k+1,by go_num,by omega,by have:=HLK.out; omega,Lib.hid (by have:=HLK.out; omega),HX2⟩
        ·obtain rfl:k=s[i+1].toNat+1:=by omega
         have e7:decide (((s[i+1].toNat+1:Nat):Int)≤((s[i+1].toNat:Nat):Int))=false:=by simp; omega
         have e7n:decide ((s[i+1].toNat+1:Nat)≤(s[i+1].toNat:Nat))=false:=by simp
         have HX2:Hid (CX w wr g (fun k=>has k||(decide (((sn:Nat):Int)≤k)&&decide (k≤((s[i+1].toNat:Nat):Int))))):=Lib.hid ⟨HX.out.b,HX.out.r.ext (fun n hn=>by
          congr 2
          rw [Bool.eq_iff_iff]
          simp only [decide_eq_true_eq]
          omega),HX.out.lt⟩
         clear HX hlk
         go_wp2_with fail
         go_roundg f
         case measure=>have:=HGF.out; omega
         case rel=>exact ⟨i+1+1,f,_,any,-1,by go_num,rfl,rfl,by omega,by omega,by omega,by omega,by omega,Lib.hid rfl,HN,HX2⟩
     case true =>
      rw [c5] at hst
      simp only [Bool.true_and,if_true] at hst
      have htd:=told_any s (i+1) true wr hs (by omega)
      obtain ⟨c,hc⟩:∃ c,c=Lx.told s (i+1) true:=⟨_,rfl⟩
      have htl:=told_lt s (i+1) true
      rw [← hc] at hst htd htl
      clear hc
      obtain ⟨c,ok⟩:=c
      unfold vTold at htd
      cases ok
      ·have hv:Hid (R=Lx.bad 10 (i+1)):=Lib.hid (by rw [← hst]; simp)
       clear hst htl
       go_wp2_with fail
       refine htd.mono ?_
       rintro e w' ⟨rfl,rfl⟩
       clear htd
       go_wp2_with fail
       refine (bad_any 10 (i+1) _).mono ?_
       rintro e vb ⟨rfl,hbb⟩
       have HBX:=Lib.hid (HB.out.below hbb)
       have g0:=HBX.out.1
       clear hbb
       go_wp2_with (refine list_store_row rfl 136 _ _ rfl w.heap.size rfl _ rfl _ 136 g0 rfl found_size (by simp [Value.oneCell']) ?_)
       exact bodyPost_ret (results_cell_row rfl _ _ w.heap.size 136 _ (0,0) _ rfl (setRow_heap _ _ _ _ _ _ g0) Tryd.underlying136 rfl found_size) rfl ⟨by rw [hv.out]; first | rfl | (simp [vFound,Lx.bad]; done) | (simp [vFound,Lx.bad]; omega),HBX.out.fin⟩
      ·obtain ⟨hl1,hl2,hl3⟩:=htl rfl
       obtain ⟨c,rfl⟩:∃ n:Nat,c=n:=⟨c.toNat,by omega⟩
       simp only [Bool.not_true,Bool.false_eq_true,if_false] at hst
       have hcu:c < 256:=by omega
       clear htl
       go_wp2_with fail
       refine htd.mono ?_
       rintro e w' ⟨rfl,rfl⟩
       clear htd
       by_cases hcs:((c:Nat):Int) < ((sn:Nat):Int)
       ·have e6:decide (((c:Nat):Int) < ((sn:Nat):Int))=true:=by simpa using hcs
        have e6n:decide ((c:Nat) < sn)=true:=by simp; omega
        have hv:Hid (R=Lx.bad 10 i):=Lib.hid (by rw [← hst]; simp [hcs])
        clear hst hcs
        go_wp2_with fail
        refine (bad_any 10 i _).mono ?_
        rintro e vb ⟨rfl,hbb⟩
        have HBX:=Lib.hid (HB.out.below hbb)
        have g0:=HBX.out.1
        clear hbb
        go_wp2_with (refine list_store_row rfl 136 _ _ rfl w.heap.size rfl _ rfl _ 136 g0 rfl found_size (by simp [Value.oneCell']) ?_)
        exact bodyPost_ret (results_cell_row rfl _ _ w.heap.size 136 _ (0,0) _ rfl (setRow_heap _ _ _ _ _ _ g0) Tryd.underlying136 rfl found_size) rfl ⟨by rw [hv.out]; first | rfl | (simp [vFound,Lx.bad]; done) | (simp [vFound,Lx.bad]; omega),HBX.out.fin⟩
       ·have e6:decide (((c:Nat):Int) < ((sn:Nat):Int))=false:=by simpa using hcs
        have e6n:decide ((c:Nat) < sn)=false:=by simp; omega
        have HN:Hid (Lx.cls s frm f (fun k=>has k||(decide (((sn:Nat):Int)≤k)&&decide (k≤((c:Nat):Int)))) any (-1) (i+1+2)=R):=Lib.hid (by rw [← hst]; simp only [e6,Bool.and_false,Bool.true_and,Bool.false_eq_true,if_false,if_true]; done)
        clear hst
        go_wp2_with fail
        clear e6 e6n
        go_loopg [17] (c+1 - sn) (fun gk kv wr=>∃ k:Nat,kv=.int .i64 k∧sn≤k∧k≤c+1∧Hid (gk+k=c+1)∧Hid (CX w wr g (fun n=>has n||(decide (((sn:Nat):Int)≤n)&&decide (n < ((k:Nat):Int))))))
        case atStart=>exact ⟨sn,rfl,by omega,by omega,Lib.hid (by omega),Lib.hid ⟨HX.out.b,HX.out.r.ext (fun n hn=>by
         by_cases h:sn≤n
         ·have h2:decide (((n:Nat):Int) < ((sn:Nat):Int))=false:=by simp; omega
          rw [h2]; simp
         ·have h2:decide (((sn:Nat):Int)≤((n:Nat):Int))=false:=by simp; omega
          rw [h2]; simp),HX.out.lt⟩⟩
        case round =>
         clear HX HB
         obtain ⟨k,rfl,hk3,hk4,HGK,HX⟩:=hrel
         by_cases hlk:k≤c
         ·have e7:decide (((k:Nat):Int)≤((c:Nat):Int))=true:=by simp; omega
          have e7n:decide (k≤(c:Nat))=true:=by simp; omega
          have hku:k < 256:=by omega
          have q0:=HX.out.r.cell hku
          have qf:=HX.out.r.fz k
          have HX2:=Lib.hid (HX.out.upd (has':=fun n=>has n||(decide (((sn:Nat):Int)≤n)&&decide (n < ((k+1:Nat):Int)))) k (fun n hn=>by
           rw [Bool.or_assoc]
           congr 1
           rw [Bool.eq_iff_iff]
           simp only [Bool.and_eq_true,decide_eq_true_eq,Bool.or_eq_true,beq_iff_eq]
           omega))
          have HLK:=Lib.hid hlk
          clear hlk
          go_wp2_with fail
          go_roundg (c+1 - (k+1))
          case measure=>have:=HGK.out; have:=HLK.out; omega
          case rel=>exact ⟨k+1,by go_num,by omega,by have:=HLK.out; omega,Lib.hid (by have:=HLK.out; omega),HX2⟩
         ·obtain rfl:k=c+1:=by omega
          have e7:decide (((c+1:Nat):Int)≤((c:Nat):Int))=false:=by simp; omega
          have e7n:decide ((c+1:Nat)≤(c:Nat))=false:=by simp
          have HX2:Hid (CX w wr g (fun k=>has k||(decide (((sn:Nat):Int)≤k)&&decide (k≤((c:Nat):Int))))):=Lib.hid ⟨HX.out.b,HX.out.r.ext (fun n hn=>by
           congr 2
           rw [Bool.eq_iff_iff]
           simp only [decide_eq_true_eq]
           omega),HX.out.lt⟩
          clear HX hlk
          go_wp2_with fail
          go_roundg f
          case measure=>have:=HGF.out; omega
          case rel=>exact ⟨i+1+2,f,_,any,-1,by go_num,rfl,rfl,by omega,by omega,by omega,by omega,by omega,Lib.hid rfl,HN,HX2⟩
    ·have e5:decide ((s.size:Int)≤(i:Int)+1)=true:=by simp; omega
     have e5b:decide (s.size≤i+1)=true:=by simp; omega
     have hv:Hid (R=Lx.bad 11 frm):=Lib.hid (by rw [← hst,e5b]; simp)
     clear hst
     go_wp2_with fail
     refine (bad_any 11 frm _).mono ?_
     rintro e vb ⟨rfl,hbb⟩
     have HBX:=Lib.hid (HB.out.below hbb)
     have g0:=HBX.out.1
     clear hbb
     go_wp2_with (refine list_store_row rfl 136 _ _ rfl w.heap.size rfl _ rfl _ 136 g0 rfl found_size (by simp [Value.oneCell']) ?_)
     exact bodyPost_ret (results_cell_row rfl _ _ w.heap.size 136 _ (0,0) _ rfl (setRow_heap _ _ _ _ _ _ g0) Tryd.underlying136 rfl found_size) rfl ⟨by rw [hv.out]; first | rfl | (simp [vFound,Lx.bad]; done) | (simp [vFound,Lx.bad]; omega),HBX.out.fin⟩
  ·have hv:Hid (R=Lx.bad 11 frm):=Lib.hid (by rw [← HR.out,cls_end _ _ _ _ _ _ _ (by omega)])
   clear HR
   go_wp2_with fail
   refine (bad_any 11 frm _).mono ?_
   rintro e vb ⟨rfl,hbb⟩
   have HBX:=Lib.hid (HB.out.below hbb)
   have g0:=HBX.out.1
   clear hbb
   go_wp2_with (refine list_store_row rfl 136 _ _ rfl w.heap.size rfl _ rfl _ 136 g0 rfl found_size (by simp [Value.oneCell']) ?_)
   exact bodyPost_ret (results_cell_row rfl _ _ w.heap.size 136 _ (0,0) _ rfl (setRow_heap _ _ _ _ _ _ g0) Tryd.underlying136 rfl found_size) rfl ⟨by rw [hv.out]; first | rfl | (simp [vFound,Lx.bad]; done) | (simp [vFound,Lx.bad]; omega),HBX.out.fin⟩
theorem classOK (s:ByteArray) (hs:s.size≤4000):∀ i,i < s.size→Lx.at_ s i=91→ClassOK s i:=fun i hi _ w=>class_any s i w hs hi
end Go.Proofs.YtjbggogbnckllaaDoor
