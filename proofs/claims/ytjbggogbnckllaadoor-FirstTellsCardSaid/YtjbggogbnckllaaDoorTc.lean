/-
  The walk of the reference's Begin (chapter 10).
-/
import Derived.Test.YtjbggogbnckllaaDoorTb
namespace Go.Proofs.YtjbggogbnckllaaDoor
open Go.RowKit
set_option linter.unusedVariables false
set_option linter.unusedSimpArgs false
theorem wrap_out {x:Int} {n:Nat} (h1:-9223372036854775808≤x) (h2:x≤9223372036854775807) (hn:n≤1000):(0≤x→wrap64 (x - (n:Nat))=x - (n:Nat))∧(x < 0→wrap64 (x - (n:Nat)) < 0∨1000000≤wrap64 (x - (n:Nat))):=by
 unfold wrap64
 constructor
 ·intro h; omega
 ·intro h; omega
set_option maxRecDepth 100000 in
set_option maxHeartbeats 16000000 in
theorem begin10_any {w:World} {v:Value} {p:Pl.Plan} {B f nb fb gb fc gc rd:Nat} {pt val:Nat→Nat} {null:Nat→Bool} {l:List Int} {na:Option Addr} {nc:Nat} (hf:FA w B p f nb fb gb fc gc pt null val rd) (h:PnV w v p) (ho:Q.OK p) (hl:Ints w na l) (hll:l.length≤1000) (hx:∀ x ∈ l,-9223372036854775808≤x∧x≤9223372036854775807) :
  Calls Tryd.prog 28 #[.pointer (some ⟨f,0,none⟩),v,.slice na l.length nc] w fun e w'=>∃ o,e=.returned (.tuple #[.slice (some ⟨o,0,none⟩) (Fi.nT p) (Fi.nT p),.bool (Fi.beg (Fi.nT p) (Q.cnt p) ⟨null,val⟩ l 0).2])∧Bit w' o (Fi.nT p) (Fi.beg (Fi.nT p) (Q.cnt p) ⟨null,val⟩ l 0).1∧(Fi.beg (Fi.nT p) (Q.cnt p) ⟨null,val⟩ l 0).1 < 2 ^ Fi.nT p∧w.heap.size≤o∧Below w.heap.size w w':=by
 obtain ⟨ta,tc,va,vc,ra,rc,la,lc,aa,ac,ca,cc,rfl,h⟩:=h
 have HP0:=PB.new (tc:=tc) (vc:=vc) (rc:=rc) (lc:=lc) (ac:=ac) (cc:=cc) h
 have k:=(Below.refl w.heap.size w).alloc (Nat.le_refl _) (.cells (pnC p ta va ra la aa ca tc vc rc lc ac cc) 32)
 have HB:=Lib.hid k
 have HF:=Lib.hid (hf.below k)
 have HL:=Lib.hid (hl.below k)
 unfold pnC at HP0 HB HF HL
 have HX:=Lib.hid hx
 have hnb:=ho.nb
 have hmb:=ho.m
 have c0:=HP0.c0
 obtain ⟨R,hR⟩:∃ R,R=Fi.beg (Fi.nT p) (Q.cnt p) ⟨null,val⟩ l 0:=⟨_,rfl⟩
 rw [← hR]
 have HR0:=Lib.hid hR
 have hnT:Fi.nT p=p.terms.length:=rfl
 have hnV:Fi.nV p=p.vars.length+1:=rfl
 have hcn:Q.cnt p=p.terms.length+p.vars.length+1:=rfl
 have hmk:=make_bools p.terms.length (by omega) (w.alloc (.cells #[.slice ta p.terms.length tc,.slice va p.vars.length vc,.slice ra p.rules.length rc,.slice la p.levels.length lc,.slice aa p.assocs.length ac,.slice ca p.acts.length cc] 32))
 clear HP0 h k ho hf hl hx hR
 go_enter Tryd.func28,Tryd.ntmps28
 go_wp2_with fail
 clear c0 hmk
 have hvs:=World.size_alloc w (.cells #[.slice ta p.terms.length tc,.slice va p.vars.length vc,.slice ra p.rules.length rc,.slice la p.levels.length lc,.slice aa p.assocs.length ac,.slice ca p.acts.length cc] 32)
 generalize w.alloc (.cells #[.slice ta p.terms.length tc,.slice va p.vars.length vc,.slice ra p.rules.length rc,.slice la p.levels.length lc,.slice aa p.assocs.length ac,.slice ca p.acts.length cc] 32)=V at HB HF HL hvs ⊢
 have HO0:=Lib.hid (bit_made V p.terms.length)
 have HW0:=Lib.hid ((Below.refl V.heap.size V).alloc (Nat.le_refl _) (.cells (madeCells #[.bool false] p.terms.length) 4))
 rw [hvs] at HO0
 obtain ⟨o,ho⟩:∃ o,o=w.heap.size+1:=⟨_,rfl⟩
 rw [← ho] at HO0 hvs ⊢
 have HOE:=Lib.hid hvs.symm
 clear ho hvs
 go_loopg [10] l.length (fun gk iv wr=>∃ (k X:Nat),iv=.int .i64 k∧k≤l.length∧Hid (gk+k=l.length)∧Hid (R=Fi.beg (Fi.nT p) (Q.cnt p) ⟨null,val⟩ (l.drop k) X)∧Hid (Bit wr o (Fi.nT p) X)∧Hid (X < 2 ^ Fi.nT p)∧Hid (Below V.heap.size V wr))
 case atStart=>exact ⟨0,0,rfl,by omega,Lib.hid (by omega),HR0,HO0,Lib.hid (Nat.two_pow_pos _),HW0⟩
 case round =>
  clear HR0 HO0 HW0
  obtain ⟨k,X,rfl,hk,HK,HR,HO,HXL,HW⟩:=hrel
  by_cases hlt:k < l.length
  ·obtain ⟨b,off,rfl,q1⟩:=HL.out k hlt
   have q0:=((bcell HW.out).1 _ _ (World.block_lt_of_cell? V _ q1)).trans q1
   obtain ⟨hx1,hx2⟩:=HX.out _ (List.getElem_mem hlt)
   have hdr:=List.drop_eq_getElem_cons hlt
   have hrr:=HR.out
   rw [hdr,Fi.beg] at hrr
   generalize l[k]=x at q0 q1 hx1 hx2 hrr
   have hFW:=HF.out.below HW.out
   by_cases hsk:x < 0∨((Q.cnt p:Nat):Int)≤x
   ·rw [if_pos hsk] at hrr
    have HRR:=Lib.hid hrr
    obtain ⟨w1,w2⟩:=wrap_out hx1 hx2 (n:=p.terms.length) (by omega)
    have f0:=hFW.c0
    obtain ⟨y,hy⟩:∃ y,wrap64 (x - (p.terms.length:Nat))=y:=⟨_,rfl⟩
    have hyy:y < 0∨((Fi.nV p:Nat):Int)≤y:=by
     rcases hsk with h | h
     ·rcases w2 h with h2 | h2
      ·left; omega
      ·right; omega
     ·right; have:=w1 (by omega); omega
    by_cases hx0:0≤x
    ·have e1:decide (0≤x)=true:=by simpa using hx0
     have e2:decide (x < ((p.terms.length:Nat):Int))=false:=by simp; omega
     by_cases hy0:y < 0
     ·have e3:decide (y < 0)=true:=by simpa using hy0
      clear hrr hdr q1 hFW w1 w2 hsk hx0 hyy hy0 hx1 hx2
      go_wp2_with fail
      go_roundg (l.length - (k+1))
      case measure=>have:=HK.out; omega
      case rel=>exact ⟨k+1,X,by go_num,by omega,Lib.hid (by omega),HRR,HO,HXL,HW⟩
     ·have e3:decide (y < 0)=false:=by simpa using hy0
      have e4:decide (((p.vars.length:Nat):Int)+1≤y)=true:=by simp; omega
      clear hrr hdr q1 hFW w1 w2 hsk hx0 hyy hy0 hx1 hx2
      go_wp2_with fail
      go_roundg (l.length - (k+1))
      case measure=>have:=HK.out; omega
      case rel=>exact ⟨k+1,X,by go_num,by omega,Lib.hid (by omega),HRR,HO,HXL,HW⟩
    ·have e1:decide (0≤x)=false:=by simpa using hx0
     by_cases hy0:y < 0
     ·have e3:decide (y < 0)=true:=by simpa using hy0
      clear hrr hdr q1 hFW w1 w2 hsk hx0 hyy hy0 hx1 hx2
      go_wp2_with fail
      go_roundg (l.length - (k+1))
      case measure=>have:=HK.out; omega
      case rel=>exact ⟨k+1,X,by go_num,by omega,Lib.hid (by omega),HRR,HO,HXL,HW⟩
     ·have e3:decide (y < 0)=false:=by simpa using hy0
      have e4:decide (((p.vars.length:Nat):Int)+1≤y)=true:=by simp; omega
      clear hrr hdr q1 hFW w1 w2 hsk hx0 hyy hy0 hx1 hx2
      go_wp2_with fail
      go_roundg (l.length - (k+1))
      case measure=>have:=HK.out; omega
      case rel=>exact ⟨k+1,X,by go_num,by omega,Lib.hid (by omega),HRR,HO,HXL,HW⟩
   ·rw [if_neg hsk] at hrr
    obtain ⟨m,rfl⟩:∃ m:Nat,x=m:=⟨x.toNat,by omega⟩
    have hmc:m < Q.cnt p:=by omega
    rw [Int.toNat_natCast] at hrr
    clear hsk hx1 hx2
    rcases Nat.lt_or_ge m p.terms.length with hm | hm
    ·rw [if_pos (show ((m:Nat):Int) < ((Fi.nT p:Nat):Int) by omega)] at hrr
     have HRR:=Lib.hid hrr
     have p0:=Brr.cell HO.out (show m < Fi.nT p by omega)
     have pf:=Brr.fz HO.out m
     have HO2:Hid (Bit (wr.setCell ⟨o,m,none⟩ (.bool true)) o (Fi.nT p) (Bs.add X m)):=Lib.hid ((Brr.set HO.out m true).ext (fun j _=>by
      rw [Bs.add_bit]
      by_cases hj:j=m
      ·subst hj; rw [Q.up_same]; simp
      ·rw [Q.up_ne _ _ hj]
       have:decide (m=j)=false:=by simp; omega
       rw [this,Bool.or_false]))
     have HX2:Hid (Bs.add X m < 2 ^ Fi.nT p):=Lib.hid (Bs.add_lt HXL.out (by omega))
     have HW2:Hid (Below V.heap.size V (wr.setCell ⟨o,m,none⟩ (.bool true))):=Lib.hid (HW.out.trans (((Upd.refl o wr).setCell ⟨o,m,none⟩ rfl (.bool true)).below (by rw [HOE.out]; exact Nat.le_refl _) HW.out.size))
     clear hrr hdr q1 hFW
     go_wp2_with fail
     go_ret2
     have hr:=HRR.out
     rw [hr]
     exact ⟨o,rfl,HO2.out,HX2.out,by have:=HB.out.size; have:=HOE.out; omega,HB.out.trans (HW2.out.mono HB.out.size)⟩
    ·rw [if_neg (show ¬ ((m:Nat):Int) < ((Fi.nT p:Nat):Int) by omega)] at hrr
     obtain ⟨u,rfl⟩:∃ u,m=p.terms.length+u:=⟨m - p.terms.length,by omega⟩
     have huv:u < Fi.nV p:=by omega
     rw [show p.terms.length+u - Fi.nT p=u by rw [hnT]; omega] at hrr
     have f0:=hFW.c0
     have f1:=hFW.c1
     have g0:=hFW.sf.cell huv
     have n0:=hFW.n.cell huv
     have hou:o≠pt u:=fun e=>by
      have:=Brr.lt (HF.out.bam.set u (by omega))
      have:=HOE.out
      omega
     have hput:=put10_any (ca:=p.terms.length) (cb:=p.terms.length) HO.out (hFW.bam.set u (by omega)) HXL.out (hFW.lt u (by omega)) (fun e=>absurd e hou) (show Fi.nT p≤1000 by omega)
     have hsub:((p.terms.length+u:Nat):Int) - (p.terms.length:Nat)=(u:Nat):=by omega
     obtain ⟨nl,hnl⟩:∃ nl,nl=null u:=⟨_,rfl⟩
     simp only at hrr
     rw [← hnl] at hrr n0
     have HRR:=Lib.hid hrr
     have HNL:=Lib.hid hnl
     clear hrr hdr q1 hFW hou hnl
     go_wp2_with fail
     refine hput.mono ?_
     rintro e w2 ⟨rfl,hb2,hu2⟩
     have HO2:=Lib.hid hb2
     have HK2:=Lib.hid (hu2.below (n:=V.heap.size) (by rw [HOE.out]; exact Nat.le_refl _) HW.out.size)
     have HW2:=Lib.hid (HW.out.trans HK2.out)
     have HX2:Hid (X|||val u < 2 ^ Fi.nT p):=Lib.hid (Fi.or_lt HXL.out (HF.out.lt u (by omega)))
     have hF2:=HF.out.below HW2.out
     have f0':=hF2.c0
     have n0':=hF2.n.cell huv
     rw [← HNL.out] at n0'
     clear hput hb2 hu2 HK2 hF2 f0 f1 g0
     cases nl with
     | false =>
      rw [if_neg (by simp)] at HRR
      go_wp2_with fail
      go_ret2
      have hr:=HRR.out
      rw [hr]
      exact ⟨o,rfl,HO2.out,HX2.out,by have:=HB.out.size; have:=HOE.out; omega,HB.out.trans (HW2.out.mono HB.out.size)⟩
     | true =>
      rw [if_pos rfl] at HRR
      go_wp2_with fail
      go_roundg (l.length - (k+1))
      case measure=>have:=HK.out; omega
      case rel=>exact ⟨k+1,X|||val u,by go_num,by omega,Lib.hid (by omega),HRR,HO2,HX2,HW2⟩
  ·obtain rfl:k=l.length:=by omega
   have hrr:=HR.out
   rw [List.drop_length,Fi.beg] at hrr
   have HRR:=Lib.hid hrr
   clear hrr hlt HK HR
   go_wp2_with fail
   go_ret2
   rw [HRR.out]
   exact ⟨o,rfl,HO.out,HXL.out,by have:=HB.out.size; have:=HOE.out; omega,HB.out.trans (HW.out.mono HB.out.size)⟩
end Go.Proofs.YtjbggogbnckllaaDoor
