/-
  The walk of the reference's Sentence (chapter 9).
-/
import Derived.Test.YtjbggogbnckllaaDoorRa
import Derived.Test.YtjbggogbnckllaaDoorRb
namespace Go.Proofs.YtjbggogbnckllaaDoor
open Go.RowKit
set_option linter.unusedVariables false
set_option linter.unusedSimpArgs false
theorem own_slc {w:World} {B n:Nat} {v:Value} {l:List Int} (h:w.ownsRow B 3 1 v n (intV l)):∃ a cap,v=.slice a n cap∧Ints w a l:=by
 have h0:=h
 rcases h.2 with ⟨rfl,rfl⟩ | ⟨g,c,cur,rfl,_⟩
 ·exact ⟨none,0,rfl,Ints.of_owns h0⟩
 ·exact ⟨_,_,rfl,Ints.of_owns h0⟩
namespace Q
theorem expL_snoc (p:Pl.Plan) (l:List Int) (x:Int):expL p (l++[x])=expL p l++exp1 p x:=by unfold expL; rw [List.flatMap_append]; simp
theorem anyV_snoc (p:Pl.Plan) (l:List Int) (x:Int):anyV p (l++[x])=(anyV p l||decide ((p.terms.length:Int)≤x)):=by unfold anyV; rw [List.any_append]; simp
theorem pos_snoc (p:Pl.Plan) (l:List Int) (x:Int):pos p (l++[x])=pos p l++(if 0 < (lens p).long x.toNat then [x] else []):=by
 unfold pos; rw [List.filter_append]
 congr 1
 by_cases h:0 < (lens p).long x.toNat
 ·rw [if_pos h]; simp [h]
 ·rw [if_neg h]; simp [h]
theorem expL_pos {p:Pl.Plan} (h:OK p) {l:List Int} (hs:∀ x ∈ l,0≤x):∀ y ∈ expL p l,1≤(lens p).long y.toNat:=by
 intro y hy
 obtain ⟨x,hx,hy⟩:=List.mem_flatMap.1 hy
 unfold exp1 at hy
 split at hy
 ·rename_i ht
  rw [List.mem_singleton.1 hy,lens_term h x.toNat (by have:=hs x hx; omega)]
  omega
 ·have:=(List.mem_filter.1 hy).2
  have:0 < (lens p).long y.toNat:=by simpa using this
  omega
end Q
set_option maxRecDepth 100000 in
set_option maxHeartbeats 16000000 in
theorem sentenceR_any {w:World} {v:Value} {p:Pl.Plan} (sym:Int) (h:PnV w v p) (ho:Q.OK p) :
  Calls Tryd.prog 20 #[v,.int .i64 sym] w fun e w'=>∃ na nc,e=.returned (.slice na (Q.sent p sym).length nc)∧Ints w' na (Q.sent p sym)∧Below w.heap.size w w':=by
 have h0:=h
 obtain ⟨ta,tc,va,vc,ra,rc,la,lc,aa,ac,ca,cc,rfl,h⟩:=h
 have HP0:=PB.new (tc:=tc) (vc:=vc) (rc:=rc) (lc:=lc) (ac:=ac) (cc:=cc) h
 have k:=(Below.refl w.heap.size w).alloc (Nat.le_refl _) (.cells (pnC p ta va ra la aa ca tc vc rc lc ac cc) 32)
 have hcn:=count_any (h0.below k) ho.nb ho.m
 have hle:=fun W (hk:Below w.heap.size w W)=>lengths9_any (h0.below hk) ho
 unfold pnC at HP0 k hcn
 have HP:=Lib.hid HP0
 have HB:=Lib.hid k
 have HO:=Lib.hid ho
 have hnb:=ho.nb
 have hmb:=ho.m
 have hnr:=ho.r
 have hcnt:Q.cnt p=p.terms.length+p.vars.length+1:=rfl
 have c0:=HP0.c0
 have c1:=HP0.c1
 have c2:=HP0.c2
 have c3:=HP0.c3
 have c4:=HP0.c4
 have c5:=HP0.c5
 obtain ⟨R,hR⟩:∃ R,R=Q.sent p sym:=⟨_,rfl⟩
 have HR:=Lib.hid hR
 rw [← hR]
 clear HP0 k h h0 ho hR
 by_cases hlo:sym < 0
 ·have e1:decide (sym < 0)=true:=by simpa using hlo
  have hr:R=[]:=by rw [HR.out]; unfold Q.sent; rw [if_pos (.inl hlo)]
  subst hr
  clear hlo hle hcn
  go_enter Tryd.func20,Tryd.ntmps20
  go_wp2_with fail
  go_ret
  exact ⟨none,0,rfl,fun i hi=>absurd hi (Nat.not_lt_zero _),HB.out⟩
 have e1:decide (sym < 0)=false:=by simpa using hlo
 by_cases hhi:((Q.cnt p:Nat):Int)≤sym
 ·have hr:R=[]:=by rw [HR.out]; unfold Q.sent; rw [if_pos (.inr (.inl hhi))]
  have e2:decide (((Q.cnt p:Nat):Int)≤sym)=true:=by simpa using hhi
  subst hr
  clear hlo hle
  go_enter Tryd.func20,Tryd.ntmps20
  go_wp2_with fail
  refine hcn.mono ?_
  rintro e w1 ⟨rfl,kb⟩
  have HB1:=Lib.hid (HB.out.trans (kb.mono HB.out.size))
  clear hcn kb c0 c1 c2 c3 c4 c5
  go_wp2_with fail
  go_ret
  exact ⟨none,0,rfl,fun i hi=>absurd hi (Nat.not_lt_zero _),HB1.out⟩
 have e2:decide (((Q.cnt p:Nat):Int)≤sym)=false:=by simpa using hhi
 obtain ⟨s,rfl⟩:∃ s:Nat,sym=s:=⟨sym.toNat,by omega⟩
 have hsc:s < Q.cnt p:=by omega
 clear hlo
 go_enter Tryd.func20,Tryd.ntmps20
 go_wp2_with fail
 generalize w.alloc (.cells #[.slice ta p.terms.length tc,.slice va p.vars.length vc,.slice ra p.rules.length rc,.slice la p.levels.length lc,.slice aa p.assocs.length ac,.slice ca p.acts.length cc] 32)=V at HP HB c0 c1 c2 c3 c4 c5 hcn ⊢
 refine hcn.mono ?_
 rintro e w1 ⟨rfl,kb⟩
 have HP1:=Lib.hid (HP.out.below kb)
 have HB1:=Lib.hid (HB.out.trans (kb.mono HB.out.size))
 have hl1:=hle w1 HB1.out
 clear hcn kb c0 c1 c2 c3 c4 c5 hle HP HB
 have c0:=HP1.out.c0
 have c1:=HP1.out.c1
 have c2:=HP1.out.c2
 have c3:=HP1.out.c3
 have c4:=HP1.out.c4
 have c5:=HP1.out.c5
 go_wp2_with fail
 refine hl1.mono ?_
 rintro e U ⟨ga,gc,gb,gd,rfl,hA,hBy,k⟩
 have HA:=Lib.hid hA
 have HY:=Lib.hid hBy
 have HPU:=Lib.hid (HP1.out.below k)
 have HBU:=Lib.hid (HB1.out.trans (k.mono HB1.out.size))
 have a0:=hA.cell hsc
 clear hl1 hA hBy k c0 c1 c2 c3 c4 c5 HP1 HB1
 obtain ⟨ls,hls⟩:∃ ls,ls=(Q.lens p).long s:=⟨_,rfl⟩
 have HLS:=Lib.hid hls
 rw [← hls] at a0
 clear hls
 by_cases hneg:ls < 0
 ·have e3:decide (ls < 0)=true:=by simpa using hneg
  have hr:R=[]:=by rw [HR.out]; unfold Q.sent; rw [if_pos (.inr (.inr (.inl (by rw [Int.toNat_natCast,← HLS.out]; exact hneg))))]
  subst hr
  clear hneg
  go_wp2_with fail
  go_ret
  exact ⟨none,0,rfl,fun i hi=>absurd hi (Nat.not_lt_zero _),HBU.out⟩
 have e3:decide (ls < 0)=false:=by simpa using hneg
 by_cases hbig:1000 < ls
 ·have e4:decide (1000 < ls)=true:=by simpa using hbig
  have hr:R=[]:=by rw [HR.out]; unfold Q.sent; rw [if_pos (.inr (.inr (.inr (by rw [Int.toNat_natCast,← HLS.out]; exact hbig))))]
  subst hr
  clear hneg hbig
  go_wp2_with fail
  go_ret
  exact ⟨none,0,rfl,fun i hi=>absurd hi (Nat.not_lt_zero _),HBU.out⟩
 have e4:decide (1000 < ls)=false:=by simpa using hbig
 obtain ⟨tm,ht,T⟩:=Q.lens_by HO.out
 have hw0:Q.Way p tm (Q.lenF p) ls [(s:Int)]:=⟨fun x hx=>by rw [List.mem_singleton.1 hx]; exact ⟨by omega,by omega,by rw [Int.toNat_natCast,← HLS.out]; omega⟩,fun x hx _=>ht _,by rw [HLS.out]; simp⟩
 have hr0:R=[(s:Int)].flatMap fun y=>Q.sentF p (Q.lenF p) y.toNat:=by
  rw [HR.out]
  unfold Q.sent
  rw [Int.toNat_natCast,← HLS.out,if_neg (by omega)]
  simp
 have HW0:=Lib.hid hw0
 have HR0:=Lib.hid hr0
 have HTM:=Lib.hid ht
 have HT2:=Lib.hid (show Q.Tm p tm from T)
 have hls1:ls≤1000:=by omega
 have kU:=(Below.refl U.heap.size U).alloc (Nat.le_refl _) (.cells #[.int .i64 (s:Int)] 3)
 have HKU:=Lib.hid kU
 clear hw0 hr0 ht T hneg hbig kU
 go_wp2_with fail
 clear a0
 go_loopg [7] (Q.lenF p) (fun gk nv wr=>∃ (l:List Int) (na:Option Addr) (nc kk:Nat),nv=.slice na l.length nc∧l.length≤1000∧Hid (gk=kk)∧Hid (Ints wr na l)∧Hid (Below U.heap.size U wr)∧Hid (Q.Way p tm kk ls l)∧Hid (R=l.flatMap fun y=>Q.sentF p (Q.lenF p) y.toNat))
 case atStart=>exact ⟨[(s:Int)],some ⟨U.heap.size,0,none⟩,1,_,rfl,by simp,Lib.hid rfl,Lib.hid (ints_new U [(s:Int)]),HKU,HW0,HR0⟩
 case round =>
  clear HW0 HR0 HKU
  obtain ⟨l,na,nc,kk,rfl,hll,HGK,HI,HW,HWAY,HRR⟩:=hrel
  obtain ⟨Y5,hY5⟩:∃ Y5,Y5=wr:=⟨_,rfl⟩
  subst hY5
  have HEL:Hid ((Q.expL p l).length≤1000):=Lib.hid (by
   cases kk with
   | zero =>
    have ha:Q.anyV p l=false:=by
     unfold Q.anyV
     rw [List.any_eq_false]
     intro x hx hc
     exact absurd (HWAY.out.v x hx (by simpa using hc)) (Nat.not_lt_zero _)
    rw [Q.expL_term ha]; exact hll
   | succ k2 =>
    obtain ⟨w2,_⟩:=Q.expL_way HO.out HT2.out HTM.out l ls HWAY.out (by unfold Q.M; omega)
    have:=Q.way_len w2 (Q.expL_pos HO.out (fun x hx=>(HWAY.out.s x hx).1))
    omega)
  have HPR:Hid (∀ A B:List Int,Q.expL p l=A++B→A.length≤1000):=Lib.hid (fun A B e=>by have:=HEL.out; rw [e,List.length_append] at this; omega)
  go_wp2_with fail
  go_loopg [8,9,10] l.length (fun gk xv mv iv w2=>∃ (j:Nat) (N:List Int),iv=.int .i64 j∧j≤l.length∧mv=.bool (Q.anyV p (l.take j))∧Hid (gk+j=l.length)∧Hid (w2.ownsRow Y5.heap.size 3 1 xv N.length (intV N))∧Hid (N=Q.expL p (l.take j))∧Hid (Below Y5.heap.size Y5 w2))
  case atStart=>exact ⟨0,[],rfl,by omega,rfl,Lib.hid (by omega),Lib.hid (World.ownsRow_nil _ _ _ _),Lib.hid rfl,Lib.hid (Below.refl _ _)⟩
  case round =>
   obtain ⟨j,N,rfl,hj,rfl,HJ,HN,HNE,HW2⟩:=hrel
   by_cases hlt:j < l.length
   ·obtain ⟨b,off,rfl,q1⟩:=HI.out j hlt
    have hs:=HWAY.out.s _ (List.getElem_mem hlt)
    have hv:=HWAY.out.v _ (List.getElem_mem hlt)
    have hsg:=(Q.sum_ge l (fun x hx=>(HWAY.out.s x hx).2.2)).2 _ (List.getElem_mem hlt)
    rw [HWAY.out.sum] at hsg
    have htk:l.take (j+1)=l.take j++[l[j]]:=List.take_succ_eq_append_getElem hlt
    have hel:∃ B,Q.expL p l=Q.expL p (l.take j)++Q.exp1 p l[j]++B:=⟨Q.expL p (l.drop (j+1)),by
     rw [← Q.expL_snoc,← htk]
     have:=List.take_append_drop (j+1) l
     conv=>lhs; rw [← this]
     unfold Q.expL; rw [List.flatMap_append]⟩
    have HTK:=Lib.hid htk
    have HELL:=Lib.hid hel
    have HQ1:=Lib.hid q1
    generalize hxx:l[j]=x at q1 hs hv hsg HTK HELL HQ1
    clear hxx htk hel
    obtain ⟨n,rfl⟩:∃ n:Nat,x=n:=⟨x.toNat,by omega⟩
    rw [Int.toNat_natCast] at hs hv hsg
    have hNl:N.length≤1000:=by
     obtain ⟨B,hB⟩:=HELL.out
     rw [HNE.out]
     exact HPR.out _ _ (by rw [hB,List.append_assoc])
    have y0:=fun z:Wd wr.heap.size wr=>(HPU.out.below ((HW.out.trans (HW2.out.mono HW.out.size)).trans (z.ok.mono (Nat.le_trans HW.out.size HW2.out.size)))).c0
    have yq:∀ z:Wd wr.heap.size wr,z.w.cell? ⟨b,off+j,none⟩=some (.int .i64 (n:Nat)):=fun z=>((bcell (HW2.out.trans (z.ok.mono HW2.out.size))).1 _ _ (World.block_lt_of_cell? Y5 _ q1)).trans q1
    clear q1
    go_wp2_with fail
    refine region_cls wr.heap.size (by kernel_rfl) (by kernel_rfl) ?_
    repeat (go_big_quiet_step (fail))
    refine wpQuiet_nil ?_
    intro z
    have HW3:=Lib.hid (HW2.out.trans (z.ok.mono HW2.out.size))
    have HN3:=Lib.hid (owns_below HN.out z.ok)
    generalize z.w=w3 at HW3 HN3 ⊢
    clear z y0 yq HW2 HN
    have hanv:Q.anyV p (l.take (j+1))=(Q.anyV p (l.take j)||decide ((p.terms.length:Int)≤(n:Nat))):=by rw [HTK.out,Q.anyV_snoc]
    have hexp:Q.expL p (l.take (j+1))=N++Q.exp1 p (n:Nat):=by rw [HTK.out,Q.expL_snoc,HNE.out]
    have HANV:=Lib.hid hanv
    have HEXP:=Lib.hid hexp
    clear hanv hexp
    rcases Nat.lt_or_ge n p.terms.length with hnn | hnn
    ·have hnt:(n:Int) < (p.terms.length:Int):=by omega
     have hx:Q.exp1 p (n:Nat)=[((n:Nat):Int)]:=by unfold Q.exp1; rw [if_pos hnt]
     have HXX:=Lib.hid hx
     have hno:decide ((p.terms.length:Int)≤(n:Nat))=false:=by simp; omega
     have HNO:=Lib.hid hno
     have q3:=((bcell HW3.out).1 _ _ (World.block_lt_of_cell? Y5 _ HQ1.out)).trans HQ1.out
     have hsz3:=HW3.out.size
     have HN4:=Lib.hid (HN3.out.alloc (.cells #[.int .i64 (n:Nat)] 3))
     have HW4:=Lib.hid (HW3.out.alloc hsz3 (.cells #[.int .i64 (n:Nat)] 3))
     clear hx hno hnt
     go_wp2_with (refine list_append_one rfl _ _ _ rfl 3 Y5.heap.size 1 8 elt_int _ N.length (intV N) rfl HN4.out ⟨w3.heap.size,0,none⟩ 1 [.int .i64 (n:Nat)] rfl rfl (World.news_of_block (cs:=#[.int .i64 (n:Nat)]) (t:=3) (fr:=(0,0)) (heap_alloc_new w3 _)) (by simp [Value.oneCell']) (by unfold maxLen; omega) (by omega) (by simp; omega) ?_; intro bg bcap wg hog hgg hb1 hb2 hb3; have HW5:=Lib.hid (HW4.out.trans (below_own HN4.out (by simp; omega) hgg)); have HN5:=Lib.hid hog; clear hog hgg hb1 hb2 hb3 HW4 HN4)
     go_roundg (l.length - (j+1))
     case measure=>have:=HJ.out; omega
     case rel=>exact ⟨j+1,N++[((n:Nat):Int)],by go_num,by omega,by rw [HANV.out,HNO.out,Bool.or_false],Lib.hid (by omega),Lib.hid (by rw [List.length_append,intV_snoc]; exact HN5.out),Lib.hid (by rw [HEXP.out,HXX.out]),HW5⟩
    ·have hnt:¬ (n:Int) < (p.terms.length:Int):=by omega
     have hx1:Q.exp1 p (n:Nat)=Q.pos p (Q.rgt p (n:Nat)):=by unfold Q.exp1; rw [if_neg hnt]
     obtain ⟨k0,r,t1,t2,t3,t4,t5⟩:=HT2.out n (by omega) hs.2.2 (by unfold Q.M; omega)
     obtain ⟨hk0,hrr⟩:=List.getElem?_eq_some_iff.1 t2
     have hrg:Q.rgt p (n:Nat)=r.right:=by unfold Q.rgt; rw [Int.toNat_natCast,t1,Int.toNat_natCast,t2]; rfl
     rw [hrg] at hx1
     have hxr:=HO.out.right _ (List.getElem_mem hk0)
     have hx8:=HO.out.rl _ (List.getElem_mem hk0)
     rw [hrr] at hxr hx8
     have HXX:=Lib.hid hx1
     have hno:decide ((p.terms.length:Int)≤(n:Nat))=true:=by simp; omega
     have HNO:=Lib.hid hno
     have HBW3:=Lib.hid (HW.out.trans (HW3.out.mono HW.out.size))
     have hP3:=HPU.out.below HBW3.out
     have hY3:=(HY.out.below HBW3.out).cell (show n < Q.cnt p by omega)
     rw [t1] at hY3
     obtain ⟨rb,ro,xa,xc,e5,v0,v1',v2,vin⟩:=(HPU.out.below HW.out).a.r k0 hk0
     rw [hrr] at v0 v1' v2 vin
     subst e5
     have v1:=((bcell HW3.out).1 _ _ (World.block_lt_of_cell? Y5 _ v1')).trans v1'
     have c2:=hP3.c2
     have q3:=((bcell HW3.out).1 _ _ (World.block_lt_of_cell? Y5 _ HQ1.out)).trans HQ1.out
     have VIN:=Lib.hid vin
     have HXR:=Lib.hid hxr
     have HPL:Hid (∀ k,(N++Q.pos p (r.right.take k)).length≤1000):=Lib.hid (fun k=>by
      obtain ⟨B,hB⟩:=HELL.out
      rw [HXX.out,← HNE.out] at hB
      have:Q.pos p r.right=Q.pos p (r.right.take k)++Q.pos p (r.right.drop k):=by
       conv=>lhs; rw [← List.take_append_drop k r.right]
       unfold Q.pos; rw [List.filter_append]
      exact HPR.out (N++Q.pos p (r.right.take k)) (Q.pos p (r.right.drop k)++B) (by rw [hB,this]; simp [List.append_assoc]))
     have z2:=fun z:Wd w3.heap.size w3=>(hP3.below z.ok).c2
     have zy:=fun z:Wd w3.heap.size w3=>((bcell z.ok).1 _ _ (World.block_lt_of_cell? w3 _ hY3)).trans hY3
     have zq:=fun z:Wd w3.heap.size w3=>((bcell z.ok).1 _ _ (World.block_lt_of_cell? w3 _ q3)).trans q3
     have zv:=fun z:Wd w3.heap.size w3=>((bcell z.ok).1 _ _ (World.block_lt_of_cell? w3 _ v1)).trans v1
     clear hx1 t1 t2 t3 t4 t5 hrr hrg hxr hno hP3 hY3 v0 v1 v1' v2 vin c2 q3 hnt
     go_wp2_with fail
     refine region_cls w3.heap.size (by kernel_rfl) (by kernel_rfl) ?_
     repeat (go_big_quiet_step (fail))
     refine wpQuiet_nil ?_
     intro z
     have HW4:=Lib.hid (HW3.out.trans (z.ok.mono HW3.out.size))
     have HN4:=Lib.hid (owns_below HN3.out z.ok)
     generalize z.w=w4 at HW4 HN4 ⊢
     clear z z2 zy zq zv HW3 HN3 HBW3
     obtain ⟨Y6,hY6⟩:∃ Y6,Y6=w4:=⟨_,rfl⟩
     subst hY6
     go_wp2_with fail
     go_loopg [8,12] r.right.length (fun gk xv kv w5=>∃ k:Nat,kv=.int .i64 k∧k≤r.right.length∧Hid (gk+k=r.right.length)∧Hid (w5.ownsRow Y5.heap.size 3 1 xv (N++Q.pos p (r.right.take k)).length (intV (N++Q.pos p (r.right.take k))))∧Hid (Below Y5.heap.size Y5 w5))
     case atStart=>exact ⟨0,by go_num,by omega,Lib.hid (by omega),Lib.hid (by simpa [Q.pos] using HN4.out),HW4⟩
     case round =>
      clear HN4 HW4
      obtain ⟨k,rfl,hk,HK,HN5,HW5⟩:=hrel
      by_cases hlk:k < r.right.length
      ·obtain ⟨bb,bo,e6,q0⟩:=(VIN.out.below HW5.out) k hlk
       subst e6
       obtain ⟨y0,y1⟩:=HXR.out _ (List.getElem_mem hlk)
       have htk:r.right.take (k+1)=r.right.take k++[r.right[k]]:=List.take_succ_eq_append_getElem hlk
       have hps:Q.pos p (r.right.take (k+1))=Q.pos p (r.right.take k)++(if 0 < (Q.lens p).long (r.right[k]).toNat then [r.right[k]] else []):=by rw [htk,Q.pos_snoc]
       clear htk
       generalize r.right[k]=y at q0 y0 y1 hps
       obtain ⟨u,rfl⟩:∃ u:Nat,y=u:=⟨y.toNat,by omega⟩
       rw [Int.toNat_natCast] at hps
       have a0:=(HA.out.below (HW.out.trans (HW5.out.mono HW.out.size))).cell (show u < Q.cnt p by omega)
       have hbd:=HPL.out k
       generalize (Q.lens p).long u=lu at a0 hps
       by_cases hlu:0 < lu
       ·have d1:decide (0 < lu)=true:=by simpa using hlu
        rw [if_pos hlu] at hps
        have HPS:=Lib.hid hps
        have hsz5:=HW5.out.size
        have HN6:=Lib.hid (HN5.out.alloc (.cells #[.int .i64 (u:Nat)] 3))
        have HW6:=Lib.hid (HW5.out.alloc hsz5 (.cells #[.int .i64 (u:Nat)] 3))
        clear hps hlu
        go_wp2_with (refine list_append_one rfl _ _ _ rfl 3 Y5.heap.size 1 8 elt_int _ (N++Q.pos p (r.right.take k)).length (intV (N++Q.pos p (r.right.take k))) rfl HN6.out ⟨_,0,none⟩ 1 [.int .i64 (u:Nat)] rfl rfl (World.news_of_block (cs:=#[.int .i64 (u:Nat)]) (t:=3) (fr:=(0,0)) (heap_alloc_new _ _)) (by simp [Value.oneCell']) (by unfold maxLen; omega) (by omega) (by simp; omega) ?_; intro bg bcap wg hog hgg hb1 hb2 hb3; have HW7:=Lib.hid (HW6.out.trans (below_own HN6.out (by simp; omega) hgg)); have HN7:=Lib.hid hog; clear hog hgg hb1 hb2 hb3 HW6 HN6)
        go_roundg (r.right.length - (k+1))
        case measure=>have:=HK.out; omega
        case rel=>exact ⟨k+1,by go_num,by omega,Lib.hid (by omega),Lib.hid (by rw [HPS.out,← List.append_assoc,intV_snoc]; have h:=HN7.out; simp only [List.length_append,List.length_cons,List.length_nil] at h ⊢; exact h),HW7⟩
       ·have d1:decide (0 < lu)=false:=by simpa using hlu
        rw [if_neg hlu,List.append_nil] at hps
        have HPS:=Lib.hid hps
        clear hps hlu
        go_wp2_with fail
        go_roundg (r.right.length - (k+1))
        case measure=>have:=HK.out; omega
        case rel=>exact ⟨k+1,by go_num,by omega,Lib.hid (by omega),Lib.hid (by rw [HPS.out]; exact HN5.out),HW5⟩
      ·obtain rfl:k=r.right.length:=by omega
       have hn6:=HN5.out
       rw [List.take_length] at hn6
       have HN6:=Lib.hid hn6
       clear hn6 HN5 HK hlk
       go_wp2_with fail
       go_roundg (l.length - (j+1))
       case measure=>have:=HJ.out; omega
       case rel=>exact ⟨j+1,N++Q.pos p r.right,by go_num,by omega,by rw [HANV.out,HNO.out,Bool.or_true],Lib.hid (by omega),HN6,Lib.hid (by rw [HEXP.out,HXX.out]),HW5⟩
   ·obtain rfl:j=l.length:=by omega
    have hne:=HNE.out
    rw [List.take_length] at hne ⊢
    subst hne
    clear hlt HJ HNE
    obtain ⟨xa,xc,rfl,hix⟩:=own_slc HN.out
    have HIX:=Lib.hid hix
    clear hix
    cases hav:Q.anyV p l with
    | false =>
     have hl:=Q.expL_term hav
     have hrl:R=l:=by rw [HRR.out]; exact Q.term_flat HO.out (fun x hx=>(HWAY.out.s x hx).1) hav
     rw [hl] at HIX HN ⊢
     subst hrl
     go_wp2_with fail
     go_ret
     exact ⟨xa,xc,rfl,HIX.out,HBU.out.trans ((HW.out.trans (HW2.out.mono HW.out.size)).mono HBU.out.size)⟩
    | true =>
     cases kk with
     | zero =>
      exfalso
      unfold Q.anyV at hav
      obtain ⟨x,hx,hc⟩:=List.any_eq_true.1 hav
      exact absurd (HWAY.out.v x hx (by simpa using hc)) (Nat.not_lt_zero _)
     | succ k2 =>
      obtain ⟨w5,w6⟩:=Q.expL_way HO.out HT2.out HTM.out l ls HWAY.out (by unfold Q.M; omega)
      have HW5:=Lib.hid w5
      have HRX:Hid (R=(Q.expL p l).flatMap fun y=>Q.sentF p (Q.lenF p) y.toNat):=Lib.hid (by rw [w6]; exact HRR.out)
      clear w5 w6 HRR HWAY
      go_wp2_with fail
      go_roundg k2
      case measure=>have:=HGK.out; omega
      case rel=>exact ⟨Q.expL p l,xa,xc,k2,rfl,HEL.out,Lib.hid rfl,HIX,Lib.hid (HW.out.trans (HW2.out.mono HW.out.size)),HW5,HRX⟩
end Go.Proofs.YtjbggogbnckllaaDoor
