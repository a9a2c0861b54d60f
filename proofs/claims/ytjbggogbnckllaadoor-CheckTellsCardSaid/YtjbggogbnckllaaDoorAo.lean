/-
  The walk of check.Reachable.
  The walk of check.Check.
-/
import Derived.Test.YtjbggogbnckllaaDoorZz
import Derived.Test.YtjbggogbnckllaaDoorAn
import Derived.Test.YtjbggogbnckllaaDoorAm
import Derived.Test.YtjbggogbnckllaaDoorAl
import Derived.Test.YtjbggogbnckllaaDoorAc
section
set_option maxRecDepth 100000
namespace Go.Proofs.YtjbggogbnckllaaDoor
open Go.RowKit
set_option linter.unusedVariables false
set_option linter.unusedSimpArgs false
namespace Q
theorem mu_le (N X:Nat):mu N X≤N:=by
 unfold mu
 induction N with
 | zero=>exact Nat.le_refl _
 | succ n ih =>
  rw [weight_succ]
  have:wt (bw X.testBit n)≤1:=by unfold bw; split<;>simp [wt]
  omega
end Q
/-- The set and the queue, in a world that is else as V was. -/
structure RW (V W:World) (s b N X g off cap:Nat) (T:List Int):Prop where
 low:Below V.heap.size V W
 set:SetAt W s b N X
 qu:Qu W g off cap T
 hs:V.heap.size≤s
 hb:V.heap.size≤b
 hg:V.heap.size≤g
 sg:s≠g
 bg:b≠g
section
variable {V W W':World} {s b N X X' g off cap g' off' cap':Nat} {T T':List Int}
theorem RW.below (h:RW V W s b N X g off cap T) (k:Below W.heap.size W W'):RW V W' s b N X g off cap T :=
 ⟨h.low.trans (k.mono h.low.size),h.set.below k,h.qu.below k,h.hs,h.hb,h.hg,h.sg,h.bg⟩
theorem RW.add (h:RW V W s b N X g off cap T) (hs:SetAt W' s b N X') (k:Upd b W W'):RW V W' s b N X' g off cap T :=
 ⟨h.low.trans (k.below h.hb h.low.size),hs,h.qu.upd k h.bg.symm,h.hs,h.hb,h.hg,h.sg,h.bg⟩
theorem RW.app (h:RW V W s b N X g off cap T) (q:Qu W' g' off' cap' T') (k:Upd g W W') (e:g'=g∨g'=W.heap.size):RW V W' s b N X g' off' cap' T':=by
 have h1:=h.set.plt
 have h2:=h.set.blt
 have h3:=h.low.size
 have h4:=h.sg
 have h5:=h.bg
 have h6:=h.hg
 exact ⟨h.low.trans (k.below h.hg h.low.size),h.set.upd k h.sg h.bg,q,h.hs,h.hb,by omega,by omega,by omega⟩
theorem RW.tail {x:Int} {r:List Int} (h:RW V W s b N X g off cap (x::r)):RW V W s b N X g (if cap=1 then off else off+1) (cap - 1) r :=
 ⟨h.low,h.set,h.qu.tail,h.hs,h.hb,h.hg,h.sg,h.bg⟩
end
theorem qu_slice (g off cap n:Nat) (w:World):Sem.run Tryd.prog (Instr.sliceAt 30 (.slice (some ⟨g,off,none⟩) (n+1) cap) (some (.int .i64 1)) none none) w=.ok (.slice (some ⟨g,if cap=1 then off else off+1,none⟩) n (cap - 1)) w:=by
 have he:Tryd.prog.elem 30=3:=by kernel_rfl
 obtain ⟨i,z,hi,hz,hsz,_⟩:=elt_int.hi
 rw [run_sliceAt_slice w 30 _ _ _ _ (by rw [he]; exact elt_int.ht),run_slice_l w 30 _ _ _ (by rw [he]; exact elt_int.ht) .i64 1 (by omega) (by omega),he]
 simp [sizeOf,typeInfo,hi,hsz,Result.andThen,qu_sliced]
set_option maxRecDepth 100000 in
set_option maxHeartbeats 8000000 in
theorem reachable_any {w:World} {v:Value} {p:Pl.Plan} (h:PnV w v p) (ho:Q.OK p) (hc:Q.cnt p≤1000) (hT:Tab w) :
  Calls Tryd.prog 34 #[v] w fun e w'=>∃ na nc,e=.returned (.slice na (Q.ofB (Q.come p) (Q.cnt p)).length nc)∧Ints w' na (Q.ofB (Q.come p) (Q.cnt p))∧Below w.heap.size w w':=by
 have h0:=h
 obtain ⟨ta,tc,va,vc,ra,rc,la,lc,aa,ac,ca,cc,rfl,h⟩:=h
 have HP0:=PB.new (tc:=tc) (vc:=vc) (rc:=rc) (lc:=lc) (ac:=ac) (cc:=cc) h
 have k:=(Below.refl w.heap.size w).alloc (Nat.le_refl _) (.cells (pnC p ta va ra la aa ca tc vc rc lc ac cc) 32)
 have HB:=Lib.hid k
 have HC:=accept_any (h0.below k) ho.nb ho.m
 unfold pnC at HP0 HB HC
 have HP:=Lib.hid HP0
 have c0:=HP0.c0
 have c1:=HP0.c1
 have c2:=HP0.c2
 have c3:=HP0.c3
 have c4:=HP0.c4
 have c5:=HP0.c5
 have HS:Hid ((w.alloc (.cells #[.slice ta p.terms.length tc,.slice va p.vars.length vc,.slice ra p.rules.length rc,.slice la p.levels.length lc,.slice aa p.assocs.length ac,.slice ca p.acts.length cc] 32)).heap.size=w.heap.size+1):=Lib.hid (by simp)
 have HTB:=Lib.hid (hT.below (HB.out))
 have hnr:=ho.r
 obtain ⟨A,hA⟩:∃ A,A=p.terms.length+p.vars.length:=⟨_,rfl⟩
 have hcn:Q.cnt p=A+1:=by rw [hA]; rfl
 rw [← hA] at HC
 have hAb:A≤999:=by omega
 have HOK:=Lib.hid ho
 have HN:=Lib.hid hcn
 clear HP0 h h0 k ho hT hc hA hcn
 go_enter Tryd.func34,Tryd.ntmps34
 go_wp2_with fail
 generalize w.alloc (.cells #[.slice ta p.terms.length tc,.slice va p.vars.length vc,.slice ra p.rules.length rc,.slice la p.levels.length lc,.slice aa p.assocs.length ac,.slice ca p.acts.length cc] 32)=W at HC HB HS HP HTB c0 c1 c2 c3 c4 c5 ⊢
 refine HC.mono ?_
 rintro e w1 ⟨rfl,k⟩
 have HPV:=Lib.hid (HP.out.below k)
 have HTV:=Lib.hid (HTB.out.below k)
 have HL0:=Lib.hid k
 have hsz1:=k.size
 have hof:=of_any ((A:Int)+1) (some ⟨w1.heap.size,0,none⟩) [(A:Int)] 1 (w1.alloc (.cells #[.int .i64 (A:Int)] 3)) (fun i hi=>by
  have:i=0:=by simpa using hi
  subst this
  exact ⟨_,_,rfl,by rw [cell_of_row _ _ _ _ _ _ (heap_alloc_new w1 _)]; rfl⟩) (by simp [maxLen])
 simp only [List.length_singleton] at hof
 have hw:Bs.wid ((A:Int)+1)=A+1:=by unfold Bs.wid; omega
 rw [hw] at hof
 have HA1:=Lib.hid ((Below.refl w1.heap.size w1).alloc (Nat.le_refl _) (.cells #[.int .i64 (A:Int)] 3))
 clear HC k c0 c1 c2 c3 c4 c5 hw HP HTB
 go_wp2_with fail
 refine hof.mono ?_
 rintro e w2 ⟨s,b,rfl,hs,hb,hset,k⟩
 have HL1:=Lib.hid (HA1.out.trans (k.mono (by simp)))
 have hsz2:=HL1.out.size
 have HR0:Hid (RW w1 (w2.alloc (.cells #[.int .i64 (A:Int)] 3)) s b (A+1) (Bs.of (A+1) [(A:Int)]) w2.heap.size 0 1 [(A:Int)]):=Lib.hid (by
  have h1:=hset.plt
  have h2:=hset.blt
  simp at hs hb
  exact ⟨HL1.out.alloc hsz2 _,hset.below ((Below.refl _ _).alloc (Nat.le_refl _) _),Qu.new w2 _,by omega,by omega,by omega,by omega,by omega⟩)
 clear hof hs hb hset k HA1 HL1
 go_wp2_with fail
 generalize w2.alloc (.cells #[.int .i64 (A:Int)] 3)=W2 at HR0 ⊢
 generalize w2.heap.size=g0 at HR0 ⊢
 have hI0:=Q.RI.start (p:=p)
 rw [HN.out] at hI0
 have HI0:=Lib.hid hI0
 have hm0:=Q.mu_le (A+1) (Bs.of (A+1) [(A:Int)])
 obtain ⟨M0,hM0⟩:∃ M0,M0=Q.mu (A+1) (Bs.of (A+1) [(A:Int)])+1:=⟨_,rfl⟩
 have HM0:=Lib.hid hM0
 have hM1:M0≤1001:=by omega
 have HSV:Hid (w.heap.size≤w1.heap.size):=Lib.hid (by have:=HS.out; omega)
 have HBV:=Lib.hid (HB.out.trans (HL0.out.mono (by have:=HS.out; omega)))
 clear hI0 hm0 hM0 hsz2 hsz1 HL0 HB HS
 go_loopg [5] M0 (fun gk td wr=>∃ (X:Nat) (T:List Int) (g off cap:Nat),td=.slice (some ⟨g,off,none⟩) T.length cap∧Hid (RW w1 wr s b (A+1) X g off cap T)∧Hid (Q.RI p X T fun _=>False)∧Hid (gk=Q.mu (A+1) X+T.length)∧gk≤1001)
 case atStart=>exact ⟨_,[(A:Int)],g0,0,1,rfl,HR0,HI0,HM0,hM1⟩
 case round =>
  clear HR0 HI0 HM0 hM1
  obtain ⟨X,T,g,off,cap,rfl,HR,HI,HM,hgk⟩:=hrel
  cases T with
  | nil =>
   have hset:=HR.out.set
   have HLS:=list_any s b (A+1) X wr hset (HTV.out.below HR.out.low)
   have hlst:=HI.out.lst HOK.out
   rw [HN.out] at hlst
   have HLST:=Lib.hid hlst
   clear hset hlst HI HM
   go_wp2_with fail
   refine HLS.mono ?_
   rintro e w3 ⟨na,nc,rfl,_,hi,k⟩
   have HI3:=Lib.hid hi
   have HL3:=Lib.hid (HR.out.low.trans (k.mono HR.out.low.size))
   clear hi k HLS
   go_wp2_with fail
   go_ret
   refine ⟨na,nc,?_,?_,HBV.out.trans (HL3.out.mono HSV.out)⟩
   ·rw [HN.out]
    show Ending.returned (.slice na (natI (Bs.lst (A+1) X)).length nc)=_
    unfold natI
    rw [HLST.out]; rfl
   ·rw [HN.out]
    have:=HI3.out
    unfold natI at this
    rw [HLST.out] at this
    exact this
  | cons t T =>
   have q0:=HR.out.qu.cell (i:=0) (by simp)
   rw [Nat.add_zero] at q0
   simp only [List.getElem_cons_zero] at q0
   have HP2:=Lib.hid (HPV.out.below HR.out.low)
   have c2:=HP2.out.c2
   have hlen:T.length+1≤1001:=by have:=HM.out; simp at this; omega
   simp only [List.length_cons]
   have HRT:=Lib.hid HR.out.tail
   have HIT:=Lib.hid HI.out.pop
   have HX:=Lib.hid ((HI.out.pos t (by simp)))
   obtain ⟨KK,hKK⟩:∃ KK,gk=KK+1:=⟨gk - 1,by have:=HM.out; simp at this; omega⟩
   have HM2:Hid (KK=Q.mu (A+1) X+T.length):=Lib.hid (by have:=HM.out; simp at this; omega)
   have hsl:=qu_slice g off cap T.length
   generalize (if cap=1 then off else off+1)=off1 at HRT hsl
   generalize cap - 1=cap1 at HRT hsl
   clear HI HM HP2 HR
   go_wp2_with fail
   clear c2 hsl q0
   have HIT0:Hid (Q.RI p X T fun r=>(r.left:Int)=t∧r ∈ p.rules.drop 0):=Lib.hid (HIT.out.imp fun r hr h=>.inl ⟨h,hr⟩)
   clear HIT
   go_loopg [5,31] p.rules.length (fun gr td idx wr=>∃ (k X:Nat) (T:List Int) (g off cap:Nat),idx=.int .i64 k∧td=.slice (some ⟨g,off,none⟩) T.length cap∧k≤p.rules.length∧Hid (gr+k=p.rules.length)∧Hid (RW w1 wr s b (A+1) X g off cap T)∧Hid (Q.RI p X T fun r=>(r.left:Int)=t∧r ∈ p.rules.drop k)∧Hid (0≤t∧Q.Rch p t.toNat)∧Hid (KK=Q.mu (A+1) X+T.length))
   case atStart=>exact ⟨0,X,T,g,off1,cap1,rfl,rfl,by omega,Lib.hid (by omega),HRT,HIT0,Lib.hid ⟨HX.out.1,HIT0.out.sub _ HX.out.2⟩,HM2⟩
   case round =>
    clear HRT HIT0 HX HM2 hlen
    obtain ⟨k,X,T,g,off,cap,rfl,rfl,hk,HK,HR,HI,HX,HM⟩:=hrel
    by_cases hlt:k < p.rules.length
    ·obtain ⟨rb,ro,na,nc,rfl,u0,u1,u2,uin⟩:=HPV.out.a.r k hlt
     have low:=HR.out.low
     have t0:=((bcell low).1 _ _ (World.block_lt_of_cell? w1 _ u0)).trans u0
     have t1:=((bcell low).1 _ _ (World.block_lt_of_cell? w1 _ u1)).trans u1
     have t2:=((bcell low).1 _ _ (World.block_lt_of_cell? w1 _ u2)).trans u2
     have HIN:=Lib.hid uin
     have hrt:=HOK.out.right _ (List.getElem_mem hlt)
     have hrl:=HOK.out.rl _ (List.getElem_mem hlt)
     have hmem:=List.getElem_mem hlt
     have hdr:=List.drop_eq_getElem_cons hlt
     generalize p.rules[k]=x at t0 t1 t2 u0 u1 u2 uin HIN hrt hrl hmem hdr
     have AL:=(Below.refl wr.heap.size wr).alloc (Nat.le_refl _) (.cells #[.int .i64 (x.left:Nat),.slice na x.right.length nc,.int .i64 (x.level:Nat)] 46)
     have hPx:=heap_alloc_new wr (.cells #[.int .i64 (x.left:Nat),.slice na x.right.length nc,.int .i64 (x.level:Nat)] 46)
     have HRY:=Lib.hid (HR.out.below AL)
     have x1:(wr.alloc (.cells #[.int .i64 (x.left:Nat),.slice na x.right.length nc,.int .i64 (x.level:Nat)] 46)).cell? ⟨wr.heap.size,1,none⟩=some (.slice na x.right.length nc):=by rw [cell_of_row _ _ _ _ _ _ hPx]; rfl
     have HGX:Hid (g≠wr.heap.size∧b≠wr.heap.size∧wr.heap.size < (wr.alloc (.cells #[.int .i64 (x.left:Nat),.slice na x.right.length nc,.int .i64 (x.level:Nat)] 46)).heap.size):=Lib.hid (by have h1:=HR.out.qu.lt; have h2:=HR.out.set.blt; simp; omega)
     have HPX:=Lib.hid hPx
     have HRT:=Lib.hid hrt
     have HMEM:=Lib.hid (And.intro hmem hdr)
     have HI2:Hid (Q.RI p X T fun r=>(r.left:Int)=t∧(r=x∨r ∈ p.rules.drop (k+1))):=Lib.hid (HI.out.imp fun r hr h=>.inl ⟨h.1,by have h2:=h.2; rw [hdr] at h2; exact List.mem_cons.1 h2⟩)
     clear low u0 u1 u2 uin AL hPx hmem hdr HR HI hrt
     go_wp2_with fail
     clear t0 t1 t2 x1
     generalize wr.alloc (.cells #[.int .i64 (x.left:Nat),.slice na x.right.length nc,.int .i64 (x.level:Nat)] 46)=W3 at HRY HPX HGX ⊢
     generalize wr.heap.size=xb at HPX HGX ⊢
     have hAb2:=hAb
     have HC0:Hid ((x.left:Int)=t→∀ y ∈ x.right.take 0,X.testBit y.toNat=true):=Lib.hid (fun _ y hy=>by simp at hy)
     go_loopg [5,38] x.right.length (fun gr td idx wr=>∃ (j X:Nat) (T:List Int) (g off cap:Nat),idx=.int .i64 j∧td=.slice (some ⟨g,off,none⟩) T.length cap∧j≤x.right.length∧Hid (gr+j=x.right.length)∧Hid (RW w1 wr s b (A+1) X g off cap T)∧Hid (wr.heap[xb]?=some (.cells #[.int .i64 (x.left:Nat),.slice na x.right.length nc,.int .i64 (x.level:Nat)] 46 (0,0)))∧Hid (g≠xb)∧Hid (Q.RI p X T fun r=>(r.left:Int)=t∧(r=x∨r ∈ p.rules.drop (k+1)))∧Hid ((x.left:Int)=t→∀ y ∈ x.right.take j,X.testBit y.toNat=true)∧Hid (KK=Q.mu (A+1) X+T.length))
     case atStart=>exact ⟨0,X,T,g,off,cap,rfl,rfl,by omega,Lib.hid (by omega),HRY,HPX,Lib.hid HGX.out.1,HI2,HC0,HM⟩
     case round =>
      clear HRY HPX HI2 HC0 HM
      obtain ⟨j,X,T,g,off,cap,rfl,rfl,hj,HJ,HR,HPX,HG,HI,HC,HM⟩:=hrel
      by_cases hltj:j < x.right.length
      ·obtain ⟨nb,no,rfl,q0⟩:=(HIN.out.below HR.out.low) j hltj
       obtain ⟨y0,y1⟩:=HRT.out _ (List.getElem_mem hltj)
       have hym:=List.getElem_mem hltj
       have htk:=List.take_succ_eq_append_getElem hltj
       generalize x.right[j]=y at q0 y0 y1 hym htk
       have x0:wr.cell? ⟨xb,0,none⟩=some (.int .i64 (x.left:Nat)):=by rw [cell_of_row _ _ _ _ _ _ HPX.out]; rfl
       have HYM:=Lib.hid (And.intro hym htk)
       have hlen:T.length≤1001:=by have:=HM.out; omega
       clear hym htk
       by_cases hl:(x.left:Int)=t
       ·have d:((x.left:Int) == t)=true:=by simpa using hl
        have HAD:=add_any s b (A+1) X y wr HR.out.set
        have his:Bs.is (A+1) y=true:=by
         have:=HN.out
         unfold Q.cnt at this
         unfold Bs.is
         simp; omega
        have hA1:y.toNat < A+1:=by simp [Bs.is] at his; omega
        have hrch:Q.Rch p y.toNat:=Q.Rch.rule x HMEM.out.1 (by have:=HX.out.2; rw [← hl] at this; simpa using this) y HYM.out.1
        have HRCH:=Lib.hid hrch
        have hb1:Bs.has X y=X.testBit y.toNat:=by unfold Bs.has; simp [y0]
        unfold addB addX at HAD
        rw [his,hb1] at HAD
        simp only [if_true,Bool.true_and] at HAD
        have HLX:=Lib.hid hl
        clear hb1 his hl hrch
        cases hbit:X.testBit y.toNat with
        | true =>
         rw [hbit,Bs.add_same hbit] at HAD
         simp only [Bool.not_true] at HAD
         have HBI:=Lib.hid hbit
         clear hbit
         go_wp2_with fail
         refine HAD.mono ?_
         rintro e W4 ⟨rfl,hs4,k4⟩
         have HR4:=Lib.hid (HR.out.add hs4 k4)
         have HPX4:=Lib.hid ((k4.block xb (lt_of_block HPX.out) (fun e=>HGX.out.2.1 e.symm)).trans HPX.out)
         have HC2:Hid ((x.left:Int)=t→∀ z ∈ x.right.take (j+1),X.testBit z.toNat=true):=Lib.hid (fun h z hz=>by
          rw [HYM.out.2] at hz
          rcases List.mem_append.1 hz with hz | hz
          ·exact HC.out h z hz
          ·rw [List.mem_singleton.1 hz]; exact HBI.out)
         clear HAD hs4 k4 HR HPX HC q0 x0
         go_wp2_with fail
         go_roundg (x.right.length - (j+1))
         case measure=>have:=HJ.out; omega
         case rel=>exact ⟨j+1,X,T,g,off,cap,by go_num,rfl,by omega,Lib.hid (by omega),HR4,HPX4,HG,HI,HC2,HM⟩
        | false =>
         rw [hbit] at HAD
         simp only [Bool.not_false] at HAD
         have hmu:=Q.mu_add hA1 hbit
         have HI4:=Lib.hid (HI.out.add y0 HRCH.out)
         have HC2:Hid ((x.left:Int)=t→∀ z ∈ x.right.take (j+1),(Bs.add X y.toNat).testBit z.toNat=true):=Lib.hid (fun h z hz=>by
          rw [HYM.out.2] at hz
          rcases List.mem_append.1 hz with hz | hz
          ·rw [Bs.add_bit,HC.out h z hz]; rfl
          ·rw [List.mem_singleton.1 hz,Bs.add_bit]; simp)
         have HM4:Hid (KK=Q.mu (A+1) (Bs.add X y.toNat)+(T++[y]).length):=Lib.hid (by have:=HM.out; rw [List.length_append,List.length_singleton]; omega)
         clear hbit hmu HI HC
         go_wp2_with fail
         refine HAD.mono ?_
         rintro e W4 ⟨rfl,hs4,k4⟩
         have HR4:=Lib.hid (HR.out.add hs4 k4)
         have HPX4:=Lib.hid ((k4.block xb (lt_of_block HPX.out) (fun e=>HGX.out.2.1 e.symm)).trans HPX.out)
         have k5:=(Below.refl W4.heap.size W4).alloc (Nat.le_refl _) (.cells #[.int .i64 y] 3)
         have HR5:=Lib.hid (HR4.out.below k5)
         have HPX5:=Lib.hid ((k5.block xb (lt_of_block HPX4.out)).trans HPX4.out)
         have hcy:(W4.alloc (.cells #[.int .i64 y] 3)).cell? ⟨W4.heap.size,0,none⟩=some (.int .i64 y):=by rw [cell_of_row _ _ _ _ _ _ (heap_alloc_new W4 _)]; rfl
         have HCY:=Lib.hid hcy
         clear HAD hs4 k4 HR HPX q0 x0 HR4 HPX4 k5 hcy
         go_wp2_with (refine list_append_qu rfl _ _ rfl HR5.out.qu rfl ⟨W4.heap.size,0,none⟩ 1 y rfl HCY.out (by omega) ?_; intro g' off' cap' W6 q6 k6 e6; have HR6:=Lib.hid (HR5.out.app q6 k6 e6); have HPX6:=Lib.hid ((k6.block xb (lt_of_block HPX5.out) (fun e=>HG.out e.symm)).trans HPX5.out); have HG6:Hid (g'≠xb):=Lib.hid (by have h1:=lt_of_block HPX5.out; have h2:=HG.out; rcases e6 with h3 | h3<;>omega); clear q6 k6 e6)
         go_roundg (x.right.length - (j+1))
         case measure=>have:=HJ.out; omega
         case rel=>exact ⟨j+1,_,T++[y],g',off',cap',by go_num,by rw [List.length_append]; rfl,by omega,Lib.hid (by omega),HR6,HPX6,HG6,HI4,HC2,HM4⟩
       ·have d:((x.left:Int) == t)=false:=by simpa using hl
        have HC2:Hid ((x.left:Int)=t→∀ z ∈ x.right.take (j+1),X.testBit z.toNat=true):=Lib.hid (fun h=>absurd h hl)
        clear HC hl
        go_wp2_with fail
        go_roundg (x.right.length - (j+1))
        case measure=>have:=HJ.out; omega
        case rel=>exact ⟨j+1,X,T,g,off,cap,by go_num,rfl,by omega,Lib.hid (by omega),HR,HPX,HG,HI,HC2,HM⟩
      ·obtain rfl:j=x.right.length:=by omega
       have hc:=HC.out
       rw [List.take_length] at hc
       have HI2:Hid (Q.RI p X T fun r=>(r.left:Int)=t∧r ∈ p.rules.drop (k+1)):=Lib.hid (HI.out.imp fun r hr h=>by
        rcases h.2 with e | e
        ·rw [e] at h ⊢; exact .inr (hc h.1)
        ·exact .inl ⟨h.1,e⟩)
       clear hc HC HI hltj
       go_wp2_with fail
       go_roundg (p.rules.length - (k+1))
       case measure=>have:=HK.out; omega
       case rel=>exact ⟨k+1,X,T,g,off,cap,by go_num,rfl,by omega,Lib.hid (by omega),HR,HI2,HX,HM⟩
    ·obtain rfl:k=p.rules.length:=by omega
     have HI2:Hid (Q.RI p X T fun _=>False):=Lib.hid (HI.out.imp fun r hr h=>by have h2:=h.2; rw [List.drop_eq_nil_of_le (Nat.le_refl _)] at h2; cases h2)
     clear hlt HI
     go_wp2_with fail
     go_roundg (Q.mu (A+1) X+T.length)
     case measure=>have:=HM.out; omega
     case rel=>exact ⟨X,T,g,off,cap,rfl,HR,HI2,Lib.hid rfl,by have:=HM.out; omega⟩
end Go.Proofs.YtjbggogbnckllaaDoor
end
section
set_option maxRecDepth 100000
namespace Go.Proofs.YtjbggogbnckllaaDoor
open Go.RowKit
set_option linter.unusedVariables false
set_option linter.unusedSimpArgs false
namespace Q
/-- The first that is not so, of k from i on. -/
def bad (f:Nat→Bool):Nat→Nat→Option Nat
 | 0,_=>none
 | k+1,i=>if f i=true then bad f k (i+1) else some i
def check (p:Pl.Plan):Int×Int :=
 match bad (makes p) p.vars.length p.terms.length with
 | some i=>((i:Int),18)
 | none=>match bad (come p) p.vars.length p.terms.length with
  | some i=>((i:Int),17)
  | none=>(0,0)
theorem mem_prod {p:Pl.Plan} (h:OK p) {i:Nat} (h1:p.terms.length≤i) (h2:i < p.terms.length+p.vars.length):decide ((i:Int) ∈ ofB (prodB p) (cnt p))=makes p i:=by
 rw [makes_lens h,decide_eq_decide,mem_ofB]
 constructor
 ·rintro ⟨j,_,hj,e⟩
  have:i=j:=by omega
  subst this
  unfold prodB at hj
  simp only [Bool.and_eq_true,decide_eq_true_eq] at hj
  exact hj.1.1
 ·intro hl
  refine ⟨i,by unfold cnt; omega,?_,rfl⟩
  unfold prodB
  simp only [Bool.and_eq_true,decide_eq_true_eq]
  exact ⟨⟨hl,h1⟩,by omega⟩
theorem mem_come {p:Pl.Plan} {i:Nat} (h2:i < p.terms.length+p.vars.length):decide ((i:Int) ∈ ofB (come p) (cnt p))=come p i:=by
 rw [Bool.eq_iff_iff,decide_eq_true_eq,mem_ofB]
 constructor
 ·rintro ⟨j,_,hj,e⟩
  have:i=j:=by omega
  subst this; exact hj
 ·intro hc
  exact ⟨i,by unfold cnt; omega,hc,rfl⟩
end Q
set_option maxRecDepth 100000 in
set_option maxHeartbeats 8000000 in
theorem check_any {w:World} {v:Value} {p:Pl.Plan} (h:PnV w v p) (ho:Q.OK p) (hc:Q.cnt p≤1000) (hT:Tab w) :
  Calls Tryd.prog 31 #[v] w fun e w'=>e=.returned (.tuple #[.int .i64 (Q.check p).1,.int .i64 (Q.check p).2])∧Below w.heap.size w w':=by
 have h0:=h
 obtain ⟨ta,tc,va,vc,ra,rc,la,lc,aa,ac,ca,cc,rfl,h⟩:=h
 have HP0:=PB.new (tc:=tc) (vc:=vc) (rc:=rc) (lc:=lc) (ac:=ac) (cc:=cc) h
 have k:=(Below.refl w.heap.size w).alloc (Nat.le_refl _) (.cells (pnC p ta va ra la aa ca tc vc rc lc ac cc) 32)
 have HB:=Lib.hid k
 unfold pnC at HP0 HB
 have HP:=Lib.hid HP0
 have HS:Hid ((w.alloc (.cells #[.slice ta p.terms.length tc,.slice va p.vars.length vc,.slice ra p.rules.length rc,.slice la p.levels.length lc,.slice aa p.assocs.length ac,.slice ca p.acts.length cc] 32)).heap.size=w.heap.size+1):=Lib.hid (by simp)
 have HTB:=Lib.hid (hT.below (HB.out))
 have hnb:=ho.nb
 have hmb:=ho.m
 have HOK:=Lib.hid ho
 have HCN:=Lib.hid hc
 obtain ⟨R,hR⟩:∃ R,R=Q.check p:=⟨_,rfl⟩
 have HR:=Lib.hid hR.symm
 rw [← hR]
 clear HP0 h h0 k ho hT hc hR
 go_enter Tryd.func31,Tryd.ntmps31
 go_wp2_with fail
 generalize w.alloc (.cells #[.slice ta p.terms.length tc,.slice va p.vars.length vc,.slice ra p.rules.length rc,.slice la p.levels.length lc,.slice aa p.assocs.length ac,.slice ca p.acts.length cc] 32)=W at HB HS HP HTB ⊢
 have y0:=fun z:Wd W.heap.size W=>(HP.out.below z.ok).c0
 have y1:=fun z:Wd W.heap.size W=>(HP.out.below z.ok).c1
 have y2:=fun z:Wd W.heap.size W=>(HP.out.below z.ok).c2
 have y3:=fun z:Wd W.heap.size W=>(HP.out.below z.ok).c3
 have y4:=fun z:Wd W.heap.size W=>(HP.out.below z.ok).c4
 have y5:=fun z:Wd W.heap.size W=>(HP.out.below z.ok).c5
 refine region_ge [0,2] [1,3,4,5] 1 40 W.heap.size ?_ (fun c a d v w h=>by cases d<;>exact h) (Nat.le_refl _) (by kernel_rfl) (by kernel_rfl) (by rfl) ?_ ?_
 rotate_left
 ·intro z
  simp only [pickL,List.getElem?_cons_zero,List.getElem?_cons_succ]
  repeat (go_big_quiet_step (fail))
  refine wpQuiet_nil ?_
  exact rfl
 clear y0 y1 y2 y3 y4 y5
 simp only [pickL,List.getElem?_cons_zero,List.getElem?_cons_succ]
 have hV:PnV W.drew (.agg #[.slice ta p.terms.length tc,.slice va p.vars.length vc,.slice ra p.rules.length rc,.slice la p.levels.length lc,.slice aa p.assocs.length ac,.slice ca p.acts.length cc]) p:=⟨ta,tc,va,vc,ra,rc,la,lc,aa,ac,ca,cc,rfl,HP.out.a.below (Below.refl _ _).drew⟩
 have hpr:=productive_any hV HOK.out
 refine listE_callE1 (by rfl) 33 Tryd.call33 _ _ (by rfl) _ (by rfl) (fun v w'=>∃ na nc,v=.slice na (Q.ofB (Q.prodB p) (Q.cnt p)).length nc∧Ints w' na (Q.ofB (Q.prodB p) (Q.cnt p))∧Below W.heap.size W.drew w') (hpr.mono fun e w' ⟨na,nc,e1,e2,e3⟩=>⟨_,e1,na,nc,rfl,e2,e3⟩) ?_
 rintro v w1 ⟨na,nc,rfl,hi1,hb1⟩
 have hb2:=(Below.refl W.heap.size W).drew.trans hb1
 refine ⟨⟨⟨w1,hb2⟩,rfl⟩,?_⟩
 change wpList _ _ _ _ _ _
 have HI1:=Lib.hid hi1
 have HP1:=Lib.hid (HP.out.below hb2)
 have HB1:=Lib.hid (HB.out.trans (hb2.mono HB.out.size))
 have HT1:=Lib.hid (HTB.out.below hb2)
 have hre:=reachable_any (w:=w1) (v:=.agg #[.slice ta p.terms.length tc,.slice va p.vars.length vc,.slice ra p.rules.length rc,.slice la p.levels.length lc,.slice aa p.assocs.length ac,.slice ca p.acts.length cc]) ⟨ta,tc,va,vc,ra,rc,la,lc,aa,ac,ca,cc,rfl,HP1.out.a⟩ HOK.out HCN.out HT1.out
 clear hV hpr hi1 hb1 hb2 HP HB HTB HS
 go_wp2_with fail
 refine hre.mono ?_
 rintro e w2 ⟨nb,nd,rfl,hi2,k2⟩
 have HI2:=Lib.hid hi2
 have HI1':=Lib.hid (HI1.out.below k2)
 have HP2:=Lib.hid (HP1.out.below k2)
 have HB2:=Lib.hid (HB1.out.trans (k2.mono HB1.out.size))
 have HSV:Hid (w.heap.size≤w2.heap.size):=Lib.hid HB2.out.size
 have c0:=HP2.out.c0
 obtain ⟨X,hX⟩:∃ X:Int×Int,X=(match Q.bad (Q.come p) p.vars.length p.terms.length with | some i=>((i:Int),17) | none=>(0,0)):=⟨_,rfl⟩
 have HX:=Lib.hid hX.symm
 have HR0:Hid ((match Q.bad (Q.makes p) p.vars.length p.terms.length with | some i=>((i:Int),18) | none=>X)=R):=Lib.hid (by rw [hX,← HR.out]; rfl)
 have hlen1:=Q.ofB_len (Q.prodB p) (Q.cnt p)
 have hlen2:=Q.ofB_len (Q.come p) (Q.cnt p)
 have HL1:Hid ((Q.ofB (Q.prodB p) (Q.cnt p)).length≤1000000):=Lib.hid (by have:=HCN.out; omega)
 have HL2:Hid ((Q.ofB (Q.come p) (Q.cnt p)).length≤1000000):=Lib.hid (by have:=HCN.out; omega)
 clear hre hi2 k2 HI1 HP1 HB1 HT1 hX HR hlen1 hlen2
 go_wp2_with fail
 clear c0
 go_loopg [6] p.vars.length (fun gk sm wr=>∃ i:Nat,sm=.int .i64 i∧p.terms.length≤i∧Hid (gk+i=p.terms.length+p.vars.length)∧Hid (Below w2.heap.size w2 wr)∧Hid ((match Q.bad (Q.makes p) gk i with | some i=>((i:Int),18) | none=>X)=R))
 case atStart=>exact ⟨p.terms.length,rfl,by omega,Lib.hid (by omega),Lib.hid (Below.refl _ _),HR0⟩
 case round =>
  obtain ⟨i,rfl,hi,HK,HL,HS⟩:=hrel
  have HPi:=Lib.hid (HP2.out.below HL.out)
  have c0:=HPi.out.c0
  have c1:=HPi.out.c1
  have c2:=HPi.out.c2
  have c3:=HPi.out.c3
  have c4:=HPi.out.c4
  have c5:=HPi.out.c5
  have hac:=accept_any (w:=wr) (v:=.agg #[.slice ta p.terms.length tc,.slice va p.vars.length vc,.slice ra p.rules.length rc,.slice la p.levels.length lc,.slice aa p.assocs.length ac,.slice ca p.acts.length cc]) ⟨ta,tc,va,vc,ra,rc,la,lc,aa,ac,ca,cc,rfl,HPi.out.a⟩ hnb hmb
  go_wp2_with fail
  refine hac.mono ?_
  rintro e w3 ⟨rfl,k3⟩
  have HL3:=Lib.hid (HL.out.trans (k3.mono HL.out.size))
  have HI3:=Lib.hid (HI1'.out.below HL3.out)
  clear hac k3 c0 c1 c2 c3 c4 c5 HPi HL
  cases gk with
  | zero =>
   have hie:i=p.terms.length+p.vars.length:=by have:=HK.out; omega
   have hs:=HS.out
   rw [Q.bad] at hs
   have HS2:Hid (X=R):=Lib.hid hs
   have HP4:=Lib.hid (HP2.out.below HL3.out)
   have c0:=HP4.out.c0
   have HR1:Hid ((match Q.bad (Q.come p) p.vars.length p.terms.length with | some i=>((i:Int),17) | none=>(0,0))=R):=Lib.hid (HX.out.trans HS2.out)
   have d:decide ((i:Int) < (p.terms.length:Int)+(p.vars.length:Int))=false:=by simp; omega
   clear HS HK hs hie
   go_wp2_with fail
   clear c0 d HI3
   go_loopg [7] p.vars.length (fun gk sm wr=>∃ i:Nat,sm=.int .i64 i∧p.terms.length≤i∧Hid (gk+i=p.terms.length+p.vars.length)∧Hid (Below w2.heap.size w2 wr)∧Hid ((match Q.bad (Q.come p) gk i with | some i=>((i:Int),17) | none=>(0,0))=R))
   case atStart=>exact ⟨p.terms.length,rfl,by omega,Lib.hid (by omega),HL3,HR1⟩
   case round =>
    clear HL3 HP4 HR1
    obtain ⟨i,rfl,hi,HK,HL,HS⟩:=hrel
    have HPi:=Lib.hid (HP2.out.below HL.out)
    have c0:=HPi.out.c0
    have c1:=HPi.out.c1
    have c2:=HPi.out.c2
    have c3:=HPi.out.c3
    have c4:=HPi.out.c4
    have c5:=HPi.out.c5
    have hac:=accept_any (w:=wr) (v:=.agg #[.slice ta p.terms.length tc,.slice va p.vars.length vc,.slice ra p.rules.length rc,.slice la p.levels.length lc,.slice aa p.assocs.length ac,.slice ca p.acts.length cc]) ⟨ta,tc,va,vc,ra,rc,la,lc,aa,ac,ca,cc,rfl,HPi.out.a⟩ hnb hmb
    go_wp2_with fail
    refine hac.mono ?_
    rintro e w3 ⟨rfl,k3⟩
    have HL3:=Lib.hid (HL.out.trans (k3.mono HL.out.size))
    have HI3:=Lib.hid (HI2.out.below HL3.out)
    clear hac k3 c0 c1 c2 c3 c4 c5 HPi HL
    cases gk with
    | zero =>
     have hie:i=p.terms.length+p.vars.length:=by have:=HK.out; omega
     have hs:=HS.out
     rw [Q.bad] at hs
     have HS2:Hid (((0:Int),(0:Int))=R):=Lib.hid hs
     have d:decide ((i:Int) < (p.terms.length:Int)+(p.vars.length:Int))=false:=by simp; omega
     clear HS HK hs hie
     go_wp2_with fail
     go_ret2
     exact ⟨by rw [← HS2.out]; rfl,HB2.out.trans (HL3.out.mono HSV.out)⟩
    | succ gk =>
     have hlt:i < p.terms.length+p.vars.length:=by have:=HK.out; omega
     have hib:i≤3000:=by omega
     have d:decide ((i:Int) < (p.terms.length:Int)+(p.vars.length:Int))=true:=by simp; omega
     have hco:=contains_any (i:Int) nd HI3.out HL2.out
     rw [Q.mem_come hlt] at hco
     have hs:=HS.out
     rw [Q.bad] at hs
     clear HS
     cases hm:Q.come p i with
     | true =>
      rw [hm] at hco hs
      rw [if_pos rfl] at hs
      have HS2:=Lib.hid hs
      clear hs hm hlt
      go_wp2_with fail
      refine hco.mono ?_
      rintro e w4 ⟨rfl,rfl⟩
      clear hco
      go_wp2_with fail
      go_roundg gk
      case measure=>omega
      case rel=>exact ⟨i+1,by go_num,by omega,Lib.hid (by have:=HK.out; omega),HL3,HS2⟩
     | false =>
      rw [hm] at hco hs
      rw [if_neg (by simp)] at hs
      have HS2:Hid (((i:Int),(17:Int))=R):=Lib.hid hs
      clear hs hm hlt
      go_wp2_with fail
      refine hco.mono ?_
      rintro e w4 ⟨rfl,rfl⟩
      clear hco
      go_wp2_with fail
      go_ret2
      exact ⟨by rw [← HS2.out]; rfl,HB2.out.trans (HL3.out.mono HSV.out)⟩
  | succ gk =>
   have hlt:i < p.terms.length+p.vars.length:=by have:=HK.out; omega
   have hib:i≤3000:=by omega
   have d:decide ((i:Int) < (p.terms.length:Int)+(p.vars.length:Int))=true:=by simp; omega
   have hco:=contains_any (i:Int) nc HI3.out HL1.out
   rw [Q.mem_prod HOK.out hi hlt] at hco
   have hs:=HS.out
   rw [Q.bad] at hs
   clear HS
   cases hm:Q.makes p i with
   | true =>
    rw [hm] at hco hs
    rw [if_pos rfl] at hs
    have HS2:=Lib.hid hs
    clear hs hm hlt
    go_wp2_with fail
    refine hco.mono ?_
    rintro e w4 ⟨rfl,rfl⟩
    clear hco
    go_wp2_with fail
    go_roundg gk
    case measure=>omega
    case rel=>exact ⟨i+1,by go_num,by omega,Lib.hid (by have:=HK.out; omega),HL3,HS2⟩
   | false =>
    rw [hm] at hco hs
    rw [if_neg (by simp)] at hs
    have HS2:Hid (((i:Int),(18:Int))=R):=Lib.hid hs
    clear hs hm hlt
    go_wp2_with fail
    refine hco.mono ?_
    rintro e w4 ⟨rfl,rfl⟩
    clear hco
    go_wp2_with fail
    go_ret2
    exact ⟨by rw [← HS2.out]; rfl,HB2.out.trans (HL3.out.mono HSV.out)⟩
end Go.Proofs.YtjbggogbnckllaaDoor
end
