/-
  Walks of the reference of chapter 9: Makes, Come, and what hangs on them.
-/
import Derived.Test.YtjbggogbnckllaaDoorZz
import Derived.Test.YtjbggogbnckllaaDoorBa
import Derived.Test.YtjbggogbnckllaaDoorAl
namespace Go.Proofs.YtjbggogbnckllaaDoor
open Go.RowKit
set_option linter.unusedVariables false
set_option linter.unusedSimpArgs false
theorem Q.mkH_drop (p:Pl.Plan) (k:Nat) (h:k < p.rules.length):(Q.mkH p).drop k=(p.rules[k].right.map Int.toNat,p.rules[k].left)::(Q.mkH p).drop (k+1):=by
 rw [List.drop_eq_getElem_cons (by simpa [Q.mkH] using h)]
 simp [Q.mkH]
theorem Q.hStep_yes {c:Q.Cl} {s:Nat→Bool} {ch:Bool} (h1:c.1.all s=true) (h2:s c.2=false):Q.hStep c s ch=(Q.up s c.2 true,true):=by unfold Q.hStep; rw [if_pos ⟨h1,h2⟩]
theorem Q.hStep_no {c:Q.Cl} {s:Nat→Bool} {ch:Bool} (h:c.1.all s=false∨s c.2=true):Q.hStep c s ch=(s,ch):=by
 unfold Q.hStep
 rw [if_neg]
 rintro ⟨h1,h2⟩
 rcases h with h | h
 ·rw [h] at h1; cases h1
 ·rw [h] at h2; cases h2
set_option maxRecDepth 100000 in
set_option maxHeartbeats 16000000 in
theorem makes_any {w:World} {v:Value} {p:Pl.Plan} (h:PnV w v p) (ho:Q.OK p) :
  Calls Tryd.prog 58 #[v] w fun e w'=>∃ g,e=.returned (.slice (some ⟨g,0,none⟩) (Q.cnt p) (Q.cnt p))∧Brr w' g (Q.cnt p) (Q.makes p)∧w.heap.size≤g∧Below w.heap.size w w':=by
 have h0:=h
 obtain ⟨ta,tc,va,vc,ra,rc,la,lc,aa,ac,ca,cc,rfl,h⟩:=h
 have HP0:=PB.new (tc:=tc) (vc:=vc) (rc:=rc) (lc:=lc) (ac:=ac) (cc:=cc) h
 have k:=(Below.refl w.heap.size w).alloc (Nat.le_refl _) (.cells (pnC p ta va ra la aa ca tc vc rc lc ac cc) 32)
 have HB:=Lib.hid k
 have hnb:=ho.nb
 have hmb:=ho.m
 have HC:=count_any (h0.below k) hnb hmb
 unfold pnC at HP0 HB HC
 have HP:=Lib.hid HP0
 have c0:=HP0.c0
 have c1:=HP0.c1
 have c2:=HP0.c2
 have c3:=HP0.c3
 have c4:=HP0.c4
 have c5:=HP0.c5
 have HS:Hid ((w.alloc (.cells #[.slice ta p.terms.length tc,.slice va p.vars.length vc,.slice ra p.rules.length rc,.slice la p.levels.length lc,.slice aa p.assocs.length ac,.slice ca p.acts.length cc] 32)).heap.size=w.heap.size+1):=Lib.hid (by simp)
 have hcn:Q.cnt p=p.terms.length+p.vars.length+1:=rfl
 have HOK:=Lib.hid ho
 clear HP0 h h0 k ho
 go_enter Tryd.func58,Tryd.ntmps58
 go_wp2_with fail
 generalize w.alloc (.cells #[.slice ta p.terms.length tc,.slice va p.vars.length vc,.slice ra p.rules.length rc,.slice la p.levels.length lc,.slice aa p.assocs.length ac,.slice ca p.acts.length cc] 32)=W at HC HB HS HP c0 c1 c2 c3 c4 c5 ⊢
 refine HC.mono ?_
 rintro e w' ⟨rfl,k⟩
 have HL0:=Lib.hid k
 clear HC k c0 c1 c2 c3 c4 c5
 generalize hN:Q.cnt p=N at hcn ⊢
 have hmk:=make_bools N (by omega) w'
 have HN:=Lib.hid (And.intro hN hcn)
 clear hN hcn
 go_wp2_with fail
 have HL1:=Lib.hid (HL0.out.alloc HL0.out.size (.cells (madeCells #[.bool false] N) 4))
 have HR0:=Lib.hid (Brr.made w' N)
 have HSZ:Hid (W.heap.size≤w'.heap.size):=Lib.hid HL0.out.size
 clear hmk HL0
 generalize w'.heap.size=g at HR0 HSZ ⊢
 generalize w'.alloc (.cells (madeCells #[.bool false] N) 4)=V at HL1 HR0 ⊢
 go_loopg [4] p.terms.length (fun gk i wr=>∃ (k:Nat),i=.int .i64 k∧k≤p.terms.length∧Hid (gk+k=p.terms.length)∧Hid (Below W.heap.size W wr)∧Hid (Brr wr g N (fun i=>decide (i < k))))
 case atStart=>exact ⟨0,rfl,by omega,Lib.hid (by omega),HL1,Lib.hid (HR0.out.ext (fun i _=>by simp))⟩
 case round =>
  obtain ⟨k,rfl,hk,HK,HL,HR⟩:=hrel
  have G2:=Lib.hid (HP.out.below HL.out)
  have c0:=G2.out.c0
  by_cases hlt:k < p.terms.length
  ·have q0:=HR.out.cell (i:=k) (by have:=HN.out.2; omega)
   have qf:=HR.out.fz k
   have HR2:=Lib.hid (HR.out.set k true)
   have HL2:=Lib.hid (HL.out.trans (((Upd.refl g wr).setCell ⟨g,k,none⟩ rfl (.bool true)).below HSZ.out HL.out.size))
   have hkN:Hid (k < N):=Lib.hid (by have:=HN.out.2; omega)
   go_wp2_with fail
   go_roundg (p.terms.length - (k+1))
   case measure=>have:=HK.out; omega
   case rel=>exact ⟨k+1,by go_num,by omega,Lib.hid (by omega),HL2,Lib.hid (HR2.out.ext (fun i _=>by unfold Q.up; by_cases hi:i=k<;>simp [hi]; omega))⟩
  ·obtain rfl:k=p.terms.length:=by omega
   clear hlt HK
   go_wp2_with fail
   obtain ⟨R,hR⟩:∃ R,R=Q.makes p:=⟨_,rfl⟩
   have HRR:=Lib.hid hR
   have HR1:Hid ((Q.run (fun t=>Q.hGo (Q.mkH p) t false) (Q.hF N (Q.mk0 p)) (Q.mk0 p)).1=R):=Lib.hid (by rw [hR,← HN.out.1]; rfl)
   have HR3:Hid (Brr wr g N (Q.mk0 p)):=HR
   clear hR HR c0 G2
   go_loopg [5] (Q.hF N (Q.mk0 p)) (fun gk m wr=>∃ (gf:Nat) (cb:Bool) (s:Nat→Bool),m=.bool cb∧Hid (gf=gk)∧Hid (Below W.heap.size W wr)∧Hid (Brr wr g N s)∧Hid (if cb then Q.weight N (Q.bw s) < gf∧(Q.run (fun t=>Q.hGo (Q.mkH p) t false) gf s).1=R else s=R))
   case atStart=>exact ⟨_,true,Q.mk0 p,rfl,Lib.hid rfl,HL,HR3,Lib.hid ⟨Nat.lt_succ_self _,HR1.out⟩⟩
   case round =>
    obtain ⟨gf,cb,s,rfl,HF,HL,HBr,HRn⟩:=hrel
    have G2:=Lib.hid (HP.out.below HL.out)
    have c2:=G2.out.c2
    cases cb
    case false =>
     have hs:=HRn.out
     simp only [Bool.false_eq_true,if_false] at hs
     have HE:=Lib.hid hs
     clear HRn hs
     go_wp2_with fail
     go_ret
     exact ⟨g,by rw [HN.out.1]; rfl,by rw [HN.out.1,← HRR.out,← HE.out]; exact HBr.out,by have:=HSZ.out; have:=HS.out; omega,HB.out.trans (HL.out.mono (by have:=HS.out; omega))⟩
    case true =>
     have hs:=HRn.out
     simp only [if_true] at hs
     have HE:=Lib.hid hs
     clear HRn hs
     go_wp2_with fail
     have HBr0:=HBr
     have HL00:=HL
     clear HBr HL c2 G2
     go_loopg [5,6] p.rules.length (fun gk m i wr=>∃ (k:Nat) (cb:Bool) (t:Nat→Bool),i=.int .i64 k∧m=.bool cb∧k≤p.rules.length∧Hid (gk+k=p.rules.length)∧Hid (Below W.heap.size W wr)∧Hid (Brr wr g N t)∧Hid (Q.hGo ((Q.mkH p).drop k) t cb=Q.hGo (Q.mkH p) s false))
     case atStart=>exact ⟨0,false,s,rfl,rfl,by omega,Lib.hid (by omega),HL00,HBr0,Lib.hid rfl⟩
     case round =>
      obtain ⟨k,cb,t,rfl,rfl,hk,HK,HL,HBr,HG⟩:=hrel
      have G2:=Lib.hid (HP.out.below HL.out)
      have c2:=G2.out.c2
      by_cases hlt:k < p.rules.length
      ·obtain ⟨rb,ro,xa,xc,rfl,v0,v1,v2,vin⟩:=HP.out.a.r k hlt
       have hxl:=HOK.out.left _ (List.getElem_mem hlt)
       have hxr:=HOK.out.right _ (List.getElem_mem hlt)
       have hx8:=HOK.out.rl _ (List.getElem_mem hlt)
       have hg:=HG.out
       rw [Q.mkH_drop p k hlt,Q.hGo] at hg
       generalize p.rules[k]=x at v0 v1 v2 vin hxl hxr hx8 hg
       have b0:=World.block_lt_of_cell? W _ v0
       have t0:=((bcell HL.out).1 rb (ro+k*3) b0).trans v0
       have t1:=((bcell HL.out).1 rb (ro+k*3+1) b0).trans v1
       have VIN:=Lib.hid (vin.below HL.out)
       have HXR:=Lib.hid hxr
       have HGG:=Lib.hid hg
       have hxc:x.left < N:=by have:=HN.out.2; omega
       have HLT:=Lib.hid hlt
       have hR9:=HOK.out.r
       obtain ⟨AL,hAL⟩:∃ AL,AL=(x.right.map Int.toNat).all t:=⟨_,rfl⟩
       have HA0:Hid (AL=(true&&(x.right.drop 0).all fun y=>t y.toNat)):=Lib.hid (by rw [hAL,List.drop_zero,Bool.true_and,List.all_map]; rfl)
       have HAL:=Lib.hid hAL
       clear hg vin hxr v0 v1 v2 b0 hAL HG
       go_wp2_with fail
       obtain ⟨Y5,hY5⟩:∃ Y5,Y5=wr:=⟨_,rfl⟩
       subst hY5
       go_loopg [7,8] x.right.length (fun gk av jv w3=>∃ (j:Nat) (al:Bool),jv=.int .i64 j∧j≤x.right.length∧av=.bool al∧Hid (gk+j=x.right.length)∧Hid (w3=Y5)∧Hid (AL=(al&&(x.right.drop j).all fun y=>t y.toNat)))
       case atStart=>exact ⟨0,true,rfl,by omega,rfl,Lib.hid (by omega),Lib.hid rfl,HA0⟩
       case round =>
        clear HA0
        obtain ⟨j,al,rfl,hj,rfl,HJ,HWW,HA⟩:=hrel
        have hWe:=HWW.out
        subst hWe
        by_cases hlj:j < x.right.length
        ·obtain ⟨bb,bo,rfl,q0⟩:=VIN.out j hlj
         obtain ⟨y0,y1⟩:=HXR.out _ (List.getElem_mem hlj)
         have hdr:=List.drop_eq_getElem_cons hlj
         have haa:=HA.out
         rw [hdr,List.all_cons] at haa
         generalize x.right[j]=y at q0 y0 y1 haa
         obtain ⟨z,rfl⟩:∃ z:Nat,y=z:=⟨y.toNat,by omega⟩
         rw [Int.toNat_natCast] at haa
         have hzc:z < N:=by have:=HN.out.2; omega
         have a0:=HBr.out.cell hzc
         generalize t z=tz at a0 haa
         clear hdr HA
         cases al with
         | false =>
          have HA2:Hid (AL=(false&&(x.right.drop (j+1)).all fun y=>t y.toNat)):=Lib.hid (by rw [haa]; simp)
          clear haa
          go_wp2_with fail
          go_roundg (x.right.length - (j+1))
          case measure=>have:=HJ.out; omega
          case rel=>exact ⟨j+1,false,by go_num,by omega,rfl,Lib.hid (by omega),Lib.hid rfl,HA2⟩
         | true =>
          have HA2:Hid (AL=(tz&&(x.right.drop (j+1)).all fun y=>t y.toNat)):=Lib.hid (by rw [haa]; simp)
          clear haa
          go_wp2_with fail
          go_roundg (x.right.length - (j+1))
          case measure=>have:=HJ.out; omega
          case rel=>exact ⟨j+1,tz,by go_num,by omega,rfl,Lib.hid (by omega),Lib.hid rfl,HA2⟩
        ·obtain rfl:j=x.right.length:=by omega
         have haa:=HA.out
         rw [List.drop_length,List.all_nil,Bool.and_true] at haa
         subst haa
         clear hlj HJ HA
         have a0:=HBr.out.cell hxc
         have qf:=HBr.out.fz x.left
         have HBs:=Lib.hid (HBr.out.set x.left true)
         have HLs:=Lib.hid (HL.out.trans (((Upd.refl g wr).setCell ⟨g,x.left,none⟩ rfl (.bool true)).below HSZ.out HL.out.size))
         have hgg:=HGG.out
         cases AL with
         | false =>
          rw [Q.hStep_no (.inl HAL.out.symm)] at hgg
          have HG2:=Lib.hid hgg
          clear hgg HGG
          go_wp2_with fail
          go_roundg (p.rules.length - (k+1))
          case measure=>have:=HK.out; omega
          case rel=>exact ⟨k+1,cb,t,by go_num,rfl,by have:=HLT.out; omega,Lib.hid (by have:=HLT.out; omega),HL,HBr,HG2⟩
         | true =>
          cases htl:t x.left with
          | true =>
           rw [htl] at a0
           rw [Q.hStep_no (.inr htl)] at hgg
           have HG2:=Lib.hid hgg
           clear hgg HGG htl
           go_wp2_with fail
           go_roundg (p.rules.length - (k+1))
           case measure=>have:=HK.out; omega
           case rel=>exact ⟨k+1,cb,t,by go_num,rfl,by have:=HLT.out; omega,Lib.hid (by have:=HLT.out; omega),HL,HBr,HG2⟩
          | false =>
           rw [htl] at a0
           rw [Q.hStep_yes HAL.out.symm htl] at hgg
           have HG2:=Lib.hid hgg
           clear hgg HGG htl
           go_wp2_with fail
           go_roundg (p.rules.length - (k+1))
           case measure=>have:=HK.out; omega
           case rel=>exact ⟨k+1,true,Q.up t x.left true,by go_num,rfl,by have:=HLT.out; omega,Lib.hid (by have:=HLT.out; omega),HLs,HBs,HG2⟩
      ·obtain rfl:k=p.rules.length:=by omega
       have hg:=HG.out
       rw [List.drop_eq_nil_of_le (by simp [Q.mkH]),Q.hGo] at hg
       have HG2:=Lib.hid hg
       clear hlt HK HG hg
       cases cb with
       | true =>
        have he:=HE.out
        obtain ⟨gf,rfl⟩:∃ f2,gf=f2+1:=⟨gf - 1,by omega⟩
        have hst:(Q.hGo (Q.mkH p) s false)=(t,true):=HG2.out.symm
        have hl:Q.weight N (Q.bw t) < Q.weight N (Q.bw s):=by
         rcases Q.hGo_less N (Q.mkH p) s false (by rw [← HN.out.1]; exact Q.mkH_lt HOK.out) with ⟨_,h⟩ | ⟨_,h⟩
         ·rw [hst] at h; cases h
         ·rw [hst] at h; exact h
        have hr:=he.2
        rw [Q.run,hst,if_pos rfl] at hr
        have HE2:Hid (Q.weight N (Q.bw t) < gf∧(Q.run (fun t=>Q.hGo (Q.mkH p) t false) gf t).1=R):=Lib.hid ⟨by have:=he.1; omega,hr⟩
        clear he hst hl hr HE HG2
        go_wp2_with fail
        go_roundg gf
        case measure=>have:=HF.out; omega
        case rel=>exact ⟨gf,true,t,rfl,Lib.hid rfl,HL,HBr,Lib.hid (by rw [if_pos rfl]; exact HE2.out)⟩
       | false =>
        have he:=HE.out
        obtain ⟨gf,rfl⟩:∃ f2,gf=f2+1:=⟨gf - 1,by omega⟩
        have hst:(Q.hGo (Q.mkH p) s false)=(t,false):=HG2.out.symm
        have hr:=he.2
        rw [Q.run,hst,if_neg (by simp)] at hr
        have HE2:Hid (t=R):=Lib.hid hr
        clear he hst hr HE HG2
        go_wp2_with fail
        go_roundg gf
        case measure=>have:=HF.out; omega
        case rel=>exact ⟨gf,false,t,rfl,Lib.hid rfl,HL,HBr,Lib.hid (by rw [if_neg (by simp)]; exact HE2.out)⟩
def Q.coL (rs:List Pl.Prod):List Q.Cl:=rs.flatMap fun r=>r.right.map fun x=>([r.left],x.toNat)
theorem Q.coL_cons (r:Pl.Prod) (rs:List Pl.Prod):Q.coL (r::rs)=(r.right.map fun x=>([r.left],x.toNat))++Q.coL rs:=rfl
set_option maxRecDepth 100000 in
set_option maxHeartbeats 16000000 in
theorem come_any {w:World} {v:Value} {p:Pl.Plan} (h:PnV w v p) (ho:Q.OK p) :
  Calls Tryd.prog 59 #[v] w fun e w'=>∃ g,e=.returned (.slice (some ⟨g,0,none⟩) (Q.cnt p) (Q.cnt p))∧Brr w' g (Q.cnt p) (Q.come p)∧w.heap.size≤g∧Below w.heap.size w w':=by
 have h0:=h
 obtain ⟨ta,tc,va,vc,ra,rc,la,lc,aa,ac,ca,cc,rfl,h⟩:=h
 have HP0:=PB.new (tc:=tc) (vc:=vc) (rc:=rc) (lc:=lc) (ac:=ac) (cc:=cc) h
 have k:=(Below.refl w.heap.size w).alloc (Nat.le_refl _) (.cells (pnC p ta va ra la aa ca tc vc rc lc ac cc) 32)
 have HB:=Lib.hid k
 have hnb:=ho.nb
 have hmb:=ho.m
 unfold pnC at HP0 HB
 have HP:=Lib.hid HP0
 have HS:Hid ((w.alloc (.cells #[.slice ta p.terms.length tc,.slice va p.vars.length vc,.slice ra p.rules.length rc,.slice la p.levels.length lc,.slice aa p.assocs.length ac,.slice ca p.acts.length cc] 32)).heap.size=w.heap.size+1):=Lib.hid (by simp)
 have hcn:Q.cnt p=p.terms.length+p.vars.length+1:=rfl
 have HOK:=Lib.hid ho
 have HC:∀ W,Below (w.alloc (.cells #[.slice ta p.terms.length tc,.slice va p.vars.length vc,.slice ra p.rules.length rc,.slice la p.levels.length lc,.slice aa p.assocs.length ac,.slice ca p.acts.length cc] 32)).heap.size (w.alloc (.cells #[.slice ta p.terms.length tc,.slice va p.vars.length vc,.slice ra p.rules.length rc,.slice la p.levels.length lc,.slice aa p.assocs.length ac,.slice ca p.acts.length cc] 32)) W→Calls Tryd.prog 36 #[.agg #[.slice ta p.terms.length tc,.slice va p.vars.length vc,.slice ra p.rules.length rc,.slice la p.levels.length lc,.slice aa p.assocs.length ac,.slice ca p.acts.length cc]] W fun e w'=>e=.returned (.int .i64 (Q.cnt p:Nat))∧Below W.heap.size W w':=fun W k =>
  count_any (show PnV W (.agg #[.slice ta p.terms.length tc,.slice va p.vars.length vc,.slice ra p.rules.length rc,.slice la p.levels.length lc,.slice aa p.assocs.length ac,.slice ca p.acts.length cc]) p from ⟨ta,tc,va,vc,ra,rc,la,lc,aa,ac,ca,cc,rfl,HP.out.a.below k⟩) hnb hmb
 clear HP0 h h0 k ho
 go_enter Tryd.func59,Tryd.ntmps59
 have c0:=HP.out.c0
 have c1:=HP.out.c1
 have c2:=HP.out.c2
 have c3:=HP.out.c3
 have c4:=HP.out.c4
 have c5:=HP.out.c5
 go_wp2_with fail
 generalize w.alloc (.cells #[.slice ta p.terms.length tc,.slice va p.vars.length vc,.slice ra p.rules.length rc,.slice la p.levels.length lc,.slice aa p.assocs.length ac,.slice ca p.acts.length cc] 32)=W at HC HB HS HP c0 c1 c2 c3 c4 c5 ⊢
 refine (HC W (Below.refl _ _)).mono ?_
 rintro e w' ⟨rfl,k⟩
 have HL0:=Lib.hid k
 clear k c0 c1 c2 c3 c4 c5
 generalize hN:Q.cnt p=N at hcn HC ⊢
 have hmk:=make_bools N (by omega) w'
 have HN:=Lib.hid (And.intro hN hcn)
 have hN1:1≤N:=by omega
 have hN3:N≤3000:=by omega
 clear hN hcn
 have HL1:=Lib.hid (HL0.out.alloc HL0.out.size (.cells (madeCells #[.bool false] N) 4))
 have HR0:=Lib.hid (Brr.made w' N)
 have HSZ:Hid (W.heap.size≤w'.heap.size):=Lib.hid HL0.out.size
 have c0:=(HP.out.below HL1.out).c0
 have c1:=(HP.out.below HL1.out).c1
 have c2:=(HP.out.below HL1.out).c2
 have c3:=(HP.out.below HL1.out).c3
 have c4:=(HP.out.below HL1.out).c4
 have c5:=(HP.out.below HL1.out).c5
 go_wp2_with fail
 clear hmk HL0
 generalize w'.heap.size=g at HR0 HSZ ⊢
 generalize w'.alloc (.cells (madeCells #[.bool false] N) 4)=V at HL1 HR0 c0 c1 c2 c3 c4 c5 ⊢
 refine (HC V HL1.out).mono ?_
 rintro e V2 ⟨rfl,k⟩
 have HL2:=Lib.hid (HL1.out.trans (k.mono HL1.out.size))
 have HR2:=Lib.hid (HR0.out.below k)
 have hlt0:N - 1 < N:=by omega
 have q0:=HR2.out.cell hlt0
 have qf:=HR2.out.fz (N - 1)
 have hsub:((N:Nat):Int) - 1=((N - 1:Nat):Int):=by omega
 have HL3:=Lib.hid (HL2.out.trans (((Upd.refl g V2).setCell ⟨g,N - 1,none⟩ rfl (.bool true)).below HSZ.out HL2.out.size))
 have HR3:Hid (Brr (V2.setCell ⟨g,N - 1,none⟩ (.bool true)) g N (Q.co0 p)):=Lib.hid ((HR2.out.set (N - 1) true).ext (fun i _=>by unfold Q.up Q.co0; rw [HN.out.1]; by_cases hi:i=N - 1<;>simp [hi]))
 clear k HL1 HR0 HL2 HR2 c0 c1 c2 c3 c4 c5
 go_wp2_with fail
 clear q0 qf hsub
 obtain ⟨R,hR⟩:∃ R,R=Q.come p:=⟨_,rfl⟩
 have HRR:=Lib.hid hR
 have HR1:Hid ((Q.run (fun t=>Q.hGo (Q.coH p) t false) (Q.hF N (Q.co0 p)) (Q.co0 p)).1=R):=Lib.hid (by rw [hR,← HN.out.1]; rfl)
 clear hR
 go_loopg [4] (Q.hF N (Q.co0 p)) (fun gk m wr=>∃ (gf:Nat) (cb:Bool) (s:Nat→Bool),m=.bool cb∧Hid (gf=gk)∧Hid (Below W.heap.size W wr)∧Hid (Brr wr g N s)∧Hid (if cb then Q.weight N (Q.bw s) < gf∧(Q.run (fun t=>Q.hGo (Q.coH p) t false) gf s).1=R else s=R))
 case atStart=>exact ⟨_,true,Q.co0 p,rfl,Lib.hid rfl,HL3,HR3,Lib.hid ⟨Nat.lt_succ_self _,HR1.out⟩⟩
 case round =>
  clear HL3 HR3 HR1
  obtain ⟨gf,cb,s,rfl,HF,HL,HBr,HRn⟩:=hrel
  cases cb
  case false =>
   have hs:=HRn.out
   simp only [Bool.false_eq_true,if_false] at hs
   have HE:=Lib.hid hs
   clear HRn hs
   go_wp2_with fail
   go_ret
   exact ⟨g,by rw [HN.out.1]; rfl,by rw [HN.out.1,← HRR.out,← HE.out]; exact HBr.out,by have:=HSZ.out; have:=HS.out; omega,HB.out.trans (HL.out.mono (by have:=HS.out; omega))⟩
  case true =>
   have hs:=HRn.out
   simp only [if_true] at hs
   have HE:=Lib.hid hs
   obtain ⟨TOT,hT⟩:∃ TOT,TOT=Q.hGo (Q.coH p) s false:=⟨_,rfl⟩
   have HTT:=Lib.hid hT
   have HT0:Hid (TOT=Q.hGo (Q.coL (p.rules.drop 0)) s false):=Lib.hid (by rw [hT,List.drop_zero]; rfl)
   clear HRn hs hT
   go_wp2_with fail
   go_loopg [4,5] p.rules.length (fun gk m i wr=>∃ (k:Nat) (cb:Bool) (t:Nat→Bool),i=.int .i64 k∧m=.bool cb∧k≤p.rules.length∧Hid (gk+k=p.rules.length)∧Hid (Below W.heap.size W wr)∧Hid (Brr wr g N t)∧Hid (TOT=Q.hGo (Q.coL (p.rules.drop k)) t cb))
   case atStart=>exact ⟨0,false,s,rfl,rfl,by omega,Lib.hid (by omega),HL,HBr,HT0⟩
   case round =>
    clear HL HBr HT0
    obtain ⟨k,cb,t,rfl,rfl,hk,HK,HL,HBr,HG⟩:=hrel
    have c2:=(HP.out.below HL.out).c2
    by_cases hlt:k < p.rules.length
    ·obtain ⟨rb,ro,xa,xc,rfl,v0,v1,v2,vin⟩:=HP.out.a.r k hlt
     have hxl:=HOK.out.left _ (List.getElem_mem hlt)
     have hxr:=HOK.out.right _ (List.getElem_mem hlt)
     have hx8:=HOK.out.rl _ (List.getElem_mem hlt)
     have hg:=HG.out
     rw [List.drop_eq_getElem_cons hlt,Q.coL_cons] at hg
     generalize p.rules[k]=x at v0 v1 v2 vin hxl hxr hx8 hg
     have HGG:Hid (TOT=Q.hGo (((x.right.drop 0).map fun y=>([x.left],y.toNat))++Q.coL (p.rules.drop (k+1))) t cb):=Lib.hid (by rw [List.drop_zero]; exact hg)
     have b0:=World.block_lt_of_cell? W _ v0
     have V0:=Lib.hid v0
     have V1:=Lib.hid v1
     have VIN:=Lib.hid vin
     have HXR:=Lib.hid hxr
     have hxc:x.left < N:=by have:=HN.out.2; omega
     clear hg vin hxr v0 v1 v2 HG
     have HLT:=Lib.hid hlt
     have hR9:=HOK.out.r
     go_wp2_with fail
     clear c2
     go_loopg [4,6] x.right.length (fun gk m jv w3=>∃ (j:Nat) (c3:Bool) (t3:Nat→Bool),jv=.int .i64 j∧m=.bool c3∧j≤x.right.length∧Hid (gk+j=x.right.length)∧Hid (Below W.heap.size W w3)∧Hid (Brr w3 g N t3)∧Hid (TOT=Q.hGo (((x.right.drop j).map fun y=>([x.left],y.toNat))++Q.coL (p.rules.drop (k+1))) t3 c3))
     case atStart=>exact ⟨0,cb,t,rfl,rfl,by omega,Lib.hid (by omega),HL,HBr,HGG⟩
     case round =>
      clear HL HBr HGG
      obtain ⟨j,c3,t3,rfl,rfl,hj,HJ,HL,HBr,HG⟩:=hrel
      have c2:=(HP.out.below HL.out).c2
      have t0:=((bcell HL.out).1 rb (ro+k*3) b0).trans V0.out
      have t1:=((bcell HL.out).1 rb (ro+k*3+1) b0).trans V1.out
      by_cases hlj:j < x.right.length
      ·obtain ⟨bb,bo,rfl,q1⟩:=VIN.out j hlj
       have q0:=((bcell HL.out).1 _ _ (World.block_lt_of_cell? W _ q1)).trans q1
       obtain ⟨y0,y1⟩:=HXR.out _ (List.getElem_mem hlj)
       have hdr:=List.drop_eq_getElem_cons hlj
       have hg:=HG.out
       rw [hdr,List.map_cons,List.cons_append,Q.hGo] at hg
       generalize x.right[j]=y at q0 q1 y0 y1 hg
       obtain ⟨z,rfl⟩:∃ z:Nat,y=z:=⟨y.toNat,by omega⟩
       rw [Int.toNat_natCast] at hg
       have hzc:z < N:=by have:=HN.out.2; omega
       have a0:=HBr.out.cell hxc
       have a1:=HBr.out.cell hzc
       have af:=HBr.out.fz z
       have HBs:=Lib.hid (HBr.out.set z true)
       have HLs:=Lib.hid (HL.out.trans (((Upd.refl g wr).setCell ⟨g,z,none⟩ rfl (.bool true)).below HSZ.out HL.out.size))
       clear hdr HG q1
       cases hl:t3 x.left with
       | false =>
        rw [hl] at a0
        rw [Q.hStep_no (.inl (by simp [hl]))] at hg
        have HG2:=Lib.hid hg
        clear hg hl
        go_wp2_with fail
        go_roundg (x.right.length - (j+1))
        case measure=>have:=HJ.out; omega
        case rel=>exact ⟨j+1,c3,t3,by go_num,rfl,by omega,Lib.hid (by omega),HL,HBr,HG2⟩
       | true =>
        rw [hl] at a0
        cases hy:t3 z with
        | true =>
         rw [hy] at a1
         rw [Q.hStep_no (.inr hy)] at hg
         have HG2:=Lib.hid hg
         clear hg hl hy
         go_wp2_with fail
         go_roundg (x.right.length - (j+1))
         case measure=>have:=HJ.out; omega
         case rel=>exact ⟨j+1,c3,t3,by go_num,rfl,by omega,Lib.hid (by omega),HL,HBr,HG2⟩
        | false =>
         rw [hy] at a1
         rw [Q.hStep_yes (by simp [hl]) hy] at hg
         have HG2:=Lib.hid hg
         clear hg hl hy
         go_wp2_with fail
         go_roundg (x.right.length - (j+1))
         case measure=>have:=HJ.out; omega
         case rel=>exact ⟨j+1,true,Q.up t3 z true,by go_num,rfl,by omega,Lib.hid (by omega),HLs,HBs,HG2⟩
      ·obtain rfl:j=x.right.length:=by omega
       have hg:=HG.out
       rw [List.drop_length,List.map_nil,List.nil_append] at hg
       have HG2:=Lib.hid hg
       clear hlj HJ HG hg
       go_wp2_with fail
       go_roundg (p.rules.length - (k+1))
       case measure=>have:=HK.out; omega
       case rel=>exact ⟨k+1,c3,t3,by go_num,rfl,by have:=HLT.out; omega,Lib.hid (by have:=HLT.out; omega),HL,HBr,HG2⟩
    ·obtain rfl:k=p.rules.length:=by omega
     have hg:=HG.out
     rw [List.drop_length] at hg
     have hg2:TOT=(t,cb):=hg
     have hst:Q.hGo (Q.coH p) s false=(t,cb):=by rw [← HTT.out,hg2]
     have he:=HE.out
     obtain ⟨gf,rfl⟩:∃ f2,gf=f2+1:=⟨gf - 1,by omega⟩
     clear hlt HK HG hg hg2
     cases cb with
     | true =>
      have hl:Q.weight N (Q.bw t) < Q.weight N (Q.bw s):=by
       rcases Q.hGo_less N (Q.coH p) s false (by rw [← HN.out.1]; exact Q.coH_lt HOK.out) with ⟨_,h⟩ | ⟨_,h⟩
       ·rw [hst] at h; cases h
       ·rw [hst] at h; exact h
      have hr:=he.2
      rw [Q.run,hst,if_pos rfl] at hr
      have HE2:Hid (Q.weight N (Q.bw t) < gf∧(Q.run (fun t=>Q.hGo (Q.coH p) t false) gf t).1=R):=Lib.hid ⟨by have:=he.1; omega,hr⟩
      clear he hst hl hr HE HTT
      go_wp2_with fail
      go_roundg gf
      case measure=>have:=HF.out; omega
      case rel=>exact ⟨gf,true,t,rfl,Lib.hid rfl,HL,HBr,Lib.hid (by rw [if_pos rfl]; exact HE2.out)⟩
     | false =>
      have hr:=he.2
      rw [Q.run,hst,if_neg (by simp)] at hr
      have HE2:Hid (t=R):=Lib.hid hr
      clear he hst hr HE HTT
      go_wp2_with fail
      go_roundg gf
      case measure=>have:=HF.out; omega
      case rel=>exact ⟨gf,false,t,rfl,Lib.hid rfl,HL,HBr,Lib.hid (by rw [if_neg (by simp)]; exact HE2.out)⟩
end Go.Proofs.YtjbggogbnckllaaDoor
