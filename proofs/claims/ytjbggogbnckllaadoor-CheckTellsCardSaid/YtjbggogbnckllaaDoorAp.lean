/-
  A slice of numbers is put behind a slice of one's own; the walk of check.sentence.
  The walk of check.Sentence.
-/
import Derived.Test.YtjbggogbnckllaaDoorAo
import Derived.Deep.Upon
section
set_option maxRecDepth 100000
namespace Go.Proofs.YtjbggogbnckllaaDoor
open Go.RowKit
set_option linter.unusedVariables false
set_option linter.unusedSimpArgs false
theorem run_append_ints (w:World) (ty:TypeId) (base:Nat) (v:Value) (xs l:List Int) (na:Option Addr) (nc:Nat) (hown:w.ownsRow base 3 1 v xs.length (intV xs)) (hi:Ints w na l) (hl:xs.length+l.length≤1000000) (hbase:base≤w.heap.size) :
  ∃ v' w',(Builtin.append_ #[30,30] ty #[v,.slice na l.length nc]).run Tryd.prog w=.ok v' w'∧w'.ownsRow base 3 1 v' (xs++l).length (intV (xs++l))∧w.grownBy w' v.ownBlock:=by
 obtain ⟨i,z,hin,hz,hsz,hby,hzs⟩:=elt_int.hi
 have e1:intV (xs++l)=intV xs++intV l:=by simp [intV]
 rw [e1,List.length_append]
 by_cases h0:l.length=0
 ·have hl0:l=[]:=List.eq_nil_of_length_eq_zero h0
  subst hl0
  have hsrc:Src Tryd.prog i.size 30 (.slice na 0 nc) 0 [] w:=by
   cases na with
   | none=>exact Src.ofNil w elt_int.ht nc
   | some a=>exact Src.ofSlice w elt_int.ht a 0 nc [] (by simp) (fun j u h=>by simp at h) (fun u h=>by cases h)
  obtain ⟨a,cap,hv,hcap⟩:∃ a cap,v=.slice a xs.length cap∧xs.length≤cap:=by
   rcases hown.2 with ⟨rfl,h⟩ | ⟨g,cap,cur,rfl,_,_,h,_⟩
   ·exact ⟨none,0,by rw [h],by omega⟩
   ·exact ⟨_,cap,rfl,h⟩
  subst hv
  have hr:=run_append_nothing (P:=Tryd.prog) w 30 30 ty 3 i elt_int.ht hin a xs.length cap hcap (.slice na 0 nc) hsrc
  refine ⟨_,_,hr,?_,⟨rfl,rfl,rfl,Nat.le_refl _,fun _ _ _=>rfl⟩⟩
  simpa [intV] using hown
 ·obtain ⟨b,off,rfl,_⟩:=hi 0 (by omega)
  have hnews:∀ j u,(intV l)[j]?=some u→w.cell? ((⟨b,off,none⟩:Addr).add j)=some u:=by
   intro j u hu
   unfold intV at hu
   rw [List.getElem?_map] at hu
   by_cases hj:j < l.length
   ·rw [List.getElem?_eq_getElem hj] at hu
    simp only [Option.map_some,Option.some.injEq] at hu
    subst hu
    obtain ⟨b',off',e,hc⟩:=hi j hj
    cases e
    rw [Addr.add_lit]
    exact hc
   ·rw [List.getElem?_eq_none (by omega)] at hu
    cases hu
  obtain ⟨v',w',hr,h2,h3,_⟩:=run_append_own (P:=Tryd.prog) w base 30 ty 3 i z 1 8 elt_int.ht hin hz hsz hby hzs (by omega) v xs.length (intV xs) hown ⟨b,off,none⟩ l.length nc (intV l) (by simp [intV]) hnews (intV_one l) (by unfold maxLen; omega) (by omega) hbase
  exact ⟨v',w',hr,h2,h3⟩
theorem list_append_ints {ops:Array Oper} {rest:List Oper} {o:Oper} {a:Act} {w:World} {Q:Exit→Act→World→Prop} (hgd:o.guard=none) (s x:Operand)
  (ho:o.op=.call { callee:=.builtin .append,args:=#[s,x],argTypes:=#[30,30] }) (base:Nat) (v:Value) (xs l:List Int) (na:Option Addr) (nc:Nat) (hs:a.eval s=v) (hx:a.eval x=.slice na l.length nc)
  (hown:w.ownsRow base 3 1 v xs.length (intV xs)) (hi:Ints w na l) (hl:xs.length+l.length≤1000000) (hbase:base≤w.heap.size)
  (h:∀ v' w',w'.ownsRow base 3 1 v' (xs++l).length (intV (xs++l))→w.grownBy w' v.ownBlock→wpList Tryd.prog ops Q rest (a.put o.dst v') w') :
  wpList Tryd.prog ops Q (o::rest) a w :=
 wpList_plain hgd fun _ hK=>by
  obtain ⟨v',w',hr,h2,h3⟩:=run_append_ints w o.type base v xs l na nc hown hi hl hbase
  unfold Oper.wp execOp
  simp only [ho,resolve,invoke,builtin,Sem.run_bind,Sem.run_pure,Result.andThen_ok,List.map_toArray,List.map_cons,List.map_nil,hs,hx,hr]
  exact hK _ _ (h v' w' h2 h3)
theorem own_ints {w:World} {base:Nat} {v:Value} {xs:List Int} (h:w.ownsRow base 3 1 v xs.length (intV xs)):∃ na nc,v=.slice na xs.length nc∧Ints w na xs:=by
 rcases h.2 with ⟨rfl,h0⟩ | ⟨g,cap,cur,rfl,_⟩
 ·exact ⟨none,0,by rw [h0],fun i hi=>by omega⟩
 ·exact ⟨_,cap,rfl,Ints.of_owns h⟩
namespace Q
/-- Each length has its rule, and that has lengths that came ahead of it. -/
def TmOK (p:Pl.Plan) (tm:Nat→Nat):Prop:=∀ i,p.terms.length≤i→0≤(lens p).long i→(lens p).long i < M→∃ (k:Nat) (r:Pl.Prod),(lens p).by_ i=(k:Int)∧p.rules[k]?=some r∧r.left=i∧(∀ x ∈ r.right,0≤(lens p).long x.toNat∧(lens p).long x.toNat≤(lens p).long i∧tm x.toNat < tm i)∧(lens p).long i=(r.right.map fun x=>(lens p).long x.toNat).sum
end Q
set_option maxRecDepth 100000 in
set_option maxHeartbeats 8000000 in
theorem sentence_any {p:Pl.Plan} (ho:Q.OK p) {tm:Nat→Nat} (T:Q.TmOK p tm):∀ (f i:Nat),tm i < f→0≤(Q.lens p).long i→(Q.lens p).long i≤1000→i < Q.cnt p →
  ∀ (w:World) (v:Value) (g1 g2:Nat),PnV w v p→Arr w g1 (Q.cnt p) (Q.lens p).long→Arr w g2 (Q.cnt p) (Q.lens p).by_ →
  Calls Tryd.prog 61 #[.agg #[.slice (some ⟨g1,0,none⟩) (Q.cnt p) (Q.cnt p),.slice (some ⟨g2,0,none⟩) (Q.cnt p) (Q.cnt p)],v,.int .i64 (i:Int)] w fun e w'=>∃ na nc,e=.returned (.slice na (Q.sentF p f i).length nc)∧Ints w' na (Q.sentF p f i)∧Below w.heap.size w w':=by
 intro f
 induction f with
 | zero=>intro i h; exact absurd h (Nat.not_lt_zero _)
 | succ f ih =>
  intro i hf h0 h1 hic w v g1 g2 hv ha1 ha2
  obtain ⟨ta,tc,va,vc,ra,rc,la,lc,aa,ac,ca,cc,rfl,hv⟩:=hv
  have k1:=(Below.refl w.heap.size w).alloc (Nat.le_refl _) (.cells #[.slice (some ⟨g1,0,none⟩) (Q.cnt p) (Q.cnt p),.slice (some ⟨g2,0,none⟩) (Q.cnt p) (Q.cnt p)] 103)
  have HP0:=PB.new (tc:=tc) (vc:=vc) (rc:=rc) (lc:=lc) (ac:=ac) (cc:=cc) (hv.below k1)
  have k2:=k1.alloc (by simp) (.cells (pnC p ta va ra la aa ca tc vc rc lc ac cc) 32)
  have hl0:=heap_alloc_new w (.cells #[.slice (some ⟨g1,0,none⟩) (Q.cnt p) (Q.cnt p),.slice (some ⟨g2,0,none⟩) (Q.cnt p) (Q.cnt p)] 103)
  have k3:=(Below.refl _ (w.alloc (.cells #[.slice (some ⟨g1,0,none⟩) (Q.cnt p) (Q.cnt p),.slice (some ⟨g2,0,none⟩) (Q.cnt p) (Q.cnt p)] 103))).alloc (Nat.le_refl _) (.cells (pnC p ta va ra la aa ca tc vc rc lc ac cc) 32)
  have hl1:=(k3.block w.heap.size (by simp)).trans hl0
  have HA1:=ha1.below k2
  have HA2:=ha2.below k2
  have hsz:((w.alloc (.cells #[.slice (some ⟨g1,0,none⟩) (Q.cnt p) (Q.cnt p),.slice (some ⟨g2,0,none⟩) (Q.cnt p) (Q.cnt p)] 103)).alloc (.cells (pnC p ta va ra la aa ca tc vc rc lc ac cc) 32)).heap.size=w.heap.size+2:=by simp
  rw [World.size_alloc] at HP0
  unfold pnC at HP0 k2 hl1 HA1 HA2 hsz
  have HP:=Lib.hid HP0
  have HB:=Lib.hid k2
  have HLN:=Lib.hid hl1
  have HL1:=Lib.hid HA1
  have HL2:=Lib.hid HA2
  have HSZ:=Lib.hid hsz
  have c0:=HP0.c0
  have c1:=HP0.c1
  have c2:=HP0.c2
  have c3:=HP0.c3
  have c4:=HP0.c4
  have c5:=HP0.c5
  have e0:=cell_of_row _ _ 0 _ _ _ hl1
  have e1:=cell_of_row _ _ 1 _ _ _ hl1
  have q1:=HA1.cell hic
  have q2:=HA2.cell hic
  have hnb:=ho.nb
  have hmb:=ho.m
  have hib:i≤3000:=by unfold Q.cnt at hic; omega
  simp only [List.getElem?_toArray,List.getElem?_cons_zero,List.getElem?_cons_succ] at e0 e1
  clear HP0 k1 k2 k3 hl0 hl1 HA1 HA2 hsz
  go_enter Tryd.func61,Tryd.ntmps61
  generalize hy:(Q.lens p).long i=y at q1 h0 h1
  have HY:=Lib.hid hy
  clear hy
  by_cases hy0:y=0
  ·have hs:Q.sentF p (f+1) i=[]:=by rw [Q.sentF,if_pos (by rw [HY.out]; exact hy0)]
   have d:(y == 0)=true:=by simpa using hy0
   have HS:=Lib.hid hs
   clear hs hy0
   go_wp2_with fail
   go_ret
   exact ⟨none,0,by rw [HS.out]; rfl,fun j hj=>by rw [HS.out] at hj; simp at hj,HB.out⟩
  ·have d:(y == 0)=false:=by simpa using hy0
   have hyn:(Q.lens p).long i≠0:=by rw [HY.out]; exact hy0
   have HYN:=Lib.hid hyn
   clear hyn hy0
   have HT:=term_any (i:Int) (show PnV _ (.agg #[.slice ta p.terms.length tc,.slice va p.vars.length vc,.slice ra p.rules.length rc,.slice la p.levels.length lc,.slice aa p.assocs.length ac,.slice ca p.acts.length cc]) p from ⟨ta,tc,va,vc,ra,rc,la,lc,aa,ac,ca,cc,rfl,HP.out.a⟩) hnb
   go_wp2_with fail
   generalize (w.alloc (.cells #[.slice (some ⟨g1,0,none⟩) (Q.cnt p) (Q.cnt p),.slice (some ⟨g2,0,none⟩) (Q.cnt p) (Q.cnt p)] 103)).alloc (.cells #[.slice ta p.terms.length tc,.slice va p.vars.length vc,.slice ra p.rules.length rc,.slice la p.levels.length lc,.slice aa p.assocs.length ac,.slice ca p.acts.length cc] 32)=W at HP HB HLN HL1 HL2 HSZ HT c0 c1 c2 c3 c4 c5 q1 q2 e0 e1 ⊢
   refine HT.mono ?_
   rintro e W1 ⟨rfl,kT⟩
   have HP1:=Lib.hid (HP.out.below kT)
   have HB1:=Lib.hid (HB.out.trans (kT.mono HB.out.size))
   have HLN1:=Lib.hid ((kT.block w.heap.size (by have:=HSZ.out; omega)).trans HLN.out)
   have HL1':=Lib.hid (HL1.out.below kT)
   have HL2':=Lib.hid (HL2.out.below kT)
   have HSZ1:Hid (w.heap.size+2≤W1.heap.size):=Lib.hid (by have:=HSZ.out; have:=kT.size; omega)
   clear HT kT HP HB HLN HL1 HL2 HSZ c0 c1 c2 c3 c4 c5 q1 q2 e0 e1 hv
   by_cases ht:i < p.terms.length
   ·have d2:decide (0≤(i:Int)∧(i:Int) < (p.terms.length:Int))=true:=by simp; omega
    have hs:Q.sentF p (f+1) i=[(i:Int)]:=by rw [Q.sentF,if_neg HYN.out,if_pos ht]
    have HS:=Lib.hid hs
    rw [d2]
    clear hs ht
    go_wp2_with fail
    go_ret
    refine ⟨some ⟨W1.heap.size,0,none⟩,1,by rw [HS.out]; rfl,fun j hj=>?_,HB1.out.alloc (by have:=HSZ1.out; omega) _⟩
    rw [HS.out] at hj
    have:j=0:=by simpa using hj
    subst this
    simp only [HS.out]
    exact ⟨_,_,rfl,by rw [cell_of_row _ _ _ _ _ _ (heap_alloc_new W1 _)]; rfl⟩
   ·have d2:decide (0≤(i:Int)∧(i:Int) < (p.terms.length:Int))=false:=by simp; omega
    obtain ⟨k,r,b1,b2,b3,b4,b5⟩:=T i (by omega) (by rw [HY.out]; exact h0) (by rw [HY.out]; unfold Q.M; omega)
    have hs:Q.sentF p (f+1) i=r.right.flatMap fun x=>Q.sentF p f x.toNat:=by rw [Q.sentF,if_neg HYN.out,if_neg ht,b1,Int.toNat_natCast,b2]; rfl
    have HS:=Lib.hid hs
    have hkr:k < p.rules.length:=(List.getElem?_eq_some_iff.1 b2).1
    have her:p.rules[k]=r:=(List.getElem?_eq_some_iff.1 b2).2
    have hrt:=ho.right r (List.mem_of_getElem? b2)
    have hrl:=ho.rl r (List.mem_of_getElem? b2)
    have HRT:=Lib.hid hrt
    have HB4:=Lib.hid b4
    have hlenr:=Q.sentF_len ho T (f+1) i hf (by rw [HY.out]; exact h0) (by rw [HY.out]; unfold Q.M; omega)
    have hfin:(Q.sentF p (f+1) i).length≤1000:=by have:=hlenr.1; rw [HY.out] at this; omega
    rw [hs] at hfin
    have HFIN:=Lib.hid hfin
    have hkb:k≤1000:=by have:=ho.r; omega
    obtain ⟨rb,ro,na,nc,rfl,t0,t1,t2,hin⟩:=HP1.out.a.r k hkr
    rw [her] at t0 t1 t2 hin
    have HIN:=Lib.hid hin
    have z2:=fun z:Wd W1.heap.size W1=>(HP1.out.below z.ok).c2
    have zl:∀ z:Wd W1.heap.size W1,z.w.cell? ⟨w.heap.size,1,none⟩=some (.slice (some ⟨g2,0,none⟩) (Q.cnt p) (Q.cnt p)):=fun z=>by
     rw [cell_of_row _ _ 1 _ _ _ ((z.ok.block w.heap.size (by have:=HSZ1.out; omega)).trans HLN1.out)]; rfl
    have zb:∀ z:Wd W1.heap.size W1,z.w.cell? ⟨g2,i,none⟩=some (.int .i64 (k:Int)):=fun z=>by
     rw [(HL2'.out.below z.ok).cell hic,b1]
    have z1:∀ z:Wd W1.heap.size W1,z.w.cell? ⟨rb,ro+k*3+1,none⟩=some (.slice na r.right.length nc):=fun z=>((bcell z.ok).1 _ _ (World.block_lt_of_cell? W1 _ t1)).trans t1
    have hkr2:k < p.rules.length:=hkr
    rw [d2]
    clear hs hlenr hfin hrt b1 b2 b3 b4 b5 t0 t1 t2 hin her ht
    go_wp2_with fail
    refine region_cls W1.heap.size (by kernel_rfl) (by kernel_rfl) ?_
    repeat (go_big_quiet_step (fail))
    refine wpQuiet_nil ?_
    intro z
    have HPz:=Lib.hid (HP1.out.below z.ok)
    have HBz:=Lib.hid (HB1.out.trans (z.ok.mono HB1.out.size))
    have HLNz:=Lib.hid ((z.ok.block w.heap.size (by have:=HSZ1.out; omega)).trans HLN1.out)
    have HL1z:=Lib.hid (HL1'.out.below z.ok)
    have HL2z:=Lib.hid (HL2'.out.below z.ok)
    have HSZz:Hid (w.heap.size+2≤z.w.heap.size):=Lib.hid (by have:=HSZ1.out; have:=z.ok.size; omega)
    have HINz:=Lib.hid (HIN.out.below z.ok)
    clear z2 zl zb z1 HP1 HB1 HLN1 HL1' HL2' HSZ1 HIN
    generalize z.w=V at HPz HBz HLNz HL1z HL2z HSZz HINz ⊢
    clear z
    go_wp2_with fail
    have HF:=Lib.hid hf
    have HH1:=Lib.hid h1
    clear hf h0 h1
    go_loopg [7,32] r.right.length (fun gk out idx wr=>∃ k:Nat,idx=.int .i64 k∧k≤r.right.length∧Hid (gk+k=r.right.length)∧Hid (wr.ownsRow V.heap.size 3 1 out ((r.right.take k).flatMap fun x=>Q.sentF p f x.toNat).length (intV ((r.right.take k).flatMap fun x=>Q.sentF p f x.toNat)))∧Hid (Below V.heap.size V wr))
    case atStart=>exact ⟨0,rfl,by omega,Lib.hid (by omega),Lib.hid (World.ownsRow_nil _ _ _ _),Lib.hid (Below.refl _ _)⟩
    case round =>
     obtain ⟨j,rfl,hj,HJ,HO,HL⟩:=hrel
     by_cases hlt:j < r.right.length
     ·obtain ⟨nb,no,rfl,q0⟩:=(HINz.out.below HL.out) j hlt
      have hxm:=List.getElem_mem hlt
      obtain ⟨y0,y1⟩:=HRT.out _ hxm
      obtain ⟨l0,l1,l2⟩:=HB4.out _ hxm
      have htk:=List.take_succ_eq_append_getElem hlt
      generalize r.right[j]=x at q0 y0 y1 l0 l1 l2 htk
      obtain ⟨x,rfl⟩:∃ n:Nat,x=n:=⟨x.toNat,by omega⟩
      rw [Int.toNat_natCast] at l0 l1 l2
      have HPw:=Lib.hid (HPz.out.below HL.out)
      have hlw:=(HL.out.block w.heap.size (by have:=HSZz.out; omega)).trans HLNz.out
      have e0:=cell_of_row _ _ 0 _ _ _ hlw
      have e1:=cell_of_row _ _ 1 _ _ _ hlw
      simp only [List.getElem?_toArray,List.getElem?_cons_zero,List.getElem?_cons_succ] at e0 e1
      have c0:=HPw.out.c0
      have c1:=HPw.out.c1
      have c2:=HPw.out.c2
      have c3:=HPw.out.c3
      have c4:=HPw.out.c4
      have c5:=HPw.out.c5
      have hcall:=ih x (by have:=HF.out; omega) l0 (by have:=HY.out; have:=HH1.out; omega) (by unfold Q.cnt; omega) wr (.agg #[.slice ta p.terms.length tc,.slice va p.vars.length vc,.slice (some ⟨rb,ro,none⟩) p.rules.length rc,.slice la p.levels.length lc,.slice aa p.assocs.length ac,.slice ca p.acts.length cc]) g1 g2 ⟨ta,tc,va,vc,_,rc,la,lc,aa,ac,ca,cc,rfl,HPw.out.a⟩ (HL1z.out.below HL.out) (HL2z.out.below HL.out)
      have hfm:(r.right.take (j+1)).flatMap (fun x=>Q.sentF p f x.toNat)=(r.right.take j).flatMap (fun x=>Q.sentF p f x.toNat)++Q.sentF p f x:=by rw [htk,List.flatMap_append]; simp
      have hle:((r.right.take (j+1)).flatMap fun x=>Q.sentF p f x.toNat).length≤1000:=by
       have h2:=HFIN.out
       rw [← List.take_append_drop (j+1) r.right,List.flatMap_append,List.length_append] at h2
       omega
      rw [hfm,List.length_append] at hle
      have HFM:=Lib.hid hfm
      have HLE:=Lib.hid hle
      have hxb:x≤3000:=by omega
      clear hfm hle htk hxm hlw l0 l1 l2 y0 y1
      generalize (r.right.take j).flatMap (fun x=>Q.sentF p f x.toNat)=xs at HO HFM HLE
      generalize Q.sentF p f x=l at hcall HFM HLE
      go_wp2_with fail
      refine hcall.mono ?_
      rintro e W4 ⟨ma,mc,rfl,hi4,k4⟩
      have HI4:=Lib.hid hi4
      have HO4:=Lib.hid (owns_below HO.out k4)
      have HL4:=Lib.hid (HL.out.trans (k4.mono HL.out.size))
      have hs4:=HL4.out.size
      clear hcall hi4 k4 HO HL HPw c0 c1 c2 c3 c4 c5 e0 e1 q0
      go_wp2_with (refine list_append_ints rfl _ _ rfl V.heap.size _ xs l ma mc rfl rfl HO4.out HI4.out (by have:=HLE.out; omega) hs4 ?_; intro v5 W5 ho5 hg5; have HO5:=Lib.hid ho5; have HL5:=Lib.hid (HL4.out.trans (below_own HO4.out hs4 hg5)); clear ho5 hg5)
      go_roundg (r.right.length - (j+1))
      case measure=>have:=HJ.out; omega
      case rel=>exact ⟨j+1,by go_num,by omega,Lib.hid (by omega),by rw [HFM.out]; exact HO5,HL5⟩
     ·obtain rfl:j=r.right.length:=by omega
      rw [List.take_length,← HS.out] at HO
      clear hlt HJ
      obtain ⟨ra2,rc2,rfl,hri⟩:=own_ints HO.out
      have HRI:=Lib.hid hri
      clear hri
      go_wp2_with fail
      go_ret
      exact ⟨ra2,rc2,rfl,HRI.out,HBz.out.trans (HL.out.mono HBz.out.size)⟩
end Go.Proofs.YtjbggogbnckllaaDoor
end
section
set_option maxRecDepth 100000
namespace Go.Proofs.YtjbggogbnckllaaDoor
open Go.RowKit
set_option linter.unusedVariables false
set_option linter.unusedSimpArgs false
set_option maxRecDepth 100000 in
set_option maxHeartbeats 8000000 in
theorem sentence9_any {w:World} {v:Value} {p:Pl.Plan} (sym:Int) (h:PnV w v p) (ho:Q.OK p) :
  Calls Tryd.prog 37 #[v,.int .i64 sym] w fun e w'=>∃ na nc,e=.returned (.slice na (Q.sent p sym).length nc)∧Ints w' na (Q.sent p sym)∧Below w.heap.size w w':=by
 have h0:=h
 obtain ⟨ta,tc,va,vc,ra,rc,la,lc,aa,ac,ca,cc,rfl,h⟩:=h
 have HP0:=PB.new (tc:=tc) (vc:=vc) (rc:=rc) (lc:=lc) (ac:=ac) (cc:=cc) h
 have k:=(Below.refl w.heap.size w).alloc (Nat.le_refl _) (.cells (pnC p ta va ra la aa ca tc vc rc lc ac cc) 32)
 have HB:=Lib.hid k
 have HC:=reckon_any (h0.below k) ho
 unfold pnC at HP0 HB HC
 have HP:=Lib.hid HP0
 have c0:=HP0.c0
 have c1:=HP0.c1
 have c2:=HP0.c2
 have c3:=HP0.c3
 have c4:=HP0.c4
 have c5:=HP0.c5
 have HS:Hid ((w.alloc (.cells #[.slice ta p.terms.length tc,.slice va p.vars.length vc,.slice ra p.rules.length rc,.slice la p.levels.length lc,.slice aa p.assocs.length ac,.slice ca p.acts.length cc] 32)).heap.size=w.heap.size+1):=Lib.hid (by simp)
 have hcb:Q.cnt p≤3000:=by have:=ho.nb; have:=ho.m; unfold Q.cnt; omega
 have HOK:=Lib.hid ho
 clear HP0 h h0 k ho
 go_enter Tryd.func37,Tryd.ntmps37
 go_wp2_with fail
 generalize w.alloc (.cells #[.slice ta p.terms.length tc,.slice va p.vars.length vc,.slice ra p.rules.length rc,.slice la p.levels.length lc,.slice aa p.assocs.length ac,.slice ca p.acts.length cc] 32)=W at HC HB HS HP c0 c1 c2 c3 c4 c5 ⊢
 refine HC.mono ?_
 rintro e W1 ⟨g1,g2,rfl,a1,a2,b1,b2,k⟩
 have AL:=(Below.refl W1.heap.size W1).alloc (Nat.le_refl _) (.cells #[.slice (some ⟨g1,0,none⟩) (Q.cnt p) (Q.cnt p),.slice (some ⟨g2,0,none⟩) (Q.cnt p) (Q.cnt p)] 103)
 have hl0:=heap_alloc_new W1 (.cells #[.slice (some ⟨g1,0,none⟩) (Q.cnt p) (Q.cnt p),.slice (some ⟨g2,0,none⟩) (Q.cnt p) (Q.cnt p)] 103)
 have HA1:=Lib.hid (a1.below AL)
 have HA2:=Lib.hid (a2.below AL)
 have HPn:=Lib.hid ((HP.out.below k).below AL)
 have hk1:=HB.out.trans (k.mono (by have:=HS.out; omega))
 have HB1:=Lib.hid (hk1.trans (AL.mono hk1.size))
 have HLN:=Lib.hid hl0
 have hz:(Tryd.prog.info? 103).map (·.size)=some 2:=by kernel_rfl
 clear HC a1 a2 b1 b2 k AL hl0 hk1 HB HS HP c0 c1 c2 c3 c4 c5
 have hl0:=HLN.out
 have e0:=cell_of_row _ _ 0 _ _ _ hl0
 have e1:=cell_of_row _ _ 1 _ _ _ hl0
 simp only [List.getElem?_toArray,List.getElem?_cons_zero,List.getElem?_cons_succ] at e0 e1
 have c0:=HPn.out.c0
 have c1:=HPn.out.c1
 have c2:=HPn.out.c2
 have c3:=HPn.out.c3
 have c4:=HPn.out.c4
 have c5:=HPn.out.c5
 clear hl0
 by_cases s0:sym < 0
 ·have d0:decide (sym < 0)=true:=by simpa using s0
  have hs:Hid (Q.sent p sym=[]):=Lib.hid (by unfold Q.sent; rw [if_pos (.inl s0)])
  clear s0
  go_wp2_with fail
  go_ret
  exact ⟨none,0,by rw [hs.out]; rfl,fun j hj=>by rw [hs.out] at hj; simp at hj,HB1.out⟩
 ·have d0:decide (sym < 0)=false:=by simpa using s0
  by_cases s1:((Q.cnt p:Nat):Int)≤sym
  ·have d1:decide (((Q.cnt p:Nat):Int)≤sym)=true:=by simpa using s1
   have hs:Hid (Q.sent p sym=[]):=Lib.hid (by unfold Q.sent; rw [if_pos (.inr (.inl s1))])
   clear s0
   go_wp2_with fail
   go_ret
   exact ⟨none,0,by rw [hs.out]; rfl,fun j hj=>by rw [hs.out] at hj; simp at hj,HB1.out⟩
  ·have d1:decide (((Q.cnt p:Nat):Int)≤sym)=false:=by simpa using s1
   obtain ⟨i,rfl⟩:∃ i:Nat,sym=i:=⟨sym.toNat,by omega⟩
   have hic:i < Q.cnt p:=by omega
   have q1:=HA1.out.cell hic
   clear s0 s1
   generalize hy:(Q.lens p).long i=y at q1
   by_cases s2:y < 0
   ·have d2:decide (y < 0)=true:=by simpa using s2
    have hs:Hid (Q.sent p i=[]):=Lib.hid (by unfold Q.sent; rw [if_pos (.inr (.inr (.inl (by rw [Int.toNat_natCast,hy]; exact s2))))])
    clear s2 hy
    go_wp2_with fail
    go_ret
    exact ⟨none,0,by rw [hs.out]; rfl,fun j hj=>by rw [hs.out] at hj; simp at hj,HB1.out⟩
   ·have d2:decide (y < 0)=false:=by simpa using s2
    by_cases s3:1000 < y
    ·have d3:decide (1000 < y)=true:=by simpa using s3
     have hs:Hid (Q.sent p i=[]):=Lib.hid (by unfold Q.sent; rw [if_pos (.inr (.inr (.inr (by rw [Int.toNat_natCast,hy]; exact s3))))])
     clear s2 s3 hy
     go_wp2_with fail
     go_ret
     exact ⟨none,0,by rw [hs.out]; rfl,fun j hj=>by rw [hs.out] at hj; simp at hj,HB1.out⟩
    ·have d3:decide (1000 < y)=false:=by simpa using s3
     have hs:Hid (Q.sent p i=Q.sentF p (Q.lenF p) i):=Lib.hid (by unfold Q.sent; rw [if_neg (by rw [Int.toNat_natCast,hy]; omega),Int.toNat_natCast])
     obtain ⟨tm,ht1,ht2⟩:=Q.lens_by HOK.out
     have hcall:=sentence_any HOK.out (tm:=tm) ht2 (Q.lenF p) i (ht1 i) (by omega) (by omega) hic (W1.alloc (.cells #[.slice (some ⟨g1,0,none⟩) (Q.cnt p) (Q.cnt p),.slice (some ⟨g2,0,none⟩) (Q.cnt p) (Q.cnt p)] 103)) (.agg #[.slice ta p.terms.length tc,.slice va p.vars.length vc,.slice ra p.rules.length rc,.slice la p.levels.length lc,.slice aa p.assocs.length ac,.slice ca p.acts.length cc]) g1 g2 ⟨ta,tc,va,vc,_,rc,la,lc,aa,ac,ca,cc,rfl,HPn.out.a⟩ HA1.out HA2.out
     clear s2 s3 hy ht1 ht2
     go_wp2_with fail
     refine hcall.mono ?_
     rintro e W4 ⟨na,nc,rfl,hi4,k4⟩
     have HI4:=Lib.hid hi4
     have HB4:=Lib.hid (HB1.out.trans (k4.mono HB1.out.size))
     clear hcall hi4 k4 e0 e1 c0 c1 c2 c3 c4 c5 q1
     go_wp2_with fail
     go_ret
     exact ⟨na,nc,by rw [hs.out]; rfl,by rw [hs.out]; exact HI4.out,HB4.out⟩
end Go.Proofs.YtjbggogbnckllaaDoor
end
