/-
  The walk of check.reckon: lengths in rounds.
-/
import Derived.Test.YtjbggogbnckllaaDoorZz
import Derived.Test.YtjbggogbnckllaaDoorQC
import Derived.Test.YtjbggogbnckllaaDoorAl
import Derived.Test.YtjbggogbnckllaaDoorAm
import Derived.ScopeJumps
import Derived.WalkMore
namespace Go.Proofs.YtjbggogbnckllaaDoor
open Go.RowKit
set_option linter.unusedVariables false
set_option linter.unusedSimpArgs false
/-- A scope in which the run jumps back: what holds at a jump bears a number. -/
theorem wp_scope_ghost {P:Program} {a:Act} {w:World} {Q:Exit→Act→World→Prop} {c rest:Code} (l:Nat) (J:Nat→Act→World→Prop) (hf:findLabel c l=some rest)
  (first:c.wp P (Exit.jump l (fun a w=>∃ k,J k a w) Q) a w)
  (pass:∀ k a w,J k a w→rest.wp P (Exit.jump l (fun a' w'=>∃ k',k' < k∧J k' a' w') Q) a w):(Code.scope c).wp P Q a w:=by
 refine wp_scope_jumps l (fun a w=>∃ k,J k a w) (fun a w=>leastOf (fun k=>J k a w)) hf first ?_
 intro a w hJ
 refine wp_mono (pass _ a w (leastOf_spec hJ).1) ?_
 intro e a' w' hq
 cases e with
 | goto l' =>
  obtain ⟨h1,k',hlt,hJ'⟩:=hq
  exact ⟨h1,⟨k',hJ'⟩,Nat.lt_of_le_of_lt ((leastOf_spec ⟨k',hJ'⟩).2 k' hJ') hlt⟩
 | normal=>exact hq
 | exit id=>exact hq
 | ret=>exact hq
 | panic ch=>exact hq
 | outgrown=>exact hq
/-- Lengths in memory. -/
structure KI (U W:World) (lb g1 g2 n:Nat) (s:Q.Ls):Prop where
 low:Below U.heap.size U W
 l:W.heap[lb]?=some (.cells #[.slice (some ⟨g1,0,none⟩) n n,.slice (some ⟨g2,0,none⟩) n n] 103 (0,0))
 a1:Arr W g1 n s.long
 a2:Arr W g2 n s.by_
 b1:U.heap.size≤g1
 b2:U.heap.size≤g2
 b3:U.heap.size≤lb
 d1:g1≠g2
 d2:g1≠lb
 d3:g2≠lb
section
variable {U W W':World} {lb g1 g2 n:Nat} {s:Q.Ls}
theorem KI.lt (h:KI U W lb g1 g2 n s):lb < W.heap.size:=lt_of_block h.l
theorem KI.below (h:KI U W lb g1 g2 n s) (k:Below W.heap.size W W'):KI U W' lb g1 g2 n s :=
 ⟨h.low.trans (k.mono h.low.size),(k.block _ h.lt).trans h.l,h.a1.below k,h.a2.below k,h.b1,h.b2,h.b3,h.d1,h.d2,h.d3⟩
theorem KI.setL (h:KI U W lb g1 g2 n s) (i:Nat) (v:Int):KI U (W.setCell ⟨g1,i,none⟩ (.int .i64 v)) lb g1 g2 n ⟨Q.up s.long i v,s.by_⟩:=by
 have k:=(Upd.refl g1 W).setCell ⟨g1,i,none⟩ rfl (.int .i64 v)
 exact ⟨h.low.trans (k.below h.b1 h.low.size),(k.block _ h.lt (Ne.symm h.d2)).trans h.l,h.a1.set i v,h.a2.upd k (Ne.symm h.d1),h.b1,h.b2,h.b3,h.d1,h.d2,h.d3⟩
theorem KI.setB (h:KI U W lb g1 g2 n s) (i:Nat) (v:Int):KI U (W.setCell ⟨g2,i,none⟩ (.int .i64 v)) lb g1 g2 n ⟨s.long,Q.up s.by_ i v⟩:=by
 have k:=(Upd.refl g2 W).setCell ⟨g2,i,none⟩ rfl (.int .i64 v)
 exact ⟨h.low.trans (k.below h.b2 h.low.size),(k.block _ h.lt (Ne.symm h.d3)).trans h.l,h.a1.upd k h.d1,h.a2.set i v,h.b1,h.b2,h.b3,h.d1,h.d2,h.d3⟩
theorem KI.ext {t:Q.Ls} (h:KI U W lb g1 g2 n s) (e1:∀ i,i < n→s.long i=t.long i) (e2:∀ i,i < n→s.by_ i=t.by_ i):KI U W lb g1 g2 n t :=
 ⟨h.low,h.l,h.a1.ext e1,h.a2.ext e2,h.b1,h.b2,h.b3,h.d1,h.d2,h.d3⟩
theorem KI.c (h:KI U W lb g1 g2 n s):W.cell? ⟨lb,0,none⟩=some (.slice (some ⟨g1,0,none⟩) n n)∧W.cell? ⟨lb,1,none⟩=some (.slice (some ⟨g2,0,none⟩) n n):=by
 refine ⟨?_,?_⟩
 all_goals (rw [cell_of_row _ _ _ _ _ _ h.l]; rfl)
end
theorem act_lit {v0 v1 v2 v3 v4:Value} (a:Act) (hs:a.tmps.size=79) (hd:a.defers=[]) (h0:a.tmps.getD 0 undef=v0) (h1:a.tmps.getD 1 undef=v1) (h2:a.tmps.getD 2 undef=v2) (h3:a.tmps.getD 3 undef=v3) (h4:a.tmps.getD 4 undef=v4) :
  ∃ us:Nat→Value,a={ tmps:=#[v0,v1,v2,v3,v4,us 5,us 6,us 7,us 8,us 9,us 10,us 11,us 12,us 13,us 14,us 15,us 16,us 17,us 18,us 19,us 20,us 21,us 22,us 23,us 24,us 25,us 26,us 27,us 28,us 29,us 30,us 31,us 32,us 33,us 34,us 35,us 36,us 37,us 38,us 39,us 40,us 41,us 42,us 43,us 44,us 45,us 46,us 47,us 48,us 49,us 50,us 51,us 52,us 53,us 54,us 55,us 56,us 57,us 58,us 59,us 60,us 61,us 62,us 63,us 64,us 65,us 66,us 67,us 68,us 69,us 70,us 71,us 72,us 73,us 74,us 75,us 76,us 77,us 78],defers:=[] }:=by
 refine ⟨fun j=>a.tmps.getD j undef,?_⟩
 obtain ⟨tm,df⟩:=a
 simp only at hs hd h0 h1 h2 h3 h4
 subst hd h0 h1 h2 h3 h4
 congr 1
 have e:tm=(Array.range 79).map (fun j=>tm.getD j undef):=by
  refine Array.ext (by simp [hs]) fun i h1 h2=>?_
  simp [h1]
 have hr:Array.range 79=#[0,1,2,3,4,5,6,7,8,9,10,11,12,13,14,15,16,17,18,19,20,21,22,23,24,25,26,27,28,29,30,31,32,33,34,35,36,37,38,39,40,41,42,43,44,45,46,47,48,49,50,51,52,53,54,55,56,57,58,59,60,61,62,63,64,65,66,67,68,69,70,71,72,73,74,75,76,77,78]:=by decide
 rw [hr] at e
 simp only [List.map_toArray,List.map_cons,List.map_nil] at e
 exact e
theorem lens_size:(Tryd.prog.info? 103).map (·.size)=some 2:=by kernel_rfl
set_option maxRecDepth 100000 in
set_option maxHeartbeats 16000000 in
theorem reckon_any {w:World} {v:Value} {p:Pl.Plan} (h:PnV w v p) (ho:Q.OK p) :
  Calls Tryd.prog 60 #[v] w fun e w'=>∃ g1 g2,e=.returned (.agg #[.slice (some ⟨g1,0,none⟩) (Q.cnt p) (Q.cnt p),.slice (some ⟨g2,0,none⟩) (Q.cnt p) (Q.cnt p)])∧Arr w' g1 (Q.cnt p) (Q.lens p).long∧Arr w' g2 (Q.cnt p) (Q.lens p).by_∧w.heap.size≤g1∧w.heap.size≤g2∧Below w.heap.size w w':=by
 obtain ⟨ta,tc,va,vc,ra,rc,la,lc,aa,ac,ca,cc,rfl,h⟩:=h
 have hpb:=PB.new (tc:=tc) (vc:=vc) (rc:=rc) (lc:=lc) (ac:=ac) (cc:=cc) h
 have HP:=Lib.hid (hpb.below ((Below.refl _ _).alloc (Nat.le_refl _) (.cells #[.slice none 0 0,.slice none 0 0] 103)))
 unfold pnC at HP
 have HB:=Lib.hid (((Below.refl w.heap.size w).alloc (Nat.le_refl _) (.cells #[.slice ta p.terms.length tc,.slice va p.vars.length vc,.slice ra p.rules.length rc,.slice la p.levels.length lc,.slice aa p.assocs.length ac,.slice ca p.acts.length cc] 32)).alloc (by simp) (.cells #[.slice none 0 0,.slice none 0 0] 103))
 have hr0:=heap_alloc_new (w.alloc (.cells #[.slice ta p.terms.length tc,.slice va p.vars.length vc,.slice ra p.rules.length rc,.slice la p.levels.length lc,.slice aa p.assocs.length ac,.slice ca p.acts.length cc] 32)) (.cells #[.slice none 0 0,.slice none 0 0] 103)
 rw [World.size_alloc] at hr0
 have HR0:=Lib.hid hr0
 have hsz:((w.alloc (.cells #[.slice ta p.terms.length tc,.slice va p.vars.length vc,.slice ra p.rules.length rc,.slice la p.levels.length lc,.slice aa p.assocs.length ac,.slice ca p.acts.length cc] 32)).alloc (.cells #[.slice none 0 0,.slice none 0 0] 103)).heap.size=w.heap.size+2:=by simp
 have HOK:=Lib.hid ho
 obtain ⟨R,hR⟩:∃ R,R=Q.lens p:=⟨_,rfl⟩
 rw [← hR]
 have HR:Hid ((Q.run (Q.round p) (Q.lenF p) (Q.len0 p)).1=R):=Lib.hid (by rw [hR,Q.lens_eq])
 have hcn:Q.cnt p≤3000∧1≤Q.cnt p:=by have:=ho.nb; have:=ho.m; unfold Q.cnt; omega
 have HCN:=Lib.hid hcn
 clear hpb h hr0 ho hR hcn
 go_enter Tryd.func60,Tryd.ntmps60
 go_wp2_with fail
 generalize (w.alloc (.cells #[.slice ta p.terms.length tc,.slice va p.vars.length vc,.slice ra p.rules.length rc,.slice la p.levels.length lc,.slice aa p.assocs.length ac,.slice ca p.acts.length cc] 32)).alloc (.cells #[.slice none 0 0,.slice none 0 0] 103)=W at HP HB HR0 hsz ⊢
 obtain ⟨pb,hpbe⟩:∃ pb,pb=w.heap.size:=⟨_,rfl⟩
 obtain ⟨rb,hrbe⟩:∃ rb,rb=w.heap.size+1:=⟨_,rfl⟩
 rw [← hrbe,← hpbe]
 rw [← hrbe] at HR0
 rw [← hpbe] at HP
 have HPB:=Lib.hid (And.intro hpbe hrbe)
 have HSZ:=Lib.hid hsz
 clear hpbe hrbe hsz
 obtain ⟨J,hJ⟩:∃ J:Nat→Act→World→Prop,J=(fun kg a W2=>∃ (U:World) (lb g1 g2 f:Nat) (s0:Q.Ls) (us:Nat→Value),a={ tmps:=#[(.agg #[.slice ta p.terms.length tc,.slice va p.vars.length vc,.slice ra p.rules.length rc,.slice la p.levels.length lc,.slice aa p.assocs.length ac,.slice ca p.acts.length cc]),.pointer (some ⟨pb,0,none⟩),.pointer (some ⟨rb,0,none⟩),.int .i64 (Q.cnt p:Nat),.pointer (some ⟨lb,0,none⟩),us 5,us 6,us 7,us 8,us 9,us 10,us 11,us 12,us 13,us 14,us 15,us 16,us 17,us 18,us 19,us 20,us 21,us 22,us 23,us 24,us 25,us 26,us 27,us 28,us 29,us 30,us 31,us 32,us 33,us 34,us 35,us 36,us 37,us 38,us 39,us 40,us 41,us 42,us 43,us 44,us 45,us 46,us 47,us 48,us 49,us 50,us 51,us 52,us 53,us 54,us 55,us 56,us 57,us 58,us 59,us 60,us 61,us 62,us 63,us 64,us 65,us 66,us 67,us 68,us 69,us 70,us 71,us 72,us 73,us 74,us 75,us 76,us 77,us 78],defers:=[] }∧Hid (PB U pb p ta va ra la aa ca tc vc rc lc ac cc)∧Hid (U.heap[rb]?=some (.cells #[.slice none 0 0,.slice none 0 0] 103 (0,0)))∧Hid (Below w.heap.size w U)∧Hid (w.heap.size+2≤U.heap.size) ∧
   Hid (KI U W2 lb g1 g2 (Q.cnt p) s0)∧Hid ((Q.run (Q.round p) f s0).1=R)∧Hid (Q.weight (Q.cnt p) s0.long < f)∧kg=Q.weight (Q.cnt p) s0.long):=⟨_,rfl⟩
 have HJ:=Lib.hid hJ
 clear hJ
 refine wp_scope_ghost 0 J rfl ?_ ?_
 ·have hP0:=HP.out
  have c0:=hP0.c0
  have c1:=hP0.c1
  have c2:=hP0.c2
  have c3:=hP0.c3
  have c4:=hP0.c4
  have c5:=hP0.c5
  have hac:=accept_any (w:=W) (v:=.agg #[.slice ta p.terms.length tc,.slice va p.vars.length vc,.slice ra p.rules.length rc,.slice la p.levels.length lc,.slice aa p.assocs.length ac,.slice ca p.acts.length cc]) ⟨ta,tc,va,vc,ra,rc,la,lc,aa,ac,ca,cc,rfl,hP0.a⟩ HOK.out.nb HOK.out.m
  obtain ⟨A,hA⟩:∃ A,A=p.terms.length+p.vars.length:=⟨_,rfl⟩
  rw [← hA] at hac
  have hcnt:((A:Nat):Int)+1=(Q.cnt p:Nat):=by rw [hA]; unfold Q.cnt; push_cast; rfl
  have hAs:A≤2000:=by have:=HOK.out.nb; have:=HOK.out.m; omega
  clear hP0 hA
  go_wp2_with fail
  refine hac.mono ?_
  rintro e U ⟨rfl,hbe⟩
  have HPU:=Lib.hid (HP.out.below hbe)
  have HRU:=Lib.hid ((hbe.block rb (by have:=HPB.out.2; have:=HSZ.out; omega)).trans HR0.out)
  have HBU:=Lib.hid (HB.out.trans (hbe.mono HB.out.size))
  have HSU:Hid (w.heap.size+2≤U.heap.size):=Lib.hid (by have:=HSZ.out; have:=hbe.size; omega)
  have hrep1:=repeat_any (w:=U.alloc (.cells #[.int .i64 (-1)] 3)) (b:=U.heap.size) (c:=1) (n:=Q.cnt p) (x:=-1) (by rw [cell_of_row _ _ _ _ _ _ (heap_alloc_new U _)]; rfl) HCN.out.2 (by have:=HCN.out.1; omega)
  clear hac hbe c0 c1 c2 c3 c4 c5 HP HR0 HB HSZ
  go_wp2_with fail
  refine hrep1.mono ?_
  rintro e w2 ⟨g1,rfl,hg1,ha1,hb1⟩
  have hrep2:=repeat_any (w:=w2.alloc (.cells #[.int .i64 (-1)] 3)) (b:=w2.heap.size) (c:=1) (n:=Q.cnt p) (x:=-1) (by rw [cell_of_row _ _ _ _ _ _ (heap_alloc_new w2 _)]; rfl) HCN.out.2 (by have:=HCN.out.1; omega)
  have HA1:=Lib.hid ha1
  have HB1:=Lib.hid (((Below.refl U.heap.size U).alloc (Nat.le_refl _) (.cells #[.int .i64 (-1)] 3)).trans (hb1.mono (by simp)))
  have HG1:Hid (U.heap.size < g1):=Lib.hid (by simp at hg1; omega)
  clear hrep1 ha1 hb1 hg1
  go_wp2_with fail
  refine hrep2.mono ?_
  rintro e w3 ⟨g2,rfl,hg2,ha2,hb2⟩
  have k2:=((Below.refl w2.heap.size w2).alloc (Nat.le_refl _) (.cells #[.int .i64 (-1)] 3)).trans (hb2.mono (by simp))
  have hK0:KI U (w3.alloc (.cells #[.slice (some ⟨g1,0,none⟩) (Q.cnt p) (Q.cnt p),.slice (some ⟨g2,0,none⟩) (Q.cnt p) (Q.cnt p)] 103)) w3.heap.size g1 g2 (Q.cnt p) ⟨fun _=>-1,fun _=>-1⟩:=by
   have k3:=(Below.refl w3.heap.size w3).alloc (Nat.le_refl _) (.cells #[.slice (some ⟨g1,0,none⟩) (Q.cnt p) (Q.cnt p),.slice (some ⟨g2,0,none⟩) (Q.cnt p) (Q.cnt p)] 103)
   have l1:=HA1.out.lt
   have l2:=ha2.lt
   have l3:=HB1.out.size
   have l4:=k2.size
   have l5:=HG1.out
   simp at hg2
   exact ⟨(HB1.out.trans (k2.mono l3)).trans (k3.mono (by omega)),heap_alloc_new w3 _,(HA1.out.below k2).below k3,ha2.below k3,by omega,by omega,by omega,by omega,by omega,by omega⟩
  have HK0:=Lib.hid hK0
  have c0:=(HPU.out.below hK0.low).c0
  clear hrep2 ha2 hb2 hg2 k2 hK0 HA1 HB1 HG1
  go_wp2_with fail
  generalize w3.alloc (.cells #[.slice (some ⟨g1,0,none⟩) (Q.cnt p) (Q.cnt p),.slice (some ⟨g2,0,none⟩) (Q.cnt p) (Q.cnt p)] 103)=W3 at HK0 c0 ⊢
  generalize w3.heap.size=lb at HK0 ⊢
  clear c0
  have hnb:=HOK.out.nb
  go_loopg [5,23] p.terms.length (fun gk i idx wr=>∃ k:Nat,idx=.int .i64 k∧k≤p.terms.length∧Hid (gk+k=p.terms.length)∧Hid (KI U wr lb g1 g2 (Q.cnt p) ⟨fun i=>if i < k then 1 else -1,fun _=>-1⟩))
  case atStart=>exact ⟨0,rfl,by omega,Lib.hid (by omega),Lib.hid (HK0.out.ext (fun i _=>by simp) (fun i _=>rfl))⟩
  case round =>
   clear HK0
   obtain ⟨k,rfl,hk,HK,HKI⟩:=hrel
   by_cases hlt:k < p.terms.length
   ·have hkc:k < Q.cnt p:=by unfold Q.cnt; omega
    obtain ⟨q0,_⟩:=HKI.out.c
    have y1:=HKI.out.a1.cell hkc
    have y1f:wr.frozen? ⟨g1,k,none⟩=false:=HKI.out.a1.fz _
    have HKU:=Lib.hid (HKI.out.setL k 1)
    have e0:(if k < k then (1:Int) else -1)=-1:=by simp
    clear e0
    go_wp2_with fail
    go_roundg (p.terms.length - (k+1))
    case measure=>have:=HK.out; omega
    case rel=>exact ⟨k+1,by go_num,by omega,Lib.hid (by omega),Lib.hid (HKU.out.ext (fun i _=>by
     show Q.up (fun i=>if i < k then 1 else -1) k 1 i=if i < k+1 then 1 else -1
     unfold Q.up
     by_cases h1:i=k
     ·rw [if_pos h1,if_pos (by omega)]
     ·rw [if_neg h1]
      show (if i < k then (1:Int) else -1)=_
      by_cases h2:i < k
      ·rw [if_pos h2,if_pos (by omega)]
      ·rw [if_neg h2,if_neg (by omega)]) (fun i _=>rfl))⟩
   ·obtain rfl:k=p.terms.length:=by omega
    have HP:=HPU
    have HR0:=HRU
    have HB:=HBU
    have HSZ:=HSU
    obtain ⟨s0,hs0⟩:∃ s0,s0=Q.len0 p:=⟨_,rfl⟩
    obtain ⟨f,hf⟩:∃ f,f=Q.lenF p:=⟨_,rfl⟩
    have HKI2:Hid (KI U wr lb g1 g2 (Q.cnt p) s0):=Lib.hid (by rw [hs0]; exact HKI.out)
    have HF:Hid (Q.weight (Q.cnt p) s0.long < f):=Lib.hid (by rw [hs0,hf]; unfold Q.lenF; omega)
    rw [← hs0,← hf] at HR
    clear HKI HK hlt hk hs0 hf hnb HPU HRU HBU HSU
    have HKI:=HKI2
    clear HKI2
    have c2:=(HP.out.below HKI.out.low).c2
    have hrl1:=HOK.out.r
    go_wp2_with fail
    go_step3
    go_wp2_with fail
    obtain ⟨RD,hRD⟩:∃ RD,RD=Q.round p s0:=⟨_,rfl⟩
    have HRD:Hid (Q.lenGo 0 (p.rules.drop 0) s0 false=RD):=Lib.hid (by rw [hRD]; rfl)
    have HD:=Lib.hid hRD
    clear hRD
    go_loopg [6,7,8,9,34] p.rules.length (fun gk ch i rp kk idx wr=>∃ (k:Nat) (cb:Bool) (s:Q.Ls),idx=.int .i64 k∧ch=.bool cb∧k≤p.rules.length∧Hid (gk+k=p.rules.length)∧Hid (KI U wr lb g1 g2 (Q.cnt p) s)∧Hid (Q.lenGo k (p.rules.drop k) s cb=RD))
    case atStart=>exact ⟨0,false,s0,rfl,rfl,by omega,Lib.hid (by omega),HKI,HRD⟩
    case round =>
     clear HKI HRD c2
     obtain ⟨k,cb,s,rfl,rfl,hk,HK,HKI,HGO⟩:=hrel
     have HPW:=Lib.hid (HP.out.below HKI.out.low)
     by_cases hlt:k < p.rules.length
     ·obtain ⟨b,off,na,nc,rfl,t0,t1,t2,hin⟩:=HPW.out.a.r k hlt
      have hl:=Q.left_lt HOK.out _ (List.getElem_mem hlt)
      have hr:=HOK.out.right _ (List.getElem_mem hlt)
      have hrl:=HOK.out.rl _ (List.getElem_mem hlt)
      have hgo:=HGO.out
      rw [List.drop_eq_getElem_cons hlt,Q.lenGo] at hgo
      generalize p.rules[k]=x at t0 t1 t2 hin hl hr hrl hgo
      have AL:=(Below.refl wr.heap.size wr).alloc (Nat.le_refl _) (.cells #[.int .i64 (x.left:Nat),.slice na x.right.length nc,.int .i64 (x.level:Nat)] 46)
      have hPx:=heap_alloc_new wr (.cells #[.int .i64 (x.left:Nat),.slice na x.right.length nc,.int .i64 (x.level:Nat)] 46)
      have HKY:=Lib.hid (HKI.out.below AL)
      have hcn:Q.cnt p≤10000:=by have:=HOK.out.nb; have:=HOK.out.m; unfold Q.cnt; omega
      have hsum:=sum_any (bb:=0) (bc:=0) (m:=0) (lc:=Q.cnt p) (rc:=nc) (nv:=.slice (some ⟨g2,0,none⟩) (Q.cnt p) (Q.cnt p)) HKY.out.a1 (hin.below AL) (by omega) (by omega) (fun y hy=>by have:=hr y hy; unfold Q.cnt; constructor; exact this.1; have:=this.2; push_cast at this ⊢; omega) rfl
      obtain ⟨K,hK⟩:∃ K,K=Q.sumF s.long x.right 0:=⟨_,rfl⟩
      rw [← hK] at hsum
      have HKK:=Lib.hid hK
      obtain ⟨q0,q1⟩:=HKY.out.c
      have x1:(wr.alloc (.cells #[.int .i64 (x.left:Nat),.slice na x.right.length nc,.int .i64 (x.level:Nat)] 46)).cell? ⟨wr.heap.size,1,none⟩=some (.slice na x.right.length nc):=by rw [cell_of_row _ _ _ _ _ _ hPx]; rfl
      have HPX:=Lib.hid hPx
      have HGOX:=Lib.hid hgo
      have hKM:K≤1099511627776:=by rw [hK]; have:=Q.sumF_le s.long x.right 0 (by unfold Q.M; omega); unfold Q.M at this; exact this
      have hxb:wr.heap.size < (wr.alloc (.cells #[.int .i64 (x.left:Nat),.slice na x.right.length nc,.int .i64 (x.level:Nat)] 46)).heap.size:=by simp
      clear AL hPx hK hgo hr hrl hin HGO
      go_wp2_with fail
      refine hsum.mono ?_
      rintro e V ⟨rfl,hbe⟩
      have HKV:=Lib.hid (HKY.out.below hbe)
      have hPV:=(hbe.block wr.heap.size hxb).trans HPX.out
      have hxV:wr.heap.size < V.heap.size:=Nat.lt_of_lt_of_le hxb hbe.size
      have HPV:=Lib.hid hPV
      have HGE:Hid (g1≠wr.heap.size):=Lib.hid (by have:=HKI.out.a1.lt; omega)
      clear hsum hbe q0 q1 x1 HKY HPX HKI t0 t1 t2 hxb
      generalize wr.heap.size=xb at HPV hPV hxV HGE ⊢
      obtain ⟨q0,q1⟩:=HKV.out.c
      have x0:V.cell? ⟨xb,0,none⟩=some (.int .i64 (x.left:Nat)):=by rw [cell_of_row _ _ _ _ _ _ hPV]; rfl
      have ql:=HKV.out.a1.cell hl
      obtain ⟨ll,hll⟩:∃ ll,ll=s.long x.left:=⟨_,rfl⟩
      rw [← hll] at ql
      have HLL:=Lib.hid hll
      clear hll hPV
      by_cases hneg:K < 0
      ·have d1:decide (K < 0)=true:=by simpa using hneg
       have hst:Hid (Q.lenGo (k+1) (p.rules.drop (k+1)) s cb=RD):=Lib.hid (by have:=HGOX.out; rw [Q.lenStep_no (.inl (by rw [← HKK.out]; exact hneg))] at this; exact this)
       clear hneg
       go_wp2_with fail
       go_roundg (p.rules.length - (k+1))
       case measure=>have:=HK.out; omega
       case rel=>exact ⟨k+1,cb,s,by go_num,rfl,by omega,Lib.hid (by omega),HKV,hst⟩
      ·have d1:decide (K < 0)=false:=by simpa using hneg
       by_cases hold:0≤ll∧ll≤K
       ·have d2:decide (0≤ll)=true:=by simpa using hold.1
        have d3:decide (ll≤K)=true:=by simpa using hold.2
        have hst:Hid (Q.lenGo (k+1) (p.rules.drop (k+1)) s cb=RD):=Lib.hid (by have:=HGOX.out; rw [Q.lenStep_no (.inr (by rw [← HKK.out,← HLL.out]; exact hold))] at this; exact this)
        clear hneg hold
        go_wp2_with fail
        go_roundg (p.rules.length - (k+1))
        case measure=>have:=HK.out; omega
        case rel=>exact ⟨k+1,cb,s,by go_num,rfl,by omega,Lib.hid (by omega),HKV,hst⟩
       ·have hst:Hid (Q.lenGo (k+1) (p.rules.drop (k+1)) ⟨Q.up s.long x.left K,Q.up s.by_ x.left (k:Nat)⟩ true=RD):=Lib.hid (by have:=HGOX.out; rw [Q.lenStep_yes (by rw [← HKK.out]; omega) (by rw [← HKK.out,← HLL.out]; omega),← HKK.out] at this; exact this)
        rcases Int.lt_or_le ll 0 with hll0 | hll0
        ·have d2:decide (0≤ll)=false:=by simpa using hll0
         have HKD:=Lib.hid (HKV.out.below (Below.refl _ _).drew)
         have HGX:Hid (g1≠xb):=Lib.hid HGE.out
         have z0:∀ z:Wq (fun b=>b=lb∨b=xb) V,z.w.cell? ⟨lb,0,none⟩=some (.slice (some ⟨g1,0,none⟩) (Q.cnt p) (Q.cnt p)):=fun z=>z.cell (.inl rfl) HKV.out.c.1
         have z1:∀ z:Wq (fun b=>b=lb∨b=xb) V,z.w.cell? ⟨lb,1,none⟩=some (.slice (some ⟨g2,0,none⟩) (Q.cnt p) (Q.cnt p)):=fun z=>z.cell (.inl rfl) HKV.out.c.2
         have zx:∀ z:Wq (fun b=>b=lb∨b=xb) V,z.w.cell? ⟨xb,0,none⟩=some (.int .i64 (x.left:Nat)):=fun z=>z.cell (.inr rfl) x0
         have y1:V.drew.cell? ⟨g1,x.left,none⟩=some (.int .i64 (s.long x.left)):=HKD.out.a1.cell hl
         have y1f:V.drew.frozen? ⟨g1,x.left,none⟩=false:=HKD.out.a1.fz _
         have y2:(V.drew.setCell ⟨g1,x.left,none⟩ (.int .i64 K)).cell? ⟨g2,x.left,none⟩=some (.int .i64 (s.by_ x.left)):=(HKD.out.setL x.left K).a2.cell hl
         have y2f:(V.drew.setCell ⟨g1,x.left,none⟩ (.int .i64 K)).frozen? ⟨g2,x.left,none⟩=false:=(HKD.out.setL x.left K).a2.fz _
         have HKU:=Lib.hid ((HKD.out.setL x.left K).setB x.left (k:Nat))
         clear hneg hold
         go_wp2_with fail
         refine region_gq [0,1,2,3,4,5,6,7,8,9,10] [11,12,13] 1 79 (fun b=>b=lb∨b=xb) ?_ (fun c a d v w h=>by cases d<;>exact h) (by kernel_rfl) (by kernel_rfl) (by rfl) ?_ ?_
         rotate_left
         ·intro z
          simp only [pickL,List.getElem?_cons_zero,List.getElem?_cons_succ]
          repeat (go_big_quiet_step (fail))
          refine wpQuiet_nil ?_
          exact rfl
         clear z0 z1 zx
         simp only [pickL,List.getElem?_cons_zero,List.getElem?_cons_succ]
         obtain ⟨cs1,hcs1,hcs2,_⟩:=HKD.out.a1
         have hneb:Hid (∀ b,(b=lb∨b=xb)→b≠g1):=Lib.hid (fun b hb=>by
          have e1:=HKD.out.d2
          have e2:=HGX.out
          rcases hb with hb | hb
          ·rw [hb]; exact Ne.symm e1
          ·rw [hb]; exact Ne.symm e2)
         refine listE_store_cell (by rfl) 3 _ _ (by rfl) g1 x.left (by rfl) (.int .i64 K) (by rfl) rfl int_size cs1 _ hcs1 (by omega) ⟨⟨⟨V.drew.setCell ⟨g1,x.left,none⟩ (.int .i64 K),⟨by simp [World.setCell],fun b _ hb=>heap_setCell_other V.drew ⟨g1,x.left,none⟩ b _ (hneb.out b hb)⟩⟩,rfl⟩,?_⟩
         change wpList _ _ _ _ _ _
         generalize V.drew.setCell ⟨g1,x.left,none⟩ (.int .i64 K)=VD at y2 y2f HKU ⊢
         simp only [Act.put]
         go_wp2_with fail
         go_roundg (p.rules.length - (k+1))
         case measure=>have:=HK.out; omega
         case rel=>exact ⟨k+1,true,⟨Q.up s.long x.left K,Q.up s.by_ x.left (k:Nat)⟩,by go_num,rfl,by omega,Lib.hid (by omega),HKU,hst⟩
        ·have d2:decide (0≤ll)=true:=by simpa using hll0
         have d3:decide (ll≤K)=false:=by simp; omega
         have HKD:=Lib.hid (HKV.out.below (Below.refl _ _).drew)
         have HGX:Hid (g1≠xb):=Lib.hid HGE.out
         have z0:∀ z:Wq (fun b=>b=lb∨b=xb) V,z.w.cell? ⟨lb,0,none⟩=some (.slice (some ⟨g1,0,none⟩) (Q.cnt p) (Q.cnt p)):=fun z=>z.cell (.inl rfl) HKV.out.c.1
         have z1:∀ z:Wq (fun b=>b=lb∨b=xb) V,z.w.cell? ⟨lb,1,none⟩=some (.slice (some ⟨g2,0,none⟩) (Q.cnt p) (Q.cnt p)):=fun z=>z.cell (.inl rfl) HKV.out.c.2
         have zx:∀ z:Wq (fun b=>b=lb∨b=xb) V,z.w.cell? ⟨xb,0,none⟩=some (.int .i64 (x.left:Nat)):=fun z=>z.cell (.inr rfl) x0
         have y1:V.drew.cell? ⟨g1,x.left,none⟩=some (.int .i64 (s.long x.left)):=HKD.out.a1.cell hl
         have y1f:V.drew.frozen? ⟨g1,x.left,none⟩=false:=HKD.out.a1.fz _
         have y2:(V.drew.setCell ⟨g1,x.left,none⟩ (.int .i64 K)).cell? ⟨g2,x.left,none⟩=some (.int .i64 (s.by_ x.left)):=(HKD.out.setL x.left K).a2.cell hl
         have y2f:(V.drew.setCell ⟨g1,x.left,none⟩ (.int .i64 K)).frozen? ⟨g2,x.left,none⟩=false:=(HKD.out.setL x.left K).a2.fz _
         have HKU:=Lib.hid ((HKD.out.setL x.left K).setB x.left (k:Nat))
         clear hneg hold
         go_wp2_with fail
         refine region_gq [0,1,2,3,4,5,6,7,8,9,10] [11,12,13] 1 79 (fun b=>b=lb∨b=xb) ?_ (fun c a d v w h=>by cases d<;>exact h) (by kernel_rfl) (by kernel_rfl) (by rfl) ?_ ?_
         rotate_left
         ·intro z
          simp only [pickL,List.getElem?_cons_zero,List.getElem?_cons_succ]
          repeat (go_big_quiet_step (fail))
          refine wpQuiet_nil ?_
          exact rfl
         clear z0 z1 zx
         simp only [pickL,List.getElem?_cons_zero,List.getElem?_cons_succ]
         obtain ⟨cs1,hcs1,hcs2,_⟩:=HKD.out.a1
         have hneb:Hid (∀ b,(b=lb∨b=xb)→b≠g1):=Lib.hid (fun b hb=>by
          have e1:=HKD.out.d2
          have e2:=HGX.out
          rcases hb with hb | hb
          ·rw [hb]; exact Ne.symm e1
          ·rw [hb]; exact Ne.symm e2)
         refine listE_store_cell (by rfl) 3 _ _ (by rfl) g1 x.left (by rfl) (.int .i64 K) (by rfl) rfl int_size cs1 _ hcs1 (by omega) ⟨⟨⟨V.drew.setCell ⟨g1,x.left,none⟩ (.int .i64 K),⟨by simp [World.setCell],fun b _ hb=>heap_setCell_other V.drew ⟨g1,x.left,none⟩ b _ (hneb.out b hb)⟩⟩,rfl⟩,?_⟩
         change wpList _ _ _ _ _ _
         generalize V.drew.setCell ⟨g1,x.left,none⟩ (.int .i64 K)=VD at y2 y2f HKU ⊢
         simp only [Act.put]
         go_wp2_with fail
         go_roundg (p.rules.length - (k+1))
         case measure=>have:=HK.out; omega
         case rel=>exact ⟨k+1,true,⟨Q.up s.long x.left K,Q.up s.by_ x.left (k:Nat)⟩,by go_num,rfl,by omega,Lib.hid (by omega),HKU,hst⟩
     ·obtain rfl:k=p.rules.length:=by omega
      have hgo:=HGO.out
      rw [List.drop_length,Q.lenGo] at hgo
      have HRs:=Lib.hid hgo
      clear hgo HGO HK hlt hk
      obtain ⟨f2,hf2⟩:∃ f2,f=f2+1:=⟨f - 1,by have:=HF.out; omega⟩
      subst hf2
      cases cb
      case true =>
       have hrd2:(Q.round p s0).2=true:=by rw [← HD.out,← HRs.out]
       have hrd1:(Q.round p s0).1=s:=by rw [← HD.out,← HRs.out]
       have hlt:=Q.round_less HOK.out s0 hrd2
       have hrun:=HR.out
       rw [Q.run_go hrd2,hrd1] at hrun
       rw [hrd1] at hlt
       have HL:=Lib.hid (And.intro hlt hrun)
       clear hrd2 hrd1 hlt hrun HRs
       go_wp2_with fail
       go_step3
       exact ⟨rfl,Q.weight (Q.cnt p) s.long,by rw [HJ.out]; exact ⟨U,lb,g1,g2,f2,s,Exists.imp (fun us h=>⟨h,HP,HR0,HB,HSZ,HKI,Lib.hid HL.out.2,Lib.hid (by have:=HF.out; have:=HL.out.1; omega),rfl⟩) (act_lit _ rfl rfl rfl rfl rfl rfl rfl)⟩⟩
      case false =>
       have hrd2:(Q.round p s0).2=false:=by rw [← HD.out,← HRs.out]
       have hrd1:(Q.round p s0).1=s:=by rw [← HD.out,← HRs.out]
       have hrun:=HR.out
       rw [Q.run_end hrd2,hrd1] at hrun
       have HL:=Lib.hid hrun
       obtain ⟨q0,q1⟩:=HKI.out.c
       have hg0:wr.heap[rb]?=some (.cells #[.slice none 0 0,.slice none 0 0] 103 (0,0)):=(HKI.out.low.block _ (by have:=HPB.out.2; have:=HSZ.out; omega)).trans HR0.out
       have HW:Hid (Below w.heap.size w (wr.setRow rb #[.slice (some ⟨g1,0,none⟩) (Q.cnt p) (Q.cnt p),.slice (some ⟨g2,0,none⟩) (Q.cnt p) (Q.cnt p)])):=Lib.hid (by
        have h1:=HB.out.trans (HKI.out.low.mono HB.out.size)
        have hrb:=HPB.out.2
        exact ⟨h1.os,h1.tape,h1.output,by simp; exact h1.size,fun k hk=>(setRow_other _ _ _ _ (by omega)).trans (h1.block k hk)⟩)
       have HN:Hid (rb < U.heap.size∧w.heap.size≤U.heap.size):=Lib.hid ⟨by have:=HPB.out.2; have:=HSZ.out; omega,HB.out.size⟩
       clear hrd2 hrd1 hrun HRs
       go_wp2_with (refine list_store_row rfl 103 _ _ rfl rb rfl _ rfl _ 103 hg0 rfl lens_size (by simp [Value.oneCell']) ?_)
       simp only [Exit.jump]
       exact bodyPost_ret (results_cell_row rfl _ _ rb 103 #[.slice (some ⟨g1,0,none⟩) (Q.cnt p) (Q.cnt p),.slice (some ⟨g2,0,none⟩) (Q.cnt p) (Q.cnt p)] (0,0) _ (by rfl) (setRow_heap _ _ _ _ _ _ hg0) Tryd.underlying103 rfl lens_size) rfl ⟨g1,g2,rfl,by rw [← HL.out]; exact HKI.out.a1.kept (setRow_other _ _ _ _ (by have:=HKI.out.b1; have:=HN.out; omega)),by rw [← HL.out]; exact HKI.out.a2.kept (setRow_other _ _ _ _ (by have:=HKI.out.b2; have:=HN.out; omega)),by have:=HKI.out.b1; have:=HN.out; omega,by have:=HKI.out.b2; have:=HN.out; omega,HW.out⟩
 ·intro kg a W2 hj
  rw [HJ.out] at hj
  obtain ⟨U,lb,g1,g2,f,s0,us,rfl,HP,HR0,HB,HSZ,HKI,HR,HF,rfl⟩:=hj
  have c2:=(HP.out.below HKI.out.low).c2
  have hrl1:=HOK.out.r
  go_wp2_with fail
  obtain ⟨RD,hRD⟩:∃ RD,RD=Q.round p s0:=⟨_,rfl⟩
  have HRD:Hid (Q.lenGo 0 (p.rules.drop 0) s0 false=RD):=Lib.hid (by rw [hRD]; rfl)
  have HD:=Lib.hid hRD
  clear hRD
  go_loopg [6,7,8,9,34] p.rules.length (fun gk ch i rp kk idx wr=>∃ (k:Nat) (cb:Bool) (s:Q.Ls),idx=.int .i64 k∧ch=.bool cb∧k≤p.rules.length∧Hid (gk+k=p.rules.length)∧Hid (KI U wr lb g1 g2 (Q.cnt p) s)∧Hid (Q.lenGo k (p.rules.drop k) s cb=RD))
  case atStart=>exact ⟨0,false,s0,rfl,rfl,by omega,Lib.hid (by omega),HKI,HRD⟩
  case round =>
   clear HKI HRD c2
   obtain ⟨k,cb,s,rfl,rfl,hk,HK,HKI,HGO⟩:=hrel
   have HPW:=Lib.hid (HP.out.below HKI.out.low)
   by_cases hlt:k < p.rules.length
   ·obtain ⟨b,off,na,nc,rfl,t0,t1,t2,hin⟩:=HPW.out.a.r k hlt
    have hl:=Q.left_lt HOK.out _ (List.getElem_mem hlt)
    have hr:=HOK.out.right _ (List.getElem_mem hlt)
    have hrl:=HOK.out.rl _ (List.getElem_mem hlt)
    have hgo:=HGO.out
    rw [List.drop_eq_getElem_cons hlt,Q.lenGo] at hgo
    generalize p.rules[k]=x at t0 t1 t2 hin hl hr hrl hgo
    have AL:=(Below.refl wr.heap.size wr).alloc (Nat.le_refl _) (.cells #[.int .i64 (x.left:Nat),.slice na x.right.length nc,.int .i64 (x.level:Nat)] 46)
    have hPx:=heap_alloc_new wr (.cells #[.int .i64 (x.left:Nat),.slice na x.right.length nc,.int .i64 (x.level:Nat)] 46)
    have HKY:=Lib.hid (HKI.out.below AL)
    have hcn:Q.cnt p≤10000:=by have:=HOK.out.nb; have:=HOK.out.m; unfold Q.cnt; omega
    have hsum:=sum_any (bb:=0) (bc:=0) (m:=0) (lc:=Q.cnt p) (rc:=nc) (nv:=.slice (some ⟨g2,0,none⟩) (Q.cnt p) (Q.cnt p)) HKY.out.a1 (hin.below AL) (by omega) (by omega) (fun y hy=>by have:=hr y hy; unfold Q.cnt; constructor; exact this.1; have:=this.2; push_cast at this ⊢; omega) rfl
    obtain ⟨K,hK⟩:∃ K,K=Q.sumF s.long x.right 0:=⟨_,rfl⟩
    rw [← hK] at hsum
    have HKK:=Lib.hid hK
    obtain ⟨q0,q1⟩:=HKY.out.c
    have x1:(wr.alloc (.cells #[.int .i64 (x.left:Nat),.slice na x.right.length nc,.int .i64 (x.level:Nat)] 46)).cell? ⟨wr.heap.size,1,none⟩=some (.slice na x.right.length nc):=by rw [cell_of_row _ _ _ _ _ _ hPx]; rfl
    have HPX:=Lib.hid hPx
    have HGOX:=Lib.hid hgo
    have hKM:K≤1099511627776:=by rw [hK]; have:=Q.sumF_le s.long x.right 0 (by unfold Q.M; omega); unfold Q.M at this; exact this
    have hxb:wr.heap.size < (wr.alloc (.cells #[.int .i64 (x.left:Nat),.slice na x.right.length nc,.int .i64 (x.level:Nat)] 46)).heap.size:=by simp
    clear AL hPx hK hgo hr hrl hin HGO
    go_wp2_with fail
    refine hsum.mono ?_
    rintro e V ⟨rfl,hbe⟩
    have HKV:=Lib.hid (HKY.out.below hbe)
    have hPV:=(hbe.block wr.heap.size hxb).trans HPX.out
    have hxV:wr.heap.size < V.heap.size:=Nat.lt_of_lt_of_le hxb hbe.size
    have HPV:=Lib.hid hPV
    have HGE:Hid (g1≠wr.heap.size):=Lib.hid (by have:=HKI.out.a1.lt; omega)
    clear hsum hbe q0 q1 x1 HKY HPX HKI t0 t1 t2 hxb
    generalize wr.heap.size=xb at HPV hPV hxV HGE ⊢
    obtain ⟨q0,q1⟩:=HKV.out.c
    have x0:V.cell? ⟨xb,0,none⟩=some (.int .i64 (x.left:Nat)):=by rw [cell_of_row _ _ _ _ _ _ hPV]; rfl
    have ql:=HKV.out.a1.cell hl
    obtain ⟨ll,hll⟩:∃ ll,ll=s.long x.left:=⟨_,rfl⟩
    rw [← hll] at ql
    have HLL:=Lib.hid hll
    clear hll hPV
    by_cases hneg:K < 0
    ·have d1:decide (K < 0)=true:=by simpa using hneg
     have hst:Hid (Q.lenGo (k+1) (p.rules.drop (k+1)) s cb=RD):=Lib.hid (by have:=HGOX.out; rw [Q.lenStep_no (.inl (by rw [← HKK.out]; exact hneg))] at this; exact this)
     clear hneg
     go_wp2_with fail
     go_roundg (p.rules.length - (k+1))
     case measure=>have:=HK.out; omega
     case rel=>exact ⟨k+1,cb,s,by go_num,rfl,by omega,Lib.hid (by omega),HKV,hst⟩
    ·have d1:decide (K < 0)=false:=by simpa using hneg
     by_cases hold:0≤ll∧ll≤K
     ·have d2:decide (0≤ll)=true:=by simpa using hold.1
      have d3:decide (ll≤K)=true:=by simpa using hold.2
      have hst:Hid (Q.lenGo (k+1) (p.rules.drop (k+1)) s cb=RD):=Lib.hid (by have:=HGOX.out; rw [Q.lenStep_no (.inr (by rw [← HKK.out,← HLL.out]; exact hold))] at this; exact this)
      clear hneg hold
      go_wp2_with fail
      go_roundg (p.rules.length - (k+1))
      case measure=>have:=HK.out; omega
      case rel=>exact ⟨k+1,cb,s,by go_num,rfl,by omega,Lib.hid (by omega),HKV,hst⟩
     ·have hst:Hid (Q.lenGo (k+1) (p.rules.drop (k+1)) ⟨Q.up s.long x.left K,Q.up s.by_ x.left (k:Nat)⟩ true=RD):=Lib.hid (by have:=HGOX.out; rw [Q.lenStep_yes (by rw [← HKK.out]; omega) (by rw [← HKK.out,← HLL.out]; omega),← HKK.out] at this; exact this)
      rcases Int.lt_or_le ll 0 with hll0 | hll0
      ·have d2:decide (0≤ll)=false:=by simpa using hll0
       have HKD:=Lib.hid (HKV.out.below (Below.refl _ _).drew)
       have HGX:Hid (g1≠xb):=Lib.hid HGE.out
       have z0:∀ z:Wq (fun b=>b=lb∨b=xb) V,z.w.cell? ⟨lb,0,none⟩=some (.slice (some ⟨g1,0,none⟩) (Q.cnt p) (Q.cnt p)):=fun z=>z.cell (.inl rfl) HKV.out.c.1
       have z1:∀ z:Wq (fun b=>b=lb∨b=xb) V,z.w.cell? ⟨lb,1,none⟩=some (.slice (some ⟨g2,0,none⟩) (Q.cnt p) (Q.cnt p)):=fun z=>z.cell (.inl rfl) HKV.out.c.2
       have zx:∀ z:Wq (fun b=>b=lb∨b=xb) V,z.w.cell? ⟨xb,0,none⟩=some (.int .i64 (x.left:Nat)):=fun z=>z.cell (.inr rfl) x0
       have y1:V.drew.cell? ⟨g1,x.left,none⟩=some (.int .i64 (s.long x.left)):=HKD.out.a1.cell hl
       have y1f:V.drew.frozen? ⟨g1,x.left,none⟩=false:=HKD.out.a1.fz _
       have y2:(V.drew.setCell ⟨g1,x.left,none⟩ (.int .i64 K)).cell? ⟨g2,x.left,none⟩=some (.int .i64 (s.by_ x.left)):=(HKD.out.setL x.left K).a2.cell hl
       have y2f:(V.drew.setCell ⟨g1,x.left,none⟩ (.int .i64 K)).frozen? ⟨g2,x.left,none⟩=false:=(HKD.out.setL x.left K).a2.fz _
       have HKU:=Lib.hid ((HKD.out.setL x.left K).setB x.left (k:Nat))
       clear hneg hold
       go_wp2_with fail
       refine region_gq [0,1,2,3,4,5,6,7,8,9,10] [11,12,13] 1 79 (fun b=>b=lb∨b=xb) ?_ (fun c a d v w h=>by cases d<;>exact h) (by kernel_rfl) (by kernel_rfl) (by rfl) ?_ ?_
       rotate_left
       ·intro z
        simp only [pickL,List.getElem?_cons_zero,List.getElem?_cons_succ]
        repeat (go_big_quiet_step (fail))
        refine wpQuiet_nil ?_
        exact rfl
       clear z0 z1 zx
       simp only [pickL,List.getElem?_cons_zero,List.getElem?_cons_succ]
       obtain ⟨cs1,hcs1,hcs2,_⟩:=HKD.out.a1
       have hneb:Hid (∀ b,(b=lb∨b=xb)→b≠g1):=Lib.hid (fun b hb=>by
        have e1:=HKD.out.d2
        have e2:=HGX.out
        rcases hb with hb | hb
        ·rw [hb]; exact Ne.symm e1
        ·rw [hb]; exact Ne.symm e2)
       refine listE_store_cell (by rfl) 3 _ _ (by rfl) g1 x.left (by rfl) (.int .i64 K) (by rfl) rfl int_size cs1 _ hcs1 (by omega) ⟨⟨⟨V.drew.setCell ⟨g1,x.left,none⟩ (.int .i64 K),⟨by simp [World.setCell],fun b _ hb=>heap_setCell_other V.drew ⟨g1,x.left,none⟩ b _ (hneb.out b hb)⟩⟩,rfl⟩,?_⟩
       change wpList _ _ _ _ _ _
       generalize V.drew.setCell ⟨g1,x.left,none⟩ (.int .i64 K)=VD at y2 y2f HKU ⊢
       simp only [Act.put]
       go_wp2_with fail
       go_roundg (p.rules.length - (k+1))
       case measure=>have:=HK.out; omega
       case rel=>exact ⟨k+1,true,⟨Q.up s.long x.left K,Q.up s.by_ x.left (k:Nat)⟩,by go_num,rfl,by omega,Lib.hid (by omega),HKU,hst⟩
      ·have d2:decide (0≤ll)=true:=by simpa using hll0
       have d3:decide (ll≤K)=false:=by simp; omega
       have HKD:=Lib.hid (HKV.out.below (Below.refl _ _).drew)
       have HGX:Hid (g1≠xb):=Lib.hid HGE.out
       have z0:∀ z:Wq (fun b=>b=lb∨b=xb) V,z.w.cell? ⟨lb,0,none⟩=some (.slice (some ⟨g1,0,none⟩) (Q.cnt p) (Q.cnt p)):=fun z=>z.cell (.inl rfl) HKV.out.c.1
       have z1:∀ z:Wq (fun b=>b=lb∨b=xb) V,z.w.cell? ⟨lb,1,none⟩=some (.slice (some ⟨g2,0,none⟩) (Q.cnt p) (Q.cnt p)):=fun z=>z.cell (.inl rfl) HKV.out.c.2
       have zx:∀ z:Wq (fun b=>b=lb∨b=xb) V,z.w.cell? ⟨xb,0,none⟩=some (.int .i64 (x.left:Nat)):=fun z=>z.cell (.inr rfl) x0
       have y1:V.drew.cell? ⟨g1,x.left,none⟩=some (.int .i64 (s.long x.left)):=HKD.out.a1.cell hl
       have y1f:V.drew.frozen? ⟨g1,x.left,none⟩=false:=HKD.out.a1.fz _
       have y2:(V.drew.setCell ⟨g1,x.left,none⟩ (.int .i64 K)).cell? ⟨g2,x.left,none⟩=some (.int .i64 (s.by_ x.left)):=(HKD.out.setL x.left K).a2.cell hl
       have y2f:(V.drew.setCell ⟨g1,x.left,none⟩ (.int .i64 K)).frozen? ⟨g2,x.left,none⟩=false:=(HKD.out.setL x.left K).a2.fz _
       have HKU:=Lib.hid ((HKD.out.setL x.left K).setB x.left (k:Nat))
       clear hneg hold
       go_wp2_with fail
       refine region_gq [0,1,2,3,4,5,6,7,8,9,10] [11,12,13] 1 79 (fun b=>b=lb∨b=xb) ?_ (fun c a d v w h=>by cases d<;>exact h) (by kernel_rfl) (by kernel_rfl) (by rfl) ?_ ?_
       rotate_left
       ·intro z
        simp only [pickL,List.getElem?_cons_zero,List.getElem?_cons_succ]
        repeat (go_big_quiet_step (fail))
        refine wpQuiet_nil ?_
        exact rfl
       clear z0 z1 zx
       simp only [pickL,List.getElem?_cons_zero,List.getElem?_cons_succ]
       obtain ⟨cs1,hcs1,hcs2,_⟩:=HKD.out.a1
       have hneb:Hid (∀ b,(b=lb∨b=xb)→b≠g1):=Lib.hid (fun b hb=>by
        have e1:=HKD.out.d2
        have e2:=HGX.out
        rcases hb with hb | hb
        ·rw [hb]; exact Ne.symm e1
        ·rw [hb]; exact Ne.symm e2)
       refine listE_store_cell (by rfl) 3 _ _ (by rfl) g1 x.left (by rfl) (.int .i64 K) (by rfl) rfl int_size cs1 _ hcs1 (by omega) ⟨⟨⟨V.drew.setCell ⟨g1,x.left,none⟩ (.int .i64 K),⟨by simp [World.setCell],fun b _ hb=>heap_setCell_other V.drew ⟨g1,x.left,none⟩ b _ (hneb.out b hb)⟩⟩,rfl⟩,?_⟩
       change wpList _ _ _ _ _ _
       generalize V.drew.setCell ⟨g1,x.left,none⟩ (.int .i64 K)=VD at y2 y2f HKU ⊢
       simp only [Act.put]
       go_wp2_with fail
       go_roundg (p.rules.length - (k+1))
       case measure=>have:=HK.out; omega
       case rel=>exact ⟨k+1,true,⟨Q.up s.long x.left K,Q.up s.by_ x.left (k:Nat)⟩,by go_num,rfl,by omega,Lib.hid (by omega),HKU,hst⟩
   ·obtain rfl:k=p.rules.length:=by omega
    have hgo:=HGO.out
    rw [List.drop_length,Q.lenGo] at hgo
    have HRs:=Lib.hid hgo
    clear hgo HGO HK hlt hk
    obtain ⟨f2,hf2⟩:∃ f2,f=f2+1:=⟨f - 1,by have:=HF.out; omega⟩
    subst hf2
    cases cb
    case true =>
     have hrd2:(Q.round p s0).2=true:=by rw [← HD.out,← HRs.out]
     have hrd1:(Q.round p s0).1=s:=by rw [← HD.out,← HRs.out]
     have hlt:=Q.round_less HOK.out s0 hrd2
     have hrun:=HR.out
     rw [Q.run_go hrd2,hrd1] at hrun
     rw [hrd1] at hlt
     have HL:=Lib.hid (And.intro hlt hrun)
     clear hrd2 hrd1 hlt hrun HRs
     go_wp2_with fail
     go_step3
     exact ⟨rfl,Q.weight (Q.cnt p) s.long,HL.out.1,by rw [HJ.out]; exact ⟨U,lb,g1,g2,f2,s,Exists.imp (fun us h=>⟨h,HP,HR0,HB,HSZ,HKI,Lib.hid HL.out.2,Lib.hid (by have:=HF.out; have:=HL.out.1; omega),rfl⟩) (act_lit _ rfl rfl rfl rfl rfl rfl rfl)⟩⟩
    case false =>
     have hrd2:(Q.round p s0).2=false:=by rw [← HD.out,← HRs.out]
     have hrd1:(Q.round p s0).1=s:=by rw [← HD.out,← HRs.out]
     have hrun:=HR.out
     rw [Q.run_end hrd2,hrd1] at hrun
     have HL:=Lib.hid hrun
     obtain ⟨q0,q1⟩:=HKI.out.c
     have hg0:wr.heap[rb]?=some (.cells #[.slice none 0 0,.slice none 0 0] 103 (0,0)):=(HKI.out.low.block _ (by have:=HPB.out.2; have:=HSZ.out; omega)).trans HR0.out
     have HW:Hid (Below w.heap.size w (wr.setRow rb #[.slice (some ⟨g1,0,none⟩) (Q.cnt p) (Q.cnt p),.slice (some ⟨g2,0,none⟩) (Q.cnt p) (Q.cnt p)])):=Lib.hid (by
      have h1:=HB.out.trans (HKI.out.low.mono HB.out.size)
      have hrb:=HPB.out.2
      exact ⟨h1.os,h1.tape,h1.output,by simp; exact h1.size,fun k hk=>(setRow_other _ _ _ _ (by omega)).trans (h1.block k hk)⟩)
     have HN:Hid (rb < U.heap.size∧w.heap.size≤U.heap.size):=Lib.hid ⟨by have:=HPB.out.2; have:=HSZ.out; omega,HB.out.size⟩
     clear hrd2 hrd1 hrun HRs
     go_wp2_with (refine list_store_row rfl 103 _ _ rfl rb rfl _ rfl _ 103 hg0 rfl lens_size (by simp [Value.oneCell']) ?_)
     simp only [Exit.jump]
     exact bodyPost_ret (results_cell_row rfl _ _ rb 103 #[.slice (some ⟨g1,0,none⟩) (Q.cnt p) (Q.cnt p),.slice (some ⟨g2,0,none⟩) (Q.cnt p) (Q.cnt p)] (0,0) _ (by rfl) (setRow_heap _ _ _ _ _ _ hg0) Tryd.underlying103 rfl lens_size) rfl ⟨g1,g2,rfl,by rw [← HL.out]; exact HKI.out.a1.kept (setRow_other _ _ _ _ (by have:=HKI.out.b1; have:=HN.out; omega)),by rw [← HL.out]; exact HKI.out.a2.kept (setRow_other _ _ _ _ (by have:=HKI.out.b2; have:=HN.out; omega)),by have:=HKI.out.b1; have:=HN.out; omega,by have:=HKI.out.b2; have:=HN.out; omega,HW.out⟩
end Go.Proofs.YtjbggogbnckllaaDoor
