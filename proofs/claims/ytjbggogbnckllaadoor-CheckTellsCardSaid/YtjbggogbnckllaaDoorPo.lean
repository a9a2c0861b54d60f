/-
  The walk of the reference of chapter 8 where a grammar has no plan.
-/
import Derived.Test.YtjbggogbnckllaaDoorPlH
import Derived.Test.YtjbggogbnckllaaDoorPn
import Derived.Test.YtjbggogbnckllaaDoorAk
namespace Go.Proofs.YtjbggogbnckllaaDoor
open Go.RowKit
set_option linter.unusedVariables false
set_option linter.unusedSimpArgs false
theorem low_row1 {w W:World} {b:Nat} {x:Array Value} (h:Below w.heap.size w W) (hb:w.heap.size≤b):Below w.heap.size w (W.setRow b x) :=
 h.trans ⟨rfl,rfl,rfl,by simp,fun i hi=>setRow_other _ _ _ _ (by omega)⟩
theorem zplan_no_str (j:Nat) (s:ByteArray):(#[.slice none 0 0,.slice none 0 0,.slice none 0 0,.slice none 0 0,.slice none 0 0,.slice none 0 0]:Array Value)[j]?=some (.string s)→False:=by
 intro h
 match j with
 | 0 | 1 | 2 | 3 | 4 | 5=>simp at h
 | j+6=>simp at h
def planW (g:Rd.Gr):Pl.Plan :=
 let tm:=Pl.endS::g.toks.map (·.name)
 let vs:=Pl.vars g.rules
 let lv:=0::g.toks.map (fun t=>Pl.level g.levs t.name)
 ⟨tm,vs,⟨tm.length+vs.length,[Pl.sym tm vs g.start],0⟩::g.rules.map (fun r=>match Pl.prod g.levs tm vs lv r with | .ok x=>x | .bad _=>⟨0,[],0⟩),lv,0::g.levs.map (·.assoc),Rd.E::g.rules.map (·.action)⟩
/-- What a plan would be made of. -/
structure OfW (g:Rd.Gr) (p:Pl.Plan):Prop where
 terms:p.terms=Pl.endS::g.toks.map (·.name)
 levels:p.levels=0::g.toks.map (fun t=>Pl.level g.levs t.name)
 vars:p.vars=Pl.vars g.rules
 assocs:p.assocs=0::g.levs.map (·.assoc)
 acts:p.acts=Rd.E::g.rules.map (·.action)
 len:p.rules.length=g.rules.length+1
 r0:p.rules[0]?=some ⟨p.terms.length+p.vars.length,[Pl.sym p.terms p.vars g.start],0⟩
 r:∀ i (hi:i < g.rules.length),∀ x,Pl.prod g.levs p.terms p.vars p.levels g.rules[i]=.ok x→p.rules[i+1]?=some x
theorem ofW (g:Rd.Gr):OfW g (planW g):=by
 refine ⟨rfl,rfl,rfl,rfl,rfl,by simp [planW],by simp [planW],fun i hi x hx=>?_⟩
 unfold planW at hx ⊢
 simp only [List.getElem?_cons_succ,List.getElem?_map,List.getElem?_eq_getElem hi,Option.map_some]
 simp only at hx
 rw [hx]
theorem of_some {g:Rd.Gr} (hr:Pl.right g=true) (h1:∀ t ∈ g.toks,t.name ∉ Pl.vars g.rules) (h2:∀ j (hj:j < g.rules.length),∃ x,Pl.prod g.levs (Pl.endS::g.toks.map (·.name)) (Pl.vars g.rules) (0::g.toks.map (fun t=>Pl.level g.levs t.name)) g.rules[j]=.ok x) (h3:g.start ∈ Pl.vars g.rules) (hno:∀ p s,Pl.of g≠(p,0,s)):False:=by
 obtain ⟨q,hq⟩:=Pl.toks_some (ls:=g.levs) (vs:=Pl.vars g.rules) g.toks [Pl.endS] [0] h1
 obtain ⟨_,he⟩:=toks_ok hq
 obtain ⟨qr,hqr⟩:=Pl.prods_some (ls:=g.levs) (tm:=Pl.endS::g.toks.map (·.name)) (vs:=Pl.vars g.rules) (lv:=0::g.toks.map (fun t=>Pl.level g.levs t.name)) g.rules [⟨(Pl.endS::g.toks.map (·.name)).length+(Pl.vars g.rules).length,[Pl.sym (Pl.endS::g.toks.map (·.name)) (Pl.vars g.rules) g.start],0⟩] (fun r hm=>by
  obtain ⟨j,hj,rfl⟩:=List.getElem_of_mem hm
  exact h2 j hj)
 have key:∃ p,Pl.of g=(p,0,Rd.E):=by
  unfold Pl.of
  rw [hr]
  simp only [Bool.not_true,Bool.false_eq_true,if_false]
  rw [hq,he]
  simp only [List.cons_append,List.nil_append]
  rw [hqr]
  simp only
  rw [if_pos (place_iff.2 h3)]
  exact ⟨_,rfl⟩
 obtain ⟨p,e⟩:=key
 exact hno _ _ e
theorem rt_step {tm vs:List ByteArray} {lv:List Nat} {s:ByteArray} {r:List ByteArray} {l:List Int} {k y:Nat} {R:Pl.Res (List Int×Nat)} (h:Pl.rt tm vs lv (s::r) l k=R) (hs:Pl.sym tm vs s=(y:Nat)):Pl.rt tm vs lv r (l++[((y:Nat):Int)]) (if y < tm.length then lv.getD y 0 else k)=R:=by
 rw [Pl.rt,hs,if_neg (by omega)] at h
 rw [← h]
 congr 1
 simp
theorem prod_end {ls:List Rd.Lev} {tm vs:List ByteArray} {lv:List Nat} {x:Rd.Rul} {l:List Int} {lev lv0:Nat} (h:Pl.rt tm vs lv x.right [] 0=.ok (l,lev)) (hl:lv0=(Pl.sym tm vs x.left).toNat) :
  (∃ px:Pl.Prod,px.left=lv0∧px.right=l∧((x.prec.size == 0)=true∧px.level=lev∨(x.prec.size == 0)=false∧Pl.level ls x.prec≠0∧px.level=Pl.level ls x.prec)∧Pl.prod ls tm vs lv x=.ok px)∨((x.prec.size == 0)=false∧Pl.level ls x.prec=0):=by
 cases h0:(x.prec.size == 0) with
 | true=>exact .inl ⟨⟨lv0,l,lev⟩,rfl,rfl,.inl ⟨rfl,rfl⟩,by unfold Pl.prod; rw [h]; simp only; rw [h0,hl]; rfl⟩
 | false =>
  by_cases hz:Pl.level ls x.prec=0
  ·exact .inr ⟨rfl,hz⟩
  ·exact .inl ⟨⟨lv0,l,Pl.level ls x.prec⟩,rfl,rfl,.inr ⟨rfl,hz,rfl⟩,by
    unfold Pl.prod; rw [h]; simp only; rw [h0,hl]
    simp [hz]⟩
theorem oi_ruleZ {U W:World} {pb:Nat} {T V L A C:Value} {a b d e f:Rw} (left:Nat) (y:Int) (h:OI U W pb #[T,V,.slice none 0 0,L,A,C] [] [a,b,rP (.slice none 0 0) 0 [] [],d,e,f]) :
  OI U (((W.alloc (.cells #[.int .i64 y] 3)).alloc (.cells #[.int .i64 (left:Nat),.slice (some ⟨W.heap.size,0,none⟩) 1 1,.int .i64 0] 46)).setCell ⟨pb,2,none⟩ (.slice (some ⟨W.heap.size+1,0,none⟩) 1 1)) pb
   #[T,V,.slice (some ⟨W.heap.size+1,0,none⟩) 1 1,L,A,C] []
   ([a,b,rP (.slice (some ⟨W.heap.size+1,0,none⟩) 1 1) 1 [⟨left,[y],0⟩] [.slice (some ⟨W.heap.size,0,none⟩) 1 1],d,e,f]++rX [⟨left,[y],0⟩] [.slice (some ⟨W.heap.size,0,none⟩) 1 1]):=by
 have m1:(1:Nat)≤maxLen:=by unfold maxLen; omega
 have h1:=h.made 3 1 1 #[.int .i64 y] rfl m1
 have h2:=h1.made 46 3 1 #[.int .i64 (left:Nat),.slice (some ⟨W.heap.size,0,none⟩) 1 1,.int .i64 0] rfl m1
 simp only [World.size_alloc] at h2
 have h3:=h2.p2 (.slice (some ⟨W.heap.size+1,0,none⟩) 1 1)
 refine OI.drop (r:=rP (.slice none 0 0) 0 [] []) (h3.perm ?_)
 show List.Perm [rP (.slice (some ⟨W.heap.size+1,0,none⟩) 1 1) 1 [⟨left,[y],0⟩] [.slice (some ⟨W.heap.size,0,none⟩) 1 1],rI (.slice (some ⟨W.heap.size,0,none⟩) 1 1) 1 [y],a,b,rP (.slice none 0 0) 0 [] [],d,e,f] [rP (.slice none 0 0) 0 [] [],a,b,rP (.slice (some ⟨W.heap.size+1,0,none⟩) 1 1) 1 [⟨left,[y],0⟩] [.slice (some ⟨W.heap.size,0,none⟩) 1 1],d,e,f,rI (.slice (some ⟨W.heap.size,0,none⟩) 1 1) 1 [y]]
 generalize rP (.slice (some ⟨W.heap.size+1,0,none⟩) 1 1) 1 [⟨left,[y],0⟩] [.slice (some ⟨W.heap.size,0,none⟩) 1 1]=p
 generalize rI (.slice (some ⟨W.heap.size,0,none⟩) 1 1) 1 [y]=q
 generalize rP (.slice none 0 0) 0 [] []=z
 -- [p, q, a, b, z, d, e, f] ~ [z, a, b, p, d, e, f, q]
 have s1:List.Perm [p,q,a,b,z,d,e,f] (z::[p,q,a,b,d,e,f]):=List.perm_middle (a:=z) (l₁:=[p,q,a,b]) (l₂:=[d,e,f])
 have s2:List.Perm (p::[q,a,b,d,e,f]) (p::[a,b,d,e,f,q]):=List.Perm.cons p (List.perm_middle (a:=q) (l₁:=[a,b,d,e,f]) (l₂:=[])).symm
 have s3:List.Perm (p::[a,b,d,e,f,q]) [a,b,p,d,e,f,q]:=(List.perm_middle (a:=p) (l₁:=[a,b]) (l₂:=[d,e,f,q])).symm
 exact s1.trans (List.Perm.cons z (s2.trans s3))
set_option maxRecDepth 100000 in
set_option maxHeartbeats 32000000 in
theorem of_none {w:World} {v:Value} {g:Rd.Gr} (h:GrV w v g) (hr:Pl.right g=true) (hno:∀ p s,Pl.of g≠(p,0,s)) (hz:GrSz g) :
  Calls Tryd.prog 42 #[v] w fun e w'=>∃ c s,e=.returned (.tuple #[.agg #[.slice none 0 0,.slice none 0 0,.slice none 0 0,.slice none 0 0,.slice none 0 0,.slice none 0 0],.int .i64 c,.string s])∧c≠0∧Below w.heap.size w w':=by
 obtain ⟨ta,tc,sa,sc,la,lc,ra,rc,rfl,h1,h2,h3,h4⟩:=h
 obtain ⟨p,hp⟩:∃ p,p=planW g:=⟨_,rfl⟩
 have HF:=Lib.hid (show OfW g p by rw [hp]; exact ofW g)
 have HR:=Lib.hid (rightF hr)
 have HNO:=Lib.hid (fun h1 h2 h3=>of_some hr h1 h2 h3 hno)
 have HZ:=Lib.hid hz
 have k0:=(Below.refl w.heap.size w).alloc (Nat.le_refl _) (.cells #[.slice ta g.toks.length tc,.slice sa g.skips.length sc,.slice la g.levs.length lc,.string g.start,.slice ra g.rules.length rc] 74)
 have HG:=Lib.hid ((GA.new (tc:=tc) (sc:=sc) (lc:=lc) (rc:=rc) h1 h2 h3 h4).below ((Below.refl _ _).alloc (Nat.le_refl _) (.cells #[.slice none 0 0,.slice none 0 0,.slice none 0 0,.slice none 0 0,.slice none 0 0,.slice none 0 0] 32)))
 unfold gC at HG
 have hrt:=right_yes (w:=(w.alloc (.cells #[.slice ta g.toks.length tc,.slice sa g.skips.length sc,.slice la g.levs.length lc,.string g.start,.slice ra g.rules.length rc] 74)).alloc (.cells #[.slice none 0 0,.slice none 0 0,.slice none 0 0,.slice none 0 0,.slice none 0 0,.slice none 0 0] 32)) ⟨ta,tc,sa,sc,la,lc,ra,rc,rfl,HG.out.t,HG.out.s,HG.out.l,HG.out.r⟩ hr hz
 have HB:=Lib.hid (k0.alloc (by simp) (.cells #[.slice none 0 0,.slice none 0 0,.slice none 0 0,.slice none 0 0,.slice none 0 0,.slice none 0 0] 32))
 have hRR:=(heap_alloc_new (w.alloc (.cells #[.slice ta g.toks.length tc,.slice sa g.skips.length sc,.slice la g.levs.length lc,.string g.start,.slice ra g.rules.length rc] 74)) (.cells #[.slice none 0 0,.slice none 0 0,.slice none 0 0,.slice none 0 0,.slice none 0 0,.slice none 0 0] 32))
 rw [World.size_alloc] at hRR
 have HRR:=Lib.hid hRR
 have e0:=HG.out.c0
 have e1:=HG.out.c1
 have e2:=HG.out.c2
 have e3:=HG.out.c3
 have e4:=HG.out.c4
 have hsz:((w.alloc (.cells #[.slice ta g.toks.length tc,.slice sa g.skips.length sc,.slice la g.levs.length lc,.string g.start,.slice ra g.rules.length rc] 74)).alloc (.cells #[.slice none 0 0,.slice none 0 0,.slice none 0 0,.slice none 0 0,.slice none 0 0,.slice none 0 0] 32)).heap.size=w.heap.size+2:=by simp
 clear h1 h2 h3 h4 hp hz hr hno k0 hRR
 go_enter Tryd.func42,Tryd.ntmps42
 go_wp2_with fail
 generalize (w.alloc (.cells #[.slice ta g.toks.length tc,.slice sa g.skips.length sc,.slice la g.levs.length lc,.string g.start,.slice ra g.rules.length rc] 74)).alloc (.cells #[.slice none 0 0,.slice none 0 0,.slice none 0 0,.slice none 0 0,.slice none 0 0,.slice none 0 0] 32)=W at HG HB HRR hrt e0 e1 e2 e3 e4 hsz ⊢
 refine hrt.mono ?_
 rintro e U ⟨rfl,hBe⟩
 have G:=Lib.hid (HG.out.below hBe)
 have R0:=Lib.hid ((hBe.block (w.heap.size+1) (by omega)).trans HRR.out)
 have L0:=Lib.hid (HB.out.trans (hBe.mono HB.out.size))
 have hU:w.heap.size+2≤U.heap.size:=by have:=hBe.size; omega
 have HO:=Lib.hid (oi_start U)
 clear hrt hBe HG HB HRR e0 e1 e2 e3 e4 hsz
 go_wp2_with fail
 have hgb:w.heap.size < U.heap.size:=by omega
 generalize hT0:Value.slice (some ⟨U.heap.size,0,none⟩) 1 1=T0 at HO ⊢
 generalize hL0:Value.slice (some ⟨U.heap.size+1,0,none⟩) 1 1=L0v at HO ⊢
 generalize hA0:Value.slice (some ⟨U.heap.size+2,0,none⟩) 1 1=A0 at HO ⊢
 have HT0:=Lib.hid hT0
 have HL0:=Lib.hid hL0
 have HA0:=Lib.hid hA0
 clear hT0 hL0 hA0
 generalize U.heap.size+4=pb at HO ⊢
 have hnr:=HR.out.nr
 go_loopg [7] g.rules.length (fun gk i wr=>∃ (k nv:Nat) (va:Option Addr) (vc:Nat) (ca:Option Addr) (cc:Nat),i=.int .i64 k∧k≤g.rules.length∧Hid (gk+k=g.rules.length)∧Hid (nv=(Pl.vars (g.rules.take k)).length) ∧
   Hid (OI U wr pb #[T0,.slice va nv vc,.slice none 0 0,L0v,A0,.slice ca (k+1) cc] [] [rS T0 1 [Pl.endS],rS (.slice va nv vc) nv (Pl.vars (g.rules.take k)),rP (.slice none 0 0) 0 [] [],rN L0v 1 [0],rI A0 1 [0],rS (.slice ca (k+1) cc) (k+1) (Rd.E::(g.rules.take k).map (·.action))]))
 case atStart=>exact ⟨0,0,none,0,some ⟨U.heap.size+3,0,none⟩,1,rfl,by omega,Lib.hid (by omega),Lib.hid rfl,HO⟩
 case round =>
  clear HO
  obtain ⟨k,nv,va,vc,ca,cc,rfl,hk,HK,HN,HO⟩:=hrel
  have G2:=Lib.hid (G.out.below HO.out.low)
  have e4:=G2.out.c4
  have hgl:=G2.out.lt
  obtain ⟨_,p1,_,_,_,p5,pf⟩:=HO.out.c
  have hpl:=HO.out.lt
  by_cases hlt:k < g.rules.length
  ·have hnv:nv≤40:=by have:=vars_len g.rules k hk; rw [← HN.out] at this; omega
   obtain ⟨b,off,xa,xc,rfl,t0,t1,t2,t3,hst⟩:=G2.out.r k hlt
   obtain ⟨x,hx⟩:∃ x,x=g.rules[k]:=⟨_,rfl⟩
   rw [← hx] at t0 t3
   have hvs:=vars_snoc g.rules k hlt
   rw [← hx] at hvs
   have HVS:=Lib.hid hvs
   have hac:=List.take_succ_eq_append_getElem hlt
   rw [← hx] at hac
   have HAC:=Lib.hid hac
   have hb:b < wr.heap.size:=World.block_lt_of_cell? wr _ t0
   have st:=Strs.of_owns (HO.out.own (r:=rS (.slice va nv vc) nv (Pl.vars (g.rules.take k))) (by simp)) HN.out.symm
   have hpl8:∀ z:Wd wr.heap.size wr,Calls Tryd.prog 64 #[.slice va nv vc,.string x.left] z.w fun e w'=>e=.returned (.int .i64 (Pl.placeI (Pl.vars (g.rules.take k)) x.left))∧z.w=w':=fun z=>by
    have:=place_any (cap:=vc) x.left (st.below z.ok) (by rw [← HN.out]; omega)
    rwa [← HN.out] at this
   have z1:∀ z:Wd wr.heap.size wr,z.w.cell? ⟨pb,1,none⟩=some (.slice va nv vc):=fun z=>((bcell z.ok).1 _ _ hpl).trans p1
   have z4:∀ z:Wd wr.heap.size wr,z.w.cell? ⟨w.heap.size,4,none⟩=some (.slice (some ⟨b,off,none⟩) g.rules.length rc):=fun z=>((bcell z.ok).1 _ _ hgl).trans e4
   have z0:∀ z:Wd wr.heap.size wr,z.w.cell? ⟨b,off+k*4,none⟩=some (.string x.left):=fun z=>((bcell z.ok).1 _ _ hb).trans t0
   have HX:=Lib.hid hx
   clear hx hvs hac t0 t1 t2 t3 hst st p1 p5 pf
   by_cases hm:x.left ∈ Pl.vars (g.rules.take k)
   ·have HV2:Hid (Pl.vars (g.rules.take (k+1))=Pl.vars (g.rules.take k)):=Lib.hid (by rw [HVS.out]; unfold Pl.addVar; rw [if_pos (place_iff.2 hm)])
    have HNV:Hid (nv=(Pl.vars (g.rules.take (k+1))).length):=Lib.hid (by rw [HV2.out]; exact HN.out)
    obtain ⟨q,hq,hq1,_⟩:=placeI_pos hm
    rw [hq1] at hpl8
    clear hm hq1 hq
    go_wp2_with fail
    refine region_cls wr.heap.size (by kernel_rfl) (by kernel_rfl) ?_
    repeat (go_big_quiet_step (first | (go_at_call 64; exact calls_cls_same _ (hpl8 _))))
    refine wpQuiet_nil ?_
    intro z
    have HO2:=Lib.hid (HO.out.below z.ok)
    clear z0 z1 z4 hpl8 HO G2 hgl hpl e4 hb
    generalize z.w=V at HO2 ⊢
    go_wp2_with fail
    obtain ⟨_,_,_,_,_,p5,_⟩:=HO2.out.c
    have hpl5:=HO2.out.lt
    have G5:=Lib.hid (G.out.below HO2.out.low)
    have e5:=G5.out.c4
    have hg5:=G5.out.lt
    obtain ⟨b5,off5,na5,nc5,ee,_,_,_,t5,_⟩:=G5.out.r k hlt
    cases ee
    rw [← HX.out] at t5
    have hb5:b < V.heap.size:=World.block_lt_of_cell? V _ t5
    have y5:∀ z:Wd V.heap.size V,z.w.cell? ⟨pb,5,none⟩=some (.slice ca (k+1) cc):=fun z=>((bcell z.ok).1 _ _ hpl5).trans p5
    have y4:∀ z:Wd V.heap.size V,z.w.cell? ⟨w.heap.size,4,none⟩=some (.slice (some ⟨b,off,none⟩) g.rules.length rc):=fun z=>((bcell z.ok).1 _ _ hg5).trans e5
    have y3:∀ z:Wd V.heap.size V,z.w.cell? ⟨b,off+k*4+3,none⟩=some (.string x.action):=fun z=>((bcell z.ok).1 _ _ hb5).trans t5
    clear p5 e5 t5
    refine region_fx 8 V.heap.size (fun c a d v w h=>by cases d<;>exact h) (Nat.le_refl _) (by kernel_rfl) (by kernel_rfl) ?_
    simp only [List.take_succ_cons,List.take_zero,List.drop_succ_cons,List.drop_zero]
    repeat (go_big_quiet_step (fail))
    refine wpQuiet_nil ?_
    intro z5
    have HO6:=Lib.hid ((HO2.out.below z5.ok).alloc (.cells #[.string x.action] 9))
    clear y3 y4 y5
    generalize z5.w=Z5 at HO6 ⊢
    go_wp2_with (refine list_app_S rfl _ _ _ rfl [rS T0 1 [Pl.endS],rS (.slice va nv vc) nv (Pl.vars (g.rules.take k)),rP (.slice none 0 0) 0 [] [],rN L0v 1 [0],rI A0 1 [0]] (.slice ca (k+1) cc) (k+1) (Rd.E::(g.rules.take k).map (·.action)) [] elt_str rfl HO6.out Z5.heap.size 1 rfl x.action (heap_alloc_new Z5 _) (by omega) ?_; intro bg bcap wg hoi _; have HO7:=Lib.hid hoi; obtain ⟨_,_,_,_,_,p5,pf⟩:=hoi.c; clear hoi)
    have HO8:=Lib.hid (HO7.out.p5 (.slice (some ⟨bg,0,none⟩) (k+1+1) bcap))
    clear p5 pf HO7
    go_roundg (g.rules.length - (k+1))
    case measure=>have:=HK.out; omega
    case rel =>
     refine ⟨k+1,nv,va,vc,some ⟨bg,0,none⟩,bcap,by go_num,by omega,Lib.hid (by omega),HNV,Lib.hid ?_⟩
     rw [HV2.out,HAC.out,List.map_append,← List.cons_append]
     exact HO8.out
   ·have HV2:Hid (Pl.vars (g.rules.take (k+1))=Pl.vars (g.rules.take k)++[x.left]):=Lib.hid (by rw [HVS.out]; unfold Pl.addVar; rw [if_neg (fun h'=>hm (place_iff.1 h'))])
    have HNV:Hid (nv+1=(Pl.vars (g.rules.take (k+1))).length):=Lib.hid (by rw [HV2.out,List.length_append,← HN.out]; rfl)
    have hq1:=placeI_neg hm
    rw [hq1] at hpl8
    clear hm hq1
    go_wp2_with fail
    refine region_cls wr.heap.size (by kernel_rfl) (by kernel_rfl) ?_
    repeat (go_big_quiet_step (first | (go_at_call 64; exact calls_cls_same _ (hpl8 _))))
    refine wpQuiet_nil ?_
    intro z
    have HO2:=Lib.hid (HO.out.below z.ok)
    have G3:=Lib.hid (G2.out.below z.ok)
    obtain ⟨_,p1,_,_,_,_,_⟩:=HO2.out.c
    have hpl5:=HO2.out.lt
    have e5:=G3.out.c4
    have hg5:=G3.out.lt
    obtain ⟨b5,off5,na5,nc5,ee,t5,_⟩:=G3.out.r k hlt
    cases ee
    rw [← HX.out] at t5
    have hb5:b < z.w.heap.size:=World.block_lt_of_cell? z.w _ t5
    clear z0 z1 z4 hpl8 HO G2 hgl hpl e4 hb
    generalize z.w=V at HO2 G3 p1 hpl5 e5 hg5 t5 hb5 ⊢
    have y1:∀ z:Wd V.heap.size V,z.w.cell? ⟨pb,1,none⟩=some (.slice va nv vc):=fun z=>((bcell z.ok).1 _ _ hpl5).trans p1
    have y4:∀ z:Wd V.heap.size V,z.w.cell? ⟨w.heap.size,4,none⟩=some (.slice (some ⟨b,off,none⟩) g.rules.length rc):=fun z=>((bcell z.ok).1 _ _ hg5).trans e5
    have y0:∀ z:Wd V.heap.size V,z.w.cell? ⟨b,off+k*4,none⟩=some (.string x.left):=fun z=>((bcell z.ok).1 _ _ hb5).trans t5
    clear p1 e5 t5
    go_wp2_with fail
    refine region_fx 8 V.heap.size (fun c a d v w h=>by cases d<;>exact h) (Nat.le_refl _) (by kernel_rfl) (by kernel_rfl) ?_
    simp only [List.take_succ_cons,List.take_zero,List.drop_succ_cons,List.drop_zero]
    repeat (go_big_quiet_step (fail))
    refine wpQuiet_nil ?_
    intro z3
    have HO3:=Lib.hid ((HO2.out.below z3.ok).alloc (.cells #[.string x.left] 9))
    clear y0 y1 y4 HO2 G3 hpl5 hg5 hb5
    generalize z3.w=Z3 at HO3 ⊢
    go_wp2_with (refine list_app_S rfl _ _ _ rfl [rS T0 1 [Pl.endS]] (.slice va nv vc) nv (Pl.vars (g.rules.take k)) [rP (.slice none 0 0) 0 [] [],rN L0v 1 [0],rI A0 1 [0],rS (.slice ca (k+1) cc) (k+1) (Rd.E::(g.rules.take k).map (·.action))] elt_str rfl HO3.out Z3.heap.size 1 rfl x.left (heap_alloc_new Z3 _) (by omega) ?_; intro bv bvc wg hoi _; have HO4:=Lib.hid hoi; obtain ⟨_,p1,_,_,_,p5,pf⟩:=hoi.c; clear hoi)
    have HO5:=Lib.hid (HO4.out.p1 (.slice (some ⟨bv,0,none⟩) (nv+1) bvc))
    clear p1 p5 pf HO4
    generalize wg.setCell ⟨pb,1,none⟩ (.slice (some ⟨bv,0,none⟩) (nv+1) bvc)=V2 at HO5 ⊢
    obtain ⟨_,_,_,_,_,p5,_⟩:=HO5.out.c
    have hpl5:=HO5.out.lt
    have G5:=Lib.hid (G.out.below HO5.out.low)
    have e5:=G5.out.c4
    have hg5:=G5.out.lt
    obtain ⟨b5,off5,na5,nc5,ee,_,_,_,t5,_⟩:=G5.out.r k hlt
    cases ee
    rw [← HX.out] at t5
    have hb5:b < V2.heap.size:=World.block_lt_of_cell? V2 _ t5
    have y5:∀ z:Wd V2.heap.size V2,z.w.cell? ⟨pb,5,none⟩=some (.slice ca (k+1) cc):=fun z=>((bcell z.ok).1 _ _ hpl5).trans p5
    have y4:∀ z:Wd V2.heap.size V2,z.w.cell? ⟨w.heap.size,4,none⟩=some (.slice (some ⟨b,off,none⟩) g.rules.length rc):=fun z=>((bcell z.ok).1 _ _ hg5).trans e5
    have y3:∀ z:Wd V2.heap.size V2,z.w.cell? ⟨b,off+k*4+3,none⟩=some (.string x.action):=fun z=>((bcell z.ok).1 _ _ hb5).trans t5
    clear p5 e5 t5
    refine region_fx 8 V2.heap.size (fun c a d v w h=>by cases d<;>exact h) (Nat.le_refl _) (by kernel_rfl) (by kernel_rfl) ?_
    simp only [List.take_succ_cons,List.take_zero,List.drop_succ_cons,List.drop_zero]
    repeat (go_big_quiet_step (fail))
    refine wpQuiet_nil ?_
    intro z5
    have HO6:=Lib.hid ((HO5.out.below z5.ok).alloc (.cells #[.string x.action] 9))
    clear y3 y4 y5
    generalize z5.w=Z5 at HO6 ⊢
    go_wp2_with (refine list_app_S rfl _ _ _ rfl [rS T0 1 [Pl.endS],rS (.slice (some ⟨bv,0,none⟩) (nv+1) bvc) (nv+1) (Pl.vars (g.rules.take k)++[x.left]),rP (.slice none 0 0) 0 [] [],rN L0v 1 [0],rI A0 1 [0]] (.slice ca (k+1) cc) (k+1) (Rd.E::(g.rules.take k).map (·.action)) [] elt_str rfl HO6.out Z5.heap.size 1 rfl x.action (heap_alloc_new Z5 _) (by omega) ?_; intro bg bcap wg hoi _; have HO7:=Lib.hid hoi; obtain ⟨_,_,_,_,_,p5,pf⟩:=hoi.c; clear hoi)
    have HO8:=Lib.hid (HO7.out.p5 (.slice (some ⟨bg,0,none⟩) (k+1+1) bcap))
    clear p5 pf HO7
    go_roundg (g.rules.length - (k+1))
    case measure=>have:=HK.out; omega
    case rel =>
     refine ⟨k+1,nv+1,some ⟨bv,0,none⟩,bvc,some ⟨bg,0,none⟩,bcap,by go_num,by omega,Lib.hid (by omega),HNV,Lib.hid ?_⟩
     rw [HV2.out,HAC.out,List.map_append,← List.cons_append]
     exact HO8.out
  ·obtain rfl:k=g.rules.length:=by omega
   rw [List.take_length] at HO HN
   rw [← HF.out.vars] at HO HN
   rw [← HF.out.acts] at HO
   have hnv:nv≤40:=by
    have:=vars_len g.rules g.rules.length (Nat.le_refl _)
    rw [List.take_length,← HF.out.vars,← HN.out] at this
    omega
   generalize hCV:Value.slice ca (g.rules.length+1) cc=CV at HO p5
   clear hCV HK hlt p1 p5 pf hk
   go_wp2_with fail
   clear e4 hgl hpl G2
   have hnt:=HR.out.nt
   have hnl:=HR.out.nl
   go_loopg [8] g.toks.length (fun gk i wr=>∃ (k:Nat) (T L:Value),i=.int .i64 k∧k≤g.toks.length∧Hid (gk+k=g.toks.length) ∧
     Hid (OI U wr pb #[T,.slice va nv vc,.slice none 0 0,L,A0,CV] [] [rS T (k+1) (Pl.endS::(g.toks.take k).map (·.name)),rS (.slice va nv vc) nv p.vars,rP (.slice none 0 0) 0 [] [],rN L (k+1) (0::(g.toks.take k).map (fun t=>Pl.level g.levs t.name)),rI A0 1 [0],rS CV (g.rules.length+1) p.acts])∧Hid (∀ j (hj:j < g.toks.length),j < k→g.toks[j].name ∉ p.vars))
   case atStart=>exact ⟨0,T0,L0v,rfl,by omega,Lib.hid (by omega),HO,Lib.hid (fun j _ h=>absurd h (Nat.not_lt_zero _))⟩
   case round =>
    clear HO
    obtain ⟨k,T,L,rfl,hk,HK,HO,HTV⟩:=hrel
    have G2:=Lib.hid (G.out.below HO.out.low)
    have e0:=G2.out.c0
    by_cases hlt:k < g.toks.length
    ·obtain ⟨b,off,rfl,_,_,_,_⟩:=G2.out.t k hlt
     by_cases hnotv:g.toks[k].name ∈ p.vars
     ·obtain ⟨q,hq,hq1,_⟩:=placeI_pos hnotv
      obtain ⟨x,hx⟩:∃ x,x=g.toks[k]:=⟨_,rfl⟩
      rw [← hx] at hq1
      have HX:=Lib.hid hx
      have st:=Strs.of_owns (HO.out.own (r:=rS (.slice va nv vc) nv p.vars) (by simp)) HN.out.symm
      have hpl8:∀ z:Wd wr.heap.size wr,Calls Tryd.prog 64 #[.slice va nv vc,.string x.name] z.w fun e w'=>e=.returned (.int .i64 (q:Nat))∧z.w=w':=fun z=>by
       have:=place_any (cap:=vc) x.name (st.below z.ok) (by rw [← HN.out]; omega)
       rwa [← HN.out,hq1] at this
      have tk0:∀ (W:World) (G:GA W w.heap.size g (some ⟨b,off,none⟩) sa la ra tc sc lc rc),W.cell? ⟨b,off+k*4,none⟩=some (.string x.name):=fun W G=>by
       obtain ⟨b5,off5,ee,t5,_⟩:=G.t k hlt
       cases ee
       rw [HX.out]; exact t5
      clear hx hnotv hq hq1 st
      have z1:=fun z:Wd wr.heap.size wr=>(HO.out.below z.ok).c.2.1
      have z0:=fun z:Wd wr.heap.size wr=>(G2.out.below z.ok).c0
      have zt:=fun z:Wd wr.heap.size wr=>tk0 z.w (G2.out.below z.ok)
      have TK:=Lib.hid tk0
      clear tk0
      go_wp2_with fail
      refine region_cls wr.heap.size (by kernel_rfl) (by kernel_rfl) ?_
      repeat (go_big_quiet_step (first | (go_at_call 64; exact calls_cls_same _ (hpl8 _))))
      refine wpQuiet_nil ?_
      intro z
      have HO2:=Lib.hid (HO.out.below z.ok)
      have G3:=Lib.hid (G2.out.below z.ok)
      clear z0 z1 zt hpl8 HO G2 e0
      generalize z.w=V at HO2 G3 ⊢
      have hbs:b≠w.heap.size+1:=fun e=>by
       have h5:=TK.out V G3.out
       have h6:=(HO2.out.low.block _ (by omega:w.heap.size+1 < U.heap.size)).trans R0.out
       rw [e,cell_of_row _ _ _ _ _ _ h6] at h5
       exact zplan_no_str _ _ h5
      have z0:∀ z:Wq (fun j=>j≠w.heap.size+1∧(j=w.heap.size∨j=b)) V,z.w.cell? ⟨w.heap.size,0,none⟩=some (.slice (some ⟨b,off,none⟩) g.toks.length tc):=fun z=>z.cell ⟨by omega,.inl rfl⟩ G3.out.c0
      have zt:∀ z:Wq (fun j=>j≠w.heap.size+1∧(j=w.heap.size∨j=b)) V,z.w.cell? ⟨b,off+k*4,none⟩=some (.string x.name):=fun z=>z.cell ⟨hbs,.inr rfl⟩ (TK.out V G3.out)
      go_wp2_with fail
      have hg0:V.drew.heap[w.heap.size+1]?=some (.cells #[.slice none 0 0,.slice none 0 0,.slice none 0 0,.slice none 0 0,.slice none 0 0,.slice none 0 0] 32 (0,0)):=(HO2.out.low.block _ (by omega)).trans R0.out
      have hlo:=(L0.out.trans (HO2.out.low.mono (by omega:w.heap.size≤U.heap.size))).drew
      refine region_gq [0,1,2,3,4,5,6] [7,8,9] 2 233 (fun j=>j≠w.heap.size+1∧(j=w.heap.size∨j=b)) ?_ (fun c a d v w h=>by cases d<;>exact h) (by kernel_rfl) (by kernel_rfl) (by rfl) ?_ ?_
      rotate_left
      ·intro z
       simp only [pickL,List.getElem?_cons_zero,List.getElem?_cons_succ]
       repeat (go_big_quiet_step (fail))
       refine wpQuiet_nil ?_
       exact rfl
      clear z0 zt
      simp only [pickL,List.getElem?_cons_zero,List.getElem?_cons_succ]
      refine listE_store_row rfl 32 _ _ rfl (w.heap.size+1) rfl _ rfl _ 32 hg0 rfl plan_size (by simp [Value.oneCell']) ⟨⟨V.drew.setRow (w.heap.size+1) _,by simp,fun k hk1 hk=>setRow_other _ _ _ _ hk.1⟩,rfl⟩ ?_
      refine listE_quiet rfl ?_
      simp only [Act.put,List.setIfInBounds_toArray,List.set_cons_succ,List.set_cons_zero]
      repeat (go_big_quiet_step (fail))
      refine wpQuiet_nil ?_
      refine ⟨⟨⟨V.drew.setRow (w.heap.size+1) _,by simp,fun k hk1 hk=>setRow_other _ _ _ _ hk.1⟩,rfl⟩,?_⟩
      change wpList _ _ _ _ _ _
      go_wp2_with fail
      exact bodyPost_ret (results_row_two rfl _ _ (.int .i64 15) (.string x.name) (w.heap.size+1) 32 #[.slice none 0 0,.slice none 0 0,.slice none 0 0,.slice none 0 0,.slice none 0 0,.slice none 0 0] (0,0) _ (by rfl) (by rfl) (by rfl) (setRow_heap _ _ _ _ _ _ hg0) Tryd.underlying32 rfl plan_size) rfl ⟨_,_,rfl,by decide,low_row1 hlo (by omega)⟩
     have hq:=placeI_neg hnotv
     have HTV2:Hid (∀ j (hj:j < g.toks.length),j < k+1→g.toks[j].name ∉ p.vars):=Lib.hid (fun j hj h=>by
      rcases Nat.lt_or_ge j k with h2 | h2
      ·exact HTV.out j hj h2
      ·obtain rfl:j=k:=by omega
       exact hnotv)
     obtain ⟨x,hx⟩:∃ x,x=g.toks[k]:=⟨_,rfl⟩
     rw [← hx] at hq
     have hac:=List.take_succ_eq_append_getElem hlt
     rw [← hx] at hac
     have HAC:=Lib.hid hac
     have HX:=Lib.hid hx
     have st:=Strs.of_owns (HO.out.own (r:=rS (.slice va nv vc) nv p.vars) (by simp)) HN.out.symm
     have hpl8:∀ z:Wd wr.heap.size wr,Calls Tryd.prog 64 #[.slice va nv vc,.string x.name] z.w fun e w'=>e=.returned (.int .i64 (-1))∧z.w=w':=fun z=>by
      have:=place_any (cap:=vc) x.name (st.below z.ok) (by rw [← HN.out]; omega)
      rwa [← HN.out,hq] at this
     have tk0:∀ (W:World) (G:GA W w.heap.size g (some ⟨b,off,none⟩) sa la ra tc sc lc rc),W.cell? ⟨b,off+k*4,none⟩=some (.string x.name):=fun W G=>by
      obtain ⟨b5,off5,ee,t5,_⟩:=G.t k hlt
      cases ee
      rw [HX.out]; exact t5
     clear hx hac hnotv hq st
     have z1:=fun z:Wd wr.heap.size wr=>(HO.out.below z.ok).c.2.1
     have z0:=fun z:Wd wr.heap.size wr=>(G2.out.below z.ok).c0
     have zt:=fun z:Wd wr.heap.size wr=>tk0 z.w (G2.out.below z.ok)
     have TK:=Lib.hid tk0
     clear tk0
     go_wp2_with fail
     refine region_cls wr.heap.size (by kernel_rfl) (by kernel_rfl) ?_
     repeat (go_big_quiet_step (first | (go_at_call 64; exact calls_cls_same _ (hpl8 _))))
     refine wpQuiet_nil ?_
     intro z
     have HO2:=Lib.hid (HO.out.below z.ok)
     have G3:=Lib.hid (G2.out.below z.ok)
     clear z0 z1 zt hpl8 HO G2 e0
     generalize z.w=V at HO2 G3 ⊢
     have z0:=fun z:Wd V.heap.size V=>(HO2.out.below z.ok).c.1
     have z1:=fun z:Wd V.heap.size V=>(G3.out.below z.ok).c0
     have zt:=fun z:Wd V.heap.size V=>TK.out z.w (G3.out.below z.ok)
     go_wp2_with fail
     refine region_fx 8 V.heap.size (fun c a d v w h=>by cases d<;>exact h) (Nat.le_refl _) (by kernel_rfl) (by kernel_rfl) ?_
     simp only [List.take_succ_cons,List.take_zero,List.drop_succ_cons,List.drop_zero]
     repeat (go_big_quiet_step (fail))
     refine wpQuiet_nil ?_
     intro z3
     have HO3:=Lib.hid ((HO2.out.below z3.ok).alloc (.cells #[.string x.name] 9))
     clear z0 z1 zt HO2 G3
     generalize z3.w=Z3 at HO3 ⊢
     go_wp2_with (refine list_app_S rfl _ _ _ rfl [] T (k+1) (Pl.endS::(g.toks.take k).map (·.name)) [rS (.slice va nv vc) nv p.vars,rP (.slice none 0 0) 0 [] [],rN L (k+1) (0::(g.toks.take k).map (fun t=>Pl.level g.levs t.name)),rI A0 1 [0],rS CV (g.rules.length+1) p.acts] elt_str rfl HO3.out Z3.heap.size 1 rfl x.name (heap_alloc_new Z3 _) (by omega) ?_; intro bv bvc wg hoi _; have HO4:=Lib.hid hoi; obtain ⟨p0,_,_,p3,_,_,pf⟩:=hoi.c; clear hoi)
     have HO5:=Lib.hid (HO4.out.p0 (.slice (some ⟨bv,0,none⟩) (k+1+1) bvc))
     clear p0 p3 pf HO4
     generalize wg.setCell ⟨pb,0,none⟩ (.slice (some ⟨bv,0,none⟩) (k+1+1) bvc)=V2 at HO5 ⊢
     have G4:=Lib.hid (G.out.below HO5.out.low)
     have y3:=fun z:Wd V2.heap.size V2=>(HO5.out.below z.ok).c.2.2.2.1
     have y0:=fun z:Wd V2.heap.size V2=>(G4.out.below z.ok).c0
     have y1:=fun z:Wd V2.heap.size V2=>(G4.out.below z.ok).c1
     have y2:=fun z:Wd V2.heap.size V2=>(G4.out.below z.ok).c2
     have y4:=fun z:Wd V2.heap.size V2=>(G4.out.below z.ok).c3
     have y5:=fun z:Wd V2.heap.size V2=>(G4.out.below z.ok).c4
     have yt:=fun z:Wd V2.heap.size V2=>TK.out z.w (G4.out.below z.ok)
     refine region_ge [0,1,2,3,4,5,6,7,8] [9,10,11,12,13] 1 233 V2.heap.size ?_ (fun c a d v w h=>by cases d<;>exact h) (Nat.le_refl _) (by kernel_rfl) (by kernel_rfl) (by rfl) ?_ ?_
     rotate_left
     ·intro z
      simp only [pickL,List.getElem?_cons_zero,List.getElem?_cons_succ]
      repeat (go_big_quiet_step (fail))
      refine wpQuiet_nil ?_
      exact rfl
     clear y0 y1 y2 y3 y4 y5 yt
     simp only [pickL,List.getElem?_cons_zero,List.getElem?_cons_succ]
     have hlev:=level8_any (x0:=.slice (some ⟨b,off,none⟩) g.toks.length tc) (x1:=.slice sa g.skips.length sc) (x3:=.string g.start) (x4:=.slice ra g.rules.length rc) (cap:=lc) x.name (G4.out.l.below (Below.refl _ _).drew) (by omega) (fun i hi=>by have:=HZ.out.l g.levs[i] (List.getElem_mem hi); omega)
     refine listE_call2 (by rfl) 65 Tryd.call65 _ _ _ (by rfl) _ _ (by rfl) (by rfl) _ _ hlev ?_
     intro w1 hb1
     have hb2:=(Below.refl V2.heap.size V2).drew.trans hb1
     refine ⟨⟨⟨w1,hb2⟩,rfl⟩,?_⟩
     change wpList _ _ _ _ _ _
     have HO6:=Lib.hid ((HO5.out.below hb2).alloc (.cells #[.int .i64 (Pl.level g.levs x.name:Nat)] 3))
     clear hlev hb1 hb2 HO5 G4
     go_wp2_with (refine list_app_N rfl _ _ _ rfl [rS (.slice (some ⟨bv,0,none⟩) (k+1+1) bvc) (k+1+1) (Pl.endS::(g.toks.take k).map (·.name)++[x.name]),rS (.slice va nv vc) nv p.vars,rP (.slice none 0 0) 0 [] []] L (k+1) (0::(g.toks.take k).map (fun t=>Pl.level g.levs t.name)) [rI A0 1 [0],rS CV (g.rules.length+1) p.acts] elt_int rfl HO6.out w1.heap.size 1 rfl (Pl.level g.levs x.name) (heap_alloc_new w1 _) (by omega) ?_; intro bl blc wg3 hoi _; have HO7:=Lib.hid hoi; obtain ⟨_,_,_,p3,_,_,pf⟩:=hoi.c; clear hoi)
     have HO8:=Lib.hid (HO7.out.p3 (.slice (some ⟨bl,0,none⟩) (k+1+1) blc))
     clear p3 pf HO7
     go_roundg (g.toks.length - (k+1))
     case measure=>have:=HK.out; omega
     case rel =>
      refine ⟨k+1,.slice (some ⟨bv,0,none⟩) (k+1+1) bvc,.slice (some ⟨bl,0,none⟩) (k+1+1) blc,by go_num,by omega,Lib.hid (by omega),Lib.hid ?_,HTV2⟩
      rw [HAC.out,List.map_append,List.map_append]
      exact HO8.out
    ·obtain rfl:k=g.toks.length:=by omega
     rw [List.take_length,← HF.out.terms,← HF.out.levels] at HO
     have HTA:Hid (∀ t ∈ g.toks,t.name ∉ p.vars):=Lib.hid (fun t ht=>by
      obtain ⟨j,hj,rfl⟩:=List.getElem_of_mem ht
      exact HTV.out j hj hj)
     clear HK hlt hk HTV
     go_wp2_with fail
     clear e0 G2
     go_loopg [9] g.levs.length (fun gk i wr=>∃ (k:Nat) (AA:Value),i=.int .i64 k∧k≤g.levs.length∧Hid (gk+k=g.levs.length) ∧
       Hid (OI U wr pb #[T,.slice va nv vc,.slice none 0 0,L,AA,CV] [] [rS T (g.toks.length+1) p.terms,rS (.slice va nv vc) nv p.vars,rP (.slice none 0 0) 0 [] [],rN L (g.toks.length+1) p.levels,rI AA (k+1) (0::(g.levs.take k).map (·.assoc)),rS CV (g.rules.length+1) p.acts]))
     case atStart=>exact ⟨0,A0,rfl,by omega,Lib.hid (by omega),HO⟩
     case round =>
      clear HO
      obtain ⟨k,AA,rfl,hk,HK,HO⟩:=hrel
      have G2:=Lib.hid (G.out.below HO.out.low)
      have e2:=G2.out.c2
      by_cases hlt:k < g.levs.length
      ·obtain ⟨b,off,_,_,rfl,t0,_⟩:=G2.out.l k hlt
       have hac:=List.take_succ_eq_append_getElem hlt
       obtain ⟨x,hx⟩:∃ x,x=g.levs[k]:=⟨_,rfl⟩
       rw [← hx] at hac t0
       have HAC:=Lib.hid hac
       have hb:b < wr.heap.size:=World.block_lt_of_cell? wr _ t0
       clear hx hac
       have z0:=fun z:Wd wr.heap.size wr=>(HO.out.below z.ok).c.2.2.2.2.1
       have z1:=fun z:Wd wr.heap.size wr=>(G2.out.below z.ok).c2
       have zt:∀ z:Wd wr.heap.size wr,z.w.cell? ⟨b,off+k*2,none⟩=some (.int .i64 x.assoc):=fun z=>((bcell z.ok).1 _ _ hb).trans t0
       go_wp2_with fail
       refine region_fx 8 wr.heap.size (fun c a d v w h=>by cases d<;>exact h) (Nat.le_refl _) (by kernel_rfl) (by kernel_rfl) ?_
       simp only [List.take_succ_cons,List.take_zero,List.drop_succ_cons,List.drop_zero]
       repeat (go_big_quiet_step (fail))
       refine wpQuiet_nil ?_
       intro z3
       have HO3:=Lib.hid ((HO.out.below z3.ok).alloc (.cells #[.int .i64 x.assoc] 3))
       clear z0 z1 zt HO G2 t0 e2 hb
       generalize z3.w=Z3 at HO3 ⊢
       go_wp2_with (refine list_app_I rfl _ _ _ rfl [rS T (g.toks.length+1) p.terms,rS (.slice va nv vc) nv p.vars,rP (.slice none 0 0) 0 [] [],rN L (g.toks.length+1) p.levels] AA (k+1) (0::(g.levs.take k).map (·.assoc)) [rS CV (g.rules.length+1) p.acts] elt_int rfl HO3.out Z3.heap.size 1 rfl x.assoc (heap_alloc_new Z3 _) (by omega) ?_; intro bv bvc wg hoi _; have HO4:=Lib.hid hoi; obtain ⟨_,_,_,_,p4,_,pf⟩:=hoi.c; clear hoi)
       have HO5:=Lib.hid (HO4.out.p4 (.slice (some ⟨bv,0,none⟩) (k+1+1) bvc))
       clear p4 pf HO4
       go_roundg (g.levs.length - (k+1))
       case measure=>have:=HK.out; omega
       case rel =>
        refine ⟨k+1,.slice (some ⟨bv,0,none⟩) (k+1+1) bvc,by go_num,by omega,Lib.hid (by omega),Lib.hid ?_⟩
        rw [HAC.out,List.map_append]
        exact HO5.out
      ·obtain rfl:k=g.levs.length:=by omega
       rw [List.take_length,← HF.out.assocs] at HO
       clear HK hlt hk
       have e3:=G2.out.c3
       have htl:p.terms.length=g.toks.length+1:=by rw [HF.out.terms]; simp
       obtain ⟨Ta,Tc,hT,_⟩:=RowV.of_owns (HO.out.own (r:=rS T (g.toks.length+1) p.terms) (by simp))
       have hT':T=.slice Ta (g.toks.length+1) Tc:=hT
       clear hT
       subst hT'
       obtain ⟨Lb,Lc,hL,_⟩:=World.ownsRow.form (HO.out.own (r:=rN L (g.toks.length+1) p.levels) (by simp)) (by show 0 < g.toks.length+1; omega)
       have hL':L=.slice (some ⟨Lb,0,none⟩) (g.toks.length+1) Lc:=hL
       clear hL
       subst hL'
       have hsy:=sym_any (x2:=.slice none 0 0) (x3:=.slice (some ⟨Lb,0,none⟩) (g.toks.length+1) Lc) (x4:=AA) (x5:=CV) (tc:=Tc) (vc:=vc) g.start (Strs.of_owns (HO.out.own (r:=rS (.slice Ta (g.toks.length+1) Tc) (g.toks.length+1) p.terms) (by simp)) htl) (Strs.of_owns (HO.out.own (r:=rS (.slice va nv vc) nv p.vars) (by simp)) HN.out.symm) (by omega) (by rw [← HN.out]; omega)
       obtain ⟨y,hsym⟩:∃ y,y=Pl.sym p.terms p.vars g.start:=⟨_,rfl⟩
       rw [← hsym,htl,← HN.out] at hsy
       have HY:=Lib.hid hsym
       clear hsym
       obtain ⟨p0,p1,p2,p3,p4,p5,pf⟩:=HO.out.c
       have hpf:=pf 2
       clear pf htl
       go_wp2_with fail
       refine hsy.mono ?_
       rintro e V ⟨rfl,hbe⟩
       have HO2:=Lib.hid (HO.out.below hbe)
       clear hsy hbe HO G2 e2 e3 p0 p1 p2 p3 p4 p5 hpf
       have hlf:((p.terms.length+p.vars.length:Nat):Int)=(g.toks.length:Int)+1+(nv:Int):=by rw [HF.out.terms,← HN.out]; simp
       have HO3:=Lib.hid (oi_ruleZ (p.terms.length+p.vars.length) y HO2.out)
       rw [hlf] at HO3
       have hA:=(HO2.out.alloc (.cells #[.int .i64 y] 3)).alloc (.cells #[.int .i64 ((g.toks.length:Int)+1+(nv:Int)),.slice (some ⟨V.heap.size,0,none⟩) 1 1,.int .i64 0] 46)
       have p2:=hA.c.2.2.1
       have pf:=hA.c.2.2.2.2.2.2 2
       clear hA hlf
       go_wp2_with fail
       generalize ((V.alloc (.cells #[.int .i64 y] 3)).alloc (.cells #[.int .i64 ((g.toks.length:Int)+1+(nv:Int)),.slice (some ⟨V.heap.size,0,none⟩) 1 1,.int .i64 0] 46)).setCell ⟨pb,2,none⟩ (.slice (some ⟨V.heap.size+1,0,none⟩) 1 1)=V1 at HO3 ⊢
       clear p2 pf HO2
       have hr0:Hid (p.rules.take 1=[⟨p.terms.length+p.vars.length,[y],0⟩]):=Lib.hid (by
        have h0:=HF.out.r0
        rw [← HY.out] at h0
        cases hp:p.rules with
        | nil=>rw [hp] at h0; simp at h0
        | cons r rs=>rw [hp] at h0; simp at h0 ⊢; exact h0)
       rw [← hr0.out] at HO3
       go_loopg [11,12,13,14,15] g.rules.length (fun gk i px qx kk sy wr=>∃ (k:Nat) (R:Value) (ns:List Value),i=.int .i64 k∧k≤g.rules.length∧Hid (gk+k=g.rules.length)∧Hid (ns.length=k+1) ∧
         Hid (OI U wr pb #[.slice Ta (g.toks.length+1) Tc,.slice va nv vc,R,.slice (some ⟨Lb,0,none⟩) (g.toks.length+1) Lc,AA,CV] [] ([rS (.slice Ta (g.toks.length+1) Tc) (g.toks.length+1) p.terms,rS (.slice va nv vc) nv p.vars,rP R (k+1) (p.rules.take (k+1)) ns,rN (.slice (some ⟨Lb,0,none⟩) (g.toks.length+1) Lc) (g.toks.length+1) p.levels,rI AA (g.levs.length+1) p.assocs,rS CV (g.rules.length+1) p.acts]++rX (p.rules.take (k+1)) ns))∧Hid (∀ j (hj:j < g.rules.length),j < k→∃ x,Pl.prod g.levs p.terms p.vars p.levels g.rules[j]=.ok x))
       case atStart=>exact ⟨0,_,[.slice (some ⟨V.heap.size,0,none⟩) 1 1],rfl,by omega,Lib.hid (by omega),Lib.hid rfl,HO3,Lib.hid (fun j _ h=>absurd h (Nat.not_lt_zero _))⟩
       case round =>
        clear HO3
        obtain ⟨k,R,ns,rfl,hk,HK,HNS,HO,HPA⟩:=hrel
        have G2:=Lib.hid (G.out.below HO.out.low)
        have e4:=G2.out.c4
        by_cases hlt:k < g.rules.length
        ·have hpr:=HF.out.r k hlt
         obtain ⟨RT,hrt⟩:∃ RT,Pl.rt p.terms p.vars p.levels g.rules[k].right [] 0=RT:=⟨_,rfl⟩
         obtain ⟨lv0,hleft⟩:∃ lv0,lv0=(Pl.sym p.terms p.vars g.rules[k].left).toNat:=⟨_,rfl⟩
         have HPA2:Hid ((∃ x,Pl.prod g.levs p.terms p.vars p.levels g.rules[k]=.ok x)→∀ j (hj:j < g.rules.length),j < k+1→∃ x,Pl.prod g.levs p.terms p.vars p.levels g.rules[j]=.ok x):=Lib.hid (fun h j hj h'=>by
          rcases Nat.lt_or_ge j k with h2 | h2
          ·exact HPA.out j hj h2
          ·obtain rfl:j=k:=by omega
           exact h)
         have HLF:=Lib.hid hleft
         obtain ⟨yl,hyl,hsl⟩:=sym_var (tm:=p.terms) (vs:=p.vars) (s:=g.rules[k].left) (by rw [HF.out.vars]; exact vars_mem _ _ (List.getElem_mem hlt))
         rw [hsl,Int.toNat_natCast] at hleft
         have hr8:=(okRuleF (HR.out.r k hlt)).2.1
         obtain ⟨b,off,xa,xc,rfl,t0,t1,t2,t3,hst⟩:=G.out.r k hlt
         obtain ⟨x,hx⟩:∃ x,x=g.rules[k]:=⟨_,rfl⟩
         rw [← hx] at t0 t1 t2 t3 hst hrt hsl hr8 hpr HPA2 HLF
         have hbU:=World.block_lt_of_cell? U _ t0
         replace t0:=((bcell HO.out.low).1 _ _ hbU).trans t0
         replace t1:=((bcell HO.out.low).1 _ _ hbU).trans t1
         replace t2:=((bcell HO.out.low).1 _ _ hbU).trans t2
         replace t3:=((bcell HO.out.low).1 _ _ hbU).trans t3
         have HSTU:=Lib.hid hst
         have AL:=(Below.refl wr.heap.size wr).alloc (Nat.le_refl _) (.cells #[.string x.left,.slice xa x.right.length xc,.string x.prec,.string x.action] 77)
         have HO2:=Lib.hid (HO.out.more (.cells #[.string x.left,.slice xa x.right.length xc,.string x.prec,.string x.action] 77))
         have G3:=Lib.hid (G2.out.below AL)
         have hP:=heap_alloc_new wr (.cells #[.string x.left,.slice xa x.right.length xc,.string x.prec,.string x.action] 77)
         have HP:=Lib.hid hP
         have HPR:=Lib.hid hpr
         have HRT:=Lib.hid hrt
         have HRTT:=Lib.hid hrt
         have htl:p.terms.length=g.toks.length+1:=by rw [HF.out.terms]; simp
         have hsy:=sym_any (x2:=R) (x3:=.slice (some ⟨Lb,0,none⟩) (g.toks.length+1) Lc) (x4:=AA) (x5:=CV) (tc:=Tc) (vc:=vc) x.left (Strs.of_owns (HO2.out.own (r:=rS (.slice Ta (g.toks.length+1) Tc) (g.toks.length+1) p.terms) (by simp)) htl) (Strs.of_owns (HO2.out.own (r:=rS (.slice va nv vc) nv p.vars) (by simp)) HN.out.symm) (by omega) (by rw [← HN.out]; omega)
         rw [hsl,← hleft,htl,← HN.out] at hsy
         have x0:(wr.alloc (.cells #[.string x.left,.slice xa x.right.length xc,.string x.prec,.string x.action] 77)).cell? ⟨wr.heap.size,0,none⟩=some (.string x.left):=by rw [cell_of_row _ _ _ _ _ _ hP]; rfl
         obtain ⟨p0,p1,p2,p3,p4,p5,_⟩:=HO2.out.c
         clear hx hst hbU hrt hsl hyl hleft hP hpr htl AL
         go_wp2_with fail
         refine hsy.mono ?_
         rintro e V ⟨rfl,hbe⟩
         have HP2:=Lib.hid ((hbe.block wr.heap.size (by simp)).trans HP.out)
         have HO3:=Lib.hid (HO2.out.below hbe)
         have hrb:wr.heap.size < V.heap.size:=by have:=hbe.size; simp at this; omega
         clear hsy hbe p0 p1 p2 p3 p4 p5 x0 t0 t1 t2 t3 HO HO2 HP G3 G2 e4
         generalize wr.heap.size=rb at HP2 HO3 hrb ⊢
         have HPX:=Lib.hid (heap_alloc_new V (.cells #[.int .i64 (lv0:Nat),.slice none 0 0,.int .i64 0] 46))
         have HPR2:=Lib.hid ((((Below.refl V.heap.size V).alloc (Nat.le_refl _) (.cells #[.int .i64 (lv0:Nat),.slice none 0 0,.int .i64 0] 46)).block rb hrb).trans HP2.out)
         have HO4:=Lib.hid ((HO3.out.more (.cells #[.int .i64 (lv0:Nat),.slice none 0 0,.int .i64 0] 46)).zero 3 1)
         have hxr:V.heap.size≠rb:=by omega
         have hxp:V.heap.size≠pb:=by have:=HO3.out.lt; omega
         go_wp2_with fail
         clear HO3 HP2
         generalize V.alloc (.cells #[.int .i64 (lv0:Nat),.slice none 0 0,.int .i64 0] 46)=Y at HPX HPR2 HO4 ⊢
         generalize V.heap.size=xb at HPX HO4 hxr hxp hrb ⊢
         go_loopg [14,15] x.right.length (fun g2 i sy wq=>∃ (q lev:Nat) (l:List Int) (xv:Value),i=.int .i64 q∧q≤x.right.length∧Hid (g2+q=x.right.length)∧Hid (l.length=q) ∧
           Hid (OI U wq pb #[.slice Ta (g.toks.length+1) Tc,.slice va nv vc,R,.slice (some ⟨Lb,0,none⟩) (g.toks.length+1) Lc,AA,CV] [xb,rb] (rI xv q l::([rS (.slice Ta (g.toks.length+1) Tc) (g.toks.length+1) p.terms,rS (.slice va nv vc) nv p.vars,rP R (k+1) (p.rules.take (k+1)) ns,rN (.slice (some ⟨Lb,0,none⟩) (g.toks.length+1) Lc) (g.toks.length+1) p.levels,rI AA (g.levs.length+1) p.assocs,rS CV (g.rules.length+1) p.acts]++rX (p.rules.take (k+1)) ns))) ∧
           Hid (wq.heap[xb]?=some (.cells #[.int .i64 (lv0:Nat),xv,.int .i64 (lev:Nat)] 46 (0,0)))∧Hid (wq.heap[rb]?=some (.cells #[.string x.left,.slice xa x.right.length xc,.string x.prec,.string x.action] 77 (0,0)))∧Hid (Pl.rt p.terms p.vars p.levels (x.right.drop q) l lev=RT))
         case atStart=>exact ⟨0,0,[],_,rfl,by omega,Lib.hid (by omega),Lib.hid rfl,HO4,HPX,HPR2,HRT⟩
         case round =>
          clear HO4 HPX HPR2 HRT
          obtain ⟨q,lev,l,xv,rfl,hq,HQ,HLL,HO,HX,HR2,HRT⟩:=hrel
          have r1:wr.cell? ⟨rb,1,none⟩=some (.slice xa x.right.length xc):=by rw [cell_of_row _ _ _ _ _ _ HR2.out]; rfl
          by_cases hql:q < x.right.length
          ·have hdr:=List.drop_eq_getElem_cons hql
           have hrt:=HRT.out
           rw [hdr] at hrt
           obtain ⟨b9,off9,rfl,u0⟩:=HSTU.out q hql
           obtain ⟨st,hst⟩:∃ st,st=x.right[q]:=⟨_,rfl⟩
           rcases sym_range p.terms p.vars st with hsn | ⟨ys,hys,hsy⟩
           ·have hb9:=World.block_lt_of_cell? U _ u0
            rw [← hst] at u0
            have htl:p.terms.length=g.toks.length+1:=by rw [HF.out.terms]; simp
            have z9:∀ z:Wd wr.heap.size wr,z.w.cell? ⟨b9,off9+q,none⟩=some (.string st):=fun z=>((bcell (HO.out.below z.ok).low).1 _ _ hb9).trans u0
            have zp0:=fun z:Wd wr.heap.size wr=>(HO.out.below z.ok).c.1
            have zp1:=fun z:Wd wr.heap.size wr=>(HO.out.below z.ok).c.2.1
            have zp2:=fun z:Wd wr.heap.size wr=>(HO.out.below z.ok).c.2.2.1
            have zp3:=fun z:Wd wr.heap.size wr=>(HO.out.below z.ok).c.2.2.2.1
            have zp4:=fun z:Wd wr.heap.size wr=>(HO.out.below z.ok).c.2.2.2.2.1
            have zp5:=fun z:Wd wr.heap.size wr=>(HO.out.below z.ok).c.2.2.2.2.2.1
            have hrbl:=(Array.getElem?_eq_some_iff.1 HR2.out).1
            have zr1:∀ z:Wd wr.heap.size wr,z.w.cell? ⟨rb,1,none⟩=some (.slice (some ⟨b9,off9,none⟩) x.right.length xc):=fun z=>((bcell z.ok).1 _ _ hrbl).trans r1
            have hsyz:∀ z:Wd wr.heap.size wr,Calls Tryd.prog 66 #[.agg #[.slice Ta (g.toks.length+1) Tc,.slice va nv vc,R,.slice (some ⟨Lb,0,none⟩) (g.toks.length+1) Lc,AA,CV],.string st] z.w fun e w'=>e=.returned (.int .i64 (-1))∧Below z.w.heap.size z.w w':=fun z=>by
             have HOz:=HO.out.below z.ok
             have:=sym_any (x2:=R) (x3:=.slice (some ⟨Lb,0,none⟩) (g.toks.length+1) Lc) (x4:=AA) (x5:=CV) (tc:=Tc) (vc:=vc) st (Strs.of_owns (HOz.own (r:=rS (.slice Ta (g.toks.length+1) Tc) (g.toks.length+1) p.terms) (by simp)) htl) (Strs.of_owns (HOz.own (r:=rS (.slice va nv vc) nv p.vars) (by simp)) HN.out.symm) (by omega) (by rw [← HN.out]; omega)
             rwa [hsn,htl,← HN.out] at this
            have hzz:=Nat.le_refl wr.heap.size
            have HU0:=Lib.hid u0
            clear hst hdr hrt hsn u0
            go_wp2_with fail
            refine region_cls wr.heap.size (by kernel_rfl) (by kernel_rfl) ?_
            repeat (go_big_quiet_step (first | (go_at_call 66; exact calls_cls _ hzz (hsyz _))))
            refine wpQuiet_nil ?_
            intro z
            have HO2:=Lib.hid (HO.out.below z.ok)
            have HR3:=Lib.hid ((z.ok.block rb hrbl).trans HR2.out)
            clear zp0 zp1 zp2 zp3 zp4 zp5 zr1 z9 hsyz hrbl HO HX HR2 HRT r1 hzz
            generalize z.w=V2 at HO2 HR3 ⊢
            have u9:=((bcell HO2.out.low).1 _ _ hb9).trans HU0.out
            have h6:=(HO2.out.low.block _ (by omega:w.heap.size+1 < U.heap.size)).trans R0.out
            have hbs:b9≠w.heap.size+1:=fun e=>by
             have h5:=u9
             rw [e,cell_of_row _ _ _ _ _ _ h6] at h5
             exact zplan_no_str _ _ h5
            have hrs:rb≠w.heap.size+1:=fun e=>by
             have h5:=HR3.out
             rw [e,h6] at h5
             cases h5
            have zt:∀ z:Wq (fun j=>j≠w.heap.size+1∧(j=rb∨j=b9)) V2,z.w.cell? ⟨b9,off9+q,none⟩=some (.string st):=fun z=>z.cell ⟨hbs,.inr rfl⟩ u9
            have z0:∀ z:Wq (fun j=>j≠w.heap.size+1∧(j=rb∨j=b9)) V2,z.w.cell? ⟨rb,1,none⟩=some (.slice (some ⟨b9,off9,none⟩) x.right.length xc):=fun z=>z.cell ⟨hrs,.inl rfl⟩ (by rw [cell_of_row _ _ _ _ _ _ HR3.out]; rfl)
            clear u9 h6
            go_wp2_with fail
            have hg0:V2.drew.heap[w.heap.size+1]?=some (.cells #[.slice none 0 0,.slice none 0 0,.slice none 0 0,.slice none 0 0,.slice none 0 0,.slice none 0 0] 32 (0,0)):=(HO2.out.low.block _ (by omega)).trans R0.out
            have hlo:=(L0.out.trans (HO2.out.low.mono (by omega:w.heap.size≤U.heap.size))).drew
            refine region_gq [0,1,2,3,4,5] [6,7,8] 2 233 (fun j=>j≠w.heap.size+1∧(j=rb∨j=b9)) ?_ (fun c a d v w h=>by cases d<;>exact h) (by kernel_rfl) (by kernel_rfl) (by rfl) ?_ ?_
            rotate_left
            ·intro z
             simp only [pickL,List.getElem?_cons_zero,List.getElem?_cons_succ]
             repeat (go_big_quiet_step (fail))
             refine wpQuiet_nil ?_
             exact rfl
            clear z0 zt
            simp only [pickL,List.getElem?_cons_zero,List.getElem?_cons_succ]
            refine listE_store_row rfl 32 _ _ rfl (w.heap.size+1) rfl _ rfl _ 32 hg0 rfl plan_size (by simp [Value.oneCell']) ⟨⟨V2.drew.setRow (w.heap.size+1) _,by simp,fun k hk1 hk=>setRow_other _ _ _ _ hk.1⟩,rfl⟩ ?_
            refine listE_quiet rfl ?_
            simp only [Act.put,List.setIfInBounds_toArray,List.set_cons_succ,List.set_cons_zero]
            repeat (go_big_quiet_step (fail))
            refine wpQuiet_nil ?_
            refine ⟨⟨⟨V2.drew.setRow (w.heap.size+1) _,by simp,fun k hk1 hk=>setRow_other _ _ _ _ hk.1⟩,rfl⟩,?_⟩
            change wpList _ _ _ _ _ _
            go_wp2_with fail
            exact bodyPost_ret (results_row_two rfl _ _ (.int .i64 16) (.string st) (w.heap.size+1) 32 #[.slice none 0 0,.slice none 0 0,.slice none 0 0,.slice none 0 0,.slice none 0 0,.slice none 0 0] (0,0) _ (by rfl) (by rfl) (by rfl) (setRow_heap _ _ _ _ _ _ hg0) Tryd.underlying32 rfl plan_size) rfl ⟨_,_,rfl,by decide,low_row1 hlo (by omega)⟩
           have hrt2:=rt_step hrt (hst▸hsy)
           rw [← hst] at u0
           have hb9:=World.block_lt_of_cell? U _ u0
           have htl:p.terms.length=g.toks.length+1:=by rw [HF.out.terms]; simp
           have HRT2:=Lib.hid hrt2
           have z9:∀ z:Wd wr.heap.size wr,z.w.cell? ⟨b9,off9+q,none⟩=some (.string st):=fun z=>((bcell (HO.out.below z.ok).low).1 _ _ hb9).trans u0
           have zp0:=fun z:Wd wr.heap.size wr=>(HO.out.below z.ok).c.1
           have zp1:=fun z:Wd wr.heap.size wr=>(HO.out.below z.ok).c.2.1
           have zp2:=fun z:Wd wr.heap.size wr=>(HO.out.below z.ok).c.2.2.1
           have zp3:=fun z:Wd wr.heap.size wr=>(HO.out.below z.ok).c.2.2.2.1
           have zp4:=fun z:Wd wr.heap.size wr=>(HO.out.below z.ok).c.2.2.2.2.1
           have zp5:=fun z:Wd wr.heap.size wr=>(HO.out.below z.ok).c.2.2.2.2.2.1
           have hrbl:=(Array.getElem?_eq_some_iff.1 HR2.out).1
           have hxbl:=(Array.getElem?_eq_some_iff.1 HX.out).1
           have zr1:∀ z:Wd wr.heap.size wr,z.w.cell? ⟨rb,1,none⟩=some (.slice (some ⟨b9,off9,none⟩) x.right.length xc):=fun z=>((bcell z.ok).1 _ _ hrbl).trans r1
           have hsyz:∀ z:Wd wr.heap.size wr,Calls Tryd.prog 66 #[.agg #[.slice Ta (g.toks.length+1) Tc,.slice va nv vc,R,.slice (some ⟨Lb,0,none⟩) (g.toks.length+1) Lc,AA,CV],.string st] z.w fun e w'=>e=.returned (.int .i64 (ys:Nat))∧Below z.w.heap.size z.w w':=fun z=>by
            have HOz:=HO.out.below z.ok
            have:=sym_any (x2:=R) (x3:=.slice (some ⟨Lb,0,none⟩) (g.toks.length+1) Lc) (x4:=AA) (x5:=CV) (tc:=Tc) (vc:=vc) st (Strs.of_owns (HOz.own (r:=rS (.slice Ta (g.toks.length+1) Tc) (g.toks.length+1) p.terms) (by simp)) htl) (Strs.of_owns (HOz.own (r:=rS (.slice va nv vc) nv p.vars) (by simp)) HN.out.symm) (by omega) (by rw [← HN.out]; omega)
            rwa [hsy,htl,← HN.out] at this
           have hzz:=Nat.le_refl wr.heap.size
           have hys2:ys < 70:=by rw [htl,← HN.out] at hys; omega
           clear hst hdr hrt hsy hrt2 u0
           go_wp2_with fail
           refine region_cls wr.heap.size (by kernel_rfl) (by kernel_rfl) ?_
           repeat (go_big_quiet_step (first | (go_at_call 66; exact calls_cls _ hzz (hsyz _))))
           refine wpQuiet_nil ?_
           intro z
           have HO2:=Lib.hid (HO.out.below z.ok)
           have HX2:=Lib.hid ((z.ok.block xb hxbl).trans HX.out)
           have HR3:=Lib.hid ((z.ok.block rb hrbl).trans HR2.out)
           clear zp0 zp1 zp2 zp3 zp4 zp5 zr1 z9 hsyz hrbl hxbl HO HX HR2 HRT r1 hzz
           generalize z.w=V2 at HO2 HX2 HR3 ⊢
           have hxc:=HX2.out
           have q1:V2.cell? ⟨xb,1,none⟩=some xv:=by rw [cell_of_row _ _ _ _ _ _ hxc]; rfl
           have HO3:=Lib.hid (HO2.out.alloc (.cells #[.int .i64 (ys:Nat)] 3))
           have hxv:V2.heap.size < (V2.alloc (.cells #[.int .i64 (ys:Nat)] 3)).heap.size:=by simp
           have HX3:=Lib.hid ((((Below.refl V2.heap.size V2).alloc (Nat.le_refl _) (.cells #[.int .i64 (ys:Nat)] 3)).block xb (Array.getElem?_eq_some_iff.1 HX2.out).1).trans HX2.out)
           have HR4:=Lib.hid ((((Below.refl V2.heap.size V2).alloc (Nat.le_refl _) (.cells #[.int .i64 (ys:Nat)] 3)).block rb (Array.getElem?_eq_some_iff.1 HR3.out).1).trans HR3.out)
           have hq8:q≤8:=by omega
           have htl:p.terms.length=g.toks.length+1:=by rw [HF.out.terms]; simp
           clear hxc
           by_cases hterm:ys < p.terms.length
           ·have hlv:p.levels.length=g.toks.length+1:=by rw [HF.out.levels]; simp
            have HLl:=Lib.hid hlv
            rw [htl] at hterm
            have HRT3:=Lib.hid HRT2.out
            rw [htl,if_pos hterm] at HRT3
            have hd:decide ((ys:Int) < (g.toks.length:Int)+1)=true:=by simp; omega
            clear htl hlv HRT2
            go_wp2_with (refine list_app_I rfl _ _ _ rfl [] xv q l ([rS (.slice Ta (g.toks.length+1) Tc) (g.toks.length+1) p.terms,rS (.slice va nv vc) nv p.vars,rP R (k+1) (p.rules.take (k+1)) ns,rN (.slice (some ⟨Lb,0,none⟩) (g.toks.length+1) Lc) (g.toks.length+1) p.levels,rI AA (g.levs.length+1) p.assocs,rS CV (g.rules.length+1) p.acts]++rX (p.rules.take (k+1)) ns) elt_int rfl HO3.out V2.heap.size 1 rfl ((ys:Nat):Int) (heap_alloc_new V2 _) (by omega) ?_; intro bi bic wg hoi hno; have HX4:=Lib.hid ((hno xb (by simp)).trans HX3.out); have HR5:=Lib.hid ((hno rb (by simp)).trans HR4.out); have HO4:=Lib.hid hoi; have q1:wg.cell? ⟨xb,1,none⟩=some xv:=(by rw [cell_of_row _ _ _ _ _ _ HX4.out]; rfl); have qf:wg.frozen? ⟨xb,1,none⟩=false:=frozen_of_row _ _ _ _ _ HX4.out; have s0:∀ v,(wg.setCell ⟨xb,1,none⟩ v).cell? ⟨pb,0,none⟩=some (.slice Ta (g.toks.length+1) Tc):=(fun v=>(hoi.setO (b:=xb) (by simp) hxp 1 v).c.1); have s3:∀ v,(wg.setCell ⟨xb,1,none⟩ v).cell? ⟨pb,3,none⟩=some (.slice (some ⟨Lb,0,none⟩) (g.toks.length+1) Lc):=(fun v=>(hoi.setO (b:=xb) (by simp) hxp 1 v).c.2.2.2.1); have s4:∀ v,(wg.setCell ⟨xb,1,none⟩ v).cell? ⟨Lb,ys,none⟩=some (.int .i64 (p.levels.getD ys 0:Nat)):=(fun v=>natcell ((hoi.setO (b:=xb) (by simp) hxp 1 v).own (r:=rN (.slice (some ⟨Lb,0,none⟩) (g.toks.length+1) Lc) (g.toks.length+1) p.levels) (by simp)) (by rw [HLl.out]; exact hterm)); have s5:∀ v,(wg.setCell ⟨xb,1,none⟩ v).cell? ⟨xb,2,none⟩=some (.int .i64 (lev:Nat)):=(fun v=>by rw [cell_of_row _ _ _ _ _ _ (heap_setCell_same _ _ _ _ _ _ HX4.out)]; rfl); have s6:∀ v,(wg.setCell ⟨xb,1,none⟩ v).frozen? ⟨xb,2,none⟩=false:=(fun v=>frozen_of_row _ _ _ _ _ (heap_setCell_same _ _ _ _ _ _ HX4.out)); clear hoi hno)
            go_roundg (x.right.length - (q+1))
            case measure=>have:=HQ.out; omega
            case rel=>exact ⟨q+1,p.levels.getD ys 0,l++[((ys:Nat):Int)],.slice (some ⟨bi,0,none⟩) (q+1) bic,by go_num,by omega,Lib.hid (by omega),Lib.hid (by rw [List.length_append,HLL.out]; rfl),Lib.hid ((HO4.out.setO (b:=xb) (by simp) hxp 1 _).setO (b:=xb) (by simp) hxp 2 _),Lib.hid (heap_setCell_same _ _ _ _ _ _ (heap_setCell_same _ _ _ _ _ _ HX4.out)),Lib.hid ((heap_setCell_other _ _ _ _ (Ne.symm hxr)).trans ((heap_setCell_other _ _ _ _ (Ne.symm hxr)).trans HR5.out)),HRT3⟩
           ·rw [htl] at hterm
            have HRT3:=Lib.hid HRT2.out
            rw [htl,if_neg hterm] at HRT3
            have hd:decide ((ys:Int) < (g.toks.length:Int)+1)=false:=by simp; omega
            clear htl HRT2
            go_wp2_with (refine list_app_I rfl _ _ _ rfl [] xv q l ([rS (.slice Ta (g.toks.length+1) Tc) (g.toks.length+1) p.terms,rS (.slice va nv vc) nv p.vars,rP R (k+1) (p.rules.take (k+1)) ns,rN (.slice (some ⟨Lb,0,none⟩) (g.toks.length+1) Lc) (g.toks.length+1) p.levels,rI AA (g.levs.length+1) p.assocs,rS CV (g.rules.length+1) p.acts]++rX (p.rules.take (k+1)) ns) elt_int rfl HO3.out V2.heap.size 1 rfl ((ys:Nat):Int) (heap_alloc_new V2 _) (by omega) ?_; intro bi bic wg hoi hno; have HX4:=Lib.hid ((hno xb (by simp)).trans HX3.out); have HR5:=Lib.hid ((hno rb (by simp)).trans HR4.out); have HO4:=Lib.hid hoi; have q1:wg.cell? ⟨xb,1,none⟩=some xv:=(by rw [cell_of_row _ _ _ _ _ _ HX4.out]; rfl); have qf:wg.frozen? ⟨xb,1,none⟩=false:=frozen_of_row _ _ _ _ _ HX4.out; have s0:∀ v,(wg.setCell ⟨xb,1,none⟩ v).cell? ⟨pb,0,none⟩=some (.slice Ta (g.toks.length+1) Tc):=(fun v=>(hoi.setO (b:=xb) (by simp) hxp 1 v).c.1); clear hoi hno)
            go_roundg (x.right.length - (q+1))
            case measure=>have:=HQ.out; omega
            case rel=>exact ⟨q+1,lev,l++[((ys:Nat):Int)],.slice (some ⟨bi,0,none⟩) (q+1) bic,by go_num,by omega,Lib.hid (by omega),Lib.hid (by rw [List.length_append,HLL.out]; rfl),Lib.hid (HO4.out.setO (b:=xb) (by simp) hxp 1 _),Lib.hid (heap_setCell_same _ _ _ _ _ _ HX4.out),Lib.hid ((heap_setCell_other _ _ _ _ (Ne.symm hxr)).trans HR5.out),HRT3⟩
          ·obtain rfl:q=x.right.length:=by omega
           have hrt:=HRT.out
           rw [List.drop_length,Pl.rt] at hrt
           have HRT0:=Lib.hid (show Pl.rt p.terms p.vars p.levels x.right [] 0=.ok (l,lev) from HRTT.out.trans hrt.symm)
           have r2:wr.cell? ⟨rb,2,none⟩=some (.string x.prec):=by rw [cell_of_row _ _ _ _ _ _ HR2.out]; rfl
           have hlv3:(∃ px:Pl.Prod,px.left=lv0∧px.right=l∧((x.prec.size == 0)=true∧px.level=lev∨(x.prec.size == 0)=false∧Pl.level g.levs x.prec≠0∧px.level=Pl.level g.levs x.prec)∧Pl.prod g.levs p.terms p.vars p.levels x=.ok px)∨((x.prec.size == 0)=false∧Pl.level g.levs x.prec=0):=prod_end HRT0.out HLF.out
           clear hrt HQ HRT hql hq HRT0
           rcases hlv3 with ⟨px,hl0,hl1,hlev,hpx⟩ | ⟨h0,hl0⟩
           rotate_left
           ·have b1:(x.prec.toList == [])=false:=by rw [toList_beq0]; exact h0
            have b2:(!x.prec.toList.isEmpty)=true:=empty_no b1
            have G2:=Lib.hid (G.out.below HO.out.low)
            have e0:=G2.out.c0
            have e1:=G2.out.c1
            have e2:=G2.out.c2
            have e3:=G2.out.c3
            have e4:=G2.out.c4
            have hlevc:=level8_any (x0:=.slice ta g.toks.length tc) (x1:=.slice sa g.skips.length sc) (x3:=.string g.start) (x4:=.slice (some ⟨b,off,none⟩) g.rules.length rc) (cap:=lc) x.prec G2.out.l (by omega) (fun i hi=>by have:=HZ.out.l g.levs[i] (List.getElem_mem hi); omega)
            rw [hl0] at hlevc
            clear h0 hl0
            go_wp2_with fail
            refine hlevc.mono ?_
            rintro e V3 ⟨rfl,hbe⟩
            have HO2:=Lib.hid (HO.out.below hbe)
            have HX2:=Lib.hid ((hbe.block xb (Array.getElem?_eq_some_iff.1 HX.out).1).trans HX.out)
            have HR3:=Lib.hid ((hbe.block rb (Array.getElem?_eq_some_iff.1 HR2.out).1).trans HR2.out)
            have x2:V3.cell? ⟨xb,2,none⟩=some (.int .i64 (lev:Nat)):=by rw [cell_of_row _ _ _ _ _ _ HX2.out]; rfl
            have xf:V3.frozen? ⟨xb,2,none⟩=false:=frozen_of_row _ _ _ _ _ HX2.out
            have HO3:=Lib.hid (HO2.out.setO (b:=xb) (by simp) hxp 2 (.int .i64 (0:Nat)))
            have HR4:=Lib.hid ((show (V3.setCell ⟨xb,2,none⟩ (.int .i64 (0:Nat))).heap[rb]?=V3.heap[rb]? from heap_setCell_other _ _ _ _ (by first | exact hxr | exact Ne.symm hxr)).trans HR3.out)
            clear hlevc hbe b1 b2 r1 r2 e0 e1 e2 e3 e4 HO HX HR2
            go_wp2_with fail
            generalize hV4:V3.setCell ⟨xb,2,none⟩ (.int .i64 _)=V4 at ⊢
            rw [show V3.setCell ⟨xb,2,none⟩ (.int .i64 (0:Nat))=V4 from hV4] at HO3 HR4
            clear hV4 x2 xf
            have h6:=(HO3.out.low.block _ (by omega:w.heap.size+1 < U.heap.size)).trans R0.out
            have hrs:rb≠w.heap.size+1:=fun e=>by
             have h5:=HR4.out
             rw [e,h6] at h5
             cases h5
            have z0:∀ z:Wq (fun j=>j≠w.heap.size+1∧j=rb) V4,z.w.cell? ⟨rb,2,none⟩=some (.string x.prec):=fun z=>z.cell ⟨hrs,rfl⟩ (by rw [cell_of_row _ _ _ _ _ _ HR4.out]; rfl)
            clear h6
            have hg0:V4.drew.heap[w.heap.size+1]?=some (.cells #[.slice none 0 0,.slice none 0 0,.slice none 0 0,.slice none 0 0,.slice none 0 0,.slice none 0 0] 32 (0,0)):=(HO3.out.low.block _ (by omega)).trans R0.out
            have hlo:=(L0.out.trans (HO3.out.low.mono (by omega:w.heap.size≤U.heap.size))).drew
            refine region_gq [0,1,2] [3,4,5] 2 233 (fun j=>j≠w.heap.size+1∧j=rb) ?_ (fun c a d v w h=>by cases d<;>exact h) (by kernel_rfl) (by kernel_rfl) (by rfl) ?_ ?_
            rotate_left
            ·intro z
             simp only [pickL,List.getElem?_cons_zero,List.getElem?_cons_succ]
             repeat (go_big_quiet_step (fail))
             refine wpQuiet_nil ?_
             exact rfl
            clear z0
            simp only [pickL,List.getElem?_cons_zero,List.getElem?_cons_succ]
            refine listE_store_row rfl 32 _ _ rfl (w.heap.size+1) rfl _ rfl _ 32 hg0 rfl plan_size (by simp [Value.oneCell']) ⟨⟨V4.drew.setRow (w.heap.size+1) _,by simp,fun k hk1 hk=>setRow_other _ _ _ _ hk.1⟩,rfl⟩ ?_
            refine listE_quiet rfl ?_
            simp only [Act.put,List.setIfInBounds_toArray,List.set_cons_succ,List.set_cons_zero]
            repeat (go_big_quiet_step (fail))
            refine wpQuiet_nil ?_
            refine ⟨⟨⟨V4.drew.setRow (w.heap.size+1) _,by simp,fun k hk1 hk=>setRow_other _ _ _ _ hk.1⟩,rfl⟩,?_⟩
            change wpList _ _ _ _ _ _
            go_wp2_with fail
            exact bodyPost_ret (results_row_two rfl _ _ (.int .i64 16) (.string x.prec) (w.heap.size+1) 32 #[.slice none 0 0,.slice none 0 0,.slice none 0 0,.slice none 0 0,.slice none 0 0,.slice none 0 0] (0,0) _ (by rfl) (by rfl) (by rfl) (setRow_heap _ _ _ _ _ _ hg0) Tryd.underlying32 rfl plan_size) rfl ⟨_,_,rfl,by decide,low_row1 hlo (by omega)⟩
           have HPA3:Hid (∀ j (hj:j < g.rules.length),j < k+1→∃ x,Pl.prod g.levs p.terms p.vars p.levels g.rules[j]=.ok x):=Lib.hid (HPA2.out ⟨px,hpx⟩)
           have hpr:=HPR.out px hpx
           subst hl0 hl1
           have HXL:Hid (x.right.length=px.right.length):=Lib.hid HLL.out.symm
           have hrl:=HF.out.len
           have HTK:Hid ((p.rules.take (k+1)).length=k+1):=Lib.hid (by rw [List.length_take]; omega)
           have HTS:Hid (p.rules.take (k+1+1)=p.rules.take (k+1)++[px]):=Lib.hid (by
            have hk1:k+1 < p.rules.length:=by omega
            rw [List.take_succ_eq_append_getElem hk1]
            have:=hpr
            rw [List.getElem?_eq_getElem hk1] at this
            rw [Option.some.inj this])
           clear hrl HLL hpr hpx HPR HPA
           rcases hlev with ⟨h0,hlv⟩ | ⟨h0,hne,hlv⟩
           ·have b1:(x.prec.toList == [])=true:=by rw [toList_beq0]; exact h0
            have b2:x.prec.toList=[]:=by simpa using b1
            rw [← hlv] at HX
            clear h0 hlv
            have HO7:=Lib.hid (HO.out.alloc (.cells #[.int .i64 (px.left:Nat),xv,.int .i64 (px.level:Nat)] 46))
            have p2:=HO.out.c.2.2.1
            have x0:wr.cell? ⟨xb,0,none⟩=some (.int .i64 (px.left:Nat)):=by rw [cell_of_row _ _ _ _ _ _ HX.out]; rfl
            have x1:wr.cell? ⟨xb,1,none⟩=some xv:=by rw [cell_of_row _ _ _ _ _ _ HX.out]; rfl
            have x2:wr.cell? ⟨xb,2,none⟩=some (.int .i64 (px.level:Nat)):=by rw [cell_of_row _ _ _ _ _ _ HX.out]; rfl
            have hx1:xv.oneCell'=true:=own_one (HO.out.own (r:=rI xv x.right.length px.right) (by simp))
            have hk40:=HR.out.nr
            have hn0:=heap_alloc_new wr (.cells #[.int .i64 (px.left:Nat),xv,.int .i64 (px.level:Nat)] 46)
            rw [show wr.heap.size=wr.heap.size from by simp [World.setCell]] at hn0
            go_wp2_with (refine list_app_P rfl _ _ _ rfl (rI xv x.right.length px.right::[rS (.slice Ta (g.toks.length+1) Tc) (g.toks.length+1) p.terms,rS (.slice va nv vc) nv p.vars]) R (k+1) (p.rules.take (k+1)) ns ([rN (.slice (some ⟨Lb,0,none⟩) (g.toks.length+1) Lc) (g.toks.length+1) p.levels,rI AA (g.levs.length+1) p.assocs,rS CV (g.rules.length+1) p.acts]++rX (p.rules.take (k+1)) ns) (by rw [HNS.out,HTK.out]) elt_prod rfl HO7.out wr.heap.size 1 rfl px xv hx1 hn0 (by omega) ?_; intro bi bic wg hoi _; have HO8:=Lib.hid hoi; have p2:=hoi.c.2.2.1; have pf:=hoi.c.2.2.2.2.2.2 2; clear hoi)
            have HO9:=Lib.hid (HO8.out.p2 (.slice (some ⟨bi,0,none⟩) (k+1+1) bic))
            clear p2 pf HO8 hn0
            go_roundg (g.rules.length - (k+1))
            case measure=>have:=HK.out; omega
            case rel =>
             refine ⟨k+1,.slice (some ⟨bi,0,none⟩) (k+1+1) bic,ns++[xv],by go_num,by omega,Lib.hid (by omega),Lib.hid (by rw [List.length_append,HNS.out]; rfl),Lib.hid ?_,HPA3⟩
             rw [HTS.out,rX_snoc _ _ _ _ (by rw [HNS.out,HTK.out])]
             rw [← HXL.out]
             refine (HO9.out.sub (no':=[]) (by simp)).perm ?_
             exact (perm_last _ _)
           ·have b1:(x.prec.toList == [])=false:=by rw [toList_beq0]; exact h0
            have b2:(!x.prec.toList.isEmpty)=true:=empty_no b1
            have G2:=Lib.hid (G.out.below HO.out.low)
            have e0:=G2.out.c0
            have e1:=G2.out.c1
            have e2:=G2.out.c2
            have e3:=G2.out.c3
            have e4:=G2.out.c4
            have hlevc:=level8_any (x0:=.slice ta g.toks.length tc) (x1:=.slice sa g.skips.length sc) (x3:=.string g.start) (x4:=.slice (some ⟨b,off,none⟩) g.rules.length rc) (cap:=lc) x.prec G2.out.l (by omega) (fun i hi=>by have:=HZ.out.l g.levs[i] (List.getElem_mem hi); omega)
            rw [← hlv] at hlevc hne
            have HNE:=Lib.hid hne
            clear h0 hlv hne
            go_wp2_with fail
            refine hlevc.mono ?_
            rintro e V3 ⟨rfl,hbe⟩
            have HO2:=Lib.hid (HO.out.below hbe)
            have HX2:=Lib.hid ((hbe.block xb (Array.getElem?_eq_some_iff.1 HX.out).1).trans HX.out)
            have x2:V3.cell? ⟨xb,2,none⟩=some (.int .i64 (lev:Nat)):=by rw [cell_of_row _ _ _ _ _ _ HX2.out]; rfl
            have xf:V3.frozen? ⟨xb,2,none⟩=false:=frozen_of_row _ _ _ _ _ HX2.out
            have HO3:=Lib.hid (HO2.out.setO (b:=xb) (by simp) hxp 2 (.int .i64 (px.level:Nat)))
            have hx3:=heap_setCell_same _ _ 2 _ _ (.int .i64 (px.level:Nat)) HX2.out
            have HX3:Hid ((V3.setCell ⟨xb,2,none⟩ (.int .i64 (px.level:Nat))).heap[xb]?=some (.cells #[.int .i64 (px.left:Nat),xv,.int .i64 (px.level:Nat)] 46 (0,0))):=Lib.hid hx3
            have dz:((px.level:Int) == 0)=false:=by rw [beq0]; simpa using HNE.out
            clear hlevc hbe b1 b2 r1 r2 e0 e1 e2 e3 e4 HO HX HR2 hx3
            have HO7:=Lib.hid (HO3.out.alloc (.cells #[.int .i64 (px.left:Nat),xv,.int .i64 (px.level:Nat)] 46))
            have p2:=HO3.out.c.2.2.1
            have x0:(V3.setCell ⟨xb,2,none⟩ (.int .i64 (px.level:Nat))).cell? ⟨xb,0,none⟩=some (.int .i64 (px.left:Nat)):=by rw [cell_of_row _ _ _ _ _ _ HX3.out]; rfl
            have x1:(V3.setCell ⟨xb,2,none⟩ (.int .i64 (px.level:Nat))).cell? ⟨xb,1,none⟩=some xv:=by rw [cell_of_row _ _ _ _ _ _ HX3.out]; rfl
            have y2:(V3.setCell ⟨xb,2,none⟩ (.int .i64 (px.level:Nat))).cell? ⟨xb,2,none⟩=some (.int .i64 (px.level:Nat)):=by rw [cell_of_row _ _ _ _ _ _ HX3.out]; rfl
            have hx1:xv.oneCell'=true:=own_one (HO3.out.own (r:=rI xv x.right.length px.right) (by simp))
            have hk40:=HR.out.nr
            have hn0:=heap_alloc_new (V3.setCell ⟨xb,2,none⟩ (.int .i64 (px.level:Nat))) (.cells #[.int .i64 (px.left:Nat),xv,.int .i64 (px.level:Nat)] 46)
            rw [show (V3.setCell ⟨xb,2,none⟩ (.int .i64 (px.level:Nat))).heap.size=V3.heap.size from by simp [World.setCell]] at hn0
            go_wp2_with (refine list_app_P rfl _ _ _ rfl (rI xv x.right.length px.right::[rS (.slice Ta (g.toks.length+1) Tc) (g.toks.length+1) p.terms,rS (.slice va nv vc) nv p.vars]) R (k+1) (p.rules.take (k+1)) ns ([rN (.slice (some ⟨Lb,0,none⟩) (g.toks.length+1) Lc) (g.toks.length+1) p.levels,rI AA (g.levs.length+1) p.assocs,rS CV (g.rules.length+1) p.acts]++rX (p.rules.take (k+1)) ns) (by rw [HNS.out,HTK.out]) elt_prod rfl HO7.out V3.heap.size 1 rfl px xv hx1 hn0 (by omega) ?_; intro bi bic wg hoi _; have HO8:=Lib.hid hoi; have p2:=hoi.c.2.2.1; have pf:=hoi.c.2.2.2.2.2.2 2; clear hoi)
            have HO9:=Lib.hid (HO8.out.p2 (.slice (some ⟨bi,0,none⟩) (k+1+1) bic))
            clear p2 pf HO8 hn0
            go_roundg (g.rules.length - (k+1))
            case measure=>have:=HK.out; omega
            case rel =>
             refine ⟨k+1,.slice (some ⟨bi,0,none⟩) (k+1+1) bic,ns++[xv],by go_num,by omega,Lib.hid (by omega),Lib.hid (by rw [List.length_append,HNS.out]; rfl),Lib.hid ?_,HPA3⟩
             rw [HTS.out,rX_snoc _ _ _ _ (by rw [HNS.out,HTK.out])]
             rw [← HXL.out]
             refine (HO9.out.sub (no':=[]) (by simp)).perm ?_
             exact (perm_last _ _)
        ·obtain rfl:k=g.rules.length:=by omega
         have hrl:=HF.out.len
         have htk:p.rules.take (g.rules.length+1)=p.rules:=by rw [← hrl,List.take_length]
         rw [htk] at HO
         have e3:=G2.out.c3
         have st:=Strs.of_owns (HO.out.own (r:=rS (.slice va nv vc) nv p.vars) (by simp)) HN.out.symm
         have hpl:=place_any (cap:=vc) g.start st (by rw [← HN.out]; omega)
         by_cases hst:g.start ∈ p.vars
         ·exact absurd trivial (fun _=>HNO.out (by rw [← HF.out.vars]; exact HTA.out) (fun j hj=>by have:=HPA.out j hj hj; rw [HF.out.terms,HF.out.vars,HF.out.levels] at this; exact this) (by rw [← HF.out.vars]; exact hst))
         have hq1:=placeI_neg hst
         rw [← HN.out,hq1] at hpl
         obtain ⟨_,p1,_⟩:=HO.out.c
         have z0:∀ z:Wq (fun j=>j≠w.heap.size+1∧j=w.heap.size) wr,z.w.cell? ⟨w.heap.size,3,none⟩=some (.string g.start):=fun z=>z.cell ⟨by omega,rfl⟩ G2.out.c3
         clear hrl htk st hst hq1 HK hk hlt HNS
         go_wp2_with fail
         refine hpl.mono ?_
         rintro e w' ⟨rfl,rfl⟩
         clear hpl
         go_wp2_with fail
         have hg0:wr.drew.heap[w.heap.size+1]?=some (.cells #[.slice none 0 0,.slice none 0 0,.slice none 0 0,.slice none 0 0,.slice none 0 0,.slice none 0 0] 32 (0,0)):=(HO.out.low.block _ (by omega)).trans R0.out
         have hlo:=(L0.out.trans (HO.out.low.mono (by omega:w.heap.size≤U.heap.size))).drew
         refine region_gq [0,1,2] [3,4,5] 2 233 (fun j=>j≠w.heap.size+1∧j=w.heap.size) ?_ (fun c a d v w h=>by cases d<;>exact h) (by kernel_rfl) (by kernel_rfl) (by rfl) ?_ ?_
         rotate_left
         ·intro z
          simp only [pickL,List.getElem?_cons_zero,List.getElem?_cons_succ]
          repeat (go_big_quiet_step (fail))
          refine wpQuiet_nil ?_
          exact rfl
         clear z0
         simp only [pickL,List.getElem?_cons_zero,List.getElem?_cons_succ]
         refine listE_store_row rfl 32 _ _ rfl (w.heap.size+1) rfl _ rfl _ 32 hg0 rfl plan_size (by simp [Value.oneCell']) ⟨⟨wr.drew.setRow (w.heap.size+1) _,by simp,fun k hk1 hk=>setRow_other _ _ _ _ hk.1⟩,rfl⟩ ?_
         refine listE_quiet rfl ?_
         simp only [Act.put,List.setIfInBounds_toArray,List.set_cons_succ,List.set_cons_zero]
         repeat (go_big_quiet_step (fail))
         refine wpQuiet_nil ?_
         refine ⟨⟨⟨wr.drew.setRow (w.heap.size+1) _,by simp,fun k hk1 hk=>setRow_other _ _ _ _ hk.1⟩,rfl⟩,?_⟩
         change wpList _ _ _ _ _ _
         go_wp2_with fail
         exact bodyPost_ret (results_row_two rfl _ _ (.int .i64 16) (.string g.start) (w.heap.size+1) 32 #[.slice none 0 0,.slice none 0 0,.slice none 0 0,.slice none 0 0,.slice none 0 0,.slice none 0 0] (0,0) _ (by rfl) (by rfl) (by rfl) (setRow_heap _ _ _ _ _ _ hg0) Tryd.underlying32 rfl plan_size) rfl ⟨_,_,rfl,by decide,low_row1 hlo (by omega)⟩
set_option maxRecDepth 100000 in
set_option maxHeartbeats 16000000 in
theorem of_wrong {w:World} {v:Value} {g:Rd.Gr} (h:GrV w v g) (hr:Pl.right g=false) (hz:GrSz g) :
  Calls Tryd.prog 42 #[v] w fun e w'=>∃ c s,e=.returned (.tuple #[.agg #[.slice none 0 0,.slice none 0 0,.slice none 0 0,.slice none 0 0,.slice none 0 0,.slice none 0 0],.int .i64 c,.string s])∧c≠0∧Below w.heap.size w w':=by
 obtain ⟨ta,tc,sa,sc,la,lc,ra,rc,rfl,h1,h2,h3,h4⟩:=h
 have k0:=(Below.refl w.heap.size w).alloc (Nat.le_refl _) (.cells #[.slice ta g.toks.length tc,.slice sa g.skips.length sc,.slice la g.levs.length lc,.string g.start,.slice ra g.rules.length rc] 74)
 have HG:=Lib.hid ((GA.new (tc:=tc) (sc:=sc) (lc:=lc) (rc:=rc) h1 h2 h3 h4).below ((Below.refl _ _).alloc (Nat.le_refl _) (.cells #[.slice none 0 0,.slice none 0 0,.slice none 0 0,.slice none 0 0,.slice none 0 0,.slice none 0 0] 32)))
 unfold gC at HG
 have hrt:=right_any (w:=(w.alloc (.cells #[.slice ta g.toks.length tc,.slice sa g.skips.length sc,.slice la g.levs.length lc,.string g.start,.slice ra g.rules.length rc] 74)).alloc (.cells #[.slice none 0 0,.slice none 0 0,.slice none 0 0,.slice none 0 0,.slice none 0 0,.slice none 0 0] 32)) ⟨ta,tc,sa,sc,la,lc,ra,rc,rfl,HG.out.t,HG.out.s,HG.out.l,HG.out.r⟩ hz
 rw [hr] at hrt
 have HB:=Lib.hid (k0.alloc (by simp) (.cells #[.slice none 0 0,.slice none 0 0,.slice none 0 0,.slice none 0 0,.slice none 0 0,.slice none 0 0] 32))
 have hRR:=(heap_alloc_new (w.alloc (.cells #[.slice ta g.toks.length tc,.slice sa g.skips.length sc,.slice la g.levs.length lc,.string g.start,.slice ra g.rules.length rc] 74)) (.cells #[.slice none 0 0,.slice none 0 0,.slice none 0 0,.slice none 0 0,.slice none 0 0,.slice none 0 0] 32))
 rw [World.size_alloc] at hRR
 have HRR:=Lib.hid hRR
 have e0:=HG.out.c0
 have e1:=HG.out.c1
 have e2:=HG.out.c2
 have e3:=HG.out.c3
 have e4:=HG.out.c4
 have hsz:((w.alloc (.cells #[.slice ta g.toks.length tc,.slice sa g.skips.length sc,.slice la g.levs.length lc,.string g.start,.slice ra g.rules.length rc] 74)).alloc (.cells #[.slice none 0 0,.slice none 0 0,.slice none 0 0,.slice none 0 0,.slice none 0 0,.slice none 0 0] 32)).heap.size=w.heap.size+2:=by simp
 clear h1 h2 h3 h4 hz hr k0 hRR
 go_enter Tryd.func42,Tryd.ntmps42
 go_wp2_with fail
 generalize (w.alloc (.cells #[.slice ta g.toks.length tc,.slice sa g.skips.length sc,.slice la g.levs.length lc,.string g.start,.slice ra g.rules.length rc] 74)).alloc (.cells #[.slice none 0 0,.slice none 0 0,.slice none 0 0,.slice none 0 0,.slice none 0 0,.slice none 0 0] 32)=W at HG HB HRR hrt e0 e1 e2 e3 e4 hsz ⊢
 refine hrt.mono ?_
 rintro e U ⟨rfl,hBe⟩
 have hg0:=(hBe.block (w.heap.size+1) (by omega)).trans HRR.out
 have hlo:=HB.out.trans (hBe.mono HB.out.size)
 clear hrt hBe HG HB HRR e0 e1 e2 e3 e4
 go_wp2_with (refine list_store_row rfl 32 _ _ rfl (w.heap.size+1) rfl _ rfl _ 32 hg0 rfl plan_size (by simp [Value.oneCell']) ?_)
 exact bodyPost_ret (results_row_two rfl _ _ (.int .i64 1) (.string ⟨#[]⟩) (w.heap.size+1) 32 #[.slice none 0 0,.slice none 0 0,.slice none 0 0,.slice none 0 0,.slice none 0 0,.slice none 0 0] (0,0) _ (by rfl) (by rfl) (by rfl) (setRow_heap _ _ _ _ _ _ hg0) Tryd.underlying32 rfl plan_size) rfl ⟨_,_,rfl,by decide,low_row1 hlo (by omega)⟩
theorem of_no {w:World} {v:Value} {g:Rd.Gr} (h:GrV w v g) (hno:∀ p s,Pl.of g≠(p,0,s)) (hz:GrSz g) :
  Calls Tryd.prog 42 #[v] w fun e w'=>∃ c s,e=.returned (.tuple #[.agg #[.slice none 0 0,.slice none 0 0,.slice none 0 0,.slice none 0 0,.slice none 0 0,.slice none 0 0],.int .i64 c,.string s])∧c≠0∧Below w.heap.size w w':=by
 cases hr:Pl.right g with
 | true=>exact of_none h hr hno hz
 | false=>exact of_wrong h hr hz
end Go.Proofs.YtjbggogbnckllaaDoor
