/-
  The walk of a small grammar of names.
-/
import Derived.Test.YtjbggogbnckllaaDoorAk
namespace Go.Proofs.YtjbggogbnckllaaDoor
open Go.RowKit
set_option linter.unusedVariables false
set_option linter.unusedSimpArgs false
theorem gi_start (U:World):GI U (U.alloc (.cells #[.slice none 0 0,.slice none 0 0,.slice none 0 0,.string ⟨#[83]⟩,.slice none 0 0] 74)) U.heap.size #[.slice none 0 0,.slice none 0 0,.slice none 0 0,.string ⟨#[83]⟩,.slice none 0 0] [] [rT (.slice none 0 0) 0 [],rL (.slice none 0 0) 0 [] [],rR (.slice none 0 0) 0 [] []]:=by
 have r:=((((RwL.nil (w:=U) (B:=U.heap.size) (no:=[])).zero 77 4).zero 107 2).zero 111 4).more
 exact ⟨(Below.refl _ _).alloc (Nat.le_refl _) _,Nat.le_refl _,by simp,heap_alloc_new U _,r.alloc _,by simp⟩
theorem nTok_int (s:Pl.Sm):((s.tokens:Nat):Int) % 5+1=(Pl.nTok s:Nat):=by unfold Pl.nTok; omega
theorem nVar_int (s:Pl.Sm):((s.vars:Nat):Int) % 4+1=(Pl.nVar s:Nat):=by unfold Pl.nVar; omega
theorem fewF {s:Pl.Sm} {r n:Nat} (h:Pl.few s r n=true):s.lefts.length≤r∧s.assocs.length≤5∧∀ i (hi:i < s.rights.length),s.rights[i].length≤n:=by
 unfold Pl.few at h
 simp only [Bool.and_eq_true,decide_eq_true_eq,List.all_eq_true] at h
 exact ⟨h.1.1,h.1.2,fun i hi=>h.2 _ (List.getElem_mem hi)⟩
theorem levS_ext (k:Nat) (h:k < 5):ByteArray.extract ⟨#[112,113,114,115,116]⟩ k (k+1)=Pl.levS k:=by
 have:k=0∨k=1∨k=2∨k=3∨k=4:=by omega
 rcases this with rfl | rfl | rfl | rfl | rfl<;>rfl
theorem tokS_ext (k:Nat) (h:k < 5):ByteArray.extract ⟨#[97,98,99,100,101]⟩ k (k+1)=Pl.tokS k:=by
 have:k=0∨k=1∨k=2∨k=3∨k=4:=by omega
 rcases this with rfl | rfl | rfl | rfl | rfl<;>rfl
theorem varS_ext (k:Nat) (h:k < 4):ByteArray.extract ⟨#[83,84,85,86]⟩ k (k+1)=Pl.varS k:=by
 have:k=0∨k=1∨k=2∨k=3:=by omega
 rcases this with rfl | rfl | rfl | rfl<;>rfl
def tok0 (i:Nat):Rd.Tok:=⟨Pl.tokS i,⟨Pl.tokS i,Rd.E,false⟩⟩
def lev0 (s:Pl.Sm) (i:Nat):Rd.Lev:=⟨((s.assocs.getD i 0 % 3+1:Nat):Int),[Pl.levS i]⟩
theorem addr_add (b j:Nat):(⟨b,0,none⟩:Addr).add j=⟨b,j,none⟩:=by unfold Addr.add; split<;>simp_all
theorem rule_size:(Tryd.prog.info? 77).map (·.size)=some 4:=by kernel_rfl
theorem GI.setRw {U W:World} {pb b:Nat} {cs:Array Value} {no:List Nat} {l:List Rw} (h:GI U W pb cs no l) (hb:b ∈ no) (hne:b≠pb) (c:Array Value):GI U (W.setRow b c) pb cs no l:=by
 have k:Upd b W (W.setRow b c):=⟨rfl,rfl,rfl,by simp,fun k _ hk=>setRow_other _ _ _ _ hk⟩
 exact ⟨h.low.trans (k.below (h.nol b hb).1 h.low.size),h.ge,Nat.lt_of_lt_of_le h.lt k.size,(k.block _ h.lt (Ne.symm hne)).trans h.pl,h.rows.upd k (List.mem_cons_of_mem _ hb),fun c hc=>⟨(h.nol c hc).1,Nat.lt_of_lt_of_le (h.nol c hc).2 k.size⟩⟩
theorem smLevs_names (s:Pl.Sm):∀ (k p:Nat) (h:p < (Pl.smLevs s k).length),1≤(Pl.smLevs s k)[p].names.length∧(Pl.smLevs s k)[p].names.length≤k+1
 | 0,p,h=>by simp [Pl.smLevs,Pl.smLevs0]
 | k+1,p,h=>by
  have key:∀ (L:List Rd.Lev) (hL:Pl.smLevs s (k+1)=L) (hp:p < L.length),1≤L[p].names.length∧L[p].names.length≤k+1+1:=by
   intro L hL hp
   rw [Pl.smLevs] at hL
   split at hL
   ·unfold Pl.putLev at hL
    split at hL
    ·subst hL; have:=smLevs_names s k p hp; omega
    ·subst hL
     have hp':p < (Pl.smLevs s k).length:=by simpa using hp
     have:=smLevs_names s k p hp'
     rw [List.getElem_modify]
     split
     ·simp; omega
     ·omega
   ·subst hL; have:=smLevs_names s k p hp; omega
  exact key _ rfl h
theorem gi_putLev {U W:World} {gb lb n c p:Nat} {cs:Array Value} {t r:Rw} {levs:List Rd.Lev} {ns:List Value} {v:Value} {nms:List ByteArray} {nm:ByteArray}
  (h:GI U W gb cs [] (rS v (nms.length+1) (nms++[nm])::([t,rL (.slice (some ⟨lb,0,none⟩) n c) n levs ns,r]++rY levs ns))) (hn:levs.length=n) (hns:ns.length=n) (hp:p < n) (hnm:levs[p]?.map (·.names)=some nms) :
  GI U (W.setCell ⟨lb,p*2+1,none⟩ v) gb cs [] ([t,rL (.slice (some ⟨lb,0,none⟩) n c) n (Pl.putLev levs (p+1) nm) (ns.set p v),r]++rY (Pl.putLev levs (p+1) nm) (ns.set p v)):=by
 have hpl:p < levs.length:=by omega
 have hpn:p < ns.length:=by omega
 have e:Pl.putLev levs (p+1) nm=levs.modify p (fun l=>⟨l.assoc,l.names++[nm]⟩):=by
  unfold Pl.putLev; rw [if_neg (by omega),Nat.add_sub_cancel]
 rw [e]
 have hnm':levs[p].names=nms:=by rw [List.getElem?_eq_getElem hpl] at hnm; exact Option.some.inj hnm
 obtain ⟨l1,l2,e1,e2⟩:=rY_split levs ns p (fun l=>⟨l.assoc,l.names++[nm]⟩) v hpl hpn
 have hs:rS v (levs[p].names++[nm]).length (levs[p].names++[nm])=rS v (nms.length+1) (nms++[nm]):=by rw [hnm']; simp
 simp only [hs] at e2
 rw [e2]
 rw [e1] at h
 generalize rS v (nms.length+1) (nms++[nm])=sn at h
 have h1:GI U W gb cs [] (⟨107,2,.slice (some ⟨lb,0,none⟩) n c,n,lvC levs ns⟩::([sn,t]++([r]++(l1++rS ns[p] levs[p].names.length levs[p].names::l2)))):=h.perm (List.perm_middle (l₁:=[sn,t]))
 have h2:=h1.setRow (j:=p*2+1) v (by omega)
 rw [← lvC_set levs ns p (fun l=>⟨l.assoc,l.names++[nm]⟩) v (fun _=>rfl) hpl hpn] at h2
 change GI U _ gb cs [] (rL (.slice (some ⟨lb,0,none⟩) n c) n (levs.modify p (fun l=>⟨l.assoc,l.names++[nm]⟩)) (ns.set p v)::([sn,t]++([r]++(l1++rS ns[p] levs[p].names.length levs[p].names::l2)))) at h2
 generalize rL (.slice (some ⟨lb,0,none⟩) n c) n (levs.modify p (fun l=>⟨l.assoc,l.names++[nm]⟩)) (ns.set p v)=L' at h2
 have h3:=(h2.perm (List.perm_middle (l₁:=L'::sn::t::r::l1) (l₂:=l2))).drop
 refine h3.perm ?_
 have p1:List.Perm (L'::sn::t::r::(l1++l2)) (sn::t::L'::r::(l1++l2)):=(List.Perm.swap sn L' _).trans (List.Perm.cons sn (List.Perm.swap t L' _))
 have p2:List.Perm (sn::t::L'::r::(l1++l2)) ([t,L',r]++(l1++sn::l2)):=(List.perm_middle (a:=sn) (l₁:=t::L'::r::l1) (l₂:=l2)).symm
 exact p1.trans p2
set_option maxRecDepth 100000 in
set_option maxHeartbeats 32000000 in
theorem grammar_any {w:World} {v:Value} {s:Pl.Sm} (h:SmV w v s) (hz:SmSz s) (hf:Pl.few s 20 8=true) :
  Calls Tryd.prog 41 #[v] w fun e w'=>∃ v',e=.returned v'∧GrV w' v' (Pl.grammar s)∧Below w.heap.size w w':=by
 obtain ⟨la,ra,pa,aa,va,lc,rc,pc,ac,vc,rfl,h⟩:=h
 have HS:=Lib.hid ((SB.new (lc:=lc) (rc:=rc) (pc:=pc) (ac:=ac) (vc:=vc) h).below ((Below.refl _ _).alloc (Nat.le_refl _) (.cells #[.slice none 0 0,.slice none 0 0,.slice none 0 0,.string ⟨#[]⟩,.slice none 0 0] 74)))
 have HB:=Lib.hid (((Below.refl w.heap.size w).alloc (Nat.le_refl _) (.cells #[.int .u8 (s.tokens:Nat),.int .u8 (s.vars:Nat),.slice la s.lefts.length lc,.slice ra s.rights.length rc,.slice pa s.precs.length pc,.slice aa s.assocs.length ac,.slice va s.levels.length vc] 25)).alloc (by simp) (.cells #[.slice none 0 0,.slice none 0 0,.slice none 0 0,.string ⟨#[]⟩,.slice none 0 0] 74))
 unfold smC at HS ⊢
 have c0:=HS.out.c0
 have c1:=HS.out.c1
 have hRR:=heap_alloc_new (w.alloc (.cells #[.int .u8 (s.tokens:Nat),.int .u8 (s.vars:Nat),.slice la s.lefts.length lc,.slice ra s.rights.length rc,.slice pa s.precs.length pc,.slice aa s.assocs.length ac,.slice va s.levels.length vc] 25)) (.cells #[.slice none 0 0,.slice none 0 0,.slice none 0 0,.string ⟨#[]⟩,.slice none 0 0] 74)
 rw [World.size_alloc] at hRR
 have HRR:=Lib.hid hRR
 have HZ:=Lib.hid hz
 have HFW:=Lib.hid hf
 have HO:=Lib.hid (gi_start ((w.alloc (.cells #[.int .u8 (s.tokens:Nat),.int .u8 (s.vars:Nat),.slice la s.lefts.length lc,.slice ra s.rights.length rc,.slice pa s.precs.length pc,.slice aa s.assocs.length ac,.slice va s.levels.length vc] 25)).alloc (.cells #[.slice none 0 0,.slice none 0 0,.slice none 0 0,.string ⟨#[]⟩,.slice none 0 0] 74)))
 have hsz:((w.alloc (.cells #[.int .u8 (s.tokens:Nat),.int .u8 (s.vars:Nat),.slice la s.lefts.length lc,.slice ra s.rights.length rc,.slice pa s.precs.length pc,.slice aa s.assocs.length ac,.slice va s.levels.length vc] 25)).alloc (.cells #[.slice none 0 0,.slice none 0 0,.slice none 0 0,.string ⟨#[]⟩,.slice none 0 0] 74)).heap.size=w.heap.size+2:=by simp
 rw [hsz] at HO
 clear h hz hRR hf
 go_enter Tryd.func41,Tryd.ntmps41
 go_wp2_with fail
 rw [nTok_int,nVar_int]
 have h5:s.assocs.length≤5:=(fewF HFW.out).2.1
 have h20:s.lefts.length≤20:=(fewF HFW.out).1
 have HT5:Hid (Pl.nTok s≤5∧1≤Pl.nTok s):=Lib.hid (by unfold Pl.nTok; omega)
 have HV4:Hid (Pl.nVar s≤4∧1≤Pl.nVar s):=Lib.hid (by unfold Pl.nVar; omega)
 clear c0 c1
 generalize ((w.alloc (.cells #[.int .u8 (s.tokens:Nat),.int .u8 (s.vars:Nat),.slice la s.lefts.length lc,.slice ra s.rights.length rc,.slice pa s.precs.length pc,.slice aa s.assocs.length ac,.slice va s.levels.length vc] 25)).alloc (.cells #[.slice none 0 0,.slice none 0 0,.slice none 0 0,.string ⟨#[]⟩,.slice none 0 0] 74))=U at HO HS HB HRR hsz ⊢
 have hgU:w.heap.size+2≤U.heap.size:=by omega
 clear hsz
 generalize U.alloc (.cells #[.slice none 0 0,.slice none 0 0,.slice none 0 0,.string ⟨#[83]⟩,.slice none 0 0] 74)=W0 at HO ⊢
 obtain ⟨sb,hsb⟩:∃ sb,sb=w.heap.size:=⟨_,rfl⟩
 rw [← hsb] at HS HO ⊢
 generalize hgb:sb+2=gb at HO ⊢
 have HSB:=Lib.hid (And.intro hsb hgb)
 clear hsb hgb
 go_loopg [6] s.assocs.length (fun gk i wr=>∃ (k:Nat) (L:Value) (ns:List Value),i=.int .i64 k∧k≤s.assocs.length∧Hid (gk+k=s.assocs.length)∧Hid (ns.length=k) ∧
   Hid (GI U wr gb #[.slice none 0 0,.slice none 0 0,L,.string ⟨#[83]⟩,.slice none 0 0] [] ([rT (.slice none 0 0) 0 [],rL L k ((List.range k).map (lev0 s)) ns,rR (.slice none 0 0) 0 [] []]++rY ((List.range k).map (lev0 s)) ns)))
 case atStart=>exact ⟨0,_,[],rfl,by omega,Lib.hid (by omega),Lib.hid rfl,HO⟩
 case round =>
  clear HO
  obtain ⟨k,L,ns,rfl,hk,HK,HNS,HO⟩:=hrel
  have S2:=Lib.hid (HS.out.below HO.out.low)
  have c5:=S2.out.c5
  by_cases hlt:k < s.assocs.length
  ·obtain ⟨b,off,rfl,t0,t1⟩:=S2.out.a.a k hlt
   obtain ⟨x,hx⟩:∃ x,x=s.assocs[k]:=⟨_,rfl⟩
   rw [← hx] at t0 t1
   have HX:=Lib.hid hx
   have hb:b < wr.heap.size:=World.block_lt_of_cell? wr _ t0
   have z2:=fun z:Wd wr.heap.size wr=>(HO.out.below z.ok).c.2.2.1
   have z5:=fun z:Wd wr.heap.size wr=>(S2.out.below z.ok).c5
   have zt:∀ z:Wd wr.heap.size wr,z.w.cell? ⟨b,off+k,none⟩=some (.int .u8 (x:Nat)):=fun z=>((bcell z.ok).1 _ _ hb).trans t0
   have hk5:k < 5:=by omega
   clear hx t0
   go_wp2_with fail
   refine region_ge [0,1,2,3,4,5,6,7,8,9,10,11,12,13] [14,15,16,17,18,19] 3 254 wr.heap.size ?_ (fun c a d v w h=>by cases d<;>exact h) (Nat.le_refl _) (by kernel_rfl) (by kernel_rfl) (by rfl) ?_ ?_
   rotate_left
   ·intro z
    simp only [pickL,List.getElem?_cons_zero,List.getElem?_cons_succ]
    repeat (go_big_quiet_step (fail))
    refine wpQuiet_nil ?_
    exact rfl
   clear z2 z5 zt
   simp only [pickL,List.getElem?_cons_zero,List.getElem?_cons_succ]
   have hw0:Below wr.heap.size wr wr.drew:=(Below.refl _ _).drew
   have hw1:=hw0.alloc (Nat.le_refl _) (.cells #[.string (ByteArray.extract ⟨#[112,113,114,115,116]⟩ k (k+1))] 9)
   refine listE_bs1 (by rfl) 28 9 1 16 elt_str (by omega) _ (by rfl) (.string (ByteArray.extract ⟨#[112,113,114,115,116]⟩ k (k+1))) #[.string (ByteArray.extract ⟨#[112,113,114,115,116]⟩ k (k+1))] rfl rfl (by rfl) ⟨⟨⟨_,hw1⟩,rfl⟩,?_⟩
   refine listE_quiet (by rfl) ?_
   simp only [Act.put,List.setIfInBounds_toArray,List.set_cons_succ,List.set_cons_zero]
   repeat (go_big_quiet_step (fail))
   refine wpQuiet_nil ?_
   refine ⟨⟨⟨_,hw1⟩,rfl⟩,?_⟩
   have hw2:=hw1.alloc hw1.size (.cells #[.int .i64 ((x:Int) % 3+1),.slice (some ⟨wr.drew.heap.size,0,none⟩) 1 1] 107)
   refine listE_bs1 (by rfl) 71 107 2 32 elt_lev (by omega) _ (by rfl) (.agg #[.int .i64 ((x:Int) % 3+1),.slice (some ⟨wr.drew.heap.size,0,none⟩) 1 1]) #[.int .i64 ((x:Int) % 3+1),.slice (some ⟨wr.drew.heap.size,0,none⟩) 1 1] rfl rfl (by rfl) ⟨⟨⟨_,hw2⟩,rfl⟩,?_⟩
   change wpList _ _ _ _ _ _
   have HO2:=Lib.hid (((HO.out.below hw0).made 9 1 1 #[.string (ByteArray.extract ⟨#[112,113,114,115,116]⟩ k (k+1))] rfl (by unfold maxLen; omega)).alloc (.cells #[.int .i64 ((x:Int) % 3+1),.slice (some ⟨wr.drew.heap.size,0,none⟩) 1 1] 107))
   have hn:=heap_alloc_new (wr.drew.alloc (.cells #[.string (ByteArray.extract ⟨#[112,113,114,115,116]⟩ k (k+1))] 9)) (.cells #[.int .i64 ((x:Int) % 3+1),.slice (some ⟨wr.drew.heap.size,0,none⟩) 1 1] 107)
   have hla:(lev0 s k).assoc=(x:Int) % 3+1:=by unfold lev0; rw [List.getD_eq_getElem?_getD,List.getElem?_eq_getElem hlt,Option.getD_some,← HX.out]; show ((x % 3+1:Nat):Int)=_; omega
   have HLA:=Lib.hid hla
   have HN:=Lib.hid hn
   have hlv:Hid ((lev0 s k).names=[ByteArray.extract ⟨#[112,113,114,115,116]⟩ k (k+1)]):=Lib.hid (by unfold lev0; rw [levS_ext k hk5])
   clear hw0 hw1 hw2 hn hla
   refine list_gpp_L (by rfl) _ _ _ (by rfl) [rS (.slice (some ⟨wr.drew.heap.size,0,none⟩) 1 1) 1 [ByteArray.extract ⟨#[112,113,114,115,116]⟩ k (k+1)],rT (.slice none 0 0) 0 []] L k ((List.range k).map (lev0 s)) ns ([rR (.slice none 0 0) 0 [] []]++rY ((List.range k).map (lev0 s)) ns) (by rw [HNS.out]; simp) elt_lev (by rfl) HO2.out _ 1 (by rfl) (lev0 s k) (.slice (some ⟨wr.drew.heap.size,0,none⟩) 1 1) rfl (HN.out.trans (by rw [HLA.out])) (by omega) ?_
   intro bg bcap wg hoi _
   have HO3:=Lib.hid hoi
   have p2:=hoi.c.2.2.1
   have pf:=hoi.c.2.2.2.2.2 2
   clear hoi
   go_wp2_with fail
   have HO4:=Lib.hid (HO3.out.p2 (.slice (some ⟨bg,0,none⟩) (k+1) bcap))
   clear p2 pf HO3
   go_roundg (s.assocs.length - (k+1))
   case measure=>have:=HK.out; omega
   case rel =>
    refine ⟨k+1,.slice (some ⟨bg,0,none⟩) (k+1) bcap,ns++[.slice (some ⟨wr.drew.heap.size,0,none⟩) 1 1],by go_num,by omega,Lib.hid (by omega),Lib.hid (by rw [List.length_append,HNS.out]; rfl),Lib.hid ?_⟩
    rw [List.range_succ,List.map_append,List.map_singleton,rY_snoc _ _ _ _ (by rw [HNS.out]; simp),hlv.out]
    exact HO4.out.perm (perm_last _ _)
  ·obtain rfl:k=s.assocs.length:=by omega
   clear HK hlt hk
   go_wp2_with fail
   obtain ⟨La,Lc,hL,-⟩:=RowV.of_owns (HO.out.own (r:=rL L s.assocs.length ((List.range s.assocs.length).map (lev0 s)) ns) (by simp))
   have hL':L=.slice La s.assocs.length Lc:=hL
   clear hL
   subst hL'
   clear c5 S2
   go_loopg [7,8,9] (Pl.nTok s) (fun gk i nm kk wr=>∃ (k:Nat) (T:Value) (ns:List Value),i=.int .i64 k∧k≤Pl.nTok s∧Hid (gk+k=Pl.nTok s)∧Hid (ns.length=s.assocs.length)∧Hid ((Pl.smLevs s k).length=s.assocs.length) ∧
     Hid (GI U wr gb #[T,.slice none 0 0,.slice La s.assocs.length Lc,.string ⟨#[83]⟩,.slice none 0 0] [] ([rT T k ((List.range k).map tok0),rL (.slice La s.assocs.length Lc) s.assocs.length (Pl.smLevs s k) ns,rR (.slice none 0 0) 0 [] []]++rY (Pl.smLevs s k) ns)))
   case atStart=>exact ⟨0,_,ns,rfl,by omega,Lib.hid (by omega),HNS,Lib.hid (by unfold Pl.smLevs Pl.smLevs0; simp),HO⟩
   case round =>
    clear HO HNS
    obtain ⟨k,T,ns,rfl,hk,HK,HNS,HLN,HO⟩:=hrel
    by_cases hlt:k < Pl.nTok s
    ·have hk5:k < 5:=by have:=HT5.out.1; omega
     have hts:=tokS_ext k hk5
     have HTS:=Lib.hid (show tok0 k=⟨Pl.tokS k,⟨Pl.tokS k,Rd.E,false⟩⟩ from rfl)
     have HO2:=Lib.hid (HO.out.alloc (.cells #[.string (Pl.tokS k),.string (Pl.tokS k),.string ⟨#[]⟩,.bool false] 111))
     have p0:=HO.out.c.1
     by_cases hl:k < s.levels.length
     ·go_wp2_with (refine list_gpp_T rfl _ _ _ rfl [] T k ((List.range k).map tok0) ([rL (.slice La s.assocs.length Lc) s.assocs.length (Pl.smLevs s k) ns,rR (.slice none 0 0) 0 [] []]++rY (Pl.smLevs s k) ns) elt_tok rfl HO2.out wr.heap.size 1 rfl (tok0 k) (heap_alloc_new wr _) (by omega) ?_; intro bg bcap wg hoi _; have HO3:=Lib.hid hoi; have p0:=hoi.c.1; have pf:=hoi.c.2.2.2.2.2 0; have c6:∀ v,(wg.setCell ⟨gb,0,none⟩ v).cell? ⟨sb,6,none⟩=some (.slice va s.levels.length vc):=(fun v=>(HS.out.below (hoi.p0 v).low).c6); clear hoi)
      have HO4:=Lib.hid (HO3.out.p0 (.slice (some ⟨bg,0,none⟩) (k+1) bcap))
      clear p0 pf HO3 c6
      generalize wg.setCell ⟨gb,0,none⟩ (.slice (some ⟨bg,0,none⟩) (k+1) bcap)=V at HO4 ⊢
      have S2:=Lib.hid (HS.out.below HO4.out.low)
      obtain ⟨b,off,rfl,t0,t1⟩:=S2.out.a.vl k hl
      obtain ⟨x,hx⟩:∃ x,x=s.levels[k]:=⟨_,rfl⟩
      rw [← hx] at t0 t1
      have HX:=Lib.hid hx
      have hb:b < V.heap.size:=World.block_lt_of_cell? V _ t0
      have z6:=fun z:Wd V.heap.size V=>(S2.out.below z.ok).c6
      have z2:=fun z:Wd V.heap.size V=>(HO4.out.below z.ok).c.2.2.1
      have zt:∀ z:Wd V.heap.size V,z.w.cell? ⟨b,off+k,none⟩=some (.int .u8 (x:Nat)):=fun z=>((bcell z.ok).1 _ _ hb).trans t0
      clear hx t0 hts HO2 HO
      obtain ⟨q,hqd⟩:∃ q,q=x % (s.assocs.length+1):=⟨_,rfl⟩
      have hq:(x:Int) % ((s.assocs.length:Int)+1)=(q:Nat):=by rw [hqd]; push_cast; rfl
      have hqn:q≤s.assocs.length:=by rw [hqd]; have:=Nat.mod_lt x (show 0 < s.assocs.length+1 by omega); omega
      have hst:Hid (Pl.smLevs s (k+1)=Pl.putLev (Pl.smLevs s k) q (Pl.tokS k)):=Lib.hid (by rw [Pl.smLevs,if_pos hl,hqd,HX.out,List.getD_eq_getElem?_getD,List.getElem?_eq_getElem hl,Option.getD_some])
      clear hqd
      refine region_rd [0,1,2,3,4,5,6,7,8,9,10,11] 254 ?_ (fun c a d v w h=>by cases d<;>exact h) (by kernel_rfl) (by kernel_rfl) (by rfl) ?_ ?_
      rotate_left
      ·intro z
       simp only [pickL,List.getElem?_cons_zero,List.getElem?_cons_succ]
       repeat (go_big_quiet_step (fail))
       refine wpQuiet_nil ?_
       exact rfl
      have HO5:=Lib.hid (HO4.out.below (Below.refl _ _).drew)
      rw [hq]
      clear z6 z2 zt hb HO4 S2 hq t1
      generalize V.drew=V1 at HO5 ⊢
      rcases Nat.eq_zero_or_pos q with h0 | h0
      ·subst h0
       go_wp2_with fail
       go_roundg (Pl.nTok s - (k+1))
       case measure=>have:=HK.out; omega
       case rel =>
        refine ⟨k+1,.slice (some ⟨bg,0,none⟩) (k+1) bcap,ns,by go_num,by omega,Lib.hid (by omega),?_,?_,Lib.hid ?_⟩
        ·exact HNS
        ·rw [hst.out]; exact HLN
        ·rw [hst.out,List.range_succ,List.map_append]
         exact HO5.out
      ·obtain ⟨p,rfl⟩:∃ p,q=p+1:=⟨q - 1,by omega⟩
       have hpn:p < s.assocs.length:=by omega
       have hpl:p < (Pl.smLevs s k).length:=by rw [HLN.out]; exact hpn
       have hpn2:p < ns.length:=by rw [HNS.out]; exact hpn
       obtain ⟨lb,Lc2,hL,-⟩:=World.ownsRow.form (HO5.out.own (r:=rL (.slice La s.assocs.length Lc) s.assocs.length (Pl.smLevs s k) ns) (by simp)) (by show 0 < s.assocs.length; omega)
       obtain ⟨hL1,-,hL2⟩:=slice_eq (show Value.slice La s.assocs.length Lc=_ from hL)
       subst hL1 hL2
       clear hL
       obtain ⟨nms,hnms⟩:∃ nms,nms=(Pl.smLevs s k)[p].names:=⟨_,rfl⟩
       have hnl:=smLevs_names s k p hpl
       have hmem:rS ns[p] (Pl.smLevs s k)[p].names.length (Pl.smLevs s k)[p].names ∈ rY (Pl.smLevs s k) ns:=by
        have hz:p < ((Pl.smLevs s k).zip ns).length:=by simp; omega
        unfold rY
        exact List.mem_map.2 ⟨((Pl.smLevs s k).zip ns)[p],List.getElem_mem hz,by simp⟩
       rw [← hnms] at hnl hmem
       have hmem2:∀ {a b c:Rw},rS ns[p] nms.length nms ∈ ([a,b,c]++rY (Pl.smLevs s k) ns):=fun {a b c}=>by simp [hmem]
       obtain ⟨nb,nc,hnv,hnb1,hnb2⟩:=World.ownsRow.form (HO5.out.own (r:=rS ns[p] nms.length nms) hmem2) (by show 0 < nms.length; omega)
       have hnv':ns[p]=.slice (some ⟨nb,0,none⟩) nms.length nc:=hnv
       have hrow:=HO5.out.own (r:=rL (.slice (some ⟨lb,0,none⟩) s.assocs.length Lc) s.assocs.length (Pl.smLevs s k) ns) (by simp)
       have hcell:V1.cell? ⟨lb,p*2+1,none⟩=some (.slice (some ⟨nb,0,none⟩) nms.length nc):=by
        have:=hrow.cells (g:=lb) rfl (p*2+1) _ ((lvC_at _ ns p hpl hpn2).2)
        rwa [hnv',addr_add] at this
       have hlb:=World.block_lt_of_cell? V1 _ hcell
       have z2:=fun z:Wd V1.heap.size V1=>(HO5.out.below z.ok).c.2.2.1
       have zn:∀ z:Wd V1.heap.size V1,z.w.cell? ⟨lb,p*2+1,none⟩=some (.slice (some ⟨nb,0,none⟩) nms.length nc):=fun z=>((bcell z.ok).1 _ _ hlb).trans hcell
       have hnews:∀ z:Wd V1.heap.size V1,∀ j u,(strV nms)[j]?=some u→z.w.cell? ((⟨nb,0,none⟩:Addr).add j)=some u:=fun z=>by
        have ho:=(HO5.out.below z.ok).own (r:=rS ns[p] nms.length nms) hmem2
        rw [show (rS ns[p] nms.length nms).v=ns[p] from rfl,hnv'] at ho
        exact ho.cells (g:=nb) rfl
       have HNW:=Lib.hid hnews
       clear hnews
       have HNV:=Lib.hid (And.intro (And.intro hnl hlb) (And.intro (show ns[p]?=some (.slice (some ⟨nb,0,none⟩) nms.length nc) by rw [List.getElem?_eq_getElem hpn2,hnv']) (show (Pl.smLevs s k)[p]?.map (·.names)=some nms by rw [List.getElem?_eq_getElem hpl,hnms]; rfl)))
       have HP:=Lib.hid (And.intro hpl hpn2)
       clear hnv' hnms hnv hmem hmem2 hrow hnb1 hnb2 hlb hnl hqn h0 hpl hpn2
       go_wp2_with fail
       refine region_appapp [0,1,2,3,5,6,7,8,9,10,11,13] 4 12 14 15 [16,17,18] 254 ?A (fun c a d v w h=>by cases d<;>exact h) (by kernel_rfl) (by kernel_rfl) (by rfl) ?hh 28 9 1 16 elt_str (by omega) (by omega) _ _ _ _ 97 105 107 108 (.tmp 104) (.tmp 106) rfl rfl rfl rfl rfl rfl rfl rfl rfl rfl rfl rfl rfl rfl rfl rfl ?hA (by decide)
        ⟨nb,0,none⟩ nms.length nc (strV nms) ?hx (by rintro d v B (rfl | rfl)<;>exact eval_put_ne (by decide)) (by simp [strV]) HNW.out (by intro u hu; obtain ⟨y,_,rfl⟩:=List.mem_map.1 hu; rfl) (by have:=HNV.out.1.1; omega) (by have:=HNV.out.1.1; omega)
        (.string (Pl.tokS k)) #[.string (Pl.tokS k)] rfl rfl ?hy (by rintro d v B (rfl | rfl)<;>exact eval_put_ne (by decide)) (by simp [Value.oneCell']) ?hK
       case hh =>
        intro z
        simp only [pickL,List.getElem?_cons_zero,List.getElem?_cons_succ]
        repeat (go_big_quiet_step (fail))
        refine wpQuiet_nil ?_
        exact rfl
       case hA=>rfl
       case hx=>rfl
       case hy=>rfl
       case hK =>
        intro v0 va1 v1 g cap w' hbl hown hge hgl
        have HO6:=Lib.hid (HO5.out.addNew (r:=rS (.slice (some ⟨g,0,none⟩) (nms.length+1) cap) (nms.length+1) (nms++[Pl.tokS k])) hbl (by unfold rS; rw [strV_snoc]; exact owns_base hown HO5.out.low.size) (fun g' hg'=>by cases hg'; exact hge))
        have y1:w'.cell? ⟨lb,p*2+1,none⟩=some (.slice (some ⟨nb,0,none⟩) nms.length nc):=((bcell hbl).1 _ _ HNV.out.1.2).trans hcell
        have yf:w'.frozen? ⟨lb,p*2+1,none⟩=false:=by
         have ho:=HO6.out.own (r:=rL (.slice (some ⟨lb,0,none⟩) s.assocs.length Lc) s.assocs.length (Pl.smLevs s k) ns) (by simp)
         rcases ho.2 with ⟨h,_⟩ | ⟨g',cap',cur,hv,_,hg,_⟩
         ·cases h
         ·have hv':(Value.slice (some ⟨lb,0,none⟩) s.assocs.length Lc)=.slice (some ⟨g',0,none⟩) s.assocs.length cap':=hv
          cases hv'
          exact frozen_of_row _ _ _ _ _ hg
        clear hbl hown z2 zn hcell HO5
        simp only [pickL,List.getElem?_cons_zero,List.getElem?_cons_succ,Act.put,List.setIfInBounds_toArray,List.set_cons_succ,List.set_cons_zero]
        go_wp2_with fail
        have HO7:=Lib.hid (gi_putLev HO6.out HLN.out HNS.out hpn HNV.out.2.2)
        clear y1 yf HO6
        go_roundg (Pl.nTok s - (k+1))
        case measure=>have:=HK.out; omega
        case rel =>
         refine ⟨k+1,.slice (some ⟨bg,0,none⟩) (k+1) bcap,ns.set p (.slice (some ⟨g,0,none⟩) (nms.length+1) cap),by go_num,by omega,Lib.hid (by omega),?_,?_,Lib.hid ?_⟩
         ·exact Lib.hid (by rw [List.length_set]; exact HNS.out)
         ·rw [hst.out]; exact Lib.hid (by unfold Pl.putLev; rw [if_neg (by omega)]; simp; exact HLN.out)
         ·rw [hst.out,List.range_succ,List.map_append]
          exact HO7.out
     ·go_wp2_with (refine list_gpp_T rfl _ _ _ rfl [] T k ((List.range k).map tok0) ([rL (.slice La s.assocs.length Lc) s.assocs.length (Pl.smLevs s k) ns,rR (.slice none 0 0) 0 [] []]++rY (Pl.smLevs s k) ns) elt_tok rfl HO2.out wr.heap.size 1 rfl (tok0 k) (heap_alloc_new wr _) (by omega) ?_; intro bg bcap wg hoi _; have HO3:=Lib.hid hoi; have p0:=hoi.c.1; have pf:=hoi.c.2.2.2.2.2 0; have c6:∀ v,(wg.setCell ⟨gb,0,none⟩ v).cell? ⟨sb,6,none⟩=some (.slice va s.levels.length vc):=(fun v=>(HS.out.below (hoi.p0 v).low).c6); clear hoi)
      have HO4:=Lib.hid (HO3.out.p0 (.slice (some ⟨bg,0,none⟩) (k+1) bcap))
      clear p0 pf HO3 c6
      have hst:Hid (Pl.smLevs s (k+1)=Pl.smLevs s k):=Lib.hid (by rw [Pl.smLevs,if_neg hl])
      go_roundg (Pl.nTok s - (k+1))
      case measure=>have:=HK.out; omega
      case rel =>
       refine ⟨k+1,.slice (some ⟨bg,0,none⟩) (k+1) bcap,ns,by go_num,by omega,Lib.hid (by omega),?_,?_,Lib.hid ?_⟩
       ·exact HNS
       ·rw [hst.out]; exact HLN
       ·rw [hst.out,List.range_succ,List.map_append]
        exact HO4.out
    ·obtain rfl:k=Pl.nTok s:=by omega
     clear HK hlt hk
     go_wp2_with fail
     have HO1:Hid (GI U wr gb #[T,.slice none 0 0,.slice La s.assocs.length Lc,.string ⟨#[83]⟩,.slice none 0 0] [] ([rT T (Pl.nTok s) ((List.range (Pl.nTok s)).map tok0),rL (.slice La s.assocs.length Lc) s.assocs.length (Pl.smLevs s (Pl.nTok s)) ns,rR (.slice none 0 0) 0 ((List.range 0).map (Pl.smRule s)) []]++(rY (Pl.smLevs s (Pl.nTok s)) ns++rZ ((List.range 0).map (Pl.smRule s)) []))):=Lib.hid (by
      have:=HO.out
      simp only [List.range_zero,List.map_nil,rZ,List.zip_nil_right,List.append_nil]
      exact this)
     clear HO
     go_loopg [10,11,12,13,14,15] s.lefts.length (fun gk i xp k2 n2 nm k3 wr=>∃ (k:Nat) (R:Value) (ms:List Value),i=.int .i64 k∧k≤s.lefts.length∧Hid (gk+k=s.lefts.length)∧Hid (ms.length=k) ∧
       Hid (GI U wr gb #[T,.slice none 0 0,.slice La s.assocs.length Lc,.string ⟨#[83]⟩,R] [] ([rT T (Pl.nTok s) ((List.range (Pl.nTok s)).map tok0),rL (.slice La s.assocs.length Lc) s.assocs.length (Pl.smLevs s (Pl.nTok s)) ns,rR R k ((List.range k).map (Pl.smRule s)) ms]++(rY (Pl.smLevs s (Pl.nTok s)) ns++rZ ((List.range k).map (Pl.smRule s)) ms))))
     case atStart=>exact ⟨0,_,[],rfl,by omega,Lib.hid (by omega),Lib.hid rfl,HO1⟩
     case round =>
      clear HO1
      obtain ⟨k,R,ms,rfl,hk,HK,HMS,HO⟩:=hrel
      have S2:=Lib.hid (HS.out.below HO.out.low)
      have c2:=S2.out.c2
      by_cases hlt:k < s.lefts.length
      ·obtain ⟨b,off,rfl,t0,t1⟩:=S2.out.a.l k hlt
       obtain ⟨x,hx⟩:∃ x,x=s.lefts[k]:=⟨_,rfl⟩
       rw [← hx] at t0 t1
       have hb:b < wr.heap.size:=World.block_lt_of_cell? wr _ t0
       obtain ⟨q,hqd⟩:∃ q,q=x % Pl.nVar s:=⟨_,rfl⟩
       have hv1:=HV4.out.2
       have hv4:=HV4.out.1
       have hq:(x:Int) % (Pl.nVar s:Int)=(q:Nat):=by rw [hqd]; push_cast; rfl
       have hqn:q < Pl.nVar s:=by rw [hqd]; exact Nat.mod_lt x hv1
       have HQ:=Lib.hid hq
       have HQD:=Lib.hid (And.intro hqd hx)
       have hq0:(0:Int)≤(x:Int) % (Pl.nVar s:Int):=by rw [hq]; omega
       have hq1:(x:Int) % (Pl.nVar s:Int)≤3:=by rw [hq]; omega
       have hvz:(((Pl.nVar s:Nat):Int) == 0)=false:=by rw [beq0]; simp; omega
       have hvs:=varS_ext q (by omega)
       have z2:=fun z:Wd wr.heap.size wr=>(S2.out.below z.ok).c2
       have zt:∀ z:Wd wr.heap.size wr,z.w.cell? ⟨b,off+k,none⟩=some (.int .u8 (x:Nat)):=fun z=>((bcell z.ok).1 _ _ hb).trans t0
       clear hqd hx t0 hq
       go_wp2_with fail
       refine region_ge [0,1,2,3,4,5,6,7,8,9,10,11,12,13,14,15,16,17,18] [19,20] 1 254 wr.heap.size ?_ (fun c a d v w h=>by cases d<;>exact h) (Nat.le_refl _) (by kernel_rfl) (by kernel_rfl) (by rfl) ?_ ?_
       rotate_left
       ·intro z
        simp only [pickL,List.getElem?_cons_zero,List.getElem?_cons_succ]
        repeat (go_big_quiet_step (fail))
        refine wpQuiet_nil ?_
        exact rfl
       clear z2 zt
       simp only [pickL,List.getElem?_cons_zero,List.getElem?_cons_succ]
       rw [show x % Pl.nVar s=q from HQD.out.1.symm,hvs]
       have hw0:Below wr.heap.size wr wr.drew:=(Below.refl _ _).drew
       have hw1:=hw0.alloc (Nat.le_refl _) (.cells #[.string ⟨#[]⟩,.slice none 0 0,.string ⟨#[]⟩,.string ⟨#[]⟩] 77)
       refine listE_alloc_row (by rfl) 77 (by rfl) #[.string ⟨#[]⟩,.slice none 0 0,.string ⟨#[]⟩,.string ⟨#[]⟩] (by kernel_rfl) ⟨⟨⟨_,hw1⟩,rfl⟩,?_⟩
       change wpList _ _ _ _ _ _
       have hr0:=heap_alloc_new wr.drew (.cells #[.string ⟨#[]⟩,.slice none 0 0,.string ⟨#[]⟩,.string ⟨#[]⟩] 77)
       refine list_store_row (by rfl) 77 _ _ (by rfl) wr.drew.heap.size (by rfl) #[.string (Pl.varS q),.slice none 0 0,.string ⟨#[]⟩,.string ⟨#[]⟩] (by rfl) #[.string ⟨#[]⟩,.slice none 0 0,.string ⟨#[]⟩,.string ⟨#[]⟩] 77 hr0 rfl rule_size (by simp [Value.oneCell']) ?_
       have HX0:=Lib.hid (setRow_heap _ _ _ #[.string (Pl.varS q),.slice none 0 0,.string ⟨#[]⟩,.string ⟨#[]⟩] _ _ hr0)
       have HO2:=Lib.hid ((HO.out.below hw0).more (.cells #[.string ⟨#[]⟩,.slice none 0 0,.string ⟨#[]⟩,.string ⟨#[]⟩] 77))
       have HO3:=Lib.hid (HO2.out.setRw (b:=wr.drew.heap.size) (by simp) (by have:=HO.out.lt; have:wr.drew.heap.size=wr.heap.size:=rfl; omega) #[.string (Pl.varS q),.slice none 0 0,.string ⟨#[]⟩,.string ⟨#[]⟩])
       have hxp:wr.drew.heap.size≠gb:=by have:=HO.out.lt; have:wr.drew.heap.size=wr.heap.size:=rfl; omega
       clear HO hw0 hw1 hr0 HO2 hq0 hq1 hvz hvs hb t1 S2 c2
       generalize (wr.drew.alloc (.cells #[.string ⟨#[]⟩,.slice none 0 0,.string ⟨#[]⟩,.string ⟨#[]⟩] 77)).setRow wr.drew.heap.size #[.string (Pl.varS q),.slice none 0 0,.string ⟨#[]⟩,.string ⟨#[]⟩]=V at HX0 HO3 ⊢
       generalize wr.drew.heap.size=xb at HX0 HO3 hxp ⊢
       simp only [Act.put,List.setIfInBounds_toArray,List.set_cons_succ,List.set_cons_zero]
       have HXG:=Lib.hid hxp
       by_cases hr:k < s.rights.length
       ·have S3:=Lib.hid (HS.out.below HO3.out.low)
        have c3:=S3.out.c3
        go_wp2_with fail
        clear c3 S3
        have HO4:=Lib.hid (HO3.out.zero 9 1)
        clear HO3
        obtain ⟨rb,ro,rna,rnc,hra,ru0,hru⟩:=HS.out.a.r k hr
        subst hra
        have hrbl:=World.block_lt_of_cell? U _ ru0
        obtain ⟨rts,hrts⟩:∃ rts,rts=s.rights[k]:=⟨_,rfl⟩
        rw [← hrts] at ru0 hru
        have HRT:=Lib.hid (And.intro hrts (And.intro ru0 hru))
        have hr8:rts.length≤8:=by rw [hrts]; exact (fewF HFW.out).2.2 k hr
        clear hrts ru0 hru
        go_loopg [12,13,14] rts.length (fun g2 i n2 nm wq=>∃ (j:Nat) (rv:Value) (l:List ByteArray),i=.int .i64 j∧j≤rts.length∧Hid (g2+j=rts.length)∧Hid (l=(rts.take j).map (Pl.smName s)) ∧
          Hid (GI U wq gb #[T,.slice none 0 0,.slice La s.assocs.length Lc,.string ⟨#[83]⟩,R] [xb] (rS rv j l::([rT T (Pl.nTok s) ((List.range (Pl.nTok s)).map tok0),rL (.slice La s.assocs.length Lc) s.assocs.length (Pl.smLevs s (Pl.nTok s)) ns,rR R k ((List.range k).map (Pl.smRule s)) ms]++(rY (Pl.smLevs s (Pl.nTok s)) ns++rZ ((List.range k).map (Pl.smRule s)) ms))))∧Hid (wq.heap[xb]?=some (.cells #[.string (Pl.varS q),rv,.string ⟨#[]⟩,.string ⟨#[]⟩] 77 (0,0))))
        case atStart=>exact ⟨0,_,[],rfl,by omega,Lib.hid (by omega),Lib.hid (by simp),HO4,HX0⟩
        case round =>
         clear HO4 HX0
         obtain ⟨j,rv,l,rfl,hj,HJ,HLJ,HO,HX⟩:=hrel
         have S3:=Lib.hid (HS.out.below HO.out.low)
         have c3:=S3.out.c3
         have cr:wr.cell? ⟨rb,ro+k,none⟩=some (.slice rna rts.length rnc):=((bcell HO.out.low).1 _ _ hrbl).trans HRT.out.2.1
         by_cases hjl:j < rts.length
         ·obtain ⟨b9,off9,rfl,u0,u1⟩:=HRT.out.2.2 j hjl
          obtain ⟨y,hy⟩:∃ y,y=rts[j]:=⟨_,rfl⟩
          rw [← hy] at u0 u1
          have HYD:=Lib.hid hy
          have cu:wr.cell? ⟨b9,off9+j,none⟩=some (.int .u8 (y:Nat)):=((bcell HO.out.low).1 _ _ (World.block_lt_of_cell? U _ u0)).trans u0
          obtain ⟨N,hN⟩:∃ N,N=y % (Pl.nTok s+Pl.nVar s):=⟨_,rfl⟩
          have hv4:=HV4.out
          have ht5:=HT5.out
          have hNl:N < Pl.nTok s+Pl.nVar s:=by rw [hN]; exact Nat.mod_lt _ (by omega)
          have hNi:(y:Int) % ((Pl.nTok s:Int)+(Pl.nVar s:Int))=(N:Nat):=by rw [hN]; push_cast; rfl
          have hdz:(((Pl.nTok s:Int)+(Pl.nVar s:Int)) == 0)=false:=by simp; omega
          have HND:=Lib.hid hN
          clear hN hy u0
          by_cases hnt:Pl.nTok s≤N
          ·have d1:decide ((Pl.nTok s:Int)≤(N:Int))=true:=by simpa using hnt
           have e1:=tokS_ext (N % 5) (by omega)
           have e2:=varS_ext (N - Pl.nTok s) (by omega)
           have e3:(N:Int) - (Pl.nTok s:Int)=((N - Pl.nTok s:Nat):Int):=by omega
           have hsn:Hid (Pl.smName s y=Pl.varS (N - Pl.nTok s)):=Lib.hid (by unfold Pl.smName; rw [← HND.out]; simp [hnt])
           have HO2:=Lib.hid (HO.out.alloc (.cells #[.string (Pl.varS (N - Pl.nTok s))] 9))
           have HX2:=Lib.hid ((((Below.refl wr.heap.size wr).alloc (Nat.le_refl _) (.cells #[.string (Pl.varS (N - Pl.nTok s))] 9)).block xb (Array.getElem?_eq_some_iff.1 HX.out).1).trans HX.out)
           have x1:wr.cell? ⟨xb,1,none⟩=some rv:=by rw [cell_of_row _ _ _ _ _ _ HX.out]; rfl
           go_wp2_with (refine list_gpp_S rfl _ _ _ rfl [] rv j l ([rT T (Pl.nTok s) ((List.range (Pl.nTok s)).map tok0),rL (.slice La s.assocs.length Lc) s.assocs.length (Pl.smLevs s (Pl.nTok s)) ns,rR R k ((List.range k).map (Pl.smRule s)) ms]++(rY (Pl.smLevs s (Pl.nTok s)) ns++rZ ((List.range k).map (Pl.smRule s)) ms)) elt_str rfl HO2.out wr.heap.size 1 rfl (Pl.varS (N - Pl.nTok s)) (heap_alloc_new wr _) (by omega) ?_; intro bi bic wg hoi hno; have HX4:=Lib.hid ((hno xb (by simp)).trans HX2.out); have HO4:=Lib.hid hoi; have q1:wg.cell? ⟨xb,1,none⟩=some rv:=(by rw [cell_of_row _ _ _ _ _ _ HX4.out]; rfl); have qf:wg.frozen? ⟨xb,1,none⟩=false:=frozen_of_row _ _ _ _ _ HX4.out; clear hoi hno)
           go_roundg (rts.length - (j+1))
           case measure=>have:=HJ.out; omega
           case rel =>
            refine ⟨j+1,.slice (some ⟨bi,0,none⟩) (j+1) bic,l++[Pl.varS (N - Pl.nTok s)],by go_num,by omega,Lib.hid (by omega),Lib.hid ?_,Lib.hid (HO4.out.setO (b:=xb) (by simp) HXG.out 1 _),Lib.hid (heap_setCell_same _ _ _ _ _ _ HX4.out)⟩
            rw [List.take_succ_eq_append_getElem hjl,List.map_append,← HLJ.out,List.map_singleton,← HYD.out,hsn.out]
          ·have d1:decide ((Pl.nTok s:Int)≤(N:Int))=false:=by simpa using hnt
           have e1:=tokS_ext (N % 5) (by omega)
           have hsn:Hid (Pl.smName s y=Pl.tokS (N % 5)):=Lib.hid (by unfold Pl.smName; rw [← HND.out]; simp [hnt])
           have HO2:=Lib.hid (HO.out.alloc (.cells #[.string (Pl.tokS (N % 5))] 9))
           have HX2:=Lib.hid ((((Below.refl wr.heap.size wr).alloc (Nat.le_refl _) (.cells #[.string (Pl.tokS (N % 5))] 9)).block xb (Array.getElem?_eq_some_iff.1 HX.out).1).trans HX.out)
           have x1:wr.cell? ⟨xb,1,none⟩=some rv:=by rw [cell_of_row _ _ _ _ _ _ HX.out]; rfl
           go_wp2_with (refine list_gpp_S rfl _ _ _ rfl [] rv j l ([rT T (Pl.nTok s) ((List.range (Pl.nTok s)).map tok0),rL (.slice La s.assocs.length Lc) s.assocs.length (Pl.smLevs s (Pl.nTok s)) ns,rR R k ((List.range k).map (Pl.smRule s)) ms]++(rY (Pl.smLevs s (Pl.nTok s)) ns++rZ ((List.range k).map (Pl.smRule s)) ms)) elt_str rfl HO2.out wr.heap.size 1 rfl (Pl.tokS (N % 5)) (heap_alloc_new wr _) (by omega) ?_; intro bi bic wg hoi hno; have HX4:=Lib.hid ((hno xb (by simp)).trans HX2.out); have HO4:=Lib.hid hoi; have q1:wg.cell? ⟨xb,1,none⟩=some rv:=(by rw [cell_of_row _ _ _ _ _ _ HX4.out]; rfl); have qf:wg.frozen? ⟨xb,1,none⟩=false:=frozen_of_row _ _ _ _ _ HX4.out; clear hoi hno)
           go_roundg (rts.length - (j+1))
           case measure=>have:=HJ.out; omega
           case rel =>
            refine ⟨j+1,.slice (some ⟨bi,0,none⟩) (j+1) bic,l++[Pl.tokS (N % 5)],by go_num,by omega,Lib.hid (by omega),Lib.hid ?_,Lib.hid (HO4.out.setO (b:=xb) (by simp) HXG.out 1 _),Lib.hid (heap_setCell_same _ _ _ _ _ _ HX4.out)⟩
            rw [List.take_succ_eq_append_getElem hjl,List.map_append,← HLJ.out,List.map_singleton,← HYD.out,hsn.out]
         ·obtain rfl:j=rts.length:=by omega
          rw [List.take_length] at HLJ
          have HLL:Hid (rts.length=l.length∧l=(s.rights.getD k []).map (Pl.smName s)):=Lib.hid ⟨by rw [HLJ.out]; simp,by rw [List.getD_eq_getElem?_getD,List.getElem?_eq_getElem hr,Option.getD_some,← HRT.out.1]; exact HLJ.out⟩
          clear HJ HLJ hjl hj HRT
          generalize hnn:rts.length=n at HLL HO cr hr8 ⊢
          clear hnn
          have hk20:k≤20:=by omega
          by_cases hp:k < s.precs.length
          ·have S5:=Lib.hid (HS.out.below HO.out.low)
           have c4:=S5.out.c4
           go_wp2_with fail
           clear c3 cr S3
           obtain ⟨bp,offp,rfl,t0,t1⟩:=S5.out.a.p k hp
           obtain ⟨x,hx⟩:∃ x,x=s.precs[k]:=⟨_,rfl⟩
           rw [← hx] at t0 t1
           have hb:bp < wr.heap.size:=World.block_lt_of_cell? wr _ t0
           obtain ⟨q2,hqd⟩:∃ q2,q2=x % (s.assocs.length+1):=⟨_,rfl⟩
           have hq:(x:Int) % ((s.assocs.length:Int)+1)=(q2:Nat):=by rw [hqd]; push_cast; rfl
           have hqn:q2≤s.assocs.length:=by rw [hqd]; have:=Nat.mod_lt x (show 0 < s.assocs.length+1 by omega); omega
           have hgq:s.precs.getD k 0 % (s.assocs.length+1)=q2:=by rw [List.getD_eq_getElem?_getD,List.getElem?_eq_getElem hp,Option.getD_some,hqd,hx]
           have HGQ:=Lib.hid hgq
           have z4:=fun z:Wd wr.heap.size wr=>(S5.out.below z.ok).c4
           have z2:=fun z:Wd wr.heap.size wr=>(HO.out.below z.ok).c.2.2.1
           have zt:∀ z:Wd wr.heap.size wr,z.w.cell? ⟨bp,offp+k,none⟩=some (.int .u8 (x:Nat)):=fun z=>((bcell z.ok).1 _ _ hb).trans t0
           clear hx t0 hqd hgq c4
           refine region_rd [0,1,2,3,4,5,6,7,8,9,10,11] 254 ?_ (fun c a d v w h=>by cases d<;>exact h) (by kernel_rfl) (by kernel_rfl) (by rfl) ?_ ?_
           rotate_left
           ·intro z
            simp only [pickL,List.getElem?_cons_zero,List.getElem?_cons_succ]
            repeat (go_big_quiet_step (fail))
            refine wpQuiet_nil ?_
            exact rfl
           have HO5:=Lib.hid (HO.out.below (Below.refl _ _).drew)
           have HX5:Hid (wr.drew.heap[xb]?=some (.cells #[.string (Pl.varS q),rv,.string ⟨#[]⟩,.string ⟨#[]⟩] 77 (0,0))):=HX
           rw [hq]
           clear z4 z2 zt hb HO HX S5 hq t1
           generalize wr.drew=V1 at HO5 HX5 ⊢
           rcases Nat.eq_zero_or_pos q2 with h0 | h0
           ·subst h0
            have HPC:Hid ((if k < s.precs.length∧s.precs.getD k 0 % (s.assocs.length+1)≠0 then Pl.levS (s.precs.getD k 0 % (s.assocs.length+1) - 1) else Rd.E)=⟨#[]⟩):=Lib.hid (by rw [HGQ.out]; simp; rfl)
            have HO7:=Lib.hid (HO5.out.alloc (.cells #[.string (Pl.varS q),rv,.string ⟨#[]⟩,.string ⟨#[]⟩] 77))
            have p4:=HO5.out.c.2.2.2.2.1
            have x0:V1.cell? ⟨xb,0,none⟩=some (.string (Pl.varS q)):=by rw [cell_of_row _ _ _ _ _ _ HX5.out]; rfl
            have x1:V1.cell? ⟨xb,1,none⟩=some rv:=by rw [cell_of_row _ _ _ _ _ _ HX5.out]; rfl
            have x2:V1.cell? ⟨xb,2,none⟩=some (.string ⟨#[]⟩):=by rw [cell_of_row _ _ _ _ _ _ HX5.out]; rfl
            have x3:V1.cell? ⟨xb,3,none⟩=some (.string ⟨#[]⟩):=by rw [cell_of_row _ _ _ _ _ _ HX5.out]; rfl
            have hx1:rv.oneCell'=true:=own_one (HO5.out.own (r:=rS rv n l) (by simp))
            have hn0:=heap_alloc_new V1 (.cells #[.string (Pl.varS q),rv,.string ⟨#[]⟩,.string ⟨#[]⟩] 77)
            rw [show V1.heap.size=V1.heap.size from by first | rfl | simp [World.setCell]] at hn0
            go_wp2_with (refine list_gpp_R rfl _ _ _ rfl (rS rv n l::[rT T (Pl.nTok s) ((List.range (Pl.nTok s)).map tok0),rL (.slice La s.assocs.length Lc) s.assocs.length (Pl.smLevs s (Pl.nTok s)) ns]) R k ((List.range k).map (Pl.smRule s)) ms (rY (Pl.smLevs s (Pl.nTok s)) ns++rZ ((List.range k).map (Pl.smRule s)) ms) (by rw [HMS.out]; simp) elt_rule rfl HO7.out V1.heap.size 1 rfl (⟨Pl.varS q,l,⟨#[]⟩,⟨#[]⟩⟩:Rd.Rul) rv hx1 hn0 (by omega) ?_; intro bi bic wg hoi _; have HO8:=Lib.hid hoi; have p4:=hoi.c.2.2.2.2.1; have pf:=hoi.c.2.2.2.2.2 4; clear hoi)
            have HO9:=Lib.hid (HO8.out.p4 (.slice (some ⟨bi,0,none⟩) (k+1) bic))
            clear p4 pf HO8 hn0
            go_roundg (s.lefts.length - (k+1))
            case measure=>have:=HK.out; omega
            case rel =>
             refine ⟨k+1,.slice (some ⟨bi,0,none⟩) (k+1) bic,ms++[rv],by go_num,by omega,Lib.hid (by omega),Lib.hid (by rw [List.length_append,HMS.out]; rfl),Lib.hid ?_⟩
             have hru:Pl.smRule s k=(⟨Pl.varS q,l,⟨#[]⟩,⟨#[]⟩⟩:Rd.Rul):=by
              unfold Pl.smRule
              rw [← HLL.out.2,List.getD_eq_getElem?_getD,List.getElem?_eq_getElem hlt,Option.getD_some,← HQD.out.2,← HQD.out.1]
              rw [HPC.out]
              rfl
             rw [List.range_succ,List.map_append,List.map_singleton,hru,rZ_snoc _ _ _ _ (by rw [HMS.out]; simp)]
             refine (HO9.out.sub (no':=[]) (by simp)).perm ?_
             have:=perm_last (rS rv n l) ([rT T (Pl.nTok s) ((List.range (Pl.nTok s)).map tok0),rL (.slice La s.assocs.length Lc) s.assocs.length (Pl.smLevs s (Pl.nTok s)) ns,rR (.slice (some ⟨bi,0,none⟩) (k+1) bic) (k+1) (((List.range k).map (Pl.smRule s))++[(⟨Pl.varS q,l,⟨#[]⟩,⟨#[]⟩⟩:Rd.Rul)]) (ms++[rv])]++(rY (Pl.smLevs s (Pl.nTok s)) ns++rZ ((List.range k).map (Pl.smRule s)) ms))
             rw [List.append_assoc,List.append_assoc] at this
             rw [HLL.out.1] at this ⊢
             exact this
           ·obtain ⟨p2,rfl⟩:∃ p2,q2=p2+1:=⟨q2 - 1,by omega⟩
            have hpe:=levS_ext p2 (by omega)
            have HPC:Hid ((if k < s.precs.length∧s.precs.getD k 0 % (s.assocs.length+1)≠0 then Pl.levS (s.precs.getD k 0 % (s.assocs.length+1) - 1) else Rd.E)=Pl.levS p2):=Lib.hid (by rw [HGQ.out]; simp [hp])
            have y2:V1.cell? ⟨xb,2,none⟩=some (.string ⟨#[]⟩):=by rw [cell_of_row _ _ _ _ _ _ HX5.out]; rfl
            have y2f:V1.frozen? ⟨xb,2,none⟩=false:=frozen_of_row _ _ _ _ _ HX5.out
            have HO6:=Lib.hid (HO5.out.setO (b:=xb) (by simp) HXG.out 2 (.string (Pl.levS p2)))
            have HX6:Hid ((V1.setCell ⟨xb,2,none⟩ (.string (Pl.levS p2))).heap[xb]?=some (.cells #[.string (Pl.varS q),rv,.string (Pl.levS p2),.string ⟨#[]⟩] 77 (0,0))):=Lib.hid (heap_setCell_same _ _ 2 _ _ _ HX5.out)
            have HO7:=Lib.hid (HO6.out.alloc (.cells #[.string (Pl.varS q),rv,.string (Pl.levS p2),.string ⟨#[]⟩] 77))
            have p4:=HO6.out.c.2.2.2.2.1
            have x0:(V1.setCell ⟨xb,2,none⟩ (.string (Pl.levS p2))).cell? ⟨xb,0,none⟩=some (.string (Pl.varS q)):=by rw [cell_of_row _ _ _ _ _ _ HX6.out]; rfl
            have x1:(V1.setCell ⟨xb,2,none⟩ (.string (Pl.levS p2))).cell? ⟨xb,1,none⟩=some rv:=by rw [cell_of_row _ _ _ _ _ _ HX6.out]; rfl
            have x2:(V1.setCell ⟨xb,2,none⟩ (.string (Pl.levS p2))).cell? ⟨xb,2,none⟩=some (.string (Pl.levS p2)):=by rw [cell_of_row _ _ _ _ _ _ HX6.out]; rfl
            have x3:(V1.setCell ⟨xb,2,none⟩ (.string (Pl.levS p2))).cell? ⟨xb,3,none⟩=some (.string ⟨#[]⟩):=by rw [cell_of_row _ _ _ _ _ _ HX6.out]; rfl
            have hx1:rv.oneCell'=true:=own_one (HO6.out.own (r:=rS rv n l) (by simp))
            have hn0:=heap_alloc_new (V1.setCell ⟨xb,2,none⟩ (.string (Pl.levS p2))) (.cells #[.string (Pl.varS q),rv,.string (Pl.levS p2),.string ⟨#[]⟩] 77)
            rw [show (V1.setCell ⟨xb,2,none⟩ (.string (Pl.levS p2))).heap.size=V1.heap.size from by first | rfl | simp [World.setCell]] at hn0
            go_wp2_with (refine list_gpp_R rfl _ _ _ rfl (rS rv n l::[rT T (Pl.nTok s) ((List.range (Pl.nTok s)).map tok0),rL (.slice La s.assocs.length Lc) s.assocs.length (Pl.smLevs s (Pl.nTok s)) ns]) R k ((List.range k).map (Pl.smRule s)) ms (rY (Pl.smLevs s (Pl.nTok s)) ns++rZ ((List.range k).map (Pl.smRule s)) ms) (by rw [HMS.out]; simp) elt_rule rfl HO7.out V1.heap.size 1 rfl (⟨Pl.varS q,l,(Pl.levS p2),⟨#[]⟩⟩:Rd.Rul) rv hx1 hn0 (by omega) ?_; intro bi bic wg hoi _; have HO8:=Lib.hid hoi; have p4:=hoi.c.2.2.2.2.1; have pf:=hoi.c.2.2.2.2.2 4; clear hoi)
            have HO9:=Lib.hid (HO8.out.p4 (.slice (some ⟨bi,0,none⟩) (k+1) bic))
            clear p4 pf HO8 hn0
            go_roundg (s.lefts.length - (k+1))
            case measure=>have:=HK.out; omega
            case rel =>
             refine ⟨k+1,.slice (some ⟨bi,0,none⟩) (k+1) bic,ms++[rv],by go_num,by omega,Lib.hid (by omega),Lib.hid (by rw [List.length_append,HMS.out]; rfl),Lib.hid ?_⟩
             have hru:Pl.smRule s k=(⟨Pl.varS q,l,(Pl.levS p2),⟨#[]⟩⟩:Rd.Rul):=by
              unfold Pl.smRule
              rw [← HLL.out.2,List.getD_eq_getElem?_getD,List.getElem?_eq_getElem hlt,Option.getD_some,← HQD.out.2,← HQD.out.1]
              rw [HPC.out]
              rfl
             rw [List.range_succ,List.map_append,List.map_singleton,hru,rZ_snoc _ _ _ _ (by rw [HMS.out]; simp)]
             refine (HO9.out.sub (no':=[]) (by simp)).perm ?_
             have:=perm_last (rS rv n l) ([rT T (Pl.nTok s) ((List.range (Pl.nTok s)).map tok0),rL (.slice La s.assocs.length Lc) s.assocs.length (Pl.smLevs s (Pl.nTok s)) ns,rR (.slice (some ⟨bi,0,none⟩) (k+1) bic) (k+1) (((List.range k).map (Pl.smRule s))++[(⟨Pl.varS q,l,(Pl.levS p2),⟨#[]⟩⟩:Rd.Rul)]) (ms++[rv])]++(rY (Pl.smLevs s (Pl.nTok s)) ns++rZ ((List.range k).map (Pl.smRule s)) ms))
             rw [List.append_assoc,List.append_assoc] at this
             rw [HLL.out.1] at this ⊢
             exact this
          ·have c4:=(HS.out.below HO.out.low).c4
           have HPC:Hid ((if k < s.precs.length∧s.precs.getD k 0 % (s.assocs.length+1)≠0 then Pl.levS (s.precs.getD k 0 % (s.assocs.length+1) - 1) else Rd.E)=⟨#[]⟩):=Lib.hid (by simp [hp]; rfl)
           have HO7:=Lib.hid (HO.out.alloc (.cells #[.string (Pl.varS q),rv,.string ⟨#[]⟩,.string ⟨#[]⟩] 77))
           have p4:=HO.out.c.2.2.2.2.1
           have x0:wr.cell? ⟨xb,0,none⟩=some (.string (Pl.varS q)):=by rw [cell_of_row _ _ _ _ _ _ HX.out]; rfl
           have x1:wr.cell? ⟨xb,1,none⟩=some rv:=by rw [cell_of_row _ _ _ _ _ _ HX.out]; rfl
           have x2:wr.cell? ⟨xb,2,none⟩=some (.string ⟨#[]⟩):=by rw [cell_of_row _ _ _ _ _ _ HX.out]; rfl
           have x3:wr.cell? ⟨xb,3,none⟩=some (.string ⟨#[]⟩):=by rw [cell_of_row _ _ _ _ _ _ HX.out]; rfl
           have hx1:rv.oneCell'=true:=own_one (HO.out.own (r:=rS rv n l) (by simp))
           have hn0:=heap_alloc_new wr (.cells #[.string (Pl.varS q),rv,.string ⟨#[]⟩,.string ⟨#[]⟩] 77)
           rw [show wr.heap.size=wr.heap.size from by first | rfl | simp [World.setCell]] at hn0
           go_wp2_with (refine list_gpp_R rfl _ _ _ rfl (rS rv n l::[rT T (Pl.nTok s) ((List.range (Pl.nTok s)).map tok0),rL (.slice La s.assocs.length Lc) s.assocs.length (Pl.smLevs s (Pl.nTok s)) ns]) R k ((List.range k).map (Pl.smRule s)) ms (rY (Pl.smLevs s (Pl.nTok s)) ns++rZ ((List.range k).map (Pl.smRule s)) ms) (by rw [HMS.out]; simp) elt_rule rfl HO7.out wr.heap.size 1 rfl (⟨Pl.varS q,l,⟨#[]⟩,⟨#[]⟩⟩:Rd.Rul) rv hx1 hn0 (by omega) ?_; intro bi bic wg hoi _; have HO8:=Lib.hid hoi; have p4:=hoi.c.2.2.2.2.1; have pf:=hoi.c.2.2.2.2.2 4; clear hoi)
           have HO9:=Lib.hid (HO8.out.p4 (.slice (some ⟨bi,0,none⟩) (k+1) bic))
           clear p4 pf HO8 hn0
           go_roundg (s.lefts.length - (k+1))
           case measure=>have:=HK.out; omega
           case rel =>
            refine ⟨k+1,.slice (some ⟨bi,0,none⟩) (k+1) bic,ms++[rv],by go_num,by omega,Lib.hid (by omega),Lib.hid (by rw [List.length_append,HMS.out]; rfl),Lib.hid ?_⟩
            have hru:Pl.smRule s k=(⟨Pl.varS q,l,⟨#[]⟩,⟨#[]⟩⟩:Rd.Rul):=by
             unfold Pl.smRule
             rw [← HLL.out.2,List.getD_eq_getElem?_getD,List.getElem?_eq_getElem hlt,Option.getD_some,← HQD.out.2,← HQD.out.1]
             rw [HPC.out]
             rfl
            rw [List.range_succ,List.map_append,List.map_singleton,hru,rZ_snoc _ _ _ _ (by rw [HMS.out]; simp)]
            refine (HO9.out.sub (no':=[]) (by simp)).perm ?_
            have:=perm_last (rS rv n l) ([rT T (Pl.nTok s) ((List.range (Pl.nTok s)).map tok0),rL (.slice La s.assocs.length Lc) s.assocs.length (Pl.smLevs s (Pl.nTok s)) ns,rR (.slice (some ⟨bi,0,none⟩) (k+1) bic) (k+1) (((List.range k).map (Pl.smRule s))++[(⟨Pl.varS q,l,⟨#[]⟩,⟨#[]⟩⟩:Rd.Rul)]) (ms++[rv])]++(rY (Pl.smLevs s (Pl.nTok s)) ns++rZ ((List.range k).map (Pl.smRule s)) ms))
            rw [List.append_assoc,List.append_assoc] at this
            rw [HLL.out.1] at this ⊢
            exact this
       ·have c3:=(HS.out.below HO3.out.low).c3
        obtain ⟨rv,hrv⟩:∃ rv:Value,rv=.slice none 0 0:=⟨_,rfl⟩
        obtain ⟨n,hn⟩:∃ n:Nat,n=0:=⟨_,rfl⟩
        obtain ⟨l,hl⟩:∃ l:List ByteArray,l=[]:=⟨_,rfl⟩
        have HO:Hid (GI U V gb #[T,.slice none 0 0,.slice La s.assocs.length Lc,.string ⟨#[83]⟩,R] [xb] (rS rv n l::([rT T (Pl.nTok s) ((List.range (Pl.nTok s)).map tok0),rL (.slice La s.assocs.length Lc) s.assocs.length (Pl.smLevs s (Pl.nTok s)) ns,rR R k ((List.range k).map (Pl.smRule s)) ms]++(rY (Pl.smLevs s (Pl.nTok s)) ns++rZ ((List.range k).map (Pl.smRule s)) ms)))):=Lib.hid (by rw [hrv,hn,hl]; exact HO3.out.zero 9 1)
        have HX:Hid (V.heap[xb]?=some (.cells #[.string (Pl.varS q),rv,.string ⟨#[]⟩,.string ⟨#[]⟩] 77 (0,0))):=Lib.hid (by rw [hrv]; exact HX0.out)
        have HLL:Hid (n=l.length∧l=(s.rights.getD k []).map (Pl.smName s)):=Lib.hid ⟨by rw [hn,hl]; rfl,by rw [hl,List.getD_eq_getElem?_getD,List.getElem?_eq_none (by omega)]; rfl⟩
        have hr8:n≤8:=by omega
        clear HO3 HX0 hrv hn hl
        have hk20:k≤20:=by omega
        by_cases hp:k < s.precs.length
        ·have S5:=Lib.hid (HS.out.below HO.out.low)
         have c4:=S5.out.c4
         go_wp2_with fail
         clear c3
         obtain ⟨bp,offp,rfl,t0,t1⟩:=S5.out.a.p k hp
         obtain ⟨x,hx⟩:∃ x,x=s.precs[k]:=⟨_,rfl⟩
         rw [← hx] at t0 t1
         have hb:bp < V.heap.size:=World.block_lt_of_cell? V _ t0
         obtain ⟨q2,hqd⟩:∃ q2,q2=x % (s.assocs.length+1):=⟨_,rfl⟩
         have hq:(x:Int) % ((s.assocs.length:Int)+1)=(q2:Nat):=by rw [hqd]; push_cast; rfl
         have hqn:q2≤s.assocs.length:=by rw [hqd]; have:=Nat.mod_lt x (show 0 < s.assocs.length+1 by omega); omega
         have hgq:s.precs.getD k 0 % (s.assocs.length+1)=q2:=by rw [List.getD_eq_getElem?_getD,List.getElem?_eq_getElem hp,Option.getD_some,hqd,hx]
         have HGQ:=Lib.hid hgq
         have z4:=fun z:Wd V.heap.size V=>(S5.out.below z.ok).c4
         have z2:=fun z:Wd V.heap.size V=>(HO.out.below z.ok).c.2.2.1
         have zt:∀ z:Wd V.heap.size V,z.w.cell? ⟨bp,offp+k,none⟩=some (.int .u8 (x:Nat)):=fun z=>((bcell z.ok).1 _ _ hb).trans t0
         clear hx t0 hqd hgq c4
         refine region_rd [0,1,2,3,4,5,6,7,8,9,10,11] 254 ?_ (fun c a d v w h=>by cases d<;>exact h) (by kernel_rfl) (by kernel_rfl) (by rfl) ?_ ?_
         rotate_left
         ·intro z
          simp only [pickL,List.getElem?_cons_zero,List.getElem?_cons_succ]
          repeat (go_big_quiet_step (fail))
          refine wpQuiet_nil ?_
          exact rfl
         have HO5:=Lib.hid (HO.out.below (Below.refl _ _).drew)
         have HX5:Hid (V.drew.heap[xb]?=some (.cells #[.string (Pl.varS q),rv,.string ⟨#[]⟩,.string ⟨#[]⟩] 77 (0,0))):=HX
         rw [hq]
         clear z4 z2 zt hb HO HX S5 hq t1
         generalize V.drew=V1 at HO5 HX5 ⊢
         rcases Nat.eq_zero_or_pos q2 with h0 | h0
         ·subst h0
          have HPC:Hid ((if k < s.precs.length∧s.precs.getD k 0 % (s.assocs.length+1)≠0 then Pl.levS (s.precs.getD k 0 % (s.assocs.length+1) - 1) else Rd.E)=⟨#[]⟩):=Lib.hid (by rw [HGQ.out]; simp; rfl)
          have HO7:=Lib.hid (HO5.out.alloc (.cells #[.string (Pl.varS q),rv,.string ⟨#[]⟩,.string ⟨#[]⟩] 77))
          have p4:=HO5.out.c.2.2.2.2.1
          have x0:V1.cell? ⟨xb,0,none⟩=some (.string (Pl.varS q)):=by rw [cell_of_row _ _ _ _ _ _ HX5.out]; rfl
          have x1:V1.cell? ⟨xb,1,none⟩=some rv:=by rw [cell_of_row _ _ _ _ _ _ HX5.out]; rfl
          have x2:V1.cell? ⟨xb,2,none⟩=some (.string ⟨#[]⟩):=by rw [cell_of_row _ _ _ _ _ _ HX5.out]; rfl
          have x3:V1.cell? ⟨xb,3,none⟩=some (.string ⟨#[]⟩):=by rw [cell_of_row _ _ _ _ _ _ HX5.out]; rfl
          have hx1:rv.oneCell'=true:=own_one (HO5.out.own (r:=rS rv n l) (by simp))
          have hn0:=heap_alloc_new V1 (.cells #[.string (Pl.varS q),rv,.string ⟨#[]⟩,.string ⟨#[]⟩] 77)
          rw [show V1.heap.size=V1.heap.size from by first | rfl | simp [World.setCell]] at hn0
          go_wp2_with (refine list_gpp_R rfl _ _ _ rfl (rS rv n l::[rT T (Pl.nTok s) ((List.range (Pl.nTok s)).map tok0),rL (.slice La s.assocs.length Lc) s.assocs.length (Pl.smLevs s (Pl.nTok s)) ns]) R k ((List.range k).map (Pl.smRule s)) ms (rY (Pl.smLevs s (Pl.nTok s)) ns++rZ ((List.range k).map (Pl.smRule s)) ms) (by rw [HMS.out]; simp) elt_rule rfl HO7.out V1.heap.size 1 rfl (⟨Pl.varS q,l,⟨#[]⟩,⟨#[]⟩⟩:Rd.Rul) rv hx1 hn0 (by omega) ?_; intro bi bic wg hoi _; have HO8:=Lib.hid hoi; have p4:=hoi.c.2.2.2.2.1; have pf:=hoi.c.2.2.2.2.2 4; clear hoi)
          have HO9:=Lib.hid (HO8.out.p4 (.slice (some ⟨bi,0,none⟩) (k+1) bic))
          clear p4 pf HO8 hn0
          go_roundg (s.lefts.length - (k+1))
          case measure=>have:=HK.out; omega
          case rel =>
           refine ⟨k+1,.slice (some ⟨bi,0,none⟩) (k+1) bic,ms++[rv],by go_num,by omega,Lib.hid (by omega),Lib.hid (by rw [List.length_append,HMS.out]; rfl),Lib.hid ?_⟩
           have hru:Pl.smRule s k=(⟨Pl.varS q,l,⟨#[]⟩,⟨#[]⟩⟩:Rd.Rul):=by
            unfold Pl.smRule
            rw [← HLL.out.2,List.getD_eq_getElem?_getD,List.getElem?_eq_getElem hlt,Option.getD_some,← HQD.out.2,← HQD.out.1]
            rw [HPC.out]
            rfl
           rw [List.range_succ,List.map_append,List.map_singleton,hru,rZ_snoc _ _ _ _ (by rw [HMS.out]; simp)]
           refine (HO9.out.sub (no':=[]) (by simp)).perm ?_
           have:=perm_last (rS rv n l) ([rT T (Pl.nTok s) ((List.range (Pl.nTok s)).map tok0),rL (.slice La s.assocs.length Lc) s.assocs.length (Pl.smLevs s (Pl.nTok s)) ns,rR (.slice (some ⟨bi,0,none⟩) (k+1) bic) (k+1) (((List.range k).map (Pl.smRule s))++[(⟨Pl.varS q,l,⟨#[]⟩,⟨#[]⟩⟩:Rd.Rul)]) (ms++[rv])]++(rY (Pl.smLevs s (Pl.nTok s)) ns++rZ ((List.range k).map (Pl.smRule s)) ms))
           rw [List.append_assoc,List.append_assoc] at this
           rw [HLL.out.1] at this ⊢
           exact this
         ·obtain ⟨p2,rfl⟩:∃ p2,q2=p2+1:=⟨q2 - 1,by omega⟩
          have hpe:=levS_ext p2 (by omega)
          have HPC:Hid ((if k < s.precs.length∧s.precs.getD k 0 % (s.assocs.length+1)≠0 then Pl.levS (s.precs.getD k 0 % (s.assocs.length+1) - 1) else Rd.E)=Pl.levS p2):=Lib.hid (by rw [HGQ.out]; simp [hp])
          have y2:V1.cell? ⟨xb,2,none⟩=some (.string ⟨#[]⟩):=by rw [cell_of_row _ _ _ _ _ _ HX5.out]; rfl
          have y2f:V1.frozen? ⟨xb,2,none⟩=false:=frozen_of_row _ _ _ _ _ HX5.out
          have HO6:=Lib.hid (HO5.out.setO (b:=xb) (by simp) HXG.out 2 (.string (Pl.levS p2)))
          have HX6:Hid ((V1.setCell ⟨xb,2,none⟩ (.string (Pl.levS p2))).heap[xb]?=some (.cells #[.string (Pl.varS q),rv,.string (Pl.levS p2),.string ⟨#[]⟩] 77 (0,0))):=Lib.hid (heap_setCell_same _ _ 2 _ _ _ HX5.out)
          have HO7:=Lib.hid (HO6.out.alloc (.cells #[.string (Pl.varS q),rv,.string (Pl.levS p2),.string ⟨#[]⟩] 77))
          have p4:=HO6.out.c.2.2.2.2.1
          have x0:(V1.setCell ⟨xb,2,none⟩ (.string (Pl.levS p2))).cell? ⟨xb,0,none⟩=some (.string (Pl.varS q)):=by rw [cell_of_row _ _ _ _ _ _ HX6.out]; rfl
          have x1:(V1.setCell ⟨xb,2,none⟩ (.string (Pl.levS p2))).cell? ⟨xb,1,none⟩=some rv:=by rw [cell_of_row _ _ _ _ _ _ HX6.out]; rfl
          have x2:(V1.setCell ⟨xb,2,none⟩ (.string (Pl.levS p2))).cell? ⟨xb,2,none⟩=some (.string (Pl.levS p2)):=by rw [cell_of_row _ _ _ _ _ _ HX6.out]; rfl
          have x3:(V1.setCell ⟨xb,2,none⟩ (.string (Pl.levS p2))).cell? ⟨xb,3,none⟩=some (.string ⟨#[]⟩):=by rw [cell_of_row _ _ _ _ _ _ HX6.out]; rfl
          have hx1:rv.oneCell'=true:=own_one (HO6.out.own (r:=rS rv n l) (by simp))
          have hn0:=heap_alloc_new (V1.setCell ⟨xb,2,none⟩ (.string (Pl.levS p2))) (.cells #[.string (Pl.varS q),rv,.string (Pl.levS p2),.string ⟨#[]⟩] 77)
          rw [show (V1.setCell ⟨xb,2,none⟩ (.string (Pl.levS p2))).heap.size=V1.heap.size from by first | rfl | simp [World.setCell]] at hn0
          go_wp2_with (refine list_gpp_R rfl _ _ _ rfl (rS rv n l::[rT T (Pl.nTok s) ((List.range (Pl.nTok s)).map tok0),rL (.slice La s.assocs.length Lc) s.assocs.length (Pl.smLevs s (Pl.nTok s)) ns]) R k ((List.range k).map (Pl.smRule s)) ms (rY (Pl.smLevs s (Pl.nTok s)) ns++rZ ((List.range k).map (Pl.smRule s)) ms) (by rw [HMS.out]; simp) elt_rule rfl HO7.out V1.heap.size 1 rfl (⟨Pl.varS q,l,(Pl.levS p2),⟨#[]⟩⟩:Rd.Rul) rv hx1 hn0 (by omega) ?_; intro bi bic wg hoi _; have HO8:=Lib.hid hoi; have p4:=hoi.c.2.2.2.2.1; have pf:=hoi.c.2.2.2.2.2 4; clear hoi)
          have HO9:=Lib.hid (HO8.out.p4 (.slice (some ⟨bi,0,none⟩) (k+1) bic))
          clear p4 pf HO8 hn0
          go_roundg (s.lefts.length - (k+1))
          case measure=>have:=HK.out; omega
          case rel =>
           refine ⟨k+1,.slice (some ⟨bi,0,none⟩) (k+1) bic,ms++[rv],by go_num,by omega,Lib.hid (by omega),Lib.hid (by rw [List.length_append,HMS.out]; rfl),Lib.hid ?_⟩
           have hru:Pl.smRule s k=(⟨Pl.varS q,l,(Pl.levS p2),⟨#[]⟩⟩:Rd.Rul):=by
            unfold Pl.smRule
            rw [← HLL.out.2,List.getD_eq_getElem?_getD,List.getElem?_eq_getElem hlt,Option.getD_some,← HQD.out.2,← HQD.out.1]
            rw [HPC.out]
            rfl
           rw [List.range_succ,List.map_append,List.map_singleton,hru,rZ_snoc _ _ _ _ (by rw [HMS.out]; simp)]
           refine (HO9.out.sub (no':=[]) (by simp)).perm ?_
           have:=perm_last (rS rv n l) ([rT T (Pl.nTok s) ((List.range (Pl.nTok s)).map tok0),rL (.slice La s.assocs.length Lc) s.assocs.length (Pl.smLevs s (Pl.nTok s)) ns,rR (.slice (some ⟨bi,0,none⟩) (k+1) bic) (k+1) (((List.range k).map (Pl.smRule s))++[(⟨Pl.varS q,l,(Pl.levS p2),⟨#[]⟩⟩:Rd.Rul)]) (ms++[rv])]++(rY (Pl.smLevs s (Pl.nTok s)) ns++rZ ((List.range k).map (Pl.smRule s)) ms))
           rw [List.append_assoc,List.append_assoc] at this
           rw [HLL.out.1] at this ⊢
           exact this
        ·have c4:=(HS.out.below HO.out.low).c4
         have HPC:Hid ((if k < s.precs.length∧s.precs.getD k 0 % (s.assocs.length+1)≠0 then Pl.levS (s.precs.getD k 0 % (s.assocs.length+1) - 1) else Rd.E)=⟨#[]⟩):=Lib.hid (by simp [hp]; rfl)
         have HO7:=Lib.hid (HO.out.alloc (.cells #[.string (Pl.varS q),rv,.string ⟨#[]⟩,.string ⟨#[]⟩] 77))
         have p4:=HO.out.c.2.2.2.2.1
         have x0:V.cell? ⟨xb,0,none⟩=some (.string (Pl.varS q)):=by rw [cell_of_row _ _ _ _ _ _ HX.out]; rfl
         have x1:V.cell? ⟨xb,1,none⟩=some rv:=by rw [cell_of_row _ _ _ _ _ _ HX.out]; rfl
         have x2:V.cell? ⟨xb,2,none⟩=some (.string ⟨#[]⟩):=by rw [cell_of_row _ _ _ _ _ _ HX.out]; rfl
         have x3:V.cell? ⟨xb,3,none⟩=some (.string ⟨#[]⟩):=by rw [cell_of_row _ _ _ _ _ _ HX.out]; rfl
         have hx1:rv.oneCell'=true:=own_one (HO.out.own (r:=rS rv n l) (by simp))
         have hn0:=heap_alloc_new V (.cells #[.string (Pl.varS q),rv,.string ⟨#[]⟩,.string ⟨#[]⟩] 77)
         rw [show V.heap.size=V.heap.size from by first | rfl | simp [World.setCell]] at hn0
         go_wp2_with (refine list_gpp_R rfl _ _ _ rfl (rS rv n l::[rT T (Pl.nTok s) ((List.range (Pl.nTok s)).map tok0),rL (.slice La s.assocs.length Lc) s.assocs.length (Pl.smLevs s (Pl.nTok s)) ns]) R k ((List.range k).map (Pl.smRule s)) ms (rY (Pl.smLevs s (Pl.nTok s)) ns++rZ ((List.range k).map (Pl.smRule s)) ms) (by rw [HMS.out]; simp) elt_rule rfl HO7.out V.heap.size 1 rfl (⟨Pl.varS q,l,⟨#[]⟩,⟨#[]⟩⟩:Rd.Rul) rv hx1 hn0 (by omega) ?_; intro bi bic wg hoi _; have HO8:=Lib.hid hoi; have p4:=hoi.c.2.2.2.2.1; have pf:=hoi.c.2.2.2.2.2 4; clear hoi)
         have HO9:=Lib.hid (HO8.out.p4 (.slice (some ⟨bi,0,none⟩) (k+1) bic))
         clear p4 pf HO8 hn0
         go_roundg (s.lefts.length - (k+1))
         case measure=>have:=HK.out; omega
         case rel =>
          refine ⟨k+1,.slice (some ⟨bi,0,none⟩) (k+1) bic,ms++[rv],by go_num,by omega,Lib.hid (by omega),Lib.hid (by rw [List.length_append,HMS.out]; rfl),Lib.hid ?_⟩
          have hru:Pl.smRule s k=(⟨Pl.varS q,l,⟨#[]⟩,⟨#[]⟩⟩:Rd.Rul):=by
           unfold Pl.smRule
           rw [← HLL.out.2,List.getD_eq_getElem?_getD,List.getElem?_eq_getElem hlt,Option.getD_some,← HQD.out.2,← HQD.out.1]
           rw [HPC.out]
           rfl
          rw [List.range_succ,List.map_append,List.map_singleton,hru,rZ_snoc _ _ _ _ (by rw [HMS.out]; simp)]
          refine (HO9.out.sub (no':=[]) (by simp)).perm ?_
          have:=perm_last (rS rv n l) ([rT T (Pl.nTok s) ((List.range (Pl.nTok s)).map tok0),rL (.slice La s.assocs.length Lc) s.assocs.length (Pl.smLevs s (Pl.nTok s)) ns,rR (.slice (some ⟨bi,0,none⟩) (k+1) bic) (k+1) (((List.range k).map (Pl.smRule s))++[(⟨Pl.varS q,l,⟨#[]⟩,⟨#[]⟩⟩:Rd.Rul)]) (ms++[rv])]++(rY (Pl.smLevs s (Pl.nTok s)) ns++rZ ((List.range k).map (Pl.smRule s)) ms))
          rw [List.append_assoc,List.append_assoc] at this
          rw [HLL.out.1] at this ⊢
          exact this
      ·obtain rfl:k=s.lefts.length:=by omega
       clear HK hlt hk
       go_wp2_with fail
       clear c2 S2
       have h0r:((List.range s.lefts.length).map (Pl.smRule s))=Pl.smRules s 0:=rfl
       rw [h0r] at HO
       obtain ⟨ms0,hms0⟩:∃ ms0,ms0=ms:=⟨_,rfl⟩
       go_loopg [16,17,18,19] (Pl.nVar s) (fun gk i nm fd i2 wr=>∃ (k n:Nat) (Ra:Option Addr) (Rc:Nat) (ms:List Value),i=.int .i64 k∧k≤Pl.nVar s∧Hid (gk+k=Pl.nVar s)∧Hid (n=(Pl.smRules s k).length)∧n≤20+k∧Hid (ms.length=n) ∧
         Hid (GI U wr gb #[T,.slice none 0 0,.slice La s.assocs.length Lc,.string ⟨#[83]⟩,(.slice Ra n Rc)] [] ([rT T (Pl.nTok s) ((List.range (Pl.nTok s)).map tok0),rL (.slice La s.assocs.length Lc) s.assocs.length (Pl.smLevs s (Pl.nTok s)) ns,rR (.slice Ra n Rc) n (Pl.smRules s k) ms]++(rY (Pl.smLevs s (Pl.nTok s)) ns++rZ (Pl.smRules s k) ms))))
       case atStart =>
        obtain ⟨Ra,Rc,hR,-⟩:=RowV.of_owns (HO.out.own (r:=rR R s.lefts.length (Pl.smRules s 0) ms) (by simp))
        have hR':R=.slice Ra s.lefts.length Rc:=hR
        clear hR hms0
        subst hR'
        exact ⟨0,s.lefts.length,Ra,Rc,ms,rfl,by omega,Lib.hid (by omega),Lib.hid (by simp [Pl.smRules,Pl.smRules0]),by omega,HMS,HO⟩
       case round =>
        clear HO hms0 HMS h0r
        obtain ⟨k,n,Ra,Rc,ms,rfl,hk,HK,HN,hn20,HMS,HO⟩:=hrel
        by_cases hlt:k < Pl.nVar s
        ·have hv4:=HV4.out.1
         have hvs:=varS_ext k (by omega)
         have p4:=HO.out.c.2.2.2.2.1
         go_wp2_with fail
         go_loopg [18,19] n (fun g2 fd i2 wq=>∃ j:Nat,i2=.int .i64 j∧j≤n∧Hid (g2+j=n)∧fd=.bool (((Pl.smRules s k).take j).any (fun r=>Lx.eqS r.left (Pl.varS k)))∧wq=wr)
         case atStart=>exact ⟨0,rfl,by omega,Lib.hid (by omega),by simp,rfl⟩
         case round =>
          obtain ⟨j,rfl,hj,HJ,rfl,rfl⟩:=hrel
          by_cases hjl:j < n
          ·obtain ⟨gr,Rc2,hR,-⟩:=World.ownsRow.form (HO.out.own (r:=rR (.slice Ra n Rc) n (Pl.smRules s k) ms) (by simp)) (by show 0 < n; omega)
           obtain ⟨hR1,-,hR2⟩:=slice_eq (show Value.slice Ra n Rc=_ from hR)
           subst hR1 hR2
           clear hR
           have hjr:j < (Pl.smRules s k).length:=by rw [← HN.out]; exact hjl
           have hjm:j < ms.length:=by rw [HMS.out]; exact hjl
           obtain ⟨x,hx⟩:∃ x,x=(Pl.smRules s k)[j].left:=⟨_,rfl⟩
           have hcell:wr.cell? ⟨gr,j*4,none⟩=some (.string x):=by
            have:=(HO.out.own (r:=rR (.slice (some ⟨gr,0,none⟩) n Rc) n (Pl.smRules s k) ms) (by simp)).cells (g:=gr) rfl (j*4) _ ((rlC_at _ ms j hjr hjm).1)
            rwa [← hx,addr_add] at this
           obtain ⟨fv,hfv⟩:∃ fv,fv=((Pl.smRules s k).take j).any (fun r=>Lx.eqS r.left (Pl.varS k)):=⟨_,rfl⟩
           have hnx:((Pl.smRules s k).take (j+1)).any (fun r=>Lx.eqS r.left (Pl.varS k))=(fv||Lx.eqS x (Pl.varS k)):=by
            rw [List.take_succ_eq_append_getElem hjr,List.any_append,← hfv,hx]; simp
           have HNX:=Lib.hid hnx
           rw [← hfv]
           clear hjr hjm hx hfv hnx
           cases fv
           case true =>
            go_wp2_with fail
            go_roundg (n - (j+1))
            case measure=>have:=HJ.out; omega
            case rel=>exact ⟨j+1,by go_num,by omega,Lib.hid (by omega),by rw [HNX.out]; rfl,rfl⟩
           case false =>
            by_cases he:x=Pl.varS k
            ·have heq:strEq x (Pl.varS k)=true:=strEq_yes he
             have HE:=Lib.hid (eqS_yes he)
             unfold strEq at heq
             clear he
             go_wp2_with fail
             go_roundg (n - (j+1))
             case measure=>have:=HJ.out; omega
             case rel=>exact ⟨j+1,by go_num,by omega,Lib.hid (by omega),by rw [HNX.out,HE.out]; rfl,rfl⟩
            ·have heq:strEq x (Pl.varS k)=false:=strEq_no he
             have HE:=Lib.hid (eqS_no he)
             unfold strEq at heq
             clear he
             go_wp2_with fail
             go_roundg (n - (j+1))
             case measure=>have:=HJ.out; omega
             case rel=>exact ⟨j+1,by go_num,by omega,Lib.hid (by omega),by rw [HNX.out,HE.out]; rfl,rfl⟩
          ·obtain rfl:j=n:=by omega
           have htk:(Pl.smRules s k).take j=Pl.smRules s k:=by rw [HN.out,List.take_length]
           rw [htk]
           obtain ⟨fv,hfv⟩:∃ fv,fv=(Pl.smRules s k).any (fun r=>Lx.eqS r.left (Pl.varS k)):=⟨_,rfl⟩
           have hadd:Hid (Pl.smRules s (k+1)=if fv then Pl.smRules s k else Pl.smRules s k++[⟨Pl.varS k,[],Rd.E,Rd.E⟩]):=Lib.hid (by rw [Pl.smRules,Pl.addRule,hfv])
           rw [← hfv]
           clear hfv htk HJ hjl hj
           cases fv
           case true =>
            go_wp2_with fail
            go_roundg (Pl.nVar s - (k+1))
            case measure=>have:=HK.out; omega
            case rel =>
             refine ⟨k+1,j,Ra,Rc,ms,by go_num,by omega,Lib.hid (by omega),?_,by omega,HMS,?_⟩
             ·rw [hadd.out]; exact HN
             ·rw [hadd.out]; exact HO
           case false =>
            have HO7:=Lib.hid (HO.out.alloc (.cells #[.string (Pl.varS k),.slice none 0 0,.string ⟨#[]⟩,.string ⟨#[]⟩] 77))
            go_wp2_with (refine list_gpp_R rfl _ _ _ rfl [rT T (Pl.nTok s) ((List.range (Pl.nTok s)).map tok0),rL (.slice La s.assocs.length Lc) s.assocs.length (Pl.smLevs s (Pl.nTok s)) ns] (.slice Ra j Rc) j (Pl.smRules s k) ms (rY (Pl.smLevs s (Pl.nTok s)) ns++rZ (Pl.smRules s k) ms) (by rw [HMS.out,← HN.out]) elt_rule rfl HO7.out wr.heap.size 1 rfl (⟨Pl.varS k,[],⟨#[]⟩,⟨#[]⟩⟩:Rd.Rul) (.slice none 0 0) rfl (heap_alloc_new wr _) (by omega) ?_; intro bi bic wg hoi _; have HO8:=Lib.hid hoi; have p4:=hoi.c.2.2.2.2.1; have pf:=hoi.c.2.2.2.2.2 4; clear hoi)
            have HO9:=Lib.hid ((HO8.out.p4 (.slice (some ⟨bi,0,none⟩) (j+1) bic)).zero 9 1)
            clear p4 pf HO8
            go_roundg (Pl.nVar s - (k+1))
            case measure=>have:=HK.out; omega
            case rel =>
             refine ⟨k+1,j+1,some ⟨bi,0,none⟩,bic,ms++[.slice none 0 0],by go_num,by omega,Lib.hid (by omega),?_,by omega,Lib.hid (by rw [List.length_append,HMS.out]; rfl),Lib.hid ?_⟩
             ·rw [hadd.out]; exact Lib.hid (by simp; exact HN.out)
             ·rw [hadd.out]
              simp only [Bool.false_eq_true,if_false]
              rw [rZ_snoc _ _ _ _ (by rw [HMS.out,← HN.out])]
              refine HO9.out.perm ?_
              have:=perm_last (rS (.slice none 0 0) 0 []) ([rT T (Pl.nTok s) ((List.range (Pl.nTok s)).map tok0),rL (.slice La s.assocs.length Lc) s.assocs.length (Pl.smLevs s (Pl.nTok s)) ns,rR (.slice (some ⟨bi,0,none⟩) (j+1) bic) (j+1) (Pl.smRules s k++[⟨Pl.varS k,[],Rd.E,Rd.E⟩]) (ms++[.slice none 0 0])]++(rY (Pl.smLevs s (Pl.nTok s)) ns++rZ (Pl.smRules s k) ms))
              rw [List.append_assoc,List.append_assoc] at this
              exact this
        ·obtain rfl:k=Pl.nVar s:=by omega
         obtain ⟨p0,p1,p2,p3,p4,_⟩:=HO.out.c
         have hg0:wr.heap[sb+1]?=some (.cells #[.slice none 0 0,.slice none 0 0,.slice none 0 0,.string ⟨#[]⟩,.slice none 0 0] 74 (0,0)):=by rw [HSB.out.1]; exact (HO.out.low.block _ (by omega)).trans HRR.out
         have o0:T.oneCell'=true:=own_one (HO.out.own (r:=rT T (Pl.nTok s) ((List.range (Pl.nTok s)).map tok0)) (by simp))
         have HW:Hid (Below w.heap.size w (wr.setRow (sb+1) #[T,.slice none 0 0,.slice La s.assocs.length Lc,.string ⟨#[83]⟩,.slice Ra n Rc])∧GrV (wr.setRow (sb+1) #[T,.slice none 0 0,.slice La s.assocs.length Lc,.string ⟨#[83]⟩,.slice Ra n Rc]) (.agg #[T,.slice none 0 0,.slice La s.assocs.length Lc,.string ⟨#[83]⟩,.slice Ra n Rc]) (Pl.grammar s)):=Lib.hid (by
          have hsb:=HSB.out.1
          have kb:Keeps (fun k=>k=sb+1) wr (wr.setRow (sb+1) #[T,.slice none 0 0,.slice La s.assocs.length Lc,.string ⟨#[83]⟩,.slice Ra n Rc]):=⟨by simp,fun k hk hn=>setRow_other _ _ _ _ hn⟩
          have h1:=HB.out.trans (HO.out.low.mono (by omega:w.heap.size≤U.heap.size))
          refine ⟨⟨h1.os,h1.tape,h1.output,by simp; exact h1.size,fun k hk=>(setRow_other _ _ _ _ (by omega)).trans (h1.block k hk)⟩,?_⟩
          refine gmV_of (B:=U.heap.size) (g:=Pl.grammar s) (n1:=Pl.nTok s) (n2:=s.assocs.length) (n3:=n) (ns:=ns) (ms:=ms) (fun r hr=>owns_keeps (HO.out.own (r:=r) (by rw [← List.append_assoc]; exact hr)) kb (fun b cs hb _=>by omega)) rfl (by simp [Pl.grammar]) HLN.out HN.out.symm (by rw [HNS.out]; exact HLN.out.symm) (by rw [HMS.out]; exact HN.out))
         clear HK hlt hk hn20
         go_wp2_with (refine list_store_row rfl 74 _ _ rfl (sb+1) rfl _ rfl _ 74 hg0 rfl gram_size (by simp [o0]; simp [Value.oneCell']) ?_)
         exact bodyPost_ret (results_cell_row rfl _ _ (sb+1) 74 #[T,.slice none 0 0,.slice La s.assocs.length Lc,.string ⟨#[83]⟩,.slice Ra n Rc] (0,0) _ (by rfl) (setRow_heap _ _ _ _ _ _ hg0) Tryd.underlying74 rfl gram_size) rfl ⟨_,rfl,HW.out.2,HW.out.1⟩
end Go.Proofs.YtjbggogbnckllaaDoor
