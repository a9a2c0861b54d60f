/-
  The walk of the reference of chapter 7, whichever answer: is a grammar right.
-/
import Derived.Test.YtjbggogbnckllaaDoorAi
namespace Go.Proofs.YtjbggogbnckllaaDoor
open Go.RowKit
set_option linter.unusedVariables false
set_option linter.unusedSimpArgs false
theorem run_appS0 (w:World) (b na:Option Addr) (n cap c:Nat) (h:n≤cap) :
  (Builtin.append_ #[28,28] 28 #[.slice b n cap,.slice na 0 c]).run Tryd.prog w=.ok (.slice b n cap) w:=by
 obtain ⟨i,z,hi,hz,hsz,_⟩:=elt_str.hi
 have ht:=Tryd.underlying28
 cases b<;>cases na<;>simp [Builtin.append_,Builtin.lenOf,Builtin.firstCells,ht,hi,hsz,h,sizeOf,typeInfo,Result.andThen,storeCells,loadCells,loadCellsFrom]
theorem own_capS {w:World} {B n m cap:Nat} {b:Option Addr} {e:TypeId} {size:Nat} {xs:List Value} (h:w.ownsRow B e size (.slice b m cap) n xs):n≤cap∧m=n:=by
 rcases h.2 with ⟨e1,e2⟩ | ⟨g,c,cur,hv,_,_,h1,_⟩
 ·cases e1; exact ⟨by omega,by omega⟩
 ·cases hv; exact ⟨h1,rfl⟩
/-- Nothing is appended. -/
theorem list_app_noneS {w:World} {o:Oper} {ops:Array Oper} {rest:List Oper} {a:Act} {Q:Exit→Act→World→Prop} (hgd:o.guard=none) (s x:Operand) (ho:o.op=.call { callee:=.builtin .append,args:=#[s,x],argTypes:=#[28,28] }) (hty:o.type=28)
  (b:Option Addr) (n cap:Nat) (na:Option Addr) (m c:Nat) (hm:m=0) (hs:a.eval s=.slice b n cap) (hx:a.eval x=.slice na m c) (hn:n≤cap)
  (h:wpList Tryd.prog ops Q rest (a.put o.dst (.slice b n cap)) w):wpList Tryd.prog ops Q (o::rest) a w:=by
 subst hm
 rw [wpList,if_pos (by simp [Region.wanted,hgd])]
 refine .inl ?_
 have hr:=run_appS0 w b na n cap c hn
 unfold Oper.wp execOp
 simp only [ho,hty,resolve,invoke,builtin,Sem.run_bind,Sem.run_pure,Result.andThen_ok,List.map_toArray,List.map_cons,List.map_nil,hs,hx,hr]
 exact h
theorem all_get {α:Type} {l:List α} {p:α→Bool} (h:∀ i (hi:i < l.length),p l[i]=true):l.all p=true:=by
 rw [List.all_eq_true]; intro x hx; obtain ⟨i,hi,rfl⟩:=List.getElem_of_mem hx; exact h i hi
theorem all_not {α:Type} {l:List α} {p:α→Bool} {i:Nat} (hi:i < l.length) (h:p l[i]=false):l.all p=false:=by
 rw [Bool.eq_false_iff]; intro hh; rw [List.all_eq_true.1 hh _ (List.getElem_mem hi)] at h; cases h
/-- The sizes' test. -/
def sizesB (g:Rd.Gr):Bool:=decide (g.toks.length≤20)&&decide (g.skips.length≤4)&&decide (g.levs.length≤10)&&decide (1≤g.rules.length)&&decide (g.rules.length≤40)&&Pl.name g.start
theorem right_of (g:Rd.Gr):Pl.right g=(sizesB g&&g.toks.all (fun t=>Pl.okPat t.pat)&&g.skips.all Pl.okPat&&g.levs.all Pl.okLev&&g.rules.all Pl.okRule&&Pl.once (g.toks.map (·.name))&&Pl.once (g.levs.flatMap (·.names))):=rfl
theorem right_sz {g:Rd.Gr} (h:sizesB g=false):Pl.right g=false:=by rw [right_of,h]; rfl
theorem right_tok {g:Rd.Gr} {i:Nat} (hi:i < g.toks.length) (h:Pl.okPat g.toks[i].pat=false):Pl.right g=false:=by
 rw [right_of,all_not (p:=fun t:Rd.Tok=>Pl.okPat t.pat) hi h]; simp
theorem right_skip {g:Rd.Gr} {i:Nat} (hi:i < g.skips.length) (h:Pl.okPat g.skips[i]=false):Pl.right g=false:=by
 rw [right_of,all_not (p:=Pl.okPat) hi h]; simp
theorem right_lev {g:Rd.Gr} {i:Nat} (hi:i < g.levs.length) (h:Pl.okLev g.levs[i]=false):Pl.right g=false:=by
 rw [right_of,all_not (p:=Pl.okLev) hi h]; simp
theorem right_rule {g:Rd.Gr} {i:Nat} (hi:i < g.rules.length) (h:Pl.okRule g.rules[i]=false):Pl.right g=false:=by
 rw [right_of,all_not (p:=Pl.okRule) hi h]; simp
theorem right_end {g:Rd.Gr} (h0:sizesB g=true) (h1:∀ i (hi:i < g.toks.length),Pl.okPat g.toks[i].pat=true) (h2:∀ i (hi:i < g.skips.length),Pl.okPat g.skips[i]=true) (h3:∀ i (hi:i < g.levs.length),Pl.okLev g.levs[i]=true)
  (h4:∀ i (hi:i < g.rules.length),Pl.okRule g.rules[i]=true):Pl.right g=(Pl.once (g.toks.map (·.name))&&Pl.once (g.levs.flatMap (·.names))):=by
 rw [right_of,h0,all_get (p:=fun t:Rd.Tok=>Pl.okPat t.pat) h1,all_get (p:=Pl.okPat) h2,all_get (p:=Pl.okLev) h3,all_get (p:=Pl.okRule) h4]; rfl
set_option maxRecDepth 100000 in
set_option maxHeartbeats 16000000 in
theorem right_small {w:World} {v:Value} {g:Rd.Gr} (h:GrV w v g) (hz:sizesB g=false) :
  Calls Tryd.prog 63 #[v] w fun e w'=>e=.returned (.bool (Pl.right g))∧Below w.heap.size w w':=by
 obtain ⟨ta,tc,sa,sc,lva,lvc,ra,rc,rfl,_,_,_,_⟩:=h
 have hv:Hid (Pl.right g=false):=Lib.hid (right_sz hz)
 have HB:=Lib.hid ((Below.refl w.heap.size w).alloc (Nat.le_refl _) (.cells #[.slice ta g.toks.length tc,.slice sa g.skips.length sc,.slice lva g.levs.length lvc,.string g.start,.slice ra g.rules.length rc] 74))
 have hnm:=name7_any g.start (w.alloc (.cells #[.slice ta g.toks.length tc,.slice sa g.skips.length sc,.slice lva g.levs.length lvc,.string g.start,.slice ra g.rules.length rc] 74))
 have HZ:=Lib.hid hz
 clear hz
 by_cases h1:g.toks.length≤20
 case neg =>
  have d1:decide ((20:Int) < (g.toks.length:Int))=true:=by simp; omega
  clear hnm
  go_enter Tryd.func63,Tryd.ntmps63
  go_wp2_with fail
  go_ret
  exact ⟨ret_bool hv.out.symm,HB.out⟩
 have d1:decide ((20:Int) < (g.toks.length:Int))=false:=by simp; omega
 by_cases h2:g.skips.length≤4
 case neg =>
  have d2:decide ((4:Int) < (g.skips.length:Int))=true:=by simp; omega
  clear hnm
  go_enter Tryd.func63,Tryd.ntmps63
  go_wp2_with fail
  go_ret
  exact ⟨ret_bool hv.out.symm,HB.out⟩
 have d2:decide ((4:Int) < (g.skips.length:Int))=false:=by simp; omega
 by_cases h3:g.levs.length≤10
 case neg =>
  have d3:decide ((10:Int) < (g.levs.length:Int))=true:=by simp; omega
  clear hnm
  go_enter Tryd.func63,Tryd.ntmps63
  go_wp2_with fail
  go_ret
  exact ⟨ret_bool hv.out.symm,HB.out⟩
 have d3:decide ((10:Int) < (g.levs.length:Int))=false:=by simp; omega
 by_cases h4:1≤g.rules.length
 case neg =>
  have d4:decide ((g.rules.length:Int) < 1)=true:=by simp; omega
  clear hnm
  go_enter Tryd.func63,Tryd.ntmps63
  go_wp2_with fail
  go_ret
  exact ⟨ret_bool hv.out.symm,HB.out⟩
 have d4:decide ((g.rules.length:Int) < 1)=false:=by simp; omega
 by_cases h5:g.rules.length≤40
 case neg =>
  have d5:decide ((40:Int) < (g.rules.length:Int))=true:=by simp; omega
  clear hnm
  go_enter Tryd.func63,Tryd.ntmps63
  go_wp2_with fail
  go_ret
  exact ⟨ret_bool hv.out.symm,HB.out⟩
 have d5:decide ((40:Int) < (g.rules.length:Int))=false:=by simp; omega
 have hn:Pl.name g.start=false:=by
  have:=HZ.out
  unfold sizesB at this
  simpa [h1,h2,h3,h4,h5] using this
 rw [hn] at hnm
 clear hn h1 h2 h3 h4 h5
 go_enter Tryd.func63,Tryd.ntmps63
 go_wp2_with fail
 refine hnm.mono ?_
 rintro e w' ⟨rfl,rfl⟩
 clear hnm
 go_wp2_with fail
 go_ret
 exact ⟨ret_bool hv.out.symm,HB.out⟩
set_option maxRecDepth 100000 in
set_option maxHeartbeats 16000000 in
theorem right_big {w:World} {v:Value} {g:Rd.Gr} (h:GrV w v g) (hr:sizesB g=true) (hz:GrSz g) :
  Calls Tryd.prog 63 #[v] w fun e w'=>e=.returned (.bool (Pl.right g))∧Below w.heap.size w w':=by
 obtain ⟨ta,tc,sa,sc,la,lc,ra,rc,rfl,h1,h2,h3,h4⟩:=h
 have HSZ:=Lib.hid hr
 have hr2:=hr
 unfold sizesB at hr2
 simp only [Bool.and_eq_true,decide_eq_true_eq] at hr2
 obtain ⟨⟨⟨⟨⟨nt,ns⟩,nl⟩,n1⟩,nr⟩,nst⟩:=hr2
 have HZ:=Lib.hid hz
 have HG:=Lib.hid (GA.new (tc:=tc) (sc:=sc) (lc:=lc) (rc:=rc) h1 h2 h3 h4)
 unfold gC at HG
 have HB:=Lib.hid ((Below.refl w.heap.size w).alloc (Nat.le_refl _) (.cells #[.slice ta g.toks.length tc,.slice sa g.skips.length sc,.slice la g.levs.length lc,.string g.start,.slice ra g.rules.length rc] 74))
 clear h1 h2 h3 h4 hr hz
 have d1:decide ((20:Int) < (g.toks.length:Int))=false:=by simp; omega
 have d2:decide ((4:Int) < (g.skips.length:Int))=false:=by simp; omega
 have d3:decide ((10:Int) < (g.levs.length:Int))=false:=by simp; omega
 have d4:decide ((g.rules.length:Int) < 1)=false:=by simp; omega
 have d5:decide ((40:Int) < (g.rules.length:Int))=false:=by simp; omega
 have hnm:=name7_any g.start (w.alloc (.cells #[.slice ta g.toks.length tc,.slice sa g.skips.length sc,.slice la g.levs.length lc,.string g.start,.slice ra g.rules.length rc] 74))
 rw [nst] at hnm
 clear nst
 have e0:=HG.out.c0
 have e1:=HG.out.c1
 have e2:=HG.out.c2
 have e3:=HG.out.c3
 have e4:=HG.out.c4
 go_enter Tryd.func63,Tryd.ntmps63
 go_wp2_with fail
 generalize w.alloc (.cells #[.slice ta g.toks.length tc,.slice sa g.skips.length sc,.slice la g.levs.length lc,.string g.start,.slice ra g.rules.length rc] 74)=W at HG HB hnm e0 e1 e2 e3 e4 ⊢
 refine hnm.mono ?_
 rintro e w' ⟨rfl,rfl⟩
 clear hnm d1 d2 d3 d4 d5 e0 e1 e2 e3 e4
 go_wp2_with fail
 have hW0:=HG.out.lt
 go_loopg [3,4] g.toks.length (fun gk tv i wr=>∃ (k:Nat) (na:Option Addr) (nc:Nat),i=.int .i64 k∧tv=.slice na k nc∧k≤g.toks.length∧Hid (gk+k=g.toks.length)∧Hid (wr.ownsRow W.heap.size 9 1 (.slice na k nc) k (strV ((g.toks.take k).map (·.name))))∧Hid (Below W.heap.size W wr)∧Hid (∀ i (hi:i < g.toks.length),i < k→Pl.okPat g.toks[i].pat=true))
 case atStart=>exact ⟨0,none,0,rfl,rfl,by omega,Lib.hid (by omega),Lib.hid (World.ownsRow_nil _ _ _ _),Lib.hid (Below.refl _ _),Lib.hid (fun i _ h=>absurd h (Nat.not_lt_zero _))⟩
 case round =>
  obtain ⟨k,na,nc,rfl,rfl,hk,HK,HO,HL,HPT⟩:=hrel
  have hsz:=HL.out.size
  have G2:=Lib.hid (HG.out.below HL.out)
  have e0:=G2.out.c0
  by_cases hlt:k < g.toks.length
  ·obtain ⟨b,off,hta,t0,_⟩:=G2.out.t k hlt
   subst hta
   have hszp:=HZ.out.t g.toks[k] (List.getElem_mem hlt)
   have hns:=names_snoc g.toks k hlt
   obtain ⟨x,hx⟩:∃ x,g.toks[k]=x:=⟨_,rfl⟩
   rw [hx] at t0 hszp hns
   have HX:=Lib.hid hx
   have HN:=Lib.hid hns
   have HO2:=Lib.hid (HO.out.alloc (.cells #[.string x.name] 9))
   have HL2:=Lib.hid (HL.out.alloc (by omega) (.cells #[.string x.name] 9))
   clear hns hx
   go_wp2_with (refine list_append_one rfl _ _ _ rfl 9 W.heap.size 1 16 elt_str (.slice na k nc) k (strV ((g.toks.take k).map (·.name))) rfl HO2.out ⟨wr.heap.size,0,none⟩ 1 [.string x.name] rfl rfl (World.news_of_block (cs:=#[.string x.name]) (t:=9) (fr:=(0,0)) (heap_alloc_new wr _)) (by simp [Value.oneCell']) (by unfold maxLen; omega) (by omega) (by simp; omega) ?_; intro bg bcap wg hog hgg hb1 hb2 hb3; have HL3:=Lib.hid (HL2.out.trans (below_own HO2.out (by simp; omega) hgg)); have HO3:=Lib.hid hog; have G3:=Lib.hid (HG.out.below HL3.out); have e0:=G3.out.c0; obtain ⟨b2,off2,ee,u0,u1,u2,u3⟩:=G3.out.t k hlt; cases ee; rw [HX.out] at u1 u2 u3; clear u0 hog hgg hb3)
   have hpat:=pat7_any x.pat wg hszp
   obtain ⟨ok,hok⟩:∃ ok,ok=Pl.okPat x.pat:=⟨_,rfl⟩
   rw [← hok] at hpat
   refine hpat.mono ?_
   rintro e w' ⟨rfl,hBe⟩
   have HL4:=Lib.hid (HL3.out.trans (hBe.mono HL3.out.size))
   have HO4:=Lib.hid (owns_below HO3.out hBe)
   clear hBe hpat u1 u2 u3 e0
   cases ok with
   | false =>
    have hv:Hid (Pl.right g=false):=Lib.hid (right_tok hlt (by rw [HX.out]; exact hok.symm))
    have HBE:=Lib.hid (HB.out.trans (HL4.out.mono HB.out.size))
    clear hok
    go_wp2_with fail
    go_ret
    exact ⟨ret_bool hv.out.symm,HBE.out⟩
   | true =>
   have HPT2:Hid (∀ i (hi:i < g.toks.length),i < k+1→Pl.okPat g.toks[i].pat=true):=Lib.hid (fun i hi h=>by
    rcases Nat.lt_or_ge i k with h2 | h2
    ·exact HPT.out i hi h2
    ·obtain rfl:i=k:=by omega
     rw [HX.out]; exact hok.symm)
   clear hok
   go_wp2_with fail
   go_roundg (g.toks.length - (k+1))
   case measure=>have:=HK.out; omega
   case rel=>exact ⟨k+1,some ⟨bg,0,none⟩,bcap,by go_num,rfl,by omega,Lib.hid (by omega),Lib.hid (by rw [HN.out,strV_snoc]; exact HO4.out),HL4,HPT2⟩
  ·obtain rfl:k=g.toks.length:=by omega
   rw [List.take_length] at HO
   clear HK hlt
   go_wp2_with fail
   have HT:=HO
   have HV1:=HL
   have G2:=Lib.hid (HG.out.below HV1.out)
   have hV1:=HV1.out.size
   clear e0 HO HL hk hsz
   generalize wr=V at HT HV1 G2 hV1 ⊢
   go_loopg [5] g.skips.length (fun gk i wr=>∃ k:Nat,i=.int .i64 k∧k≤g.skips.length∧Hid (gk+k=g.skips.length)∧Hid (Below V.heap.size V wr)∧Hid (∀ i (hi:i < g.skips.length),i < k→Pl.okPat g.skips[i]=true))
   case atStart=>exact ⟨0,rfl,by omega,Lib.hid (by omega),Lib.hid (Below.refl _ _),Lib.hid (fun i _ h=>absurd h (Nat.not_lt_zero _))⟩
   case round =>
    obtain ⟨k,rfl,hk,HK,HL,HPS⟩:=hrel
    have G3:=Lib.hid (G2.out.below HL.out)
    have e1:=G3.out.c1
    by_cases hlt:k < g.skips.length
    ·obtain ⟨b,off,rfl,t0,t1,t2⟩:=G3.out.s k hlt
     have hszp:=HZ.out.s g.skips[k] (List.getElem_mem hlt)
     have hpat:=pat7_any g.skips[k] wr hszp
     obtain ⟨ok,hok⟩:∃ ok,ok=Pl.okPat g.skips[k]:=⟨_,rfl⟩
     rw [← hok] at hpat
     have HOK:=Lib.hid hok
     clear hok
     generalize hxx:g.skips[k]=x at t0 t1 t2 hszp hpat
     clear hxx
     go_wp2_with fail
     refine hpat.mono ?_
     rintro e w' ⟨rfl,hBe⟩
     have HL4:=Lib.hid (HL.out.trans (hBe.mono HL.out.size))
     clear hBe hpat t0 t1 t2 e1
     cases ok with
     | false =>
      have hv:Hid (Pl.right g=false):=Lib.hid (right_skip hlt HOK.out.symm)
      have HBE:=Lib.hid (HB.out.trans ((HV1.out.trans (HL4.out.mono hV1)).mono HB.out.size))
      clear HOK
      go_wp2_with fail
      go_ret
      exact ⟨ret_bool hv.out.symm,HBE.out⟩
     | true =>
     have HPS2:Hid (∀ i (hi:i < g.skips.length),i < k+1→Pl.okPat g.skips[i]=true):=Lib.hid (fun i hi h=>by
      rcases Nat.lt_or_ge i k with h2 | h2
      ·exact HPS.out i hi h2
      ·obtain rfl:i=k:=by omega
       exact HOK.out.symm)
     clear HOK
     go_wp2_with fail
     go_roundg (g.skips.length - (k+1))
     case measure=>have:=HK.out; omega
     case rel=>exact ⟨k+1,by go_num,by omega,Lib.hid (by omega),HL4,HPS2⟩
    ·have HPS3:Hid (∀ i (hi:i < g.skips.length),Pl.okPat g.skips[i]=true):=Lib.hid (fun i hi=>HPS.out i hi (by omega))
     have HPT3:Hid (∀ i (hi:i < g.toks.length),Pl.okPat g.toks[i].pat=true):=Lib.hid (fun i hi=>HPT.out i hi hi)
     clear HK HPS HPT
     go_wp2_with fail
     have HT2:=Lib.hid (owns_below HT.out HL.out)
     have HV2:=Lib.hid (HV1.out.trans (HL.out.mono hV1))
     have hV2:=HV2.out.size
     clear e1 HL hk hlt HT HV1 G2 hV1
     generalize wr=V at HT2 HV2 G3 hV2 ⊢
     go_loopg [6,7,8] g.levs.length (fun gk lv i px wr=>∃ (k n:Nat) (na:Option Addr) (nc:Nat),i=.int .i64 k∧lv=.slice na n nc∧k≤g.levs.length∧Hid (gk+k=g.levs.length)∧Hid (n=((g.levs.take k).flatMap (·.names)).length)∧Hid (wr.ownsRow V.heap.size 9 1 (.slice na n nc) n (strV ((g.levs.take k).flatMap (·.names))))∧Hid (Below V.heap.size V wr)∧Hid (∀ i (hi:i < g.levs.length),i < k→Pl.okLev g.levs[i]=true))
     case atStart=>exact ⟨0,0,none,0,rfl,rfl,by omega,Lib.hid (by omega),Lib.hid rfl,Lib.hid (World.ownsRow_nil _ _ _ _),Lib.hid (Below.refl _ _),Lib.hid (fun i _ h=>absurd h (Nat.not_lt_zero _))⟩
     case round =>
      obtain ⟨k,n,na3,nc3,rfl,rfl,hk,HK,HN,HO,HL,HPL⟩:=hrel
      have hsz:=HL.out.size
      have G4:=Lib.hid (G3.out.below HL.out)
      have e2:=G4.out.c2
      by_cases hlt:k < g.levs.length
      ·obtain ⟨b,off,xa,xc,rfl,t0,t1,hst⟩:=G4.out.l k hlt
       obtain ⟨x,hx⟩:∃ x,g.levs[k]=x:=⟨_,rfl⟩
       have hxn:=HZ.out.l g.levs[k] (List.getElem_mem hlt)
       have hno:n≤5002*k:=by rw [HN.out]; exact len_flat _ _ HZ.out.l
       have hns:=flat_snoc g.levs k hlt
       rw [hx] at t0 t1 hst hxn hns
       have HX:=Lib.hid hx
       have HBD:Hid (∀ w',Below V.heap.size V w'→Below w.heap.size w w'):=Lib.hid (fun w' h=>HB.out.trans ((HV2.out.trans (h.mono hV2)).mono HB.out.size))
       by_cases h0:x.names.length=0
       ·have hv:Hid (Pl.right g=false):=Lib.hid (right_lev hlt (by rw [HX.out]; unfold Pl.okLev; simp [h0]))
        have H0:=Lib.hid h0
        have d3:((x.names.length:Int) == 0)=true:=by rw [beq0]; simpa using h0
        clear h0
        have HO2:=Lib.hid (HO.out.alloc (.cells #[.int .i64 x.assoc,.slice xa x.names.length xc] 107))
        have HL2:=Lib.hid (HBD.out _ (HL.out.alloc (by omega) (.cells #[.int .i64 x.assoc,.slice xa x.names.length xc] 107)))
        have hP:=heap_alloc_new wr (.cells #[.int .i64 x.assoc,.slice xa x.names.length xc] 107)
        have x0:(wr.alloc (.cells #[.int .i64 x.assoc,.slice xa x.names.length xc] 107)).cell? ⟨wr.heap.size,0,none⟩=some (.int .i64 x.assoc):=(by rw [cell_of_row _ _ _ _ _ _ hP]; rfl)
        have x1:(wr.alloc (.cells #[.int .i64 x.assoc,.slice xa x.names.length xc] 107)).cell? ⟨wr.heap.size,1,none⟩=some (.slice xa x.names.length xc):=(by rw [cell_of_row _ _ _ _ _ _ hP]; rfl)
        have hcap:=(own_capS HO.out).1
        clear hns hst hP hx
        by_cases h1:x.assoc < 1
        ·have d1:decide (x.assoc < 1)=true:=by simp; omega
         clear h1
         go_wp2_with (refine list_app_noneS rfl _ _ rfl rfl na3 n nc3 xa x.names.length xc H0.out rfl rfl hcap ?_)
         go_ret
         exact ⟨ret_bool hv.out.symm,HL2.out⟩
        ·have d1:decide (x.assoc < 1)=false:=by simp; omega
         by_cases h3:3 < x.assoc
         ·have d2:decide (3 < x.assoc)=true:=by simp; omega
          clear h1 h3
          go_wp2_with (refine list_app_noneS rfl _ _ rfl rfl na3 n nc3 xa x.names.length xc H0.out rfl rfl hcap ?_)
          go_ret
          exact ⟨ret_bool hv.out.symm,HL2.out⟩
         ·have d2:decide (3 < x.assoc)=false:=by simp; omega
          clear h1 h3
          go_wp2_with (refine list_app_noneS rfl _ _ rfl rfl na3 n nc3 xa x.names.length xc H0.out rfl rfl hcap ?_)
          go_ret
          exact ⟨ret_bool hv.out.symm,HL2.out⟩
       obtain ⟨b2,off2,rfl,_⟩:=hst 0 (by omega)
       have HS:=Lib.hid hns
       have HST:=Lib.hid (hst.below ((Below.refl wr.heap.size wr).alloc (Nat.le_refl _) (.cells #[.int .i64 x.assoc,.slice (some ⟨b2,off2,none⟩) x.names.length xc] 107)))
       have HO2:=Lib.hid (HO.out.alloc (.cells #[.int .i64 x.assoc,.slice (some ⟨b2,off2,none⟩) x.names.length xc] 107))
       have HL2:=Lib.hid (HL.out.alloc (by omega) (.cells #[.int .i64 x.assoc,.slice (some ⟨b2,off2,none⟩) x.names.length xc] 107))
       have HP:=Lib.hid (heap_alloc_new wr (.cells #[.int .i64 x.assoc,.slice (some ⟨b2,off2,none⟩) x.names.length xc] 107))
       have d3:((x.names.length:Int) == 0)=false:=by rw [beq0]; simpa using h0
       clear hx hns hst
       by_cases h1:x.assoc < 1
       ·have d1:decide (x.assoc < 1)=true:=by simpa using h1
        have hv:Hid (Pl.right g=false):=Lib.hid (right_lev hlt (by rw [HX.out]; unfold Pl.okLev; have:decide (1≤x.assoc)=false:=(by simp; omega); rw [this]; rfl))
        clear h1
        go_wp2_with (refine list_append_many rfl _ _ _ rfl 9 V.heap.size 1 16 elt_str (.slice na3 n nc3) n (strV ((g.levs.take k).flatMap (·.names))) rfl HO2.out ⟨b2,off2,none⟩ x.names.length xc (strV x.names) rfl (by simp [strV]) (strs_news HST.out) (by intro u hu; unfold strV at hu; obtain ⟨y,_,rfl⟩:=List.mem_map.1 hu; rfl) (by omega) (by unfold maxLen; omega) (by omega) (by simp; omega) ?_; intro bg bcap wg hog hgg hb2 hb3; have HL3:=Lib.hid (HL2.out.trans (below_own HO2.out (by simp; omega) hgg)); have HO3:=Lib.hid hog; have hxp:=(hgg.block wr.heap.size (by simp) (fun e=>by have:=(owns_lt HO.out _ e.symm).2; omega)).trans HP.out; have x0:wg.cell? ⟨wr.heap.size,0,none⟩=some (.int .i64 x.assoc):=(by rw [cell_of_row _ _ _ _ _ _ hxp]; rfl); have x1:wg.cell? ⟨wr.heap.size,1,none⟩=some (.slice (some ⟨b2,off2,none⟩) x.names.length xc):=(by rw [cell_of_row _ _ _ _ _ _ hxp]; rfl); clear hxp hog hgg hb3)
        have HBE:=Lib.hid (HBD.out _ HL3.out)
        go_ret
        exact ⟨ret_bool hv.out.symm,HBE.out⟩
       have d1:decide (x.assoc < 1)=false:=by simp; omega
       by_cases h3:3 < x.assoc
       ·have d2:decide (3 < x.assoc)=true:=by simpa using h3
        have hv:Hid (Pl.right g=false):=Lib.hid (right_lev hlt (by rw [HX.out]; unfold Pl.okLev; have:decide (x.assoc≤3)=false:=(by simp; omega); rw [this,Bool.and_false]; rfl))
        clear h1 h3
        go_wp2_with (refine list_append_many rfl _ _ _ rfl 9 V.heap.size 1 16 elt_str (.slice na3 n nc3) n (strV ((g.levs.take k).flatMap (·.names))) rfl HO2.out ⟨b2,off2,none⟩ x.names.length xc (strV x.names) rfl (by simp [strV]) (strs_news HST.out) (by intro u hu; unfold strV at hu; obtain ⟨y,_,rfl⟩:=List.mem_map.1 hu; rfl) (by omega) (by unfold maxLen; omega) (by omega) (by simp; omega) ?_; intro bg bcap wg hog hgg hb2 hb3; have HL3:=Lib.hid (HL2.out.trans (below_own HO2.out (by simp; omega) hgg)); have HO3:=Lib.hid hog; have hxp:=(hgg.block wr.heap.size (by simp) (fun e=>by have:=(owns_lt HO.out _ e.symm).2; omega)).trans HP.out; have x0:wg.cell? ⟨wr.heap.size,0,none⟩=some (.int .i64 x.assoc):=(by rw [cell_of_row _ _ _ _ _ _ hxp]; rfl); have x1:wg.cell? ⟨wr.heap.size,1,none⟩=some (.slice (some ⟨b2,off2,none⟩) x.names.length xc):=(by rw [cell_of_row _ _ _ _ _ _ hxp]; rfl); clear hxp hog hgg hb3)
        have HBE:=Lib.hid (HBD.out _ HL3.out)
        go_ret
        exact ⟨ret_bool hv.out.symm,HBE.out⟩
       have d2:decide (3 < x.assoc)=false:=by simp; omega
       have HPL2:Hid (∀ i (hi:i < g.levs.length),i < k+1→Pl.okLev g.levs[i]=true):=Lib.hid (fun i hi h=>by
        rcases Nat.lt_or_ge i k with h2 | h2
        ·exact HPL.out i hi h2
        ·obtain rfl:i=k:=by omega
         rw [HX.out]; unfold Pl.okLev
         simp only [Bool.and_eq_true,decide_eq_true_eq,bne_iff_ne]
         exact ⟨⟨by omega,by omega⟩,h0⟩)
       clear h1 h3
       go_wp2_with (refine list_append_many rfl _ _ _ rfl 9 V.heap.size 1 16 elt_str (.slice na3 n nc3) n (strV ((g.levs.take k).flatMap (·.names))) rfl HO2.out ⟨b2,off2,none⟩ x.names.length xc (strV x.names) rfl (by simp [strV]) (strs_news HST.out) (by intro u hu; unfold strV at hu; obtain ⟨y,_,rfl⟩:=List.mem_map.1 hu; rfl) (by omega) (by unfold maxLen; omega) (by omega) (by simp; omega) ?_; intro bg bcap wg hog hgg hb2 hb3; have HL3:=Lib.hid (HL2.out.trans (below_own HO2.out (by simp; omega) hgg)); have HO3:=Lib.hid hog; have hxp:=(hgg.block wr.heap.size (by simp) (fun e=>by have:=(owns_lt HO.out _ e.symm).2; omega)).trans HP.out; have x0:wg.cell? ⟨wr.heap.size,0,none⟩=some (.int .i64 x.assoc):=(by rw [cell_of_row _ _ _ _ _ _ hxp]; rfl); have x1:wg.cell? ⟨wr.heap.size,1,none⟩=some (.slice (some ⟨b2,off2,none⟩) x.names.length xc):=(by rw [cell_of_row _ _ _ _ _ _ hxp]; rfl); clear hxp hog hgg hb3)
       go_roundg (g.levs.length - (k+1))
       case measure=>have:=HK.out; omega
       case rel=>exact ⟨k+1,n+x.names.length,some ⟨bg,0,none⟩,bcap,by go_num,rfl,by omega,Lib.hid (by omega),Lib.hid (by rw [HS.out,List.length_append,← HN.out]),Lib.hid (by rw [HS.out,strV_append]; exact HO3.out),HL3,HPL2⟩
      ·obtain rfl:k=g.levs.length:=by omega
       rw [List.take_length] at HO HN
       have HPL3:Hid (∀ i (hi:i < g.levs.length),Pl.okLev g.levs[i]=true):=Lib.hid (fun i hi=>HPL.out i hi hi)
       clear HK hlt HPL
       go_wp2_with fail
       have HL':=HO
       have HT3:=Lib.hid (owns_below HT2.out HL.out)
       have HV3:=Lib.hid (HV2.out.trans (HL.out.mono hV2))
       have hV3:=HV3.out.size
       have hVle:=HL.out.size
       clear e2 HL HO hk HT2 HV2 G3 hV2 hsz
       generalize wr=U at HT3 HV3 G4 hV3 HL' hVle ⊢
       go_loopg [9,10,11] g.rules.length (fun gk i px kk wr=>∃ k:Nat,i=.int .i64 k∧k≤g.rules.length∧Hid (gk+k=g.rules.length)∧Hid (Below U.heap.size U wr)∧Hid (∀ i (hi:i < g.rules.length),i < k→Pl.okRule g.rules[i]=true))
       case atStart=>exact ⟨0,rfl,by omega,Lib.hid (by omega),Lib.hid (Below.refl _ _),Lib.hid (fun i _ h=>absurd h (Nat.not_lt_zero _))⟩
       case round =>
        obtain ⟨k,rfl,hk,HK,HL,HPR⟩:=hrel
        have hsz:=HL.out.size
        have G5:=Lib.hid (G4.out.below HL.out)
        have e4:=G5.out.c4
        by_cases hlt:k < g.rules.length
        ·obtain ⟨b,off,xa,xc,rfl,t0,t1,t2,t3,hst⟩:=G5.out.r k hlt
         have HRG:Hid (Pl.okRule g.rules[k]=false→Pl.right g=false):=Lib.hid (fun h=>right_rule hlt h)
         have HRP:Hid (Pl.okRule g.rules[k]=true→∀ i (hi:i < g.rules.length),i < k+1→Pl.okRule g.rules[i]=true):=Lib.hid (fun h i hi h'=>by
          rcases Nat.lt_or_ge i k with h2 | h2
          ·exact HPR.out i hi h2
          ·obtain rfl:i=k:=by omega
           exact h)
         have HBD:Hid (∀ w',Below U.heap.size U w'→Below w.heap.size w w'):=Lib.hid (fun w' h=>HB.out.trans ((HV3.out.trans (h.mono hV3)).mono (by have:=HB.out.size; omega)))
         generalize g.rules[k]=x at t0 t1 t2 t3 hst HRG HRP
         have AL:=(Below.refl wr.heap.size wr).alloc (Nat.le_refl _) (.cells #[.string x.left,.slice xa x.right.length xc,.string x.prec,.string x.action] 77)
         have hP:=heap_alloc_new wr (.cells #[.string x.left,.slice xa x.right.length xc,.string x.prec,.string x.action] 77)
         have HST:=Lib.hid (hst.below AL)
         have HL2:=Lib.hid (HL.out.alloc (by omega) (.cells #[.string x.left,.slice xa x.right.length xc,.string x.prec,.string x.action] 77))
         have HP:=Lib.hid hP
         have n1:=name7_any x.left (wr.alloc (.cells #[.string x.left,.slice xa x.right.length xc,.string x.prec,.string x.action] 77))
         have n2:=act7_any x.action (wr.alloc (.cells #[.string x.left,.slice xa x.right.length xc,.string x.prec,.string x.action] 77))
         have n3:=name7_any x.prec (wr.alloc (.cells #[.string x.left,.slice xa x.right.length xc,.string x.prec,.string x.action] 77))
         obtain ⟨lf,hlf⟩:∃ lf,lf=Pl.name x.left:=⟨_,rfl⟩
         obtain ⟨ac,hac0⟩:∃ ac,ac=Pl.action x.action:=⟨_,rfl⟩
         obtain ⟨pn,hpn⟩:∃ pn,pn=Pl.name x.prec:=⟨_,rfl⟩
         rw [← hlf] at n1
         rw [← hac0] at n2
         rw [← hpn] at n3
         have HLFE:=Lib.hid hlf
         have HACE:=Lib.hid hac0
         have HPNE:=Lib.hid hpn
         clear hlf hac0 hpn
         have x0:(wr.alloc (.cells #[.string x.left,.slice xa x.right.length xc,.string x.prec,.string x.action] 77)).cell? ⟨wr.heap.size,0,none⟩=some (.string x.left):=by rw [cell_of_row _ _ _ _ _ _ hP]; rfl
         have x1:(wr.alloc (.cells #[.string x.left,.slice xa x.right.length xc,.string x.prec,.string x.action] 77)).cell? ⟨wr.heap.size,1,none⟩=some (.slice xa x.right.length xc):=by rw [cell_of_row _ _ _ _ _ _ hP]; rfl
         have x2:(wr.alloc (.cells #[.string x.left,.slice xa x.right.length xc,.string x.prec,.string x.action] 77)).cell? ⟨wr.heap.size,2,none⟩=some (.string x.prec):=by rw [cell_of_row _ _ _ _ _ _ hP]; rfl
         have x3:(wr.alloc (.cells #[.string x.left,.slice xa x.right.length xc,.string x.prec,.string x.action] 77)).cell? ⟨wr.heap.size,3,none⟩=some (.string x.action):=by rw [cell_of_row _ _ _ _ _ _ hP]; rfl
         clear hst AL hP
         cases lf with
         | false =>
          have HFA:Hid (Pl.okRule x=false):=Lib.hid (by unfold Pl.okRule; rw [← HLFE.out]; rfl)
          have hv:Hid (Pl.right g=false):=Lib.hid (HRG.out HFA.out)
          have HBE:=Lib.hid (HBD.out _ HL2.out)
          clear HFA
          clear n2 n3
          go_wp2_with fail
          refine n1.mono ?_
          rintro e w' ⟨rfl,rfl⟩
          clear n1
          go_wp2_with fail
          go_ret
          exact ⟨ret_bool hv.out.symm,HBE.out⟩
         | true =>
         have HLF:Hid (Pl.name x.left=true):=Lib.hid HLFE.out.symm
         clear HLFE
         by_cases h8:8 < x.right.length
         ·have d1:decide ((8:Int) < (x.right.length:Int))=true:=by simp; omega
          have HFA:Hid (Pl.okRule x=false):=Lib.hid (by unfold Pl.okRule; have:decide (x.right.length≤8)=false:=(by simp; omega); rw [this,Bool.and_false]; rfl)
          have hv:Hid (Pl.right g=false):=Lib.hid (HRG.out HFA.out)
          have HBE:=Lib.hid (HBD.out _ HL2.out)
          clear HFA
          clear n2 n3
          go_wp2_with fail
          refine n1.mono ?_
          rintro e w' ⟨rfl,rfl⟩
          clear n1
          go_wp2_with fail
          go_ret
          exact ⟨ret_bool hv.out.symm,HBE.out⟩
         have d1:decide ((8:Int) < (x.right.length:Int))=false:=by simp; omega
         cases h3:(x.prec.size == 0)
         case true =>
          have q1:(x.prec.toList == [])=true:=by rw [toList_beq0]; exact h3
          have q2:x.prec.toList=[]:=by simpa using q1
          have HPC:Hid ((x.prec.size == 0||Pl.name x.prec)=true):=Lib.hid (by rw [h3]; rfl)
          clear h3 n3 HPNE
          go_wp2_with fail
          refine n1.mono ?_
          rintro e w' ⟨rfl,rfl⟩
          clear n1
          go_wp2_with fail
          refine n2.mono ?_
          rintro e w' ⟨rfl,rfl⟩
          clear n2
          cases hac:ac with
          | false =>
           rw [hac] at HACE
           have HFA:Hid (Pl.okRule x=false):=Lib.hid (by unfold Pl.okRule; rw [← HACE.out,Bool.and_false]; rfl)
           have hv:Hid (Pl.right g=false):=Lib.hid (HRG.out HFA.out)
           have HBE:=Lib.hid (HBD.out _ HL2.out)
           clear HFA
           go_wp2_with fail
           go_ret
           exact ⟨ret_bool hv.out.symm,HBE.out⟩
          | true =>
          rw [hac] at HACE
          have HAC:Hid (Pl.action x.action=true):=Lib.hid HACE.out.symm
          clear hac HACE
          clear t0 t1 t2 t3 e4
          go_wp2_with fail
          generalize wr.alloc (.cells #[.string x.left,.slice xa x.right.length xc,.string x.prec,.string x.action] 77)=Y at HST HL2 HP x1 ⊢
          go_loopg [11] x.right.length (fun gk2 i wq=>∃ q:Nat,i=.int .i64 q∧q≤x.right.length∧Hid (gk2+q=x.right.length)∧wq=Y∧Hid (∀ i (hi:i < x.right.length),i < q→Pl.name x.right[i]=true))
          case atStart=>exact ⟨0,rfl,by omega,Lib.hid (by omega),rfl,Lib.hid (fun i _ h=>absurd h (Nat.not_lt_zero _))⟩
          case round =>
           obtain ⟨q,rfl,hq,HQ,rfl,HPQ⟩:=hrel
           by_cases hql:q < x.right.length
           ·obtain ⟨b9,off9,rfl,z0⟩:=HST.out q hql
            have nq:=name7_any x.right[q] wr
            obtain ⟨ok,hok⟩:∃ ok,ok=Pl.name x.right[q]:=⟨_,rfl⟩
            rw [← hok] at nq
            have HOK:=Lib.hid hok
            clear hok
            generalize hyy:x.right[q]=y at z0 nq
            clear hyy
            go_wp2_with fail
            refine nq.mono ?_
            rintro e w' ⟨rfl,rfl⟩
            clear nq z0
            cases ok with
            | false =>
             have hv:Hid (Pl.right g=false):=Lib.hid (HRG.out (by unfold Pl.okRule; rw [Pl.allN_false hql (by rw [Pl.nth,List.getD_eq_getElem?_getD,List.getElem?_eq_getElem hql]; exact HOK.out.symm),Bool.and_false]))
             have HBE:=Lib.hid (HBD.out _ HL2.out)
             clear HOK
             go_wp2_with fail
             go_ret
             exact ⟨ret_bool hv.out.symm,HBE.out⟩
            | true =>
            have HPQ2:Hid (∀ i (hi:i < x.right.length),i < q+1→Pl.name x.right[i]=true):=Lib.hid (fun i hi h=>by
             rcases Nat.lt_or_ge i q with h2 | h2
             ·exact HPQ.out i hi h2
             ·obtain rfl:i=q:=by omega
              exact HOK.out.symm)
            clear HOK
            go_wp2_with fail
            go_roundg (x.right.length - (q+1))
            case measure=>have:=HQ.out; omega
            case rel=>exact ⟨q+1,by go_num,by omega,Lib.hid (by omega),rfl,HPQ2⟩
           ·have HPR2:Hid (∀ i (hi:i < g.rules.length),i < k+1→Pl.okRule g.rules[i]=true):=Lib.hid (HRP.out (by
             unfold Pl.okRule
             rw [HLF.out,HAC.out,Pl.allN_true.2 (fun i hi=>by rw [Pl.nth,List.getD_eq_getElem?_getD,List.getElem?_eq_getElem hi]; exact HPQ.out i hi (by omega))]
             have h8:decide (x.right.length≤8)=true:=by simp; omega
             rw [h8,HPC.out]; rfl))
            clear HQ HPQ
            go_wp2_with fail
            go_roundg (g.rules.length - (k+1))
            case measure=>have:=HK.out; omega
            case rel=>exact ⟨k+1,by go_num,by omega,Lib.hid (by omega),HL2,HPR2⟩
         case false =>
          have q1:(x.prec.toList == [])=false:=by rw [toList_beq0]; exact h3
          have q2:(!x.prec.toList.isEmpty)=true:=empty_no q1
          cases pn with
          | false =>
           have HFA:Hid (Pl.okRule x=false):=Lib.hid (by unfold Pl.okRule; rw [h3,← HPNE.out]; simp)
           have hv:Hid (Pl.right g=false):=Lib.hid (HRG.out HFA.out)
           have HBE:=Lib.hid (HBD.out _ HL2.out)
           clear HFA
           clear n2 h3 HPNE
           go_wp2_with fail
           refine n1.mono ?_
           rintro e w' ⟨rfl,rfl⟩
           clear n1
           go_wp2_with fail
           refine n3.mono ?_
           rintro e w' ⟨rfl,rfl⟩
           clear n3
           go_wp2_with fail
           go_ret
           exact ⟨ret_bool hv.out.symm,HBE.out⟩
          | true =>
          have HPC:Hid ((x.prec.size == 0||Pl.name x.prec)=true):=Lib.hid (by rw [← HPNE.out,Bool.or_true])
          clear h3 HPNE
          go_wp2_with fail
          refine n1.mono ?_
          rintro e w' ⟨rfl,rfl⟩
          clear n1
          go_wp2_with fail
          refine n3.mono ?_
          rintro e w' ⟨rfl,rfl⟩
          clear n3
          go_wp2_with fail
          refine n2.mono ?_
          rintro e w' ⟨rfl,rfl⟩
          clear n2
          cases hac:ac with
          | false =>
           rw [hac] at HACE
           have HFA:Hid (Pl.okRule x=false):=Lib.hid (by unfold Pl.okRule; rw [← HACE.out,Bool.and_false]; rfl)
           have hv:Hid (Pl.right g=false):=Lib.hid (HRG.out HFA.out)
           have HBE:=Lib.hid (HBD.out _ HL2.out)
           clear HFA
           go_wp2_with fail
           go_ret
           exact ⟨ret_bool hv.out.symm,HBE.out⟩
          | true =>
          rw [hac] at HACE
          have HAC:Hid (Pl.action x.action=true):=Lib.hid HACE.out.symm
          clear hac HACE
          clear t0 t1 t2 t3 e4
          go_wp2_with fail
          generalize wr.alloc (.cells #[.string x.left,.slice xa x.right.length xc,.string x.prec,.string x.action] 77)=Y at HST HL2 HP x1 ⊢
          go_loopg [11] x.right.length (fun gk2 i wq=>∃ q:Nat,i=.int .i64 q∧q≤x.right.length∧Hid (gk2+q=x.right.length)∧wq=Y∧Hid (∀ i (hi:i < x.right.length),i < q→Pl.name x.right[i]=true))
          case atStart=>exact ⟨0,rfl,by omega,Lib.hid (by omega),rfl,Lib.hid (fun i _ h=>absurd h (Nat.not_lt_zero _))⟩
          case round =>
           obtain ⟨q,rfl,hq,HQ,rfl,HPQ⟩:=hrel
           by_cases hql:q < x.right.length
           ·obtain ⟨b9,off9,rfl,z0⟩:=HST.out q hql
            have nq:=name7_any x.right[q] wr
            obtain ⟨ok,hok⟩:∃ ok,ok=Pl.name x.right[q]:=⟨_,rfl⟩
            rw [← hok] at nq
            have HOK:=Lib.hid hok
            clear hok
            generalize hyy:x.right[q]=y at z0 nq
            clear hyy
            go_wp2_with fail
            refine nq.mono ?_
            rintro e w' ⟨rfl,rfl⟩
            clear nq z0
            cases ok with
            | false =>
             have hv:Hid (Pl.right g=false):=Lib.hid (HRG.out (by unfold Pl.okRule; rw [Pl.allN_false hql (by rw [Pl.nth,List.getD_eq_getElem?_getD,List.getElem?_eq_getElem hql]; exact HOK.out.symm),Bool.and_false]))
             have HBE:=Lib.hid (HBD.out _ HL2.out)
             clear HOK
             go_wp2_with fail
             go_ret
             exact ⟨ret_bool hv.out.symm,HBE.out⟩
            | true =>
            have HPQ2:Hid (∀ i (hi:i < x.right.length),i < q+1→Pl.name x.right[i]=true):=Lib.hid (fun i hi h=>by
             rcases Nat.lt_or_ge i q with h2 | h2
             ·exact HPQ.out i hi h2
             ·obtain rfl:i=q:=by omega
              exact HOK.out.symm)
            clear HOK
            go_wp2_with fail
            go_roundg (x.right.length - (q+1))
            case measure=>have:=HQ.out; omega
            case rel=>exact ⟨q+1,by go_num,by omega,Lib.hid (by omega),rfl,HPQ2⟩
           ·have HPR2:Hid (∀ i (hi:i < g.rules.length),i < k+1→Pl.okRule g.rules[i]=true):=Lib.hid (HRP.out (by
             unfold Pl.okRule
             rw [HLF.out,HAC.out,Pl.allN_true.2 (fun i hi=>by rw [Pl.nth,List.getD_eq_getElem?_getD,List.getElem?_eq_getElem hi]; exact HPQ.out i hi (by omega))]
             have h8:decide (x.right.length≤8)=true:=by simp; omega
             rw [h8,HPC.out]; rfl))
            clear HQ HPQ
            go_wp2_with fail
            go_roundg (g.rules.length - (k+1))
            case measure=>have:=HK.out; omega
            case rel=>exact ⟨k+1,by go_num,by omega,Lib.hid (by omega),HL2,HPR2⟩
        ·have HEND:Hid (Pl.right g=(Pl.once (g.toks.map (·.name))&&Pl.once (g.levs.flatMap (·.names)))):=Lib.hid (right_end HSZ.out HPT3.out HPS3.out HPL3.out (fun i hi=>HPR.out i hi (by omega)))
         clear HK HPR HPT3 HPS3 HPL3
         go_wp2_with fail
         have O1:=Lib.hid (owns_below HT3.out HL.out)
         have O2:=Lib.hid (owns_below (owns_base HL'.out (Nat.le_refl _)) HL.out)
         have HE:=Lib.hid (HB.out.trans ((HV3.out.trans (HL.out.mono hV3)).mono (by have:=HB.out.size; omega)))
         have hfl:=len_flat g.levs g.levs.length HZ.out.l
         rw [List.take_length] at hfl
         have o1:=once_any (cap:=nc) (Strs.of_owns O1.out (by simp)) (by simp; omega)
         rw [List.length_map] at o1
         obtain ⟨ot,hot⟩:∃ ot,ot=Pl.once (g.toks.map (·.name)):=⟨_,rfl⟩
         rw [← hot] at o1
         have HOT:=Lib.hid hot
         clear hot
         refine o1.mono ?_
         rintro e w' ⟨rfl,hB1⟩
         have o2:=once_any (cap:=nc3) (Strs.of_owns (owns_below O2.out hB1) HN.out.symm) (by omega)
         obtain ⟨ol,hol⟩:∃ ol,ol=Pl.once (g.levs.flatMap (·.names)):=⟨_,rfl⟩
         rw [← HN.out,← hol] at o2
         have HOL:=Lib.hid hol
         clear hol
         have HE2:=Lib.hid (HE.out.trans (hB1.mono (HE.out.size)))
         clear hfl o1 hB1
         have HEN2:Hid (Pl.right g=(ot&&ol)):=Lib.hid (by rw [HEND.out,HOT.out,HOL.out])
         clear HEND HOT HOL
         cases ot with
         | false =>
          clear o2
          go_wp2_with fail
          go_ret
          exact ⟨by rw [HEN2.out]; rfl,HE2.out⟩
         | true =>
         go_wp2_with fail
         refine o2.mono ?_
         rintro e w' ⟨rfl,hB1⟩
         have HE3:=Lib.hid (HE2.out.trans (hB1.mono HE2.out.size))
         clear o2 hB1
         go_wp2_with fail
         go_ret
         exact ⟨by rw [HEN2.out]; rfl,HE3.out⟩
theorem right_any {w:World} {v:Value} {g:Rd.Gr} (h:GrV w v g) (hz:GrSz g) :
  Calls Tryd.prog 63 #[v] w fun e w'=>e=.returned (.bool (Pl.right g))∧Below w.heap.size w w':=by
 cases hs:sizesB g with
 | false=>exact right_small h hs
 | true=>exact right_big h hs hz
end Go.Proofs.YtjbggogbnckllaaDoor
