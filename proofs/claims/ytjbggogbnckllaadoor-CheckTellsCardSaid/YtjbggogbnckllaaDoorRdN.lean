/-
  Walks of the reference's reader: a declaration, an alternative.
-/
import Derived.Test.YtjbggogbnckllaaDoorRdJ
import Derived.Test.YtjbggogbnckllaaDoorRdK
import Derived.Test.YtjbggogbnckllaaDoorRdL
namespace Go.Proofs.YtjbggogbnckllaaDoor
open Go.RowKit
set_option linter.unusedVariables false
set_option linter.unusedSimpArgs false
theorem declaration_any {w:World} {rb:Nat} {la:Option Addr} {lc:Nat} {L:List Lx.Mark} {r:Rd.St} (m:Lx.Mark) (h:RS w rb la lc L r) :
  Calls Tryd.prog 86 #[.pointer (some ⟨rb,0,none⟩),.agg #[.int .i64 m.kind,.string m.text,.int .i64 m.pos.line,.int .i64 m.pos.col]] w fun e w'=>e=.returned (.tuple #[])∧RS w' rb la lc L (Rd.declaration L r m)∧Below rb w w':=by
 cases h1:Lx.eqS m.text Rd.wToken
 case true=>exact decl_token m h h1
 cases h2:Lx.eqS m.text Rd.wSkip
 case true=>exact decl_skip m h h2
 cases h3:Lx.eqS m.text Rd.wLeft
 case true=>exact decl_left m h h3
 cases h4:Lx.eqS m.text Rd.wRight
 case true=>exact decl_right m h h4
 cases h5:Lx.eqS m.text Rd.wNon
 case true=>exact decl_non m h h5
 cases h6:Lx.eqS m.text Rd.wStart
 case true=>exact decl_start m h h6
 exact decl_else m h h1 h2 h3 h4 h5 h6
/-- A rule's variable. -/
def RB (w:World) (b:Nat) (l:ByteArray) (nv:Value) (p a:ByteArray):Prop:=w.heap[b]?=some (.cells #[.string l,nv,.string p,.string a] 77 (0,0))
section
variable {w w':World} {b rb:Nat} {l p a:ByteArray} {nv:Value}
theorem RB.cells (h:RB w b l nv p a):w.cell? ⟨b,0,none⟩=some (.string l)∧w.cell? ⟨b,1,none⟩=some nv∧w.cell? ⟨b,2,none⟩=some (.string p)∧w.cell? ⟨b,3,none⟩=some (.string a)∧∀ k,w.frozen? ⟨b,k,none⟩=false :=
 ⟨by rw [cell_of_row _ _ _ _ _ _ h]; rfl,by rw [cell_of_row _ _ _ _ _ _ h]; rfl,by rw [cell_of_row _ _ _ _ _ _ h]; rfl,by rw [cell_of_row _ _ _ _ _ _ h]; rfl,fun k=>frozen_of_row _ _ _ _ _ h⟩
theorem RB.lt (h:RB w b l nv p a):b < w.heap.size:=(Array.getElem?_eq_some_iff.1 h).1
theorem RB.below (h:RB w b l nv p a) (k:Below w.heap.size w w'):RB w' b l nv p a:=(k.block _ h.lt).trans h
theorem RB.upd (h:RB w b l nv p a) (k:Upd rb w w') (hb:b≠rb):RB w' b l nv p a:=(k.block _ h.lt hb).trans h
theorem RB.set1 (h:RB w b l nv p a) (v:Value):RB (w.setCell ⟨b,1,none⟩ v) b l v p a:=by
 unfold RB; rw [heap_setCell_same _ _ _ _ _ _ h]; rfl
theorem RB.set2 (h:RB w b l nv p a) (v:ByteArray):RB (w.setCell ⟨b,2,none⟩ (.string v)) b l nv v a:=by
 unfold RB; rw [heap_setCell_same _ _ _ _ _ _ h]; rfl
theorem RB.set3 (h:RB w b l nv p a) (v:ByteArray):RB (w.setCell ⟨b,3,none⟩ (.string v)) b l nv p v:=by
 unfold RB; rw [heap_setCell_same _ _ _ _ _ _ h]; rfl
theorem RB.setO {ad:Addr} {v:Value} (h:RB w b l nv p a) (hb:ad.block≠b):RB (w.setCell ad v) b l nv p a:=(heap_setCell_other _ _ _ _ (Ne.symm hb)).trans h
theorem RB.grown {B n:Nat} {v:Value} {xs:List Value} (h:RB w b l nv p a) (ho:w.ownsRow B 9 1 v n xs) (hg:w.grownBy w' v.ownBlock):RB w' b l nv p a:=by
 refine (hg.block b h.lt fun e=>?_).trans h
 rcases ho.2 with ⟨rfl,_⟩ | ⟨g,cap,cur,rfl,hbg,hg2,_⟩
 ·cases e
 ·simp [Value.ownBlock] at e
  subst e
  rw [h] at hg2
  simp at hg2
theorem owns_setR {B n k:Nat} {v:Value} {xs:List Value} (ho:w.ownsRow B 9 1 v n xs) (h:RB w b l nv p a) (u:Value):(w.setCell ⟨b,k,none⟩ u).ownsRow B 9 1 v n xs:=by
 refine owns_keeps ho ((Upd.refl b w).setCell ⟨b,k,none⟩ rfl u).keeps fun k cs hk hcs e=>?_
 subst e
 rw [h] at hcs
 simp at hcs
end
section
variable {w0 w w':World} {rb:Nat} {la:Option Addr} {lc:Nat} {L:List Lx.Mark} {r r':Rd.St} {tv sv lv rv:Value}
theorem At1.setI (h:At1 w0 w rb la lc L r tv sv lv rv) (hi:r.i < L.length):At1 w0 (w.setCell ⟨rb,1,none⟩ (.int .i64 ((r.i:Int)+1))) rb la lc L { r with i:=r.i+1 } tv sv lv rv∧Upd rb w (w.setCell ⟨rb,1,none⟩ (.int .i64 ((r.i:Int)+1))):=by
 have hs:=h.R.setI hi
 have e1:((r.i+1:Nat):Int)=(r.i:Int)+1:=by omega
 rw [e1] at hs
 exact ⟨h.step hs.1 hs.2 rfl,hs.2⟩
theorem addRule_end {g:Rd.Gr} {rv' nv:Value} {ns:List Value} (t:Rd.Rul) (h:At1 w0 w rb la lc L r tv sv lv rv) (hl:rb < w0.heap.size) (hgg:r.g=g) (ho:GrOk g) (hn:g.rules.length < 40) (hnl:t.right.length≤8)
  (hns:ns.length=g.rules.length) (h1:w.ownsRow (rb+1) 77 4 rv g.rules.length (rlC g.rules ns)) (h2:∀ i (h:i < r.g.rules.length) (h':i < ns.length),NsM w (rb+1) ns[i] r.g.rules[i].right) (hnv:NsM w (rb+1) nv t.right) (hg:w.grownBy w' rv.ownBlock)
  (hw:w'.ownsRow (rb+1) 77 4 rv' (g.rules.length+1) (rlC g.rules ns++[.string t.left,nv,.string t.prec,.string t.action])) :
  RS (w'.setCell ⟨rb,6,none⟩ rv') rb la lc L { r with g:={ r.g with rules:=r.g.rules++[t] } }∧Below rb w0 (w'.setCell ⟨rb,6,none⟩ rv'):=by
 subst hgg
 have hR:=rdb_grown h.R h1 hg
 have hG:=h.G.addRule t hns h1 h2 hnv hg hw
 obtain ⟨e1,e2⟩:=RdB.setG (j:=6) (v:=rv') (r':={ r with g:={ r.g with rules:=r.g.rules++[t] } }) (tv':=tv) (sv':=sv) (lv':=lv) (rv':=rv') hR rfl rfl
 refine ⟨⟨⟨tv,sv,lv,rv',e1,hG.upd e2⟩,⟨ho.t,ho.s,ho.l,by simp; omega,ho.ln,fun x hx=>?_⟩⟩,(low_grown (h.K.low hl) hl h1 hg).setCell (Nat.le_refl _) _⟩
 rcases List.mem_append.1 hx with hx | hx
 ·exact ho.rn x hx
 ·rw [List.mem_singleton.1 hx]; exact hnl
end
theorem beq40 (n:Nat):((n:Int) == 40)=(n == 40):=by
 rw [Bool.eq_iff_iff,beq_iff_eq,beq_iff_eq]; omega
theorem beq8 (n:Nat):((n:Int) == 8)=(n == 8):=by
 rw [Bool.eq_iff_iff,beq_iff_eq,beq_iff_eq]; omega
theorem rights_stop {L:List Lx.Mark} {k:Nat} {r:Rd.St} {x:List ByteArray} (h:((Rd.now L r).kind == 1)=false):Rd.rights L k r x=some (r,x):=by
 cases k with
 | zero=>rfl
 | succ k=>rw [Rd.rights,h]; rfl
theorem rights_full {L:List Lx.Mark} {k:Nat} {r:Rd.St} {x:List ByteArray} (h:((Rd.now L r).kind == 1)=true) (h2:(x.length == 8)=true):Rd.rights L (k+1) r x=none∧Rd.rightsEnd L (k+1) r x=Rd.fail r 3 (Rd.now L r).pos:=by
 rw [Rd.rights,Rd.rightsEnd,h,h2]; exact ⟨rfl,rfl⟩
theorem rights_step {L:List Lx.Mark} {k:Nat} {r:Rd.St} {x:List ByteArray} (h:((Rd.now L r).kind == 1)=true) (h2:(x.length == 8)=false) :
  Rd.rights L (k+1) r x=Rd.rights L k { r with i:=r.i+1 } (x++[(Rd.now L r).text])∧Rd.rightsEnd L (k+1) r x=Rd.rightsEnd L k { r with i:=r.i+1 } (x++[(Rd.now L r).text]):=by
 rw [Rd.rights,Rd.rightsEnd,h,h2]; exact ⟨rfl,rfl⟩
/-- What follows behind the names of a rule. -/
def altPrec (L:List Lx.Mark) (r:Rd.St):ByteArray×Rd.St :=
 if (Rd.now L r).kind == 2&&Lx.eqS (Rd.now L r).text Rd.wPrec then ((Rd.take L { r with i:=r.i+1 } 1).1.text,(Rd.take L { r with i:=r.i+1 } 1).2) else (Rd.E,r)
def altAct (L:List Lx.Mark) (r:Rd.St):ByteArray×Rd.St:=if Rd.ok r&&(Rd.now L r).kind == 9 then ((Rd.now L r).text,{ r with i:=r.i+1 }) else (Rd.E,r)
theorem alt_full {L:List Lx.Mark} {r:Rd.St} {left:ByteArray} (h:(r.g.rules.length == 40)=true):Rd.alternative L r left=Rd.fail r 3 (Rd.now L r).pos:=by unfold Rd.alternative; rw [h]; rfl
theorem alt_long {L:List Lx.Mark} {r:Rd.St} {left:ByteArray} (h:(r.g.rules.length == 40)=false) (h2:Rd.rights L (L.length+1) r []=none):Rd.alternative L r left=Rd.rightsEnd L (L.length+1) r []:=by
 unfold Rd.alternative; rw [h,h2]; rfl
theorem alt_some {L:List Lx.Mark} {r r1 r2 r3:Rd.St} {left p a:ByteArray} {right:List ByteArray} (h:(r.g.rules.length == 40)=false) (h2:Rd.rights L (L.length+1) r []=some (r1,right)) (h3:altPrec L r1=(p,r2)) (h4:altAct L r2=(a,r3)) :
  Rd.alternative L r left={ r3 with g:={ r3.g with rules:=r3.g.rules++[⟨left,right,p,a⟩] } }:=by
 unfold Rd.alternative; rw [h,h2]
 simp only [Bool.false_eq_true,if_false]
 unfold altPrec at h3
 unfold altAct at h4
 rw [h3]
 simp only
 rw [h4]
set_option maxRecDepth 100000 in
set_option maxHeartbeats 64000000 in
theorem alternative_any {w:World} {rb:Nat} {la:Option Addr} {lc:Nat} {L:List Lx.Mark} {r:Rd.St} (left:ByteArray) (h:RS w rb la lc L r) :
  Calls Tryd.prog 88 #[.pointer (some ⟨rb,0,none⟩),.string left] w fun e w'=>e=.returned (.tuple #[])∧RS w' rb la lc L (Rd.alternative L r left)∧Below rb w w':=by
 have hO:=Lib.hid h.ok
 obtain ⟨ta,tc,sa,sc,lva,lvc,ra,rc,h0⟩:=h.at1
 have hrb:=h0.lt
 have A0:=Lib.hid h0
 have G0:=Lib.hid h0.G
 obtain ⟨c1,c2,c3,c4,c5,c6,c7,c8,cf⟩:=h0.R.cells
 clear h h0 c1 c2 c3 c4 c5 c7 c8 cf
 cases h40:((r.g.rules.length:Int) == 40)
 case true =>
  have hv:Hid (Rd.alternative L r left=Rd.fail r 3 (Rd.now L r).pos):=Lib.hid (alt_full (by rw [← beq40]; exact h40))
  have hnow:=now_any A0.out.R
  obtain ⟨m0,hm0⟩:∃ m0,m0=Rd.now L r:=⟨_,rfl⟩
  rw [← hm0] at hnow hv
  simp only [vMark] at hnow
  have hfl:=fld_mark2 m0.kind m0.text m0.pos.line m0.pos.col
  clear hm0
  go_enter Tryd.func88,Tryd.ntmps88
  go_wp2_with fail
  refine hnow.mono ?_
  rintro e w1 ⟨rfl,hb1⟩
  have A1:=Lib.hid (A0.out.below hb1)
  clear hb1 hnow c6
  go_wp2_with fail
  refine (fail_any 3 m0.pos A1.out.R).mono ?_
  rintro e w2 ⟨rfl,hR,hu⟩
  have A2:=Lib.hid (A1.out.step hR hu (fail_g _ _ _))
  have hgf:=fail_g r 3 m0.pos
  rw [← hgf] at hO
  have HGF:=Lib.hid hgf
  clear hR hu hgf
  go_wp2_with fail
  refine bodyPost_ret (results_none rfl _ _ _) rfl ⟨rfl,?_⟩
  rw [hv.out]
  exact A2.out.rs hO.out hrb
 case false =>
  obtain ⟨R,hR⟩:∃ R,Rd.rights L (L.length+1) r []=R:=⟨_,rfl⟩
  obtain ⟨RE,hRE⟩:∃ RE,Rd.rightsEnd L (L.length+1) r []=RE:=⟨_,rfl⟩
  have HR:=Lib.hid hR
  have HRE:=Lib.hid hRE
  have HR0:=Lib.hid hR
  have HRE0:=Lib.hid hRE
  have H40:Hid ((r.g.rules.length == 40)=false):=Lib.hid (by rw [← beq40]; exact h40)
  have AX:=Lib.hid (A0.out.alloc (.cells #[.string left,.slice none 0 0,.string ⟨#[]⟩,.string ⟨#[]⟩] 77))
  have X0:Hid (RB (w.alloc (.cells #[.string left,.slice none 0 0,.string ⟨#[]⟩,.string ⟨#[]⟩] 77)) w.heap.size left (.slice none 0 0) ⟨#[]⟩ ⟨#[]⟩):=Lib.hid (heap_alloc_new w _)
  clear hR hRE
  go_enter Tryd.func88,Tryd.ntmps88
  go_wp2_with fail
  generalize w.alloc (.cells #[.string left,.slice none 0 0,.string ⟨#[]⟩,.string ⟨#[]⟩] 77)=W0 at AX X0 ⊢
  have hn40:r.g.rules.length < 40:=by
   have h1:=hO.out.r
   have:r.g.rules.length≠40:=by intro h; rw [h] at h40; exact absurd h40 (by decide)
   omega
  clear c6 h40
  have hN:=AX.out.ns
  go_loopg [] (L.length+1) (fun k wr=>∃ (r':Rd.St) (xl:List ByteArray) (na:Option Addr) (nc:Nat),Hid (Rd.rights L k r' xl=R)∧Hid (Rd.rightsEnd L k r' xl=RE)∧Hid (r'.g=r.g)∧Hid (L.length+1≤r'.i+k)∧Hid (xl.length≤8) ∧
   Hid (At1 w wr rb la lc L r' (.slice ta r.g.toks.length tc) (.slice sa r.g.skips.length sc) (.slice lva r.g.levs.length lvc) (.slice ra r.g.rules.length rc))∧Hid (RB wr w.heap.size left (.slice na xl.length nc) ⟨#[]⟩ ⟨#[]⟩)∧Hid (wr.ownsRow w.heap.size 9 1 (.slice na xl.length nc) xl.length (strV xl)))
  case atStart=>exact ⟨r,[],none,0,HR,HRE,Lib.hid rfl,Lib.hid (by omega),Lib.hid (by simp),AX,X0,Lib.hid (World.ownsRow_nil _ _ _ _)⟩
  case round =>
   clear AX X0 HR HRE
   obtain ⟨r',xl,na,nc,HRn,HREn,HG,HF,HL,HA,HX,HO⟩:=hrel
   obtain ⟨m0,hm0⟩:∃ m0,m0=Rd.now L r':=⟨_,rfl⟩
   have hnow:=now_any HA.out.R
   rw [← hm0] at hnow
   simp only [vMark] at hnow
   have hfl:=fld_mark0 m0.kind m0.text m0.pos.line m0.pos.col
   have Hm0:=Lib.hid hm0
   clear hm0
   go_wp2_with fail
   refine hnow.mono ?_
   rintro e w1 ⟨rfl,hb1⟩
   have HA1:=Lib.hid (HA.out.below hb1)
   have HX1:=Lib.hid (HX.out.below hb1)
   have HO1:=Lib.hid (owns_below HO.out hb1)
   clear hb1 hnow HA HX HO
   cases hk:(m0.kind == 1)
   case false =>
    have hRv:Hid (Rd.rights L (L.length+1) r []=some (r',xl)):=Lib.hid (HR0.out.trans (HRn.out.symm.trans (rights_stop (by rw [← Hm0.out]; exact hk))))
    clear HRn HREn
    skip
    have hnow:=now_any HA1.out.R
    rw [← Hm0.out] at hnow
    simp only [vMark] at hnow
    have hfl1:=fld_mark0 m0.kind m0.text m0.pos.line m0.pos.col
    go_wp2_with fail
    refine hnow.mono ?_
    rintro e v1 ⟨rfl,hb⟩
    have A1:=Lib.hid (HA1.out.below hb)
    have X1:=Lib.hid (HX1.out.below hb)
    have O1:=Lib.hid (owns_below HO1.out hb)
    clear hb hnow HA1 HX1 HO1
    cases h2:(m0.kind == 2)
    case false =>
     have h3:Hid (altPrec L r'=(Rd.E,r')):=Lib.hid (by unfold altPrec; rw [← Hm0.out,h2]; rfl)
     have b8:=A1.out.R.cells.2.2.2.2.2.2.2.1
     cases hb:(r'.bad.code == 0)
     case false =>
      have h4:Hid (altAct L r'=(Rd.E,r')):=Lib.hid (by unfold altAct Rd.ok; rw [hb]; rfl)
      have hv:Hid (Rd.alternative L r left={ r' with g:={ r'.g with rules:=r'.g.rules++[⟨left,xl,Rd.E,Rd.E⟩] } }):=Lib.hid (alt_some H40.out hRv.out h3.out h4.out)
      have hlW:=A1.out.lt
      have hlx:=X1.out.lt
      have hxl:=HL.out
      have cc6:∀ z:Wd v1.heap.size v1,z.w.cell? ⟨rb,6,none⟩=some (.slice ra r.g.rules.length rc):=fun z=>((bcell z.ok).1 _ _ hlW).trans A1.out.R.cells.2.2.2.2.2.1
      have xx0:∀ z:Wd v1.heap.size v1,z.w.cell? ⟨w.heap.size,0,none⟩=some (.string left):=fun z=>((bcell z.ok).1 _ _ hlx).trans X1.out.cells.1
      have xx1:∀ z:Wd v1.heap.size v1,z.w.cell? ⟨w.heap.size,1,none⟩=some (.slice na xl.length nc):=fun z=>((bcell z.ok).1 _ _ hlx).trans X1.out.cells.2.1
      have xx2:∀ z:Wd v1.heap.size v1,z.w.cell? ⟨w.heap.size,2,none⟩=some (.string ⟨#[]⟩):=fun z=>((bcell z.ok).1 _ _ hlx).trans X1.out.cells.2.2.1
      have xx3:∀ z:Wd v1.heap.size v1,z.w.cell? ⟨w.heap.size,3,none⟩=some (.string ⟨#[]⟩):=fun z=>((bcell z.ok).1 _ _ hlx).trans X1.out.cells.2.2.2.1
      go_wp2_with fail
      refine region_fx 7 v1.heap.size (fun c a d v w h=>by cases d<;>exact h) (Nat.le_refl _) (by kernel_rfl) (by kernel_rfl) ?_
      simp only [List.take_succ_cons,List.take_zero,List.drop_succ_cons,List.drop_zero]
      repeat (go_big_quiet_step (fail))
      refine wpQuiet_nil ?_
      intro z
      have A3:=Lib.hid (A1.out.below z.ok)
      have O3:=Lib.hid (owns_below O1.out z.ok)
      clear cc6 xx0 xx1 xx2 xx3
      have hrz:=A3.out.lt
      generalize z.w=Z at A3 O3 hrz ⊢
      have hGZ:=(A3.out.alloc (.cells #[.string left,.slice na xl.length nc,.string ⟨#[]⟩,.string ⟨#[]⟩] 77)).G
      have hNs:Hid (NsM (Z.alloc (.cells #[.string left,.slice na xl.length nc,.string ⟨#[]⟩,.string ⟨#[]⟩] 77)) (rb+1) (.slice na xl.length nc) xl):=Lib.hid (NsM.of_owns (owns_base (O3.out.alloc _) (by omega)) rfl)
      obtain ⟨ns,hns,hl1,hl2⟩:=hGZ.r
      rw [HG.out] at hns hl1
      have hT:=Lib.hid hl1
      have HNS:=Lib.hid hns
      have HL2:=Lib.hid hl2
      clear hl1 hGZ hns hl2
      go_wp2_with (refine list_append_one rfl _ _ _ rfl 77 (rb+1) 4 72 elt_rule (.slice ra r.g.rules.length rc) r.g.rules.length (rlC r.g.rules ns) rfl hT.out ⟨Z.heap.size,0,none⟩ 1 [.string left,.slice na xl.length nc,.string ⟨#[]⟩,.string ⟨#[]⟩] rfl rfl (World.news_of_block (cs:=#[.string left,.slice na xl.length nc,.string ⟨#[]⟩,.string ⟨#[]⟩]) (t:=77) (fr:=(0,0)) (heap_alloc_new Z _)) (by simp [Value.oneCell']) (by unfold maxLen; omega) (by omega) (by simp; omega) ?_; intro gg gcap w4 hown hgrow hbg hlt4 hat4; have hR4:=rdb_grown (A3.out.alloc (.cells #[.string left,.slice na xl.length nc,.string ⟨#[]⟩,.string ⟨#[]⟩] 77)).R hT.out hgrow; have q2:=hR4.cells.2.2.2.2.2.1; have qf:=hR4.cells.2.2.2.2.2.2.2.2 6; have HE:=Lib.hid (addRule_end ⟨left,xl,Rd.E,Rd.E⟩ (A3.out.alloc (.cells #[.string left,.slice na xl.length nc,.string ⟨#[]⟩,.string ⟨#[]⟩] 77)) hrb HG.out hO.out hn40 (by simp only; omega) HNS.out hT.out HL2.out hNs.out hgrow hown); clear hR4 hown hgrow hat4)
      go_end0
      rw [hv.out]
      exact ⟨rfl,HE.out⟩
     case true =>
      have HB:=Lib.hid hb
      obtain ⟨q3,hq3⟩:∃ m,m=Rd.now L r':=⟨_,rfl⟩
      have Hq3:=Lib.hid hq3
      clear hq3
      have hnow:=now_any A1.out.R
      rw [← Hq3.out] at hnow
      simp only [vMark] at hnow
      have hfl3:=fld_mark0 q3.kind q3.text q3.pos.line q3.pos.col
      go_wp2_with fail
      refine hnow.mono ?_
      rintro e v3 ⟨rfl,hb⟩
      have A3:=Lib.hid (A1.out.below hb)
      have X3:=Lib.hid (X1.out.below hb)
      have O3:=Lib.hid (owns_below O1.out hb)
      clear hb hnow A1 X1 O1 b8
      cases h9:(q3.kind == 9)
      case false =>
       have h4:Hid (altAct L r'=(Rd.E,r')):=Lib.hid (by unfold altAct Rd.ok; rw [HB.out,← Hq3.out,h9]; rfl)
       have hv:Hid (Rd.alternative L r left={ r' with g:={ r'.g with rules:=r'.g.rules++[⟨left,xl,Rd.E,Rd.E⟩] } }):=Lib.hid (alt_some H40.out hRv.out h3.out h4.out)
       have hlW:=A3.out.lt
       have hlx:=X3.out.lt
       have hxl:=HL.out
       have cc6:∀ z:Wd v3.heap.size v3,z.w.cell? ⟨rb,6,none⟩=some (.slice ra r.g.rules.length rc):=fun z=>((bcell z.ok).1 _ _ hlW).trans A3.out.R.cells.2.2.2.2.2.1
       have xx0:∀ z:Wd v3.heap.size v3,z.w.cell? ⟨w.heap.size,0,none⟩=some (.string left):=fun z=>((bcell z.ok).1 _ _ hlx).trans X3.out.cells.1
       have xx1:∀ z:Wd v3.heap.size v3,z.w.cell? ⟨w.heap.size,1,none⟩=some (.slice na xl.length nc):=fun z=>((bcell z.ok).1 _ _ hlx).trans X3.out.cells.2.1
       have xx2:∀ z:Wd v3.heap.size v3,z.w.cell? ⟨w.heap.size,2,none⟩=some (.string ⟨#[]⟩):=fun z=>((bcell z.ok).1 _ _ hlx).trans X3.out.cells.2.2.1
       have xx3:∀ z:Wd v3.heap.size v3,z.w.cell? ⟨w.heap.size,3,none⟩=some (.string ⟨#[]⟩):=fun z=>((bcell z.ok).1 _ _ hlx).trans X3.out.cells.2.2.2.1
       go_wp2_with fail
       refine region_fx 7 v3.heap.size (fun c a d v w h=>by cases d<;>exact h) (Nat.le_refl _) (by kernel_rfl) (by kernel_rfl) ?_
       simp only [List.take_succ_cons,List.take_zero,List.drop_succ_cons,List.drop_zero]
       repeat (go_big_quiet_step (fail))
       refine wpQuiet_nil ?_
       intro z
       have A3:=Lib.hid (A3.out.below z.ok)
       have O3:=Lib.hid (owns_below O3.out z.ok)
       clear cc6 xx0 xx1 xx2 xx3
       have hrz:=A3.out.lt
       generalize z.w=Z at A3 O3 hrz ⊢
       have hGZ:=(A3.out.alloc (.cells #[.string left,.slice na xl.length nc,.string ⟨#[]⟩,.string ⟨#[]⟩] 77)).G
       have hNs:Hid (NsM (Z.alloc (.cells #[.string left,.slice na xl.length nc,.string ⟨#[]⟩,.string ⟨#[]⟩] 77)) (rb+1) (.slice na xl.length nc) xl):=Lib.hid (NsM.of_owns (owns_base (O3.out.alloc _) (by omega)) rfl)
       obtain ⟨ns,hns,hl1,hl2⟩:=hGZ.r
       rw [HG.out] at hns hl1
       have hT:=Lib.hid hl1
       have HNS:=Lib.hid hns
       have HL2:=Lib.hid hl2
       clear hl1 hGZ hns hl2
       go_wp2_with (refine list_append_one rfl _ _ _ rfl 77 (rb+1) 4 72 elt_rule (.slice ra r.g.rules.length rc) r.g.rules.length (rlC r.g.rules ns) rfl hT.out ⟨Z.heap.size,0,none⟩ 1 [.string left,.slice na xl.length nc,.string ⟨#[]⟩,.string ⟨#[]⟩] rfl rfl (World.news_of_block (cs:=#[.string left,.slice na xl.length nc,.string ⟨#[]⟩,.string ⟨#[]⟩]) (t:=77) (fr:=(0,0)) (heap_alloc_new Z _)) (by simp [Value.oneCell']) (by unfold maxLen; omega) (by omega) (by simp; omega) ?_; intro gg gcap w4 hown hgrow hbg hlt4 hat4; have hR4:=rdb_grown (A3.out.alloc (.cells #[.string left,.slice na xl.length nc,.string ⟨#[]⟩,.string ⟨#[]⟩] 77)).R hT.out hgrow; have q2:=hR4.cells.2.2.2.2.2.1; have qf:=hR4.cells.2.2.2.2.2.2.2.2 6; have HE:=Lib.hid (addRule_end ⟨left,xl,Rd.E,Rd.E⟩ (A3.out.alloc (.cells #[.string left,.slice na xl.length nc,.string ⟨#[]⟩,.string ⟨#[]⟩] 77)) hrb HG.out hO.out hn40 (by simp only; omega) HNS.out hT.out HL2.out hNs.out hgrow hown); clear hR4 hown hgrow hat4)
       go_end0
       rw [hv.out]
       exact ⟨rfl,HE.out⟩
      case true =>
       have h4:Hid (altAct L r'=(q3.text,{ r' with i:=r'.i+1 })):=Lib.hid (by unfold altAct Rd.ok; rw [HB.out,← Hq3.out,h9]; rfl)
       have h9':q3.kind=9:=by simpa using h9
       have hil:r'.i < L.length:=now_kind (by rw [← Hq3.out,h9']; decide)
       have hni:=A3.out.ns
       have hzw:=A3.out.K.size
       clear h9'
       have hnow:=now_any A3.out.R
       rw [← Hq3.out] at hnow
       simp only [vMark] at hnow
       have hfl4:=fld_mark1 q3.kind q3.text q3.pos.line q3.pos.col
       go_wp2_with fail
       refine hnow.mono ?_
       rintro e v4 ⟨rfl,hb⟩
       have A4:=Lib.hid (A3.out.below hb)
       have X4:=Lib.hid (X3.out.below hb)
       have O4:=Lib.hid (owns_below O3.out hb)
       clear hb hnow A3 X3 O3
       have s3f:=X4.out.cells.2.2.2.2 3
       have s3c:=X4.out.cells.2.2.2.1
       have AS:=Lib.hid (A4.out.set (by rw [HG.out]; exact G0.out) hrb ⟨w.heap.size,3,none⟩ (by simp) (.string q3.text))
       have XS:=Lib.hid (X4.out.set3 q3.text)
       have OS:=Lib.hid (owns_setR (k:=3) O4.out X4.out (.string q3.text))
       have s1:=AS.out.R.cells.1
       have s1f:=AS.out.R.cells.2.2.2.2.2.2.2.2 1
       have AI:=Lib.hid (AS.out.setI hil)
       have XI:=Lib.hid (XS.out.upd AI.out.2 (by omega))
       have OI:=Lib.hid (owns_upd OS.out AI.out.2 hrb)
       have AJ:=Lib.hid AI.out.1
       have HGJ:Hid (({ r' with i:=r'.i+1 }:Rd.St).g=r.g):=Lib.hid HG.out
       clear A4 X4 O4 AS XS OS AI
       go_wp2_with fail
       generalize (v4.setCell ⟨w.heap.size,3,none⟩ (.string q3.text)).setCell ⟨rb,1,none⟩ (.int .i64 ((r'.i:Int)+1))=WJ at AJ XI OI ⊢
       clear s3f s3c s1 s1f
       have hv:Hid (Rd.alternative L r left={ ({ r' with i:=r'.i+1 }) with g:={ ({ r' with i:=r'.i+1 }).g with rules:=({ r' with i:=r'.i+1 }).g.rules++[⟨left,xl,Rd.E,q3.text⟩] } }):=Lib.hid (alt_some H40.out hRv.out h3.out h4.out)
       have hlW:=AJ.out.lt
       have hlx:=XI.out.lt
       have hxl:=HL.out
       have cc6:∀ z:Wd WJ.heap.size WJ,z.w.cell? ⟨rb,6,none⟩=some (.slice ra r.g.rules.length rc):=fun z=>((bcell z.ok).1 _ _ hlW).trans AJ.out.R.cells.2.2.2.2.2.1
       have xx0:∀ z:Wd WJ.heap.size WJ,z.w.cell? ⟨w.heap.size,0,none⟩=some (.string left):=fun z=>((bcell z.ok).1 _ _ hlx).trans XI.out.cells.1
       have xx1:∀ z:Wd WJ.heap.size WJ,z.w.cell? ⟨w.heap.size,1,none⟩=some (.slice na xl.length nc):=fun z=>((bcell z.ok).1 _ _ hlx).trans XI.out.cells.2.1
       have xx2:∀ z:Wd WJ.heap.size WJ,z.w.cell? ⟨w.heap.size,2,none⟩=some (.string ⟨#[]⟩):=fun z=>((bcell z.ok).1 _ _ hlx).trans XI.out.cells.2.2.1
       have xx3:∀ z:Wd WJ.heap.size WJ,z.w.cell? ⟨w.heap.size,3,none⟩=some (.string q3.text):=fun z=>((bcell z.ok).1 _ _ hlx).trans XI.out.cells.2.2.2.1
       go_wp2_with fail
       refine region_fx 7 WJ.heap.size (fun c a d v w h=>by cases d<;>exact h) (Nat.le_refl _) (by kernel_rfl) (by kernel_rfl) ?_
       simp only [List.take_succ_cons,List.take_zero,List.drop_succ_cons,List.drop_zero]
       repeat (go_big_quiet_step (fail))
       refine wpQuiet_nil ?_
       intro z
       have A3:=Lib.hid (AJ.out.below z.ok)
       have O3:=Lib.hid (owns_below OI.out z.ok)
       clear cc6 xx0 xx1 xx2 xx3
       have hrz:=A3.out.lt
       generalize z.w=Z at A3 O3 hrz ⊢
       have hGZ:=(A3.out.alloc (.cells #[.string left,.slice na xl.length nc,.string ⟨#[]⟩,.string q3.text] 77)).G
       have hNs:Hid (NsM (Z.alloc (.cells #[.string left,.slice na xl.length nc,.string ⟨#[]⟩,.string q3.text] 77)) (rb+1) (.slice na xl.length nc) xl):=Lib.hid (NsM.of_owns (owns_base (O3.out.alloc _) (by omega)) rfl)
       obtain ⟨ns,hns,hl1,hl2⟩:=hGZ.r
       rw [HGJ.out] at hns hl1
       have hT:=Lib.hid hl1
       have HNS:=Lib.hid hns
       have HL2:=Lib.hid hl2
       clear hl1 hGZ hns hl2
       go_wp2_with (refine list_append_one rfl _ _ _ rfl 77 (rb+1) 4 72 elt_rule (.slice ra r.g.rules.length rc) r.g.rules.length (rlC r.g.rules ns) rfl hT.out ⟨Z.heap.size,0,none⟩ 1 [.string left,.slice na xl.length nc,.string ⟨#[]⟩,.string q3.text] rfl rfl (World.news_of_block (cs:=#[.string left,.slice na xl.length nc,.string ⟨#[]⟩,.string q3.text]) (t:=77) (fr:=(0,0)) (heap_alloc_new Z _)) (by simp [Value.oneCell']) (by unfold maxLen; omega) (by omega) (by simp; omega) ?_; intro gg gcap w4 hown hgrow hbg hlt4 hat4; have hR4:=rdb_grown (A3.out.alloc (.cells #[.string left,.slice na xl.length nc,.string ⟨#[]⟩,.string q3.text] 77)).R hT.out hgrow; have q2:=hR4.cells.2.2.2.2.2.1; have qf:=hR4.cells.2.2.2.2.2.2.2.2 6; have HE:=Lib.hid (addRule_end ⟨left,xl,Rd.E,q3.text⟩ (A3.out.alloc (.cells #[.string left,.slice na xl.length nc,.string ⟨#[]⟩,.string q3.text] 77)) hrb HGJ.out hO.out hn40 (by simp only; omega) HNS.out hT.out HL2.out hNs.out hgrow hown); clear hR4 hown hgrow hat4)
       go_end0
       rw [hv.out]
       exact ⟨rfl,HE.out⟩
    case true =>
     have h2':m0.kind=2:=by simpa using h2
     have hil:r'.i < L.length:=now_kind (by rw [← Hm0.out,h2']; decide)
     clear h2'
     have hnow:=now_any A1.out.R
     rw [← Hm0.out] at hnow
     simp only [vMark] at hnow
     have hfl2:=fld_mark1 m0.kind m0.text m0.pos.line m0.pos.col
     go_wp2_with fail
     refine hnow.mono ?_
     rintro e v2 ⟨rfl,hb⟩
     have A2:=Lib.hid (A1.out.below hb)
     have X2:=Lib.hid (X1.out.below hb)
     have O2:=Lib.hid (owns_below O1.out hb)
     clear hb hnow A1 X1 O1
     cases hp:(m0.text.toList == [112,114,101,99])
     case false =>
      have h3:Hid (altPrec L r'=(Rd.E,r')):=Lib.hid (by unfold altPrec; rw [← Hm0.out,h2,eqS_toList]; unfold Rd.wPrec; rw [lit_prec,hp]; rfl)
      have b8:=A2.out.R.cells.2.2.2.2.2.2.2.1
      cases hb:(r'.bad.code == 0)
      case false =>
       have h4:Hid (altAct L r'=(Rd.E,r')):=Lib.hid (by unfold altAct Rd.ok; rw [hb]; rfl)
       have hv:Hid (Rd.alternative L r left={ r' with g:={ r'.g with rules:=r'.g.rules++[⟨left,xl,Rd.E,Rd.E⟩] } }):=Lib.hid (alt_some H40.out hRv.out h3.out h4.out)
       have hlW:=A2.out.lt
       have hlx:=X2.out.lt
       have hxl:=HL.out
       have cc6:∀ z:Wd v2.heap.size v2,z.w.cell? ⟨rb,6,none⟩=some (.slice ra r.g.rules.length rc):=fun z=>((bcell z.ok).1 _ _ hlW).trans A2.out.R.cells.2.2.2.2.2.1
       have xx0:∀ z:Wd v2.heap.size v2,z.w.cell? ⟨w.heap.size,0,none⟩=some (.string left):=fun z=>((bcell z.ok).1 _ _ hlx).trans X2.out.cells.1
       have xx1:∀ z:Wd v2.heap.size v2,z.w.cell? ⟨w.heap.size,1,none⟩=some (.slice na xl.length nc):=fun z=>((bcell z.ok).1 _ _ hlx).trans X2.out.cells.2.1
       have xx2:∀ z:Wd v2.heap.size v2,z.w.cell? ⟨w.heap.size,2,none⟩=some (.string ⟨#[]⟩):=fun z=>((bcell z.ok).1 _ _ hlx).trans X2.out.cells.2.2.1
       have xx3:∀ z:Wd v2.heap.size v2,z.w.cell? ⟨w.heap.size,3,none⟩=some (.string ⟨#[]⟩):=fun z=>((bcell z.ok).1 _ _ hlx).trans X2.out.cells.2.2.2.1
       go_wp2_with fail
       refine region_fx 7 v2.heap.size (fun c a d v w h=>by cases d<;>exact h) (Nat.le_refl _) (by kernel_rfl) (by kernel_rfl) ?_
       simp only [List.take_succ_cons,List.take_zero,List.drop_succ_cons,List.drop_zero]
       repeat (go_big_quiet_step (fail))
       refine wpQuiet_nil ?_
       intro z
       have A3:=Lib.hid (A2.out.below z.ok)
       have O3:=Lib.hid (owns_below O2.out z.ok)
       clear cc6 xx0 xx1 xx2 xx3
       have hrz:=A3.out.lt
       generalize z.w=Z at A3 O3 hrz ⊢
       have hGZ:=(A3.out.alloc (.cells #[.string left,.slice na xl.length nc,.string ⟨#[]⟩,.string ⟨#[]⟩] 77)).G
       have hNs:Hid (NsM (Z.alloc (.cells #[.string left,.slice na xl.length nc,.string ⟨#[]⟩,.string ⟨#[]⟩] 77)) (rb+1) (.slice na xl.length nc) xl):=Lib.hid (NsM.of_owns (owns_base (O3.out.alloc _) (by omega)) rfl)
       obtain ⟨ns,hns,hl1,hl2⟩:=hGZ.r
       rw [HG.out] at hns hl1
       have hT:=Lib.hid hl1
       have HNS:=Lib.hid hns
       have HL2:=Lib.hid hl2
       clear hl1 hGZ hns hl2
       go_wp2_with (refine list_append_one rfl _ _ _ rfl 77 (rb+1) 4 72 elt_rule (.slice ra r.g.rules.length rc) r.g.rules.length (rlC r.g.rules ns) rfl hT.out ⟨Z.heap.size,0,none⟩ 1 [.string left,.slice na xl.length nc,.string ⟨#[]⟩,.string ⟨#[]⟩] rfl rfl (World.news_of_block (cs:=#[.string left,.slice na xl.length nc,.string ⟨#[]⟩,.string ⟨#[]⟩]) (t:=77) (fr:=(0,0)) (heap_alloc_new Z _)) (by simp [Value.oneCell']) (by unfold maxLen; omega) (by omega) (by simp; omega) ?_; intro gg gcap w4 hown hgrow hbg hlt4 hat4; have hR4:=rdb_grown (A3.out.alloc (.cells #[.string left,.slice na xl.length nc,.string ⟨#[]⟩,.string ⟨#[]⟩] 77)).R hT.out hgrow; have q2:=hR4.cells.2.2.2.2.2.1; have qf:=hR4.cells.2.2.2.2.2.2.2.2 6; have HE:=Lib.hid (addRule_end ⟨left,xl,Rd.E,Rd.E⟩ (A3.out.alloc (.cells #[.string left,.slice na xl.length nc,.string ⟨#[]⟩,.string ⟨#[]⟩] 77)) hrb HG.out hO.out hn40 (by simp only; omega) HNS.out hT.out HL2.out hNs.out hgrow hown); clear hR4 hown hgrow hat4)
       go_end0
       rw [hv.out]
       exact ⟨rfl,HE.out⟩
      case true =>
       have HB:=Lib.hid hb
       obtain ⟨q5,hq5⟩:∃ m,m=Rd.now L r':=⟨_,rfl⟩
       have Hq5:=Lib.hid hq5
       clear hq5
       have hnow:=now_any A2.out.R
       rw [← Hq5.out] at hnow
       simp only [vMark] at hnow
       have hfl5:=fld_mark0 q5.kind q5.text q5.pos.line q5.pos.col
       go_wp2_with fail
       refine hnow.mono ?_
       rintro e v5 ⟨rfl,hb⟩
       have A5:=Lib.hid (A2.out.below hb)
       have X5:=Lib.hid (X2.out.below hb)
       have O5:=Lib.hid (owns_below O2.out hb)
       clear hb hnow A2 X2 O2 b8
       cases h9:(q5.kind == 9)
       case false =>
        have h4:Hid (altAct L r'=(Rd.E,r')):=Lib.hid (by unfold altAct Rd.ok; rw [HB.out,← Hq5.out,h9]; rfl)
        have hv:Hid (Rd.alternative L r left={ r' with g:={ r'.g with rules:=r'.g.rules++[⟨left,xl,Rd.E,Rd.E⟩] } }):=Lib.hid (alt_some H40.out hRv.out h3.out h4.out)
        have hlW:=A5.out.lt
        have hlx:=X5.out.lt
        have hxl:=HL.out
        have cc6:∀ z:Wd v5.heap.size v5,z.w.cell? ⟨rb,6,none⟩=some (.slice ra r.g.rules.length rc):=fun z=>((bcell z.ok).1 _ _ hlW).trans A5.out.R.cells.2.2.2.2.2.1
        have xx0:∀ z:Wd v5.heap.size v5,z.w.cell? ⟨w.heap.size,0,none⟩=some (.string left):=fun z=>((bcell z.ok).1 _ _ hlx).trans X5.out.cells.1
        have xx1:∀ z:Wd v5.heap.size v5,z.w.cell? ⟨w.heap.size,1,none⟩=some (.slice na xl.length nc):=fun z=>((bcell z.ok).1 _ _ hlx).trans X5.out.cells.2.1
        have xx2:∀ z:Wd v5.heap.size v5,z.w.cell? ⟨w.heap.size,2,none⟩=some (.string ⟨#[]⟩):=fun z=>((bcell z.ok).1 _ _ hlx).trans X5.out.cells.2.2.1
        have xx3:∀ z:Wd v5.heap.size v5,z.w.cell? ⟨w.heap.size,3,none⟩=some (.string ⟨#[]⟩):=fun z=>((bcell z.ok).1 _ _ hlx).trans X5.out.cells.2.2.2.1
        go_wp2_with fail
        refine region_fx 7 v5.heap.size (fun c a d v w h=>by cases d<;>exact h) (Nat.le_refl _) (by kernel_rfl) (by kernel_rfl) ?_
        simp only [List.take_succ_cons,List.take_zero,List.drop_succ_cons,List.drop_zero]
        repeat (go_big_quiet_step (fail))
        refine wpQuiet_nil ?_
        intro z
        have A3:=Lib.hid (A5.out.below z.ok)
        have O3:=Lib.hid (owns_below O5.out z.ok)
        clear cc6 xx0 xx1 xx2 xx3
        have hrz:=A3.out.lt
        generalize z.w=Z at A3 O3 hrz ⊢
        have hGZ:=(A3.out.alloc (.cells #[.string left,.slice na xl.length nc,.string ⟨#[]⟩,.string ⟨#[]⟩] 77)).G
        have hNs:Hid (NsM (Z.alloc (.cells #[.string left,.slice na xl.length nc,.string ⟨#[]⟩,.string ⟨#[]⟩] 77)) (rb+1) (.slice na xl.length nc) xl):=Lib.hid (NsM.of_owns (owns_base (O3.out.alloc _) (by omega)) rfl)
        obtain ⟨ns,hns,hl1,hl2⟩:=hGZ.r
        rw [HG.out] at hns hl1
        have hT:=Lib.hid hl1
        have HNS:=Lib.hid hns
        have HL2:=Lib.hid hl2
        clear hl1 hGZ hns hl2
        go_wp2_with (refine list_append_one rfl _ _ _ rfl 77 (rb+1) 4 72 elt_rule (.slice ra r.g.rules.length rc) r.g.rules.length (rlC r.g.rules ns) rfl hT.out ⟨Z.heap.size,0,none⟩ 1 [.string left,.slice na xl.length nc,.string ⟨#[]⟩,.string ⟨#[]⟩] rfl rfl (World.news_of_block (cs:=#[.string left,.slice na xl.length nc,.string ⟨#[]⟩,.string ⟨#[]⟩]) (t:=77) (fr:=(0,0)) (heap_alloc_new Z _)) (by simp [Value.oneCell']) (by unfold maxLen; omega) (by omega) (by simp; omega) ?_; intro gg gcap w4 hown hgrow hbg hlt4 hat4; have hR4:=rdb_grown (A3.out.alloc (.cells #[.string left,.slice na xl.length nc,.string ⟨#[]⟩,.string ⟨#[]⟩] 77)).R hT.out hgrow; have q2:=hR4.cells.2.2.2.2.2.1; have qf:=hR4.cells.2.2.2.2.2.2.2.2 6; have HE:=Lib.hid (addRule_end ⟨left,xl,Rd.E,Rd.E⟩ (A3.out.alloc (.cells #[.string left,.slice na xl.length nc,.string ⟨#[]⟩,.string ⟨#[]⟩] 77)) hrb HG.out hO.out hn40 (by simp only; omega) HNS.out hT.out HL2.out hNs.out hgrow hown); clear hR4 hown hgrow hat4)
        go_end0
        rw [hv.out]
        exact ⟨rfl,HE.out⟩
       case true =>
        have h4:Hid (altAct L r'=(q5.text,{ r' with i:=r'.i+1 })):=Lib.hid (by unfold altAct Rd.ok; rw [HB.out,← Hq5.out,h9]; rfl)
        have h9':q5.kind=9:=by simpa using h9
        have hil:r'.i < L.length:=now_kind (by rw [← Hq5.out,h9']; decide)
        have hni:=A5.out.ns
        have hzw:=A5.out.K.size
        clear h9'
        have hnow:=now_any A5.out.R
        rw [← Hq5.out] at hnow
        simp only [vMark] at hnow
        have hfl6:=fld_mark1 q5.kind q5.text q5.pos.line q5.pos.col
        go_wp2_with fail
        refine hnow.mono ?_
        rintro e v6 ⟨rfl,hb⟩
        have A6:=Lib.hid (A5.out.below hb)
        have X6:=Lib.hid (X5.out.below hb)
        have O6:=Lib.hid (owns_below O5.out hb)
        clear hb hnow A5 X5 O5
        have s3f:=X6.out.cells.2.2.2.2 3
        have s3c:=X6.out.cells.2.2.2.1
        have AS:=Lib.hid (A6.out.set (by rw [HG.out]; exact G0.out) hrb ⟨w.heap.size,3,none⟩ (by simp) (.string q5.text))
        have XS:=Lib.hid (X6.out.set3 q5.text)
        have OS:=Lib.hid (owns_setR (k:=3) O6.out X6.out (.string q5.text))
        have s1:=AS.out.R.cells.1
        have s1f:=AS.out.R.cells.2.2.2.2.2.2.2.2 1
        have AI:=Lib.hid (AS.out.setI hil)
        have XI:=Lib.hid (XS.out.upd AI.out.2 (by omega))
        have OI:=Lib.hid (owns_upd OS.out AI.out.2 hrb)
        have AJ:=Lib.hid AI.out.1
        have HGJ:Hid (({ r' with i:=r'.i+1 }:Rd.St).g=r.g):=Lib.hid HG.out
        clear A6 X6 O6 AS XS OS AI
        go_wp2_with fail
        generalize (v6.setCell ⟨w.heap.size,3,none⟩ (.string q5.text)).setCell ⟨rb,1,none⟩ (.int .i64 ((r'.i:Int)+1))=WJ at AJ XI OI ⊢
        clear s3f s3c s1 s1f
        have hv:Hid (Rd.alternative L r left={ ({ r' with i:=r'.i+1 }) with g:={ ({ r' with i:=r'.i+1 }).g with rules:=({ r' with i:=r'.i+1 }).g.rules++[⟨left,xl,Rd.E,q5.text⟩] } }):=Lib.hid (alt_some H40.out hRv.out h3.out h4.out)
        have hlW:=AJ.out.lt
        have hlx:=XI.out.lt
        have hxl:=HL.out
        have cc6:∀ z:Wd WJ.heap.size WJ,z.w.cell? ⟨rb,6,none⟩=some (.slice ra r.g.rules.length rc):=fun z=>((bcell z.ok).1 _ _ hlW).trans AJ.out.R.cells.2.2.2.2.2.1
        have xx0:∀ z:Wd WJ.heap.size WJ,z.w.cell? ⟨w.heap.size,0,none⟩=some (.string left):=fun z=>((bcell z.ok).1 _ _ hlx).trans XI.out.cells.1
        have xx1:∀ z:Wd WJ.heap.size WJ,z.w.cell? ⟨w.heap.size,1,none⟩=some (.slice na xl.length nc):=fun z=>((bcell z.ok).1 _ _ hlx).trans XI.out.cells.2.1
        have xx2:∀ z:Wd WJ.heap.size WJ,z.w.cell? ⟨w.heap.size,2,none⟩=some (.string ⟨#[]⟩):=fun z=>((bcell z.ok).1 _ _ hlx).trans XI.out.cells.2.2.1
        have xx3:∀ z:Wd WJ.heap.size WJ,z.w.cell? ⟨w.heap.size,3,none⟩=some (.string q5.text):=fun z=>((bcell z.ok).1 _ _ hlx).trans XI.out.cells.2.2.2.1
        go_wp2_with fail
        refine region_fx 7 WJ.heap.size (fun c a d v w h=>by cases d<;>exact h) (Nat.le_refl _) (by kernel_rfl) (by kernel_rfl) ?_
        simp only [List.take_succ_cons,List.take_zero,List.drop_succ_cons,List.drop_zero]
        repeat (go_big_quiet_step (fail))
        refine wpQuiet_nil ?_
        intro z
        have A3:=Lib.hid (AJ.out.below z.ok)
        have O3:=Lib.hid (owns_below OI.out z.ok)
        clear cc6 xx0 xx1 xx2 xx3
        have hrz:=A3.out.lt
        generalize z.w=Z at A3 O3 hrz ⊢
        have hGZ:=(A3.out.alloc (.cells #[.string left,.slice na xl.length nc,.string ⟨#[]⟩,.string q5.text] 77)).G
        have hNs:Hid (NsM (Z.alloc (.cells #[.string left,.slice na xl.length nc,.string ⟨#[]⟩,.string q5.text] 77)) (rb+1) (.slice na xl.length nc) xl):=Lib.hid (NsM.of_owns (owns_base (O3.out.alloc _) (by omega)) rfl)
        obtain ⟨ns,hns,hl1,hl2⟩:=hGZ.r
        rw [HGJ.out] at hns hl1
        have hT:=Lib.hid hl1
        have HNS:=Lib.hid hns
        have HL2:=Lib.hid hl2
        clear hl1 hGZ hns hl2
        go_wp2_with (refine list_append_one rfl _ _ _ rfl 77 (rb+1) 4 72 elt_rule (.slice ra r.g.rules.length rc) r.g.rules.length (rlC r.g.rules ns) rfl hT.out ⟨Z.heap.size,0,none⟩ 1 [.string left,.slice na xl.length nc,.string ⟨#[]⟩,.string q5.text] rfl rfl (World.news_of_block (cs:=#[.string left,.slice na xl.length nc,.string ⟨#[]⟩,.string q5.text]) (t:=77) (fr:=(0,0)) (heap_alloc_new Z _)) (by simp [Value.oneCell']) (by unfold maxLen; omega) (by omega) (by simp; omega) ?_; intro gg gcap w4 hown hgrow hbg hlt4 hat4; have hR4:=rdb_grown (A3.out.alloc (.cells #[.string left,.slice na xl.length nc,.string ⟨#[]⟩,.string q5.text] 77)).R hT.out hgrow; have q2:=hR4.cells.2.2.2.2.2.1; have qf:=hR4.cells.2.2.2.2.2.2.2.2 6; have HE:=Lib.hid (addRule_end ⟨left,xl,Rd.E,q5.text⟩ (A3.out.alloc (.cells #[.string left,.slice na xl.length nc,.string ⟨#[]⟩,.string q5.text] 77)) hrb HGJ.out hO.out hn40 (by simp only; omega) HNS.out hT.out HL2.out hNs.out hgrow hown); clear hR4 hown hgrow hat4)
        go_end0
        rw [hv.out]
        exact ⟨rfl,HE.out⟩
     case true =>
      obtain ⟨m2,hm2⟩:∃ p,p=(Rd.take L { r' with i:=r'.i+1 } 1).1:=⟨_,rfl⟩
      obtain ⟨r2,hr2⟩:∃ r2,r2=(Rd.take L { r' with i:=r'.i+1 } 1).2:=⟨_,rfl⟩
      have h3:Hid (altPrec L r'=(m2.text,r2)):=Lib.hid (by unfold altPrec; rw [← Hm0.out,h2,eqS_toList]; unfold Rd.wPrec; rw [lit_prec,hp,hm2,hr2]; rfl)
      have hg2:Hid (r2.g=r.g):=Lib.hid (by rw [hr2,take_g]; exact HG.out)
      have hg2b:Hid (r2.g=r'.g):=Lib.hid (by rw [hr2,take_g])
      have s1:=A2.out.R.cells.1
      have s1f:=A2.out.R.cells.2.2.2.2.2.2.2.2 1
      have hni:=A2.out.ns
      have AI:=Lib.hid (A2.out.setI hil)
      have XI:=Lib.hid (X2.out.upd AI.out.2 (by omega))
      have OI:=Lib.hid (owns_upd O2.out AI.out.2 hrb)
      have htk:=take_any 1 (by decide) AI.out.1.R
      rw [← hm2,← hr2] at htk
      simp only [vMark] at htk
      have hflm:=fld_mark1 m2.kind m2.text m2.pos.line m2.pos.col
      clear hm2 hr2 A2 X2 O2
      go_wp2_with fail
      refine htk.mono ?_
      rintro e w5 ⟨rfl,hR,hu⟩
      have A5:=Lib.hid (AI.out.1.step hR hu hg2b.out)
      have X5:=Lib.hid (XI.out.upd hu (by omega))
      have O5:=Lib.hid (owns_upd OI.out hu hrb)
      have s2f:=X5.out.cells.2.2.2.2 2
      have s2c:=X5.out.cells.2.2.1
      have hzw:=A5.out.K.size
      clear hR hu htk AI XI OI s1 s1f
      have AS:=Lib.hid (A5.out.set (by rw [hg2.out]; exact G0.out) hrb ⟨w.heap.size,2,none⟩ (by simp) (.string m2.text))
      have XS:=Lib.hid (X5.out.set2 m2.text)
      have OS:=Lib.hid (owns_setR (k:=2) O5.out X5.out (.string m2.text))
      have t8:=A5.out.R.cells.2.2.2.2.2.2.2.1
      clear A5 X5 O5
      have b8:=AS.out.R.cells.2.2.2.2.2.2.2.1
      cases hb:(r2.bad.code == 0)
      case false =>
       have h4:Hid (altAct L r2=(Rd.E,r2)):=Lib.hid (by unfold altAct Rd.ok; rw [hb]; rfl)
       have hv:Hid (Rd.alternative L r left={ r2 with g:={ r2.g with rules:=r2.g.rules++[⟨left,xl,m2.text,Rd.E⟩] } }):=Lib.hid (alt_some H40.out hRv.out h3.out h4.out)
       have hlW:=AS.out.lt
       have hlx:=XS.out.lt
       have hxl:=HL.out
       have cc6:∀ z:Wd (w5.setCell ⟨w.heap.size,2,none⟩ (.string m2.text)).heap.size (w5.setCell ⟨w.heap.size,2,none⟩ (.string m2.text)),z.w.cell? ⟨rb,6,none⟩=some (.slice ra r.g.rules.length rc):=fun z=>((bcell z.ok).1 _ _ hlW).trans AS.out.R.cells.2.2.2.2.2.1
       have xx0:∀ z:Wd (w5.setCell ⟨w.heap.size,2,none⟩ (.string m2.text)).heap.size (w5.setCell ⟨w.heap.size,2,none⟩ (.string m2.text)),z.w.cell? ⟨w.heap.size,0,none⟩=some (.string left):=fun z=>((bcell z.ok).1 _ _ hlx).trans XS.out.cells.1
       have xx1:∀ z:Wd (w5.setCell ⟨w.heap.size,2,none⟩ (.string m2.text)).heap.size (w5.setCell ⟨w.heap.size,2,none⟩ (.string m2.text)),z.w.cell? ⟨w.heap.size,1,none⟩=some (.slice na xl.length nc):=fun z=>((bcell z.ok).1 _ _ hlx).trans XS.out.cells.2.1
       have xx2:∀ z:Wd (w5.setCell ⟨w.heap.size,2,none⟩ (.string m2.text)).heap.size (w5.setCell ⟨w.heap.size,2,none⟩ (.string m2.text)),z.w.cell? ⟨w.heap.size,2,none⟩=some (.string m2.text):=fun z=>((bcell z.ok).1 _ _ hlx).trans XS.out.cells.2.2.1
       have xx3:∀ z:Wd (w5.setCell ⟨w.heap.size,2,none⟩ (.string m2.text)).heap.size (w5.setCell ⟨w.heap.size,2,none⟩ (.string m2.text)),z.w.cell? ⟨w.heap.size,3,none⟩=some (.string ⟨#[]⟩):=fun z=>((bcell z.ok).1 _ _ hlx).trans XS.out.cells.2.2.2.1
       go_wp2_with fail
       refine region_fx 7 (w5.setCell ⟨w.heap.size,2,none⟩ (.string m2.text)).heap.size (fun c a d v w h=>by cases d<;>exact h) (Nat.le_refl _) (by kernel_rfl) (by kernel_rfl) ?_
       simp only [List.take_succ_cons,List.take_zero,List.drop_succ_cons,List.drop_zero]
       repeat (go_big_quiet_step (fail))
       refine wpQuiet_nil ?_
       intro z
       have A3:=Lib.hid (AS.out.below z.ok)
       have O3:=Lib.hid (owns_below OS.out z.ok)
       clear cc6 xx0 xx1 xx2 xx3
       have hrz:=A3.out.lt
       generalize z.w=Z at A3 O3 hrz ⊢
       have hGZ:=(A3.out.alloc (.cells #[.string left,.slice na xl.length nc,.string m2.text,.string ⟨#[]⟩] 77)).G
       have hNs:Hid (NsM (Z.alloc (.cells #[.string left,.slice na xl.length nc,.string m2.text,.string ⟨#[]⟩] 77)) (rb+1) (.slice na xl.length nc) xl):=Lib.hid (NsM.of_owns (owns_base (O3.out.alloc _) (by omega)) rfl)
       obtain ⟨ns,hns,hl1,hl2⟩:=hGZ.r
       rw [hg2.out] at hns hl1
       have hT:=Lib.hid hl1
       have HNS:=Lib.hid hns
       have HL2:=Lib.hid hl2
       clear hl1 hGZ hns hl2
       go_wp2_with (refine list_append_one rfl _ _ _ rfl 77 (rb+1) 4 72 elt_rule (.slice ra r.g.rules.length rc) r.g.rules.length (rlC r.g.rules ns) rfl hT.out ⟨Z.heap.size,0,none⟩ 1 [.string left,.slice na xl.length nc,.string m2.text,.string ⟨#[]⟩] rfl rfl (World.news_of_block (cs:=#[.string left,.slice na xl.length nc,.string m2.text,.string ⟨#[]⟩]) (t:=77) (fr:=(0,0)) (heap_alloc_new Z _)) (by simp [Value.oneCell']) (by unfold maxLen; omega) (by omega) (by simp; omega) ?_; intro gg gcap w4 hown hgrow hbg hlt4 hat4; have hR4:=rdb_grown (A3.out.alloc (.cells #[.string left,.slice na xl.length nc,.string m2.text,.string ⟨#[]⟩] 77)).R hT.out hgrow; have q2:=hR4.cells.2.2.2.2.2.1; have qf:=hR4.cells.2.2.2.2.2.2.2.2 6; have HE:=Lib.hid (addRule_end ⟨left,xl,m2.text,Rd.E⟩ (A3.out.alloc (.cells #[.string left,.slice na xl.length nc,.string m2.text,.string ⟨#[]⟩] 77)) hrb hg2.out hO.out hn40 (by simp only; omega) HNS.out hT.out HL2.out hNs.out hgrow hown); clear hR4 hown hgrow hat4)
       go_end0
       rw [hv.out]
       exact ⟨rfl,HE.out⟩
      case true =>
       have HB:=Lib.hid hb
       obtain ⟨q7,hq7⟩:∃ m,m=Rd.now L r2:=⟨_,rfl⟩
       have Hq7:=Lib.hid hq7
       clear hq7
       have hnow:=now_any AS.out.R
       rw [← Hq7.out] at hnow
       simp only [vMark] at hnow
       have hfl7:=fld_mark0 q7.kind q7.text q7.pos.line q7.pos.col
       go_wp2_with fail
       refine hnow.mono ?_
       rintro e v7 ⟨rfl,hb⟩
       have A7:=Lib.hid (AS.out.below hb)
       have X7:=Lib.hid (XS.out.below hb)
       have O7:=Lib.hid (owns_below OS.out hb)
       clear hb hnow AS XS OS b8
       cases h9:(q7.kind == 9)
       case false =>
        have h4:Hid (altAct L r2=(Rd.E,r2)):=Lib.hid (by unfold altAct Rd.ok; rw [HB.out,← Hq7.out,h9]; rfl)
        have hv:Hid (Rd.alternative L r left={ r2 with g:={ r2.g with rules:=r2.g.rules++[⟨left,xl,m2.text,Rd.E⟩] } }):=Lib.hid (alt_some H40.out hRv.out h3.out h4.out)
        have hlW:=A7.out.lt
        have hlx:=X7.out.lt
        have hxl:=HL.out
        have cc6:∀ z:Wd v7.heap.size v7,z.w.cell? ⟨rb,6,none⟩=some (.slice ra r.g.rules.length rc):=fun z=>((bcell z.ok).1 _ _ hlW).trans A7.out.R.cells.2.2.2.2.2.1
        have xx0:∀ z:Wd v7.heap.size v7,z.w.cell? ⟨w.heap.size,0,none⟩=some (.string left):=fun z=>((bcell z.ok).1 _ _ hlx).trans X7.out.cells.1
        have xx1:∀ z:Wd v7.heap.size v7,z.w.cell? ⟨w.heap.size,1,none⟩=some (.slice na xl.length nc):=fun z=>((bcell z.ok).1 _ _ hlx).trans X7.out.cells.2.1
        have xx2:∀ z:Wd v7.heap.size v7,z.w.cell? ⟨w.heap.size,2,none⟩=some (.string m2.text):=fun z=>((bcell z.ok).1 _ _ hlx).trans X7.out.cells.2.2.1
        have xx3:∀ z:Wd v7.heap.size v7,z.w.cell? ⟨w.heap.size,3,none⟩=some (.string ⟨#[]⟩):=fun z=>((bcell z.ok).1 _ _ hlx).trans X7.out.cells.2.2.2.1
        go_wp2_with fail
        refine region_fx 7 v7.heap.size (fun c a d v w h=>by cases d<;>exact h) (Nat.le_refl _) (by kernel_rfl) (by kernel_rfl) ?_
        simp only [List.take_succ_cons,List.take_zero,List.drop_succ_cons,List.drop_zero]
        repeat (go_big_quiet_step (fail))
        refine wpQuiet_nil ?_
        intro z
        have A3:=Lib.hid (A7.out.below z.ok)
        have O3:=Lib.hid (owns_below O7.out z.ok)
        clear cc6 xx0 xx1 xx2 xx3
        have hrz:=A3.out.lt
        generalize z.w=Z at A3 O3 hrz ⊢
        have hGZ:=(A3.out.alloc (.cells #[.string left,.slice na xl.length nc,.string m2.text,.string ⟨#[]⟩] 77)).G
        have hNs:Hid (NsM (Z.alloc (.cells #[.string left,.slice na xl.length nc,.string m2.text,.string ⟨#[]⟩] 77)) (rb+1) (.slice na xl.length nc) xl):=Lib.hid (NsM.of_owns (owns_base (O3.out.alloc _) (by omega)) rfl)
        obtain ⟨ns,hns,hl1,hl2⟩:=hGZ.r
        rw [hg2.out] at hns hl1
        have hT:=Lib.hid hl1
        have HNS:=Lib.hid hns
        have HL2:=Lib.hid hl2
        clear hl1 hGZ hns hl2
        go_wp2_with (refine list_append_one rfl _ _ _ rfl 77 (rb+1) 4 72 elt_rule (.slice ra r.g.rules.length rc) r.g.rules.length (rlC r.g.rules ns) rfl hT.out ⟨Z.heap.size,0,none⟩ 1 [.string left,.slice na xl.length nc,.string m2.text,.string ⟨#[]⟩] rfl rfl (World.news_of_block (cs:=#[.string left,.slice na xl.length nc,.string m2.text,.string ⟨#[]⟩]) (t:=77) (fr:=(0,0)) (heap_alloc_new Z _)) (by simp [Value.oneCell']) (by unfold maxLen; omega) (by omega) (by simp; omega) ?_; intro gg gcap w4 hown hgrow hbg hlt4 hat4; have hR4:=rdb_grown (A3.out.alloc (.cells #[.string left,.slice na xl.length nc,.string m2.text,.string ⟨#[]⟩] 77)).R hT.out hgrow; have q2:=hR4.cells.2.2.2.2.2.1; have qf:=hR4.cells.2.2.2.2.2.2.2.2 6; have HE:=Lib.hid (addRule_end ⟨left,xl,m2.text,Rd.E⟩ (A3.out.alloc (.cells #[.string left,.slice na xl.length nc,.string m2.text,.string ⟨#[]⟩] 77)) hrb hg2.out hO.out hn40 (by simp only; omega) HNS.out hT.out HL2.out hNs.out hgrow hown); clear hR4 hown hgrow hat4)
        go_end0
        rw [hv.out]
        exact ⟨rfl,HE.out⟩
       case true =>
        have h4:Hid (altAct L r2=(q7.text,{ r2 with i:=r2.i+1 })):=Lib.hid (by unfold altAct Rd.ok; rw [HB.out,← Hq7.out,h9]; rfl)
        have h9':q7.kind=9:=by simpa using h9
        have hil:r2.i < L.length:=now_kind (by rw [← Hq7.out,h9']; decide)
        have hni:=A7.out.ns
        have hzw:=A7.out.K.size
        clear h9'
        have hnow:=now_any A7.out.R
        rw [← Hq7.out] at hnow
        simp only [vMark] at hnow
        have hfl8:=fld_mark1 q7.kind q7.text q7.pos.line q7.pos.col
        go_wp2_with fail
        refine hnow.mono ?_
        rintro e v8 ⟨rfl,hb⟩
        have A8:=Lib.hid (A7.out.below hb)
        have X8:=Lib.hid (X7.out.below hb)
        have O8:=Lib.hid (owns_below O7.out hb)
        clear hb hnow A7 X7 O7
        have s3f:=X8.out.cells.2.2.2.2 3
        have s3c:=X8.out.cells.2.2.2.1
        have AS:=Lib.hid (A8.out.set (by rw [hg2.out]; exact G0.out) hrb ⟨w.heap.size,3,none⟩ (by simp) (.string q7.text))
        have XS:=Lib.hid (X8.out.set3 q7.text)
        have OS:=Lib.hid (owns_setR (k:=3) O8.out X8.out (.string q7.text))
        have s1:=AS.out.R.cells.1
        have s1f:=AS.out.R.cells.2.2.2.2.2.2.2.2 1
        have AI:=Lib.hid (AS.out.setI hil)
        have XI:=Lib.hid (XS.out.upd AI.out.2 (by omega))
        have OI:=Lib.hid (owns_upd OS.out AI.out.2 hrb)
        have AJ:=Lib.hid AI.out.1
        have HGJ:Hid (({ r2 with i:=r2.i+1 }:Rd.St).g=r.g):=Lib.hid hg2.out
        clear A8 X8 O8 AS XS OS AI
        go_wp2_with fail
        generalize (v8.setCell ⟨w.heap.size,3,none⟩ (.string q7.text)).setCell ⟨rb,1,none⟩ (.int .i64 ((r2.i:Int)+1))=WJ at AJ XI OI ⊢
        clear s3f s3c s1 s1f
        have hv:Hid (Rd.alternative L r left={ ({ r2 with i:=r2.i+1 }) with g:={ ({ r2 with i:=r2.i+1 }).g with rules:=({ r2 with i:=r2.i+1 }).g.rules++[⟨left,xl,m2.text,q7.text⟩] } }):=Lib.hid (alt_some H40.out hRv.out h3.out h4.out)
        have hlW:=AJ.out.lt
        have hlx:=XI.out.lt
        have hxl:=HL.out
        have cc6:∀ z:Wd WJ.heap.size WJ,z.w.cell? ⟨rb,6,none⟩=some (.slice ra r.g.rules.length rc):=fun z=>((bcell z.ok).1 _ _ hlW).trans AJ.out.R.cells.2.2.2.2.2.1
        have xx0:∀ z:Wd WJ.heap.size WJ,z.w.cell? ⟨w.heap.size,0,none⟩=some (.string left):=fun z=>((bcell z.ok).1 _ _ hlx).trans XI.out.cells.1
        have xx1:∀ z:Wd WJ.heap.size WJ,z.w.cell? ⟨w.heap.size,1,none⟩=some (.slice na xl.length nc):=fun z=>((bcell z.ok).1 _ _ hlx).trans XI.out.cells.2.1
        have xx2:∀ z:Wd WJ.heap.size WJ,z.w.cell? ⟨w.heap.size,2,none⟩=some (.string m2.text):=fun z=>((bcell z.ok).1 _ _ hlx).trans XI.out.cells.2.2.1
        have xx3:∀ z:Wd WJ.heap.size WJ,z.w.cell? ⟨w.heap.size,3,none⟩=some (.string q7.text):=fun z=>((bcell z.ok).1 _ _ hlx).trans XI.out.cells.2.2.2.1
        go_wp2_with fail
        refine region_fx 7 WJ.heap.size (fun c a d v w h=>by cases d<;>exact h) (Nat.le_refl _) (by kernel_rfl) (by kernel_rfl) ?_
        simp only [List.take_succ_cons,List.take_zero,List.drop_succ_cons,List.drop_zero]
        repeat (go_big_quiet_step (fail))
        refine wpQuiet_nil ?_
        intro z
        have A3:=Lib.hid (AJ.out.below z.ok)
        have O3:=Lib.hid (owns_below OI.out z.ok)
        clear cc6 xx0 xx1 xx2 xx3
        have hrz:=A3.out.lt
        generalize z.w=Z at A3 O3 hrz ⊢
        have hGZ:=(A3.out.alloc (.cells #[.string left,.slice na xl.length nc,.string m2.text,.string q7.text] 77)).G
        have hNs:Hid (NsM (Z.alloc (.cells #[.string left,.slice na xl.length nc,.string m2.text,.string q7.text] 77)) (rb+1) (.slice na xl.length nc) xl):=Lib.hid (NsM.of_owns (owns_base (O3.out.alloc _) (by omega)) rfl)
        obtain ⟨ns,hns,hl1,hl2⟩:=hGZ.r
        rw [HGJ.out] at hns hl1
        have hT:=Lib.hid hl1
        have HNS:=Lib.hid hns
        have HL2:=Lib.hid hl2
        clear hl1 hGZ hns hl2
        go_wp2_with (refine list_append_one rfl _ _ _ rfl 77 (rb+1) 4 72 elt_rule (.slice ra r.g.rules.length rc) r.g.rules.length (rlC r.g.rules ns) rfl hT.out ⟨Z.heap.size,0,none⟩ 1 [.string left,.slice na xl.length nc,.string m2.text,.string q7.text] rfl rfl (World.news_of_block (cs:=#[.string left,.slice na xl.length nc,.string m2.text,.string q7.text]) (t:=77) (fr:=(0,0)) (heap_alloc_new Z _)) (by simp [Value.oneCell']) (by unfold maxLen; omega) (by omega) (by simp; omega) ?_; intro gg gcap w4 hown hgrow hbg hlt4 hat4; have hR4:=rdb_grown (A3.out.alloc (.cells #[.string left,.slice na xl.length nc,.string m2.text,.string q7.text] 77)).R hT.out hgrow; have q2:=hR4.cells.2.2.2.2.2.1; have qf:=hR4.cells.2.2.2.2.2.2.2.2 6; have HE:=Lib.hid (addRule_end ⟨left,xl,m2.text,q7.text⟩ (A3.out.alloc (.cells #[.string left,.slice na xl.length nc,.string m2.text,.string q7.text] 77)) hrb HGJ.out hO.out hn40 (by simp only; omega) HNS.out hT.out HL2.out hNs.out hgrow hown); clear hR4 hown hgrow hat4)
        go_end0
        rw [hv.out]
        exact ⟨rfl,HE.out⟩
   case true =>
    have hx1:=HX1.out.cells.2.1
    have hm1:m0.kind=1:=by simpa using hk
    have hil:r'.i < L.length:=now_kind (by rw [← Hm0.out,hm1]; decide)
    have hff:=HF.out
    have hi':=HA1.out.ns
    obtain ⟨f,rfl⟩:∃ f,gk=f+1:=⟨gk - 1,by omega⟩
    have HK:Hid (((Rd.now L r').kind == 1)=true):=Lib.hid (by rw [← Hm0.out]; exact hk)
    clear hm1
    cases h8:((xl.length:Int) == 8)
    case true =>
     have hfu:=rights_full (k:=f) HK.out (x:=xl) (by rw [← beq8]; exact h8)
     have hv:Hid (Rd.alternative L r left=Rd.fail r' 3 m0.pos):=Lib.hid (by rw [alt_long H40.out (HR0.out.trans (HRn.out.symm.trans hfu.1)),HRE0.out,← HREn.out,hfu.2,← Hm0.out])
     have hnow:=now_any HA1.out.R
     rw [← Hm0.out] at hnow
     simp only [vMark] at hnow
     have hfl2:=fld_mark2 m0.kind m0.text m0.pos.line m0.pos.col
     clear hfu HRn HREn
     go_wp2_with fail
     refine hnow.mono ?_
     rintro e w2 ⟨rfl,hb2⟩
     have A1:=Lib.hid (HA1.out.below hb2)
     clear hb2 hnow hx1 hk HA1 HX1 HO1
     go_wp2_with fail
     refine (fail_any 3 m0.pos A1.out.R).mono ?_
     rintro e w3 ⟨rfl,hR,hu⟩
     have A2:=Lib.hid (A1.out.step hR hu (fail_g _ _ _))
     have hgf:=fail_g r' 3 m0.pos
     rw [← HG.out,← hgf] at hO
     have HGF:=Lib.hid hgf
     clear hR hu hgf
     go_wp2_with fail
     refine bodyPost_ret (results_none rfl _ _ _) rfl ⟨rfl,?_⟩
     rw [hv.out]
     exact A2.out.rs hO.out hrb
    case false =>
     have hst:=Lib.hid (rights_step (k:=f) HK.out (x:=xl) (by rw [← beq8]; exact h8))
     have hnow:=now_any (w:=w1.drew) (HA1.out.below (Below.refl _ _).drew).R
     rw [← Hm0.out] at hnow
     simp only [vMark] at hnow
     have hfl2:=fld_mark1 m0.kind m0.text m0.pos.line m0.pos.col
     have hxl:=HL.out
     have hx8:xl.length≠8:=by intro h; rw [h] at h8; exact absurd h8 (by decide)
     have hsn:Hid (strV (xl++[m0.text])=strV xl++[.string m0.text]):=Lib.hid (strV_snoc xl m0.text)
     have hzw:=HA1.out.K.size
     have hbl:=HX1.out.lt
     skip
     go_wp2_with fail
     go_region_law (first | (go_simp; go_at_call 84; refine hnow.mono ?_; rintro e w2 ⟨rfl,hb2⟩; have hb3:=(Below.refl w1.heap.size w1).drew.trans hb2; have hx2:=((bcell hb3).1 w.heap.size 1 hbl).trans hx1; have hsz2:=hb3.size; have hx3:(w2.alloc (.cells #[.string m0.text] 9)).cell? ⟨w.heap.size,1,none⟩=some (.slice na xl.length nc):=(World.cell?_alloc_past _ _ _ (by show w.heap.size < w2.heap.size; omega)).trans hx2) | (refine step_append_one (by rfl) _ _ _ (by rfl) 9 w.heap.size 1 16 elt_str (.slice na xl.length nc) xl.length (strV xl) (by rfl) ((owns_below HO1.out hb3).alloc _) ⟨w2.heap.size,0,none⟩ 1 [.string m0.text] (by rfl) (by rfl) (World.news_of_block (cs:=#[.string m0.text]) (t:=9) (fr:=(0,0)) (heap_alloc_new w2 _)) (by simp [Value.oneCell']) (by unfold maxLen; omega) (by omega) (by simp; omega) ?_; intro gg gcap w6 hown hgrow hbg hlt6 hat6; have HX6:=Lib.hid (((HX1.out.below hb3).below ((Below.refl _ _).alloc (Nat.le_refl _) (.cells #[.string m0.text] 9))).grown ((owns_below HO1.out hb3).alloc _) hgrow); have qx:=HX6.out.cells.2.1; have qxf:=HX6.out.cells.2.2.2.2 1))
     all_goals
      have HA6:=Lib.hid (((HA1.out.below hb3).alloc (.cells #[.string m0.text] 9)).app (by rw [HG.out]; exact G0.out) hrb ((owns_below HO1.out hb3).alloc _) hgrow)
      have HO6:=Lib.hid hown
      have HA7:=Lib.hid (HA6.out.set (by rw [HG.out]; exact G0.out) hrb ⟨w.heap.size,1,none⟩ (by simp) (.slice (some ⟨gg,0,none⟩) (xl.length+1) gcap))
      have HX7:=Lib.hid (HX6.out.set1 (.slice (some ⟨gg,0,none⟩) (xl.length+1) gcap))
      have HO7:=Lib.hid (owns_setR (k:=1) HO6.out HX6.out (.slice (some ⟨gg,0,none⟩) (xl.length+1) gcap))
      clear hown hgrow hat6 HA6 HX6 HO6 qx qxf hb2 hb3 hx3 hx2 hx1 hnow HA1 HX1 HO1 hfl hfl2 h8 hk
      generalize w6.setCell ⟨w.heap.size,1,none⟩ (.slice (some ⟨gg,0,none⟩) (xl.length+1) gcap)=W7 at HA7 HX7 HO7 ⊢
      obtain ⟨y1,y2,y3,y4,y5,y6,y7,y8,yf⟩:=HA7.out.R.cells
      have yf1:=yf 1
      clear y2 y3 y4 y5 y6 y7 y8 yf
      have HA8:=Lib.hid (HA7.out.setI hil)
      have HX8:=Lib.hid (HX7.out.upd HA8.out.2 (by omega))
      have HO8:=Lib.hid (owns_upd HO7.out HA8.out.2 hrb)
      go_wp2_with fail
      go_roundg f
      case measure=>omega
      case rel =>
       have hln:(xl++[m0.text]).length=xl.length+1:=by simp
       have hst2:=hst.out
       rw [← Hm0.out] at hst2
       exact ⟨{ r' with i:=r'.i+1 },xl++[m0.text],some ⟨gg,0,none⟩,gcap,Lib.hid (by rw [← hst2.1]; exact HRn.out),Lib.hid (by rw [← hst2.2]; exact HREn.out),Lib.hid HG.out,Lib.hid (by simp only; omega),Lib.hid (by rw [hln]; omega),Lib.hid HA8.out.1,by rw [hln]; exact HX8,by rw [hln,hsn.out]; exact HO8⟩
end Go.Proofs.YtjbggogbnckllaaDoor
