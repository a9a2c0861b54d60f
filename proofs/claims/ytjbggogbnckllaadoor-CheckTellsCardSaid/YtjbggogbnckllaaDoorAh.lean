/-
  The walk of the reference's reader: a grammar out of marks.
  The walk of the reference's reader: a grammar out of a text.
-/
import Derived.Test.YtjbggogbnckllaaDoorAt
import Derived.Deep.CutBlock
section
set_option maxRecDepth 100000
namespace Go.Proofs.YtjbggogbnckllaaDoor
open Go.RowKit
set_option linter.unusedVariables false
set_option linter.unusedSimpArgs false
def gZ:Array Value:=#[.slice none 0 0,.slice none 0 0,.slice none 0 0,.string ⟨#[]⟩,.slice none 0 0]
def dZ:Array Value:=#[.int .i64 0,.int .i64 0,.int .i64 0]
/-- The results' variables, the reader. -/
structure MS (w wr:World) (la:Option Addr) (lc:Nat) (L:List Lx.Mark) (r:Rd.St):Prop where
 g:wr.heap[w.heap.size]?=some (.cells gZ 74 (0,0))
 d:wr.heap[w.heap.size+1]?=some (.cells dZ 91 (0,0))
 r:RS wr (w.heap.size+1+1) la lc L r
 k:Below w.heap.size w wr
section
variable {w wr w':World} {la:Option Addr} {lc:Nat} {L:List Lx.Mark} {r r':Rd.St}
theorem MS.step (h:MS w wr la lc L r) (hr:RS w' (w.heap.size+1+1) la lc L r') (k:Below (w.heap.size+1+1) wr w'):MS w w' la lc L r' :=
 ⟨(k.block _ (by omega)).trans h.g,(k.block _ (by omega)).trans h.d,hr,h.k.trans (k.mono (by omega))⟩
theorem MS.up (h:MS w wr la lc L r) (hr:RS w' (w.heap.size+1+1) la lc L r') (k:Upd (w.heap.size+1+1) wr w'):MS w w' la lc L r':=h.step hr (k.low h.r.lt)
theorem MS.below (h:MS w wr la lc L r) (k:Below wr.heap.size wr w'):MS w w' la lc L r:=h.step (h.r.below k) (k.mono (by have:=h.r.lt; omega))
theorem MS.alloc (h:MS w wr la lc L r) (o:Obj):MS w (wr.alloc o) la lc L r:=h.below ((Below.refl _ _).alloc (Nat.le_refl _) _)
end
theorem RS.rules6 {w:World} {rb:Nat} {la:Option Addr} {lc:Nat} {L:List Lx.Mark} {r:Rd.St} (h:RS w rb la lc L r):∃ ra rc,w.cell? ⟨rb,6,none⟩=some (.slice ra r.g.rules.length rc):=by
 obtain ⟨ta,tc,sa,sc,lva,lvc,ra,rc,h0⟩:=h.at1
 exact ⟨ra,rc,h0.R.cells.2.2.2.2.2.1⟩
theorem alts_ok {L:List Lx.Mark} {left:ByteArray} {k:Nat} {r:Rd.St} (h:((Rd.alts L left k r).bad.code == 0)=true):(r.bad.code == 0)=true:=by
 cases hb:(r.bad.code == 0)
 ·rw [alts_stop hb] at h; rw [h] at hb; cases hb
 ·rfl
theorem take_okr {L:List Lx.Mark} {r:Rd.St} {k:Int} (h:((Rd.take L r k).2.bad.code == 0)=true):(r.bad.code == 0)=true:=by
 cases hb:(r.bad.code == 0)
 ·have:=take_bad (L:=L) (k:=k) hb; rw [h] at this; cases this
 ·rfl
theorem GM.grV {w:World} {B:Nat} {g:Rd.Gr} {ta sa lva ra:Option Addr} {tc sc lvc rc:Nat} (h:GM w B g (.slice ta g.toks.length tc) (.slice sa g.skips.length sc) (.slice lva g.levs.length lvc) (.slice ra g.rules.length rc)) :
  GrV w (.agg #[.slice ta g.toks.length tc,.slice sa g.skips.length sc,.slice lva g.levs.length lvc,.string g.start,.slice ra g.rules.length rc]) g :=
 ⟨ta,tc,sa,sc,lva,lvc,ra,rc,rfl,h.tkV,h.ptV,h.levV,h.rlV⟩
theorem NsM.base {w:World} {B B':Nat} {v:Value} {l:List ByteArray} (h:NsM w B v l) (hb:B'≤B):NsM w B' v l:=by
 obtain ⟨a,cap,e,h⟩:=h
 exact ⟨a,cap,e,fun i hi=>by obtain ⟨b,off,cs,e2,hbb,h3⟩:=h i hi; exact ⟨b,off,cs,e2,Nat.le_trans hb hbb,h3⟩⟩
theorem GM.base {w:World} {B B':Nat} {g:Rd.Gr} {tv sv lv rv:Value} (h:GM w B g tv sv lv rv) (hb:B'≤B):GM w B' g tv sv lv rv:=by
 obtain ⟨ns,hn,h1,h2⟩:=h.l
 obtain ⟨rs,hr,h3,h4⟩:=h.r
 exact ⟨owns_base h.t hb,owns_base h.s hb,⟨ns,hn,owns_base h1 hb,fun i hi hi'=>(h2 i hi hi').base hb⟩,⟨rs,hr,owns_base h3 hb,fun i hi hi'=>(h4 i hi hi').base hb⟩⟩
/-- A grammar's value, its rows among the blocks from B on. -/
def GrM (w:World) (B:Nat) (v:Value) (g:Rd.Gr):Prop:=∃ ta tc sa sc la lc ra rc,v=.agg #[.slice ta g.toks.length tc,.slice sa g.skips.length sc,.slice la g.levs.length lc,.string g.start,.slice ra g.rules.length rc] ∧
 GM w B g (.slice ta g.toks.length tc) (.slice sa g.skips.length sc) (.slice la g.levs.length lc) (.slice ra g.rules.length rc)
theorem GM.grM {w:World} {B B':Nat} {g:Rd.Gr} {ta sa lva ra:Option Addr} {tc sc lvc rc:Nat} (h:GM w B g (.slice ta g.toks.length tc) (.slice sa g.skips.length sc) (.slice lva g.levs.length lvc) (.slice ra g.rules.length rc)) (hb:B'≤B) :
  GrM w B' (.agg #[.slice ta g.toks.length tc,.slice sa g.skips.length sc,.slice lva g.levs.length lvc,.string g.start,.slice ra g.rules.length rc]) g :=
 ⟨ta,tc,sa,sc,lva,lvc,ra,rc,rfl,h.base hb⟩
theorem GrM.grV {w:World} {B:Nat} {v:Value} {g:Rd.Gr} (h:GrM w B v g):GrV w v g:=by
 obtain ⟨ta,tc,sa,sc,la,lc,ra,rc,rfl,h⟩:=h
 exact h.grV
theorem GrM.zero (w:World) (B:Nat):GrM w B (.agg #[.slice none 0 0,.slice none 0 0,.slice none 0 0,.string ⟨#[]⟩,.slice none 0 0]) Rd.gr0 :=
 ⟨none,0,none,0,none,0,none,0,rfl,GM.zero w B⟩
theorem GM.setRows {w:World} {B b c:Nat} {g:Rd.Gr} {tv sv lv rv:Value} {x y:Array Value} (h:GM w B g tv sv lv rv) (hb:b < B) (hc:c < B):GM ((w.setRow b x).setRow c y) B g tv sv lv rv :=
 h.keeps (p:=fun k=>k=b∨k=c) ⟨by simp,fun k hk hn=>(setRow_other _ _ _ _ (fun e=>hn (.inr e))).trans (setRow_other _ _ _ _ (fun e=>hn (.inl e)))⟩ fun k hk _ hn=>by rcases hn with rfl | rfl<;>omega
theorem RdB.cells2 {w:World} {rb:Nat} {la:Option Addr} {lc:Nat} {L:List Lx.Mark} {r:Rd.St} {tv sv lv rv:Value} (h:RdB w rb la lc L r tv sv lv rv) :
  w.cell? ⟨rb,9,none⟩=some (.int .i64 r.bad.line)∧w.cell? ⟨rb,10,none⟩=some (.int .i64 r.bad.col) :=
 ⟨by rw [cell_of_row _ _ _ _ _ _ h.blk]; rfl,by rw [cell_of_row _ _ _ _ _ _ h.blk]; rfl⟩
theorem low_rows {w W:World} {b c:Nat} {x y:Array Value} (h:Below w.heap.size w W) (hb:w.heap.size≤b) (hc:w.heap.size≤c):Below w.heap.size w ((W.setRow b x).setRow c y) :=
 h.trans ⟨rfl,rfl,rfl,by simp,fun i hi=>(setRow_other _ _ _ _ (by omega)).trans (setRow_other _ _ _ _ (by omega))⟩
theorem head0 (l:List Rd.Rul) (h:0 < l.length) (d:Rd.Rul):l[0].left=(l.headD d).left:=by
 cases l with
 | nil=>exact absurd h (Nat.not_lt_zero _)
 | cons p l=>rfl
theorem gram_size:(Tryd.prog.info? 74).map (·.size)=some 5:=by kernel_rfl
theorem diag_size:(Tryd.prog.info? 91).map (·.size)=some 3:=by kernel_rfl
set_option maxRecDepth 100000 in
set_option maxHeartbeats 32000000 in
theorem marks_any {w:World} {la:Option Addr} {lc:Nat} {L:List Lx.Mark} (hm:Mks w la L) (hn:L.length≤5000) (hmb:∀ b off,la=some ⟨b,off,none⟩→b < w.heap.size) :
  Calls Tryd.prog 72 #[.slice la L.length lc] w fun e w'=>∃ v,e=.returned (.tuple #[v,vDiag (Rd.marks L).2])∧GrM w' w.heap.size v (Rd.marks L).1∧GrOk (Rd.marks L).1∧Below w.heap.size w w':=by
 have hb1:=(Below.refl w.heap.size w).alloc (Nat.le_refl _) (.cells gZ 74)
 have hb2:=hb1.alloc (by simp) (.cells dZ 91)
 have hb3:=hb2.alloc (by simp; omega) (.cells #[.slice la L.length lc,.int .i64 0,.slice none 0 0,.slice none 0 0,.slice none 0 0,.string ⟨#[]⟩,.slice none 0 0,.bool false,.int .i64 0,.int .i64 0,.int .i64 0] 143)
 have hz:((w.alloc (.cells gZ 74)).alloc (.cells dZ 91)).heap.size=w.heap.size+1+1:=by simp
 have HS:MS w (((w.alloc (.cells gZ 74)).alloc (.cells dZ 91)).alloc (.cells #[.slice la L.length lc,.int .i64 0,.slice none 0 0,.slice none 0 0,.slice none 0 0,.string ⟨#[]⟩,.slice none 0 0,.bool false,.int .i64 0,.int .i64 0,.int .i64 0] 143)) la lc L st0:=by
  refine ⟨?_,?_,⟨⟨_,_,_,_,⟨?_,hm.below hb3,Nat.zero_le _,hn,fun b off e=>by have:=hmb b off e; omega⟩,GM.zero _ _⟩,grOk0⟩,hb3⟩
  ·exact (Below.heap_alloc _ _ _ (by simp; omega)).trans ((Below.heap_alloc _ _ _ (by simp)).trans (heap_alloc_new _ _))
  ·have:=heap_alloc_new (w.alloc (.cells gZ 74)) (.cells dZ 91)
   have e:(w.alloc (.cells gZ 74)).heap.size=w.heap.size+1:=by simp
   rw [e] at this
   exact (Below.heap_alloc _ _ _ (by simp)).trans this
  ·have:=heap_alloc_new ((w.alloc (.cells gZ 74)).alloc (.cells dZ 91)) (.cells #[.slice la L.length lc,.int .i64 0,.slice none 0 0,.slice none 0 0,.slice none 0 0,.string ⟨#[]⟩,.slice none 0 0,.bool false,.int .i64 0,.int .i64 0,.int .i64 0] 143)
   rw [hz] at this
   exact this
 have H0:=Lib.hid HS
 clear HS hb1 hb2 hb3 hm hmb
 unfold gZ dZ at H0
 go_enter Tryd.func72,Tryd.ntmps72
 go_upto_block 0 with fail
 generalize ((w.alloc (.cells #[.slice none 0 0,.slice none 0 0,.slice none 0 0,.string ⟨#[]⟩,.slice none 0 0] 74)).alloc (.cells #[.int .i64 0,.int .i64 0,.int .i64 0] 91)).alloc (.cells #[.slice la L.length lc,.int .i64 0,.slice none 0 0,.slice none 0 0,.slice none 0 0,.string ⟨#[]⟩,.slice none 0 0,.bool false,.int .i64 0,.int .i64 0,.int .i64 0] 143)=W0 at H0 ⊢
 obtain ⟨R,hR⟩:∃ R,Rd.heads L (L.length+2) st0=R:=⟨_,rfl⟩
 have HR:=Lib.hid hR
 have hmk:Hid (Rd.marks L=(let r:=Rd.rules L (L.length+2) R; if !Rd.ok r then (Rd.gr0,r.bad) else if !r.start then ({ r.g with start:=(r.g.rules.headD ⟨Rd.E,[],Rd.E,Rd.E⟩).left },⟨0,0,0⟩) else (r.g,⟨0,0,0⟩))):=Lib.hid (by rw [← hR]; rfl)
 clear hR
 go_cut [] from 5 (fun wr=>Hid (MS w wr la lc L R))
 case first =>
  go_wp2_with fail
  go_loopg [] (L.length+2) (fun k wr=>∃ r:Rd.St,Hid (Rd.heads L k r=R)∧Hid ((r.bad.code == 0)=true→L.length+2≤r.i+k)∧Hid (MS w wr la lc L r))
  case atStart=>exact ⟨st0,HR,Lib.hid (fun _=>by simp [st0]),H0⟩
  case round =>
   clear HR H0
   obtain ⟨r,HRn,HF,HM⟩:=hrel
   obtain ⟨c1,c8,cf⟩:=HM.out.r.cells
   clear c1 cf
   cases hb:(r.bad.code == 0)
   case false =>
    have hv:Hid (R=r):=Lib.hid (HRn.out.symm.trans (heads_stop hb))
    go_wp2_with fail
    go_meet
    case rel=>rw [hv.out]; exact HM
   case true =>
    have hff:=HF.out hb
    have hns:=HM.out.r.ns
    obtain ⟨f,rfl⟩:∃ f,gk=f+1:=⟨gk - 1,by omega⟩
    have HB:=Lib.hid hb
    obtain ⟨m,hm0⟩:∃ m,m=Rd.now L r:=⟨_,rfl⟩
    have hnow:=now_rs HM.out.r
    rw [← hm0] at hnow
    simp only [vMark] at hnow
    have Hm:=Lib.hid hm0
    clear hm0
    go_wp2_with fail
    refine hnow.mono ?_
    rintro e w1 ⟨rfl,hb1⟩
    have HM1:=Lib.hid ((HM.out.below hb1).alloc (.cells #[.int .i64 m.kind,.string m.text,.int .i64 m.pos.line,.int .i64 m.pos.col] 140))
    have HK1:=Lib.hid (MkB.new w1 m)
    have hzz:w.heap.size+1+1 < w1.heap.size:=Nat.lt_of_lt_of_le HM.out.r.lt hb1.size
    clear hb1 hnow c8 HM
    cases h2:(m.kind != 2)
    case true =>
     have hv:Hid (R=Rd.fail r 14 m.pos):=Lib.hid (by rw [← HRn.out,heads_fail HB.out (by rw [← Hm.out]; exact h2),← Hm.out])
     have hfa:=fail_rs 14 m.pos HM1.out.r
     go_wp2_with fail
     refine hfa.mono ?_
     rintro e w2 ⟨rfl,hr2,hu2⟩
     have HM2:=Lib.hid (HM1.out.up hr2 hu2)
     clear hfa hr2 hu2
     go_wp2_with fail
     go_meet
     case rel=>rw [hv.out]; exact HM2
    case false =>
     have h2':m.kind=2:=by simpa using h2
     have hil:r.i < L.length:=now_kind (by rw [← Hm.out,h2']; decide)
     have H2:Hid (((Rd.now L r).kind != 2)=false):=Lib.hid (by rw [← Hm.out]; exact h2)
     clear h2'
     generalize hW1:w1.alloc (.cells #[.int .i64 m.kind,.string m.text,.int .i64 m.pos.line,.int .i64 m.pos.col] 140)=W1 at HM1 HK1
     obtain ⟨c1,c8,cf⟩:=HM1.out.r.cells
     have cf1:=cf 1
     obtain ⟨d0,d1,d2,d3⟩:=HK1.out.cells
     have hse:=HM1.out.r.setI hil
     have HM2:=Lib.hid (HM1.out.up hse.1 hse.2)
     have HK2:=Lib.hid (HK1.out.upd hse.2 (by omega))
     clear cf hse c8
     cases h3:(m.text.toList == [37])
     case true =>
      have h3':Lx.eqS (Rd.now L r).text Rd.wPer=true:=by rw [← Hm.out,eqS_toList]; unfold Rd.wPer; rw [lit_per]; exact h3
      have hv:Hid (R={ r with i:=r.i+1 }):=Lib.hid (by rw [← HRn.out,heads_end HB.out H2.out h3'])
      clear h3'
      go_wp2_with fail
      go_meet
      case rel=>rw [hv.out]; exact HM2
     case false =>
      have h3':Lx.eqS (Rd.now L r).text Rd.wPer=false:=by rw [← Hm.out,eqS_toList]; unfold Rd.wPer; rw [lit_per]; exact h3
      have hst:=Lib.hid (heads_step (k:=f) HB.out H2.out h3')
      have hge:=Lib.hid (declaration_ge L { r with i:=r.i+1 } m)
      clear h3'
      go_wp2_with fail
      refine (declaration_any m HM2.out.r).mono ?_
      rintro e w3 ⟨rfl,hr3,hk3⟩
      have HM3:=Lib.hid (HM2.out.step hr3 hk3)
      clear hr3 hk3
      go_wp2_with fail
      go_roundg f
      case measure=>omega
      case rel=>exact ⟨Rd.declaration L { r with i:=r.i+1 } m,Lib.hid (by have:=hst.out; rw [← Hm.out] at this; rw [← this]; exact HRn.out),Lib.hid (fun h=>by have:=hge.out; omega),HM3⟩
 case rest =>
  have H1:=hcut
  clear hcut H0 HR
  go_upto_block 2 with fail
  obtain ⟨R2,hR2⟩:∃ R2,Rd.rules L (L.length+2) R=R2:=⟨_,rfl⟩
  have HR2:=Lib.hid hR2
  have HR2':=Lib.hid hR2
  clear hR2
  go_cut [] from 5 (fun wr=>Hid (MS w wr la lc L R2)∧Hid ((R2.bad.code == 0)=true→R2.g.rules.length≠0))
  case first =>
   go_wp2_with fail
   go_loopg [] (L.length+2) (fun k wr=>∃ r:Rd.St,Hid (Rd.rules L k r=R2)∧Hid ((r.bad.code == 0)=true→L.length+2≤r.i+k)∧Hid (MS w wr la lc L r))
   case atStart=>exact ⟨R,HR2,Lib.hid (fun _=>by omega),H1⟩
   case round =>
    clear HR2 H1
    obtain ⟨r,HRn,HF,HM⟩:=hrel
    obtain ⟨c1,c8,cf⟩:=HM.out.r.cells
    obtain ⟨ra,rc,c6⟩:=HM.out.r.rules6
    clear c1 cf
    cases hb:(r.bad.code == 0)
    case false =>
     have hv:Hid (R2=r):=Lib.hid (HRn.out.symm.trans (rules_stop hb))
     have HB:=Lib.hid hb
     go_wp2_with fail
     go_meet
     case rel=>exact ⟨by rw [hv.out]; exact HM,Lib.hid (fun h=>by rw [hv.out,HB.out] at h; cases h)⟩
    case true =>
     have hff:=HF.out hb
     have hns:=HM.out.r.ns
     obtain ⟨f,rfl⟩:∃ f,gk=f+1:=⟨gk - 1,by omega⟩
     have HB:=Lib.hid hb
     cases hr0:((r.g.rules.length:Int) == 0)
     case true =>
      have hstep:Hid ((r.g.rules.length == 0)=true∨((Rd.now L r).kind != 0)=true):=Lib.hid (.inl (by rw [← beq0]; exact hr0))
      obtain ⟨m1,hm1⟩:∃ m1,m1=(Rd.take L r 1).1:=⟨_,rfl⟩
      obtain ⟨r1,hr1⟩:∃ r1,r1=(Rd.take L r 1).2:=⟨_,rfl⟩
      obtain ⟨r2,hr2⟩:∃ r2,r2=(Rd.take L r1 6).2:=⟨_,rfl⟩
      obtain ⟨m2,hm2⟩:∃ m2,m2=(Rd.take L r1 6).1:=⟨_,rfl⟩
      have hst:=Lib.hid (rules_step (k:=f) HB.out hstep.out hm1 hr1 hr2)
      have hti:Hid ((r2.bad.code == 0)=true→r.i+1≤r2.i):=Lib.hid (fun h=>by
       have h1:(r1.bad.code == 0)=true:=by rw [hr2] at h; exact take_okr h
       have h2:=take_ok (by rw [hr1] at h1; exact h1) HB.out
       have h3:=take_ge L r1 6
       rw [← hr2] at h3
       rw [← hr1] at h2
       omega)
      have htk:=take_rs 1 (by decide) HM.out.r
      rw [← hm1,← hr1] at htk
      simp only [vMark] at htk
      have hfm:=fld_mark1 m1.kind m1.text m1.pos.line m1.pos.col
      have Hr2:=Lib.hid hr2
      have Hm2:=Lib.hid hm2
      clear hm1 hr1 hr2 hm2
      go_wp2_with fail
      refine htk.mono ?_
      rintro e w2 ⟨rfl,hq2,hu2⟩
      have HM2:=Lib.hid (HM.out.up hq2 hu2)
      have htk2:=take_rs 6 (by decide) HM2.out.r
      rw [← Hm2.out,← Hr2.out] at htk2
      simp only [vMark] at htk2
      clear htk hq2 hu2
      go_wp2_with fail
      refine htk2.mono ?_
      rintro e w3 ⟨rfl,hq3,hu3⟩
      have HM3:=Lib.hid (HM2.out.up hq3 hu3)
      clear htk2 hq3 hu3 HM2
      obtain ⟨RA,hRA⟩:∃ RA,Rd.alts L m1.text (L.length+1) r2=RA:=⟨_,rfl⟩
      have HRA:=Lib.hid hRA
      have HRA0:=Lib.hid hRA
      clear hRA
      go_wp2_with fail
      go_loopg [] (L.length+1) (fun k wr=>∃ q:Rd.St,Hid (Rd.alts L m1.text k q=RA)∧Hid ((q.bad.code == 0)=true→L.length+1≤q.i+k)∧Hid (MS w wr la lc L q))
      case atStart=>exact ⟨r2,HRA,Lib.hid (fun _=>by omega),HM3⟩
      case round =>
       clear HRA HM3
       obtain ⟨q,HQn,HQF,HQ⟩:=hrel
       obtain ⟨b1,b8,bf⟩:=HQ.out.r.cells
       clear b1 bf
       cases hqb:(q.bad.code == 0)
       case false =>
        have hv:Hid (RA=q):=Lib.hid (HQn.out.symm.trans (alts_stop hqb))
        go_wp2_with fail
        go_roundg f
        case measure=>omega
        case rel=>exact ⟨RA,Lib.hid (by have:=hst.out; rw [HRA0.out] at this; rw [← this]; exact HRn.out),Lib.hid (fun h=>by have h2:=alts_ok (L:=L) (left:=m1.text) (k:=L.length+1) (r:=r2) (by rw [HRA0.out]; exact h); have h3:=hti.out h2; have h4:=alts_ge L m1.text (L.length+1) r2; rw [HRA0.out] at h4; omega),by rw [hv.out]; exact HQ⟩
       case true =>
        have hqf:=HQF.out hqb
        have hqn:=HQ.out.r.ns
        obtain ⟨k,rfl⟩:∃ k,gk=k+1:=⟨gk - 1,by omega⟩
        have HQB:=Lib.hid hqb
        go_wp2_with fail
        refine (alternative_any m1.text HQ.out.r).mono ?_
        rintro e w4 ⟨rfl,hq4,hk4⟩
        have HQ4:=Lib.hid (HQ.out.step hq4 hk4)
        have hge:=Lib.hid (alternative_ge L q m1.text)
        obtain ⟨q3,hq3⟩:∃ q3,q3=Rd.alternative L q m1.text:=⟨_,rfl⟩
        obtain ⟨m3,hm3⟩:∃ m3,m3=Rd.now L q3:=⟨_,rfl⟩
        rw [← hq3] at HQ4 hge
        have hnow3:=now_rs HQ4.out.r
        rw [← hm3] at hnow3
        simp only [vMark] at hnow3
        have hfl3:=fld_mark0 m3.kind m3.text m3.pos.line m3.pos.col
        have Hm3:=Lib.hid hm3
        have Hq3:=Lib.hid hq3
        clear hq4 hk4 hm3 hq3 b8 HQ
        go_wp2_with fail
        refine hnow3.mono ?_
        rintro e w5 ⟨rfl,hb5⟩
        have HQ5:=Lib.hid (HQ4.out.below hb5)
        clear hb5 hnow3 HQ4
        cases h7:(m3.kind != 7)
        case true =>
         have hv:Hid (RA=(Rd.take L q3 8).2):=Lib.hid (by rw [← HQn.out,alts_end HQB.out (by rw [← Hq3.out,← Hm3.out]; exact h7),← Hq3.out])
         have htk8:=take_rs 8 (by decide) HQ5.out.r
         rw [← hv.out] at htk8
         obtain ⟨m8,hm8⟩:∃ m8,m8=(Rd.take L q3 8).1:=⟨_,rfl⟩
         rw [← hm8] at htk8
         simp only [vMark] at htk8
         clear hm8
         go_wp2_with fail
         refine htk8.mono ?_
         rintro e w6 ⟨rfl,hq6,hu6⟩
         have HQ6:=Lib.hid (HQ5.out.up hq6 hu6)
         clear hq6 hu6 htk8
         go_wp2_with fail
         go_roundg f
         case measure=>omega
         case rel=>exact ⟨RA,Lib.hid (by have:=hst.out; rw [HRA0.out] at this; rw [← this]; exact HRn.out),Lib.hid (fun h=>by have h2:=alts_ok (L:=L) (left:=m1.text) (k:=L.length+1) (r:=r2) (by rw [HRA0.out]; exact h); have h3:=hti.out h2; have h4:=alts_ge L m1.text (L.length+1) r2; rw [HRA0.out] at h4; omega),HQ6⟩
        case false =>
         have h7':m3.kind=7:=by simpa using h7
         have hil:q3.i < L.length:=now_kind (by rw [← Hm3.out,h7']; decide)
         have hst3:=Lib.hid (alts_step (k:=k) HQB.out (left:=m1.text) (by rw [← Hq3.out,← Hm3.out]; exact h7))
         obtain ⟨y1,y8,yf⟩:=HQ5.out.r.cells
         have yf1:=yf 1
         have hse:=HQ5.out.r.setI hil
         have HQ6:=Lib.hid (HQ5.out.up hse.1 hse.2)
         clear y8 yf hse h7'
         go_wp2_with fail
         go_roundg k
         case measure=>omega
         case rel=>exact ⟨{ q3 with i:=q3.i+1 },Lib.hid (by have:=hst3.out; rw [← Hq3.out] at this; rw [← this]; exact HQn.out),Lib.hid (fun h=>by have:=hge.out; show L.length+1≤(q3.i+1)+k; omega),HQ6⟩
     case false =>
      have HR0:Hid ((r.g.rules.length == 0)=false):=Lib.hid (by rw [← beq0]; exact hr0)
      obtain ⟨m,hm0⟩:∃ m,m=Rd.now L r:=⟨_,rfl⟩
      have hnow:=now_rs HM.out.r
      rw [← hm0] at hnow
      simp only [vMark] at hnow
      have hfl:=fld_mark0 m.kind m.text m.pos.line m.pos.col
      have Hm:=Lib.hid hm0
      clear hm0
      go_wp2_with fail
      refine hnow.mono ?_
      rintro e w1 ⟨rfl,hb1⟩
      have HM1:=Lib.hid (HM.out.below hb1)
      clear hb1 hnow c8 c6 HM
      cases h2:(m.kind != 0)
      case false =>
       have hv:Hid (R2=r):=Lib.hid (HRn.out.symm.trans (rules_end HR0.out (by rw [← Hm.out]; exact h2)))
       go_wp2_with fail
       go_meet
       case rel=>exact ⟨by rw [hv.out]; exact HM1,Lib.hid (fun h e=>by rw [hv.out] at e; have:=HR0.out; rw [e] at this; cases this)⟩
      case true =>
       have hstep:Hid ((r.g.rules.length == 0)=true∨((Rd.now L r).kind != 0)=true):=Lib.hid (.inr (by rw [← Hm.out]; exact h2))
       obtain ⟨m1,hm1⟩:∃ m1,m1=(Rd.take L r 1).1:=⟨_,rfl⟩
       obtain ⟨r1,hr1⟩:∃ r1,r1=(Rd.take L r 1).2:=⟨_,rfl⟩
       obtain ⟨r2,hr2⟩:∃ r2,r2=(Rd.take L r1 6).2:=⟨_,rfl⟩
       obtain ⟨m2,hm2⟩:∃ m2,m2=(Rd.take L r1 6).1:=⟨_,rfl⟩
       have hst:=Lib.hid (rules_step (k:=f) HB.out hstep.out hm1 hr1 hr2)
       have hti:Hid ((r2.bad.code == 0)=true→r.i+1≤r2.i):=Lib.hid (fun h=>by
        have h1:(r1.bad.code == 0)=true:=by rw [hr2] at h; exact take_okr h
        have h2:=take_ok (by rw [hr1] at h1; exact h1) HB.out
        have h3:=take_ge L r1 6
        rw [← hr2] at h3
        rw [← hr1] at h2
        omega)
       have htk:=take_rs 1 (by decide) HM1.out.r
       rw [← hm1,← hr1] at htk
       simp only [vMark] at htk
       have hfm:=fld_mark1 m1.kind m1.text m1.pos.line m1.pos.col
       have Hr2:=Lib.hid hr2
       have Hm2:=Lib.hid hm2
       clear hm1 hr1 hr2 hm2
       go_wp2_with fail
       refine htk.mono ?_
       rintro e w2 ⟨rfl,hq2,hu2⟩
       have HM2:=Lib.hid (HM1.out.up hq2 hu2)
       have htk2:=take_rs 6 (by decide) HM2.out.r
       rw [← Hm2.out,← Hr2.out] at htk2
       simp only [vMark] at htk2
       clear htk hq2 hu2
       go_wp2_with fail
       refine htk2.mono ?_
       rintro e w3 ⟨rfl,hq3,hu3⟩
       have HM3:=Lib.hid (HM2.out.up hq3 hu3)
       clear htk2 hq3 hu3 HM2
       obtain ⟨RA,hRA⟩:∃ RA,Rd.alts L m1.text (L.length+1) r2=RA:=⟨_,rfl⟩
       have HRA:=Lib.hid hRA
       have HRA0:=Lib.hid hRA
       clear hRA
       go_wp2_with fail
       go_loopg [] (L.length+1) (fun k wr=>∃ q:Rd.St,Hid (Rd.alts L m1.text k q=RA)∧Hid ((q.bad.code == 0)=true→L.length+1≤q.i+k)∧Hid (MS w wr la lc L q))
       case atStart=>exact ⟨r2,HRA,Lib.hid (fun _=>by omega),HM3⟩
       case round =>
        clear HRA HM3
        obtain ⟨q,HQn,HQF,HQ⟩:=hrel
        obtain ⟨b1,b8,bf⟩:=HQ.out.r.cells
        clear b1 bf
        cases hqb:(q.bad.code == 0)
        case false =>
         have hv:Hid (RA=q):=Lib.hid (HQn.out.symm.trans (alts_stop hqb))
         go_wp2_with fail
         go_roundg f
         case measure=>omega
         case rel=>exact ⟨RA,Lib.hid (by have:=hst.out; rw [HRA0.out] at this; rw [← this]; exact HRn.out),Lib.hid (fun h=>by have h2:=alts_ok (L:=L) (left:=m1.text) (k:=L.length+1) (r:=r2) (by rw [HRA0.out]; exact h); have h3:=hti.out h2; have h4:=alts_ge L m1.text (L.length+1) r2; rw [HRA0.out] at h4; omega),by rw [hv.out]; exact HQ⟩
        case true =>
         have hqf:=HQF.out hqb
         have hqn:=HQ.out.r.ns
         obtain ⟨k,rfl⟩:∃ k,gk=k+1:=⟨gk - 1,by omega⟩
         have HQB:=Lib.hid hqb
         go_wp2_with fail
         refine (alternative_any m1.text HQ.out.r).mono ?_
         rintro e w4 ⟨rfl,hq4,hk4⟩
         have HQ4:=Lib.hid (HQ.out.step hq4 hk4)
         have hge:=Lib.hid (alternative_ge L q m1.text)
         obtain ⟨q3,hq3⟩:∃ q3,q3=Rd.alternative L q m1.text:=⟨_,rfl⟩
         obtain ⟨m3,hm3⟩:∃ m3,m3=Rd.now L q3:=⟨_,rfl⟩
         rw [← hq3] at HQ4 hge
         have hnow3:=now_rs HQ4.out.r
         rw [← hm3] at hnow3
         simp only [vMark] at hnow3
         have hfl3:=fld_mark0 m3.kind m3.text m3.pos.line m3.pos.col
         have Hm3:=Lib.hid hm3
         have Hq3:=Lib.hid hq3
         clear hq4 hk4 hm3 hq3 b8 HQ
         go_wp2_with fail
         refine hnow3.mono ?_
         rintro e w5 ⟨rfl,hb5⟩
         have HQ5:=Lib.hid (HQ4.out.below hb5)
         clear hb5 hnow3 HQ4
         cases h7:(m3.kind != 7)
         case true =>
          have hv:Hid (RA=(Rd.take L q3 8).2):=Lib.hid (by rw [← HQn.out,alts_end HQB.out (by rw [← Hq3.out,← Hm3.out]; exact h7),← Hq3.out])
          have htk8:=take_rs 8 (by decide) HQ5.out.r
          rw [← hv.out] at htk8
          obtain ⟨m8,hm8⟩:∃ m8,m8=(Rd.take L q3 8).1:=⟨_,rfl⟩
          rw [← hm8] at htk8
          simp only [vMark] at htk8
          clear hm8
          go_wp2_with fail
          refine htk8.mono ?_
          rintro e w6 ⟨rfl,hq6,hu6⟩
          have HQ6:=Lib.hid (HQ5.out.up hq6 hu6)
          clear hq6 hu6 htk8
          go_wp2_with fail
          go_roundg f
          case measure=>omega
          case rel=>exact ⟨RA,Lib.hid (by have:=hst.out; rw [HRA0.out] at this; rw [← this]; exact HRn.out),Lib.hid (fun h=>by have h2:=alts_ok (L:=L) (left:=m1.text) (k:=L.length+1) (r:=r2) (by rw [HRA0.out]; exact h); have h3:=hti.out h2; have h4:=alts_ge L m1.text (L.length+1) r2; rw [HRA0.out] at h4; omega),HQ6⟩
         case false =>
          have h7':m3.kind=7:=by simpa using h7
          have hil:q3.i < L.length:=now_kind (by rw [← Hm3.out,h7']; decide)
          have hst3:=Lib.hid (alts_step (k:=k) HQB.out (left:=m1.text) (by rw [← Hq3.out,← Hm3.out]; exact h7))
          obtain ⟨y1,y8,yf⟩:=HQ5.out.r.cells
          have yf1:=yf 1
          have hse:=HQ5.out.r.setI hil
          have HQ6:=Lib.hid (HQ5.out.up hse.1 hse.2)
          clear y8 yf hse h7'
          go_wp2_with fail
          go_roundg k
          case measure=>omega
          case rel=>exact ⟨{ q3 with i:=q3.i+1 },Lib.hid (by have:=hst3.out; rw [← Hq3.out] at this; rw [← this]; exact HQn.out),Lib.hid (fun h=>by have:=hge.out; show L.length+1≤(q3.i+1)+k; omega),HQ6⟩
  case rest =>
   obtain ⟨HM,HRL⟩:=hcut
   clear HR2 H1
   have hmk2:=hmk.out
   simp only at hmk2
   rw [HR2'.out] at hmk2
   obtain ⟨ta,tc,sa,sc,lva,lvc,ra,rc,hA⟩:=HM.out.r.at1
   have HA:=Lib.hid hA
   have hO:=Lib.hid HM.out.r.ok
   have hlt:=HM.out.r.lt
   obtain ⟨c1,c2,c3,c4,c5,c6,c7,c8,cf⟩:=hA.R.cells
   obtain ⟨c9,c10⟩:=hA.R.cells2
   clear hA c1
   have hm1:=Lib.hid hmk2
   clear hmk2
   cases hb:(R2.bad.code == 0)
   case false =>
    have hv:Hid (Rd.marks L=(Rd.gr0,R2.bad)):=Lib.hid (by rw [hm1.out,Rd.ok,hb]; rfl)
    have hbn:(R2.bad.code != 0)=true:=by simpa using hb
    have z8:∀ z:Wq (fun k=>k=w.heap.size+1+1) wc,z.w.cell? ⟨w.heap.size+1+1,8,none⟩=some (.int .i64 R2.bad.code):=fun z=>z.cell rfl c8
    have z9:∀ z:Wq (fun k=>k=w.heap.size+1+1) wc,z.w.cell? ⟨w.heap.size+1+1,9,none⟩=some (.int .i64 R2.bad.line):=fun z=>z.cell rfl c9
    have z10:∀ z:Wq (fun k=>k=w.heap.size+1+1) wc,z.w.cell? ⟨w.heap.size+1+1,10,none⟩=some (.int .i64 R2.bad.col):=fun z=>z.cell rfl c10
    go_wp2_with fail
    refine region_gq [0,1,2,3,4] [5,6] 1 119 (fun k=>k=w.heap.size+1+1) ?_ (fun c a d v w h=>by cases d<;>exact h) (by kernel_rfl) (by kernel_rfl) (by rfl) ?_ ?_
    rotate_left
    ·intro z
     simp only [pickL,List.getElem?_cons_zero,List.getElem?_cons_succ]
     repeat (go_big_quiet_step (fail))
     refine wpQuiet_nil ?_
     exact rfl
    simp only [pickL,List.getElem?_cons_zero,List.getElem?_cons_succ]
    have hg0:wc.drew.heap[w.heap.size]?=some (.cells gZ 74 (0,0)):=HM.out.g
    have hd0:(wc.drew.setRow w.heap.size #[.slice none 0 0,.slice none 0 0,.slice none 0 0,.string ⟨#[]⟩,.slice none 0 0]).heap[w.heap.size+1]?=some (.cells dZ 91 (0,0)):=(setRow_other _ _ _ _ (by omega)).trans HM.out.d
    refine listE_store_row rfl 74 _ _ rfl w.heap.size rfl _ rfl _ 74 hg0 rfl gram_size (by simp [Value.oneCell']) ⟨⟨wc.drew.setRow w.heap.size _,by simp,fun k _ hk=>setRow_other _ _ _ _ (by omega)⟩,rfl⟩ ?_
    change wpList _ _ _ _ _ _
    refine list_store_row rfl 91 _ _ rfl (w.heap.size+1) rfl _ rfl _ 91 hd0 rfl diag_size (by simp [Value.oneCell']) ?_
    clear z8 z9 z10 c2 c3 c4 c5 c6 c7 c8 c9 c10 cf
    go_wp2_with fail
    exact bodyPost_ret (results_rows2 rfl _ _ w.heap.size 74 #[.slice none 0 0,.slice none 0 0,.slice none 0 0,.string ⟨#[]⟩,.slice none 0 0] (0,0) _ rfl ((setRow_other _ _ _ _ (by omega)).trans (setRow_heap _ _ _ _ _ _ hg0)) Tryd.underlying74 rfl gram_size (w.heap.size+1) 91 #[.int .i64 R2.bad.code,.int .i64 R2.bad.line,.int .i64 R2.bad.col] (0,0) _ rfl (setRow_heap _ _ _ _ _ _ hd0) Tryd.underlying91 rfl diag_size) rfl ⟨_,by rw [hv.out]; first | done | rfl,by rw [hv.out]; exact GrM.zero _ _,by rw [hv.out]; exact grOk0,low_rows (HM.out.k.drew) (by omega) (by omega)⟩
   case true =>
    have hbn:(R2.bad.code != 0)=false:=by simpa using hb
    have hrl:=Lib.hid (HRL.out hb)
    have HB:=Lib.hid hb
    cases hs:R2.start
    case true =>
     rw [hs] at c7
     have hv:Hid (Rd.marks L=(R2.g,⟨0,0,0⟩)):=Lib.hid (by rw [hm1.out,Rd.ok,HB.out,hs]; rfl)
     have hg0:=HM.out.g
     have hd0:(wc.setRow w.heap.size #[.slice ta R2.g.toks.length tc,.slice sa R2.g.skips.length sc,.slice lva R2.g.levs.length lvc,.string R2.g.start,.slice ra R2.g.rules.length rc]).heap[w.heap.size+1]?=some (.cells dZ 91 (0,0)):=(setRow_other _ _ _ _ (by omega)).trans HM.out.d
     clear hb c9 c10 cf
     go_wp2_with (first | (refine list_store_row rfl 74 _ _ rfl w.heap.size rfl _ rfl _ 74 hg0 rfl gram_size (by simp [Value.oneCell']) ?_) | (refine list_store_row rfl 91 _ _ rfl (w.heap.size+1) rfl _ rfl _ 91 hd0 rfl diag_size (by simp [Value.oneCell']) ?_))
     exact bodyPost_ret (results_rows2 rfl _ _ w.heap.size 74 #[.slice ta R2.g.toks.length tc,.slice sa R2.g.skips.length sc,.slice lva R2.g.levs.length lvc,.string R2.g.start,.slice ra R2.g.rules.length rc] (0,0) _ rfl ((setRow_other _ _ _ _ (by omega)).trans (setRow_heap _ _ _ _ _ _ hg0)) Tryd.underlying74 rfl gram_size (w.heap.size+1) 91 #[.int .i64 0,.int .i64 0,.int .i64 0] (0,0) _ rfl (setRow_heap _ _ _ _ _ _ hd0) Tryd.underlying91 rfl diag_size) rfl ⟨_,by rw [hv.out]; first | done | rfl,by rw [hv.out]; exact (HA.out.G.setRows (by omega) (by omega)).grM (by omega),by rw [hv.out]; exact hO.out,low_rows HM.out.k (by omega) (by omega)⟩
    case false =>
     rw [hs] at c7
     have hv:Hid (Rd.marks L=({ R2.g with start:=(R2.g.rules.headD ⟨Rd.E,[],Rd.E,Rd.E⟩).left },⟨0,0,0⟩)):=Lib.hid (by rw [hm1.out,Rd.ok,HB.out,hs]; rfl)
     have hpos:0 < R2.g.rules.length:=by have:=hrl.out; omega
     obtain ⟨x,hx⟩:∃ x,x=(R2.g.rules.headD ⟨Rd.E,[],Rd.E,Rd.E⟩).left:=⟨_,rfl⟩
     have hx0:R2.g.rules[0].left=x:=by
      rw [hx]; exact head0 _ hpos _
     obtain ⟨b,off,na,ncap,era,e0,_⟩:=HA.out.G.rlV 0 hpos
     rw [hx0] at e0
     simp only [Nat.zero_mul,Nat.add_zero] at e0
     rw [← hx] at hv
     subst era
     have hi1:(0:Int) < (R2.g.rules.length:Int):=by omega
     have hset:=RdB.setG (j:=5) (v:=.string x) (r':={ R2 with g:={ R2.g with start:=x } }) (tv':=.slice ta R2.g.toks.length tc) (sv':=.slice sa R2.g.skips.length sc) (lv':=.slice lva R2.g.levs.length lvc) (rv':=.slice (some ⟨b,off,none⟩) R2.g.rules.length rc) HA.out.R rfl rfl
     have HMs:Hid (MS w (wc.setCell ⟨w.heap.size+1+1,5,none⟩ (.string x)) la lc L { R2 with g:={ R2.g with start:=x } }):=Lib.hid (HM.out.up ⟨⟨_,_,_,_,hset.1,by have:=HA.out.G.upd hset.2; exact ⟨this.t,this.s,this.l,this.r⟩⟩,⟨hO.out.t,hO.out.s,hO.out.l,hO.out.r,hO.out.ln,hO.out.rn⟩⟩ hset.2)
     have HGs:Hid (GM (wc.setCell ⟨w.heap.size+1+1,5,none⟩ (.string x)) (w.heap.size+1+1+1) { R2.g with start:=x } (.slice ta R2.g.toks.length tc) (.slice sa R2.g.skips.length sc) (.slice lva R2.g.levs.length lvc) (.slice (some ⟨b,off,none⟩) R2.g.rules.length rc)):=Lib.hid (by have:=HA.out.G.upd hset.2; exact ⟨this.t,this.s,this.l,this.r⟩)
     obtain ⟨s1,s2,s3,s4,s5,s6,s7,s8,sf⟩:=hset.1.cells
     have cf5:=cf 5
     have hg0:=HMs.out.g
     have hd0:((wc.setCell ⟨w.heap.size+1+1,5,none⟩ (.string x)).setRow w.heap.size #[.slice ta R2.g.toks.length tc,.slice sa R2.g.skips.length sc,.slice lva R2.g.levs.length lvc,.string x,.slice (some ⟨b,off,none⟩) R2.g.rules.length rc]).heap[w.heap.size+1]?=some (.cells dZ 91 (0,0)):=(setRow_other _ _ _ _ (by omega)).trans HMs.out.d
     clear hb c9 c10 cf sf hset s1 s7 s8 hx0 hx
     go_wp2_with (first | (refine list_store_row rfl 74 _ _ rfl w.heap.size rfl _ rfl _ 74 hg0 rfl gram_size (by simp [Value.oneCell']) ?_) | (refine list_store_row rfl 91 _ _ rfl (w.heap.size+1) rfl _ rfl _ 91 hd0 rfl diag_size (by simp [Value.oneCell']) ?_))
     exact bodyPost_ret (results_rows2 rfl _ _ w.heap.size 74 #[.slice ta R2.g.toks.length tc,.slice sa R2.g.skips.length sc,.slice lva R2.g.levs.length lvc,.string x,.slice (some ⟨b,off,none⟩) R2.g.rules.length rc] (0,0) _ rfl ((setRow_other _ _ _ _ (by omega)).trans (setRow_heap _ _ _ _ _ _ hg0)) Tryd.underlying74 rfl gram_size (w.heap.size+1) 91 #[.int .i64 0,.int .i64 0,.int .i64 0] (0,0) _ rfl (setRow_heap _ _ _ _ _ _ hd0) Tryd.underlying91 rfl diag_size) rfl ⟨_,by rw [hv.out]; first | done | rfl,by rw [hv.out]; exact (HGs.out.setRows (by omega) (by omega)).grM (by omega),by rw [hv.out]; exact ⟨hO.out.t,hO.out.s,hO.out.l,hO.out.r,hO.out.ln,hO.out.rn⟩,low_rows HMs.out.k (by omega) (by omega)⟩
end Go.Proofs.YtjbggogbnckllaaDoor
end
section
set_option maxRecDepth 100000
namespace Go.Proofs.YtjbggogbnckllaaDoor
open Go.RowKit
set_option linter.unusedVariables false
set_option linter.unusedSimpArgs false
theorem lexF_len (s:ByteArray):∀ (f:Nat) (out:List Lx.Mark) (i:Nat),(Lx.lexF s f out i).1.length≤out.length+f+1
 | 0,out,i=>by simp [Lx.lexF]
 | f+1,out,i=>by
  rw [Lx.lexF]
  split
  ·simp
  ·simp only
   split
   ·simp
   ·have:=lexF_len s f (if 0≤(Lx.next s i).kind then out++[⟨(Lx.next s i).kind,(Lx.next s i).text,Lx.posF s i⟩] else out) (Lx.next s i).to
    have h2:(if 0≤(Lx.next s i).kind then out++[(⟨(Lx.next s i).kind,(Lx.next s i).text,Lx.posF s i⟩:Lx.Mark)] else out).length≤out.length+1:=by split<;>simp
    omega
theorem lexF_pos (s:ByteArray):∀ (f:Nat) (out:List Lx.Mark) (i:Nat),(Lx.lexF s f out i).2.code=0→0 < (Lx.lexF s f out i).1.length
 | 0,out,i,_=>by simp [Lx.lexF]
 | f+1,out,i,h=>by
  rw [Lx.lexF] at h ⊢
  split
  ·simp
  ·rename_i hi
   rw [if_neg hi] at h
   simp only at h ⊢
   split
   ·rename_i hc
    rw [if_pos hc] at h
    exact absurd h hc
   ·rename_i hc
    rw [if_neg hc] at h
    exact lexF_pos s f _ _ h
theorem Mks.block {w:World} {b off:Nat} {l:List Lx.Mark} (h:Mks w (some ⟨b,off,none⟩) l) (hl:0 < l.length):b < w.heap.size:=by
 obtain ⟨b',off',e,t0,_⟩:=h 0 hl
 cases e
 exact World.block_lt_of_cell? w _ t0
theorem GrM.keeps {p:Nat→Prop} {w w':World} {B:Nat} {v:Value} {g:Rd.Gr} (h:GrM w B v g) (k:Keeps p w w') (hp:∀ b,B≤b→b < w.heap.size→¬ p b):GrM w' B v g:=by
 obtain ⟨ta,tc,sa,sc,la,lc,ra,rc,e,h⟩:=h
 exact ⟨ta,tc,sa,sc,la,lc,ra,rc,e,h.keeps k hp⟩
theorem GrM.base {w:World} {B B':Nat} {v:Value} {g:Rd.Gr} (h:GrM w B v g) (hb:B'≤B):GrM w B' v g:=by
 obtain ⟨ta,tc,sa,sc,la,lc,ra,rc,e,h⟩:=h
 exact ⟨ta,tc,sa,sc,la,lc,ra,rc,e,h.base hb⟩
theorem GrM.shape {w:World} {B:Nat} {v:Value} {g:Rd.Gr} (h:GrM w B v g):∃ x0 x1 x2 x3 x4,v=.agg #[x0,x1,x2,x3,x4]∧x0.oneCell'=true∧x1.oneCell'=true∧x2.oneCell'=true∧x3.oneCell'=true∧x4.oneCell'=true:=by
 obtain ⟨ta,tc,sa,sc,la,lc,ra,rc,e,_⟩:=h
 exact ⟨_,_,_,_,_,e,rfl,rfl,rfl,rfl,rfl⟩
/-- The two results' variables. -/
structure RR (w wr:World):Prop where
 g:wr.heap[w.heap.size]?=some (.cells gZ 74 (0,0))
 d:wr.heap[w.heap.size+1]?=some (.cells dZ 91 (0,0))
 k:Below w.heap.size w wr
 z:w.heap.size+2≤wr.heap.size
theorem RR.start (w:World):RR w ((w.alloc (.cells gZ 74)).alloc (.cells dZ 91)):=by
 have h:=heap_alloc_new (w.alloc (.cells gZ 74)) (.cells dZ 91)
 have e:(w.alloc (.cells gZ 74)).heap.size=w.heap.size+1:=by simp
 rw [e] at h
 exact ⟨(Below.heap_alloc _ _ _ (by simp)).trans (heap_alloc_new _ _),h,((Below.refl _ _).alloc (Nat.le_refl _) _).alloc (by simp) _,by simp⟩
theorem RR.below {w wr w':World} (h:RR w wr) (k:Below wr.heap.size wr w'):RR w w' :=
 ⟨(k.block _ (by have:=h.z; omega)).trans h.g,(k.block _ (by have:=h.z; omega)).trans h.d,h.k.trans (k.mono (by have:=h.z; omega)),Nat.le_trans h.z k.size⟩
theorem RR.alloc {w wr:World} (h:RR w wr) (o:Obj):RR w (wr.alloc o):=h.below ((Below.refl _ _).alloc (Nat.le_refl _) _)
set_option maxRecDepth 100000 in
set_option maxHeartbeats 32000000 in
theorem read_any (s:ByteArray) (w:World) (hs:s.size≤4000) (HC:∀ i,i < s.size→Lx.at_ s i=91→ClassOK s i) :
  Calls Tryd.prog 48 #[.string s] w fun e w'=>∃ v,e=.returned (.tuple #[v,vDiag (Rd.read s).2])∧GrM w' w.heap.size v (Rd.read s).1∧GrOk (Rd.read s).1∧Below w.heap.size w w':=by
 have H0:=Lib.hid (RR.start w)
 unfold gZ dZ at H0
 obtain ⟨M,hM⟩:∃ M,M=(Lx.lexF s s.size [] 0).1:=⟨_,rfl⟩
 obtain ⟨D,hD⟩:∃ D,D=(Lx.lexF s s.size [] 0).2:=⟨_,rfl⟩
 have hrd:Hid (Rd.read s=if D.code != 0 then (Rd.gr0,D) else Rd.marks M):=Lib.hid (by
  have e:Lx.lex s=Lx.lexF s s.size [] 0:=by unfold Lx.lex; rw [if_neg (by omega)]
  unfold Rd.read; rw [e]; simp only; rw [← hM,← hD])
 have hml:Hid (M.length≤5000):=Lib.hid (by rw [hM]; have:=lexF_len s s.size [] 0; simp at this; omega)
 have hmp:Hid (D.code=0→0 < M.length):=Lib.hid (by rw [hM,hD]; exact lexF_pos s s.size [] 0)
 have hlex:=fun W=>lex_any s W hs HC
 rw [← hM,← hD] at hlex
 clear hM hD HC
 go_enter Tryd.func48,Tryd.ntmps48
 go_wp2_with fail
 generalize (w.alloc (.cells #[.slice none 0 0,.slice none 0 0,.slice none 0 0,.string ⟨#[]⟩,.slice none 0 0] 74)).alloc (.cells #[.int .i64 0,.int .i64 0,.int .i64 0] 91)=W0 at H0 ⊢
 refine (hlex W0).mono ?_
 rintro e w1 ⟨a,cap,rfl,hmk,hb1⟩
 simp only [vDiag]
 have H1:=Lib.hid ((H0.out.below hb1).alloc (.cells #[.int .i64 D.code,.int .i64 D.line,.int .i64 D.col] 91))
 have D1:Hid ((w1.alloc (.cells #[.int .i64 D.code,.int .i64 D.line,.int .i64 D.col] 91)).heap[w1.heap.size]?=some (.cells #[.int .i64 D.code,.int .i64 D.line,.int .i64 D.col] 91 (0,0))):=Lib.hid (heap_alloc_new w1 _)
 have MK:=Lib.hid (hmk.below ((Below.refl _ _).alloc (Nat.le_refl _) (.cells #[.int .i64 D.code,.int .i64 D.line,.int .i64 D.col] 91)))
 have hz1:w.heap.size+2≤w1.heap.size:=Nat.le_trans H0.out.z hb1.size
 clear hmk hb1 H0 hlex
 cases hd:(D.code != 0)
 case true =>
  have hv:Hid (Rd.read s=(Rd.gr0,D)):=Lib.hid (by rw [hrd.out,hd]; rfl)
  go_wp2_with fail
  generalize hW1:w1.alloc (.cells #[.int .i64 D.code,.int .i64 D.line,.int .i64 D.col] 91)=W1 at H1 D1 MK ⊢
  clear hW1 MK
  have z0:∀ z:Wq (fun k=>k=w1.heap.size) W1,z.w.cell? ⟨w1.heap.size,0,none⟩=some (.int .i64 D.code):=fun z=>z.cell rfl (by rw [cell_of_row _ _ _ _ _ _ D1.out]; rfl)
  have z1:∀ z:Wq (fun k=>k=w1.heap.size) W1,z.w.cell? ⟨w1.heap.size,1,none⟩=some (.int .i64 D.line):=fun z=>z.cell rfl (by rw [cell_of_row _ _ _ _ _ _ D1.out]; rfl)
  have z2:∀ z:Wq (fun k=>k=w1.heap.size) W1,z.w.cell? ⟨w1.heap.size,2,none⟩=some (.int .i64 D.col):=fun z=>z.cell rfl (by rw [cell_of_row _ _ _ _ _ _ D1.out]; rfl)
  refine region_gq [0,1] [2,3] 1 25 (fun k=>k=w1.heap.size) ?_ (fun c a d v w h=>by cases d<;>exact h) (by kernel_rfl) (by kernel_rfl) (by rfl) ?_ ?_
  rotate_left
  ·intro z
   simp only [pickL,List.getElem?_cons_zero,List.getElem?_cons_succ]
   repeat (go_big_quiet_step (fail))
   refine wpQuiet_nil ?_
   exact rfl
  simp only [pickL,List.getElem?_cons_zero,List.getElem?_cons_succ]
  have hg0:W1.drew.heap[w.heap.size]?=some (.cells gZ 74 (0,0)):=H1.out.g
  have hd0:(W1.drew.setRow w.heap.size #[.slice none 0 0,.slice none 0 0,.slice none 0 0,.string ⟨#[]⟩,.slice none 0 0]).heap[w.heap.size+1]?=some (.cells dZ 91 (0,0)):=(setRow_other _ _ _ _ (by omega)).trans H1.out.d
  refine listE_store_row rfl 74 _ _ rfl w.heap.size rfl _ rfl _ 74 hg0 rfl gram_size (by simp [Value.oneCell']) ⟨⟨W1.drew.setRow w.heap.size _,by simp,fun k _ hk=>setRow_other _ _ _ _ (by omega)⟩,rfl⟩ ?_
  change wpList _ _ _ _ _ _
  refine list_store_row rfl 91 _ _ rfl (w.heap.size+1) rfl _ rfl _ 91 hd0 rfl diag_size (by simp [Value.oneCell']) ?_
  clear z0 z1 z2
  go_wp2_with fail
  exact bodyPost_ret (results_rows2 rfl _ _ w.heap.size 74 #[.slice none 0 0,.slice none 0 0,.slice none 0 0,.string ⟨#[]⟩,.slice none 0 0] (0,0) _ rfl ((setRow_other _ _ _ _ (by omega)).trans (setRow_heap _ _ _ _ _ _ hg0)) Tryd.underlying74 rfl gram_size (w.heap.size+1) 91 #[.int .i64 D.code,.int .i64 D.line,.int .i64 D.col] (0,0) _ rfl (setRow_heap _ _ _ _ _ _ hd0) Tryd.underlying91 rfl diag_size) rfl
   ⟨_,by rw [hv.out]; first | done | rfl,by rw [hv.out]; exact GrM.zero _ _,by rw [hv.out]; exact grOk0,low_rows (H1.out.k.drew) (by omega) (by omega)⟩
 case false =>
  have hd':D.code=0:=by simpa using hd
  have hv:Hid (Rd.read s=Rd.marks M):=Lib.hid (by rw [hrd.out,hd]; rfl)
  have hpos:=hmp.out hd'
  have hmb:∀ b off,a=some ⟨b,off,none⟩→b < (w1.alloc (.cells #[.int .i64 D.code,.int .i64 D.line,.int .i64 D.col] 91)).heap.size:=fun b off e=>by have:=MK.out; rw [e] at this; exact this.block hpos
  have hmarks:=marks_any (lc:=cap) MK.out hml.out hmb
  clear hd' hpos hmb
  go_wp2_with fail
  refine hmarks.mono ?_
  rintro e w2 ⟨v,rfl,hG,hO,hb2⟩
  obtain ⟨x0,x1,x2,x3,x4,rfl,o0,o1,o2,o3,o4⟩:=hG.shape
  obtain ⟨E,hE⟩:∃ E,E=(Rd.marks M).2:=⟨_,rfl⟩
  rw [← hE]
  simp only [vDiag]
  have HE:=Lib.hid hE
  have HO:=Lib.hid hO
  have HG:=Lib.hid hG
  have hz2:=hb2.size
  simp at hz2
  have hbP:=((Below.refl w2.heap.size w2).alloc (Nat.le_refl _) (.cells #[.slice none 0 0,.slice none 0 0,.slice none 0 0,.string ⟨#[]⟩,.slice none 0 0] 74)).alloc (by simp) (.cells #[.int .i64 0,.int .i64 0,.int .i64 0] 91)
  have g6:((w2.alloc (.cells #[.slice none 0 0,.slice none 0 0,.slice none 0 0,.string ⟨#[]⟩,.slice none 0 0] 74)).alloc (.cells #[.int .i64 0,.int .i64 0,.int .i64 0] 91)).heap[w2.heap.size]?=some (.cells #[.slice none 0 0,.slice none 0 0,.slice none 0 0,.string ⟨#[]⟩,.slice none 0 0] 74 (0,0)):=(Below.heap_alloc _ _ _ (by simp)).trans (heap_alloc_new w2 _)
  have g7:(((w2.alloc (.cells #[.slice none 0 0,.slice none 0 0,.slice none 0 0,.string ⟨#[]⟩,.slice none 0 0] 74)).alloc (.cells #[.int .i64 0,.int .i64 0,.int .i64 0] 91)).setRow w2.heap.size #[x0,x1,x2,x3,x4]).heap[w2.heap.size+1]?=some (.cells #[.int .i64 0,.int .i64 0,.int .i64 0] 91 (0,0)):=(setRow_other _ _ _ _ (by omega)).trans (by
   have h:=heap_alloc_new (w2.alloc (.cells #[.slice none 0 0,.slice none 0 0,.slice none 0 0,.string ⟨#[]⟩,.slice none 0 0] 74)) (.cells #[.int .i64 0,.int .i64 0,.int .i64 0] 91)
   have e:(w2.alloc (.cells #[.slice none 0 0,.slice none 0 0,.slice none 0 0,.string ⟨#[]⟩,.slice none 0 0] 74)).heap.size=w2.heap.size+1:=by simp
   rw [e] at h
   exact h)
  have HBN:=Lib.hid (low_rows (x:=#[x0,x1,x2,x3,x4]) (y:=#[.int .i64 E.code,.int .i64 E.line,.int .i64 E.col]) hbP (Nat.le_refl _) (Nat.le_succ _))
  have H2:=Lib.hid ((H1.out.below hb2).below HBN.out)
  have B7:=Lib.hid (setRow_heap _ _ _ #[.int .i64 E.code,.int .i64 E.line,.int .i64 E.col] _ _ g7)
  have B6:=Lib.hid ((setRow_other _ (w2.heap.size+1) w2.heap.size #[.int .i64 E.code,.int .i64 E.line,.int .i64 E.col] (by omega)).trans (setRow_heap _ _ _ #[x0,x1,x2,x3,x4] _ _ g6))
  clear hG hO hE hbP hmarks hb2 H1 MK D1
  go_wp2_with (first | (refine list_store_row rfl 74 _ _ rfl w2.heap.size rfl _ rfl _ 74 g6 rfl gram_size (by simp [o0,o1,o2,o3,o4]) ?_) | (refine list_store_row rfl 91 _ _ rfl (w2.heap.size+1) rfl _ rfl _ 91 g7 rfl diag_size (by simp [Value.oneCell']) ?_))
  dsimp only [Act.put]
  generalize (((w2.alloc (.cells #[.slice none 0 0,.slice none 0 0,.slice none 0 0,.string ⟨#[]⟩,.slice none 0 0] 74)).alloc (.cells #[.int .i64 0,.int .i64 0,.int .i64 0] 91)).setRow w2.heap.size #[x0,x1,x2,x3,x4]).setRow (w2.heap.size+1) #[.int .i64 E.code,.int .i64 E.line,.int .i64 E.col]=W4 at H2 HBN B6 B7 ⊢
  clear g6 g7
  have q0:∀ z:Wq (fun k=>k=w2.heap.size∨k=w2.heap.size+1) W4,z.w.cell? ⟨w2.heap.size,0,none⟩=some x0:=fun z=>z.cell (.inl rfl) (by rw [cell_of_row _ _ _ _ _ _ B6.out]; rfl)
  have q1:∀ z:Wq (fun k=>k=w2.heap.size∨k=w2.heap.size+1) W4,z.w.cell? ⟨w2.heap.size,1,none⟩=some x1:=fun z=>z.cell (.inl rfl) (by rw [cell_of_row _ _ _ _ _ _ B6.out]; rfl)
  have q2:∀ z:Wq (fun k=>k=w2.heap.size∨k=w2.heap.size+1) W4,z.w.cell? ⟨w2.heap.size,2,none⟩=some x2:=fun z=>z.cell (.inl rfl) (by rw [cell_of_row _ _ _ _ _ _ B6.out]; rfl)
  have q3:∀ z:Wq (fun k=>k=w2.heap.size∨k=w2.heap.size+1) W4,z.w.cell? ⟨w2.heap.size,3,none⟩=some x3:=fun z=>z.cell (.inl rfl) (by rw [cell_of_row _ _ _ _ _ _ B6.out]; rfl)
  have q4:∀ z:Wq (fun k=>k=w2.heap.size∨k=w2.heap.size+1) W4,z.w.cell? ⟨w2.heap.size,4,none⟩=some x4:=fun z=>z.cell (.inl rfl) (by rw [cell_of_row _ _ _ _ _ _ B6.out]; rfl)
  have p0:∀ z:Wq (fun k=>k=w2.heap.size∨k=w2.heap.size+1) W4,z.w.cell? ⟨w2.heap.size+1,0,none⟩=some (.int .i64 E.code):=fun z=>z.cell (.inr rfl) (by rw [cell_of_row _ _ _ _ _ _ B7.out]; rfl)
  have p1:∀ z:Wq (fun k=>k=w2.heap.size∨k=w2.heap.size+1) W4,z.w.cell? ⟨w2.heap.size+1,1,none⟩=some (.int .i64 E.line):=fun z=>z.cell (.inr rfl) (by rw [cell_of_row _ _ _ _ _ _ B7.out]; rfl)
  have p2:∀ z:Wq (fun k=>k=w2.heap.size∨k=w2.heap.size+1) W4,z.w.cell? ⟨w2.heap.size+1,2,none⟩=some (.int .i64 E.col):=fun z=>z.cell (.inr rfl) (by rw [cell_of_row _ _ _ _ _ _ B7.out]; rfl)
  refine region_gq [0,1] [2,3] 1 25 (fun k=>k=w2.heap.size∨k=w2.heap.size+1) ?_ (fun c a d v w h=>by cases d<;>exact h) (by kernel_rfl) (by kernel_rfl) (by rfl) ?_ ?_
  rotate_left
  ·intro z
   simp only [pickL,List.getElem?_cons_zero,List.getElem?_cons_succ]
   repeat (go_big_quiet_step (fail))
   refine wpQuiet_nil ?_
   exact rfl
  simp only [pickL,List.getElem?_cons_zero,List.getElem?_cons_succ]
  have hg0:W4.drew.heap[w.heap.size]?=some (.cells gZ 74 (0,0)):=H2.out.g
  have hd0:(W4.drew.setRow w.heap.size #[x0,x1,x2,x3,x4]).heap[w.heap.size+1]?=some (.cells dZ 91 (0,0)):=(setRow_other _ _ _ _ (by omega)).trans H2.out.d
  refine listE_store_row rfl 74 _ _ rfl w.heap.size rfl _ rfl _ 74 hg0 rfl gram_size (by simp [o0,o1,o2,o3,o4]) ⟨⟨W4.drew.setRow w.heap.size _,by simp,fun k _ hk=>setRow_other _ _ _ _ (by omega)⟩,rfl⟩ ?_
  change wpList _ _ _ _ _ _
  refine list_store_row rfl 91 _ _ rfl (w.heap.size+1) rfl _ rfl _ 91 hd0 rfl diag_size (by simp [Value.oneCell']) ?_
  clear q0 q1 q2 q3 q4 p0 p1 p2
  have hz4:=HBN.out.size
  have hGF:GrM ((W4.drew.setRow w.heap.size #[x0,x1,x2,x3,x4]).setRow (w.heap.size+1) #[.int .i64 E.code,.int .i64 E.line,.int .i64 E.col]) w.heap.size (.agg #[x0,x1,x2,x3,x4]) (Rd.marks M).1:=by
   have h1:=HG.out.keeps (p:=fun _=>False) (w':=W4) ⟨HBN.out.size,fun k hk _=>HBN.out.block k hk⟩ (fun _ _ _ h=>h)
   have h2:=h1.keeps (p:=fun k=>k=w.heap.size∨k=w.heap.size+1) (w':=(W4.drew.setRow w.heap.size #[x0,x1,x2,x3,x4]).setRow (w.heap.size+1) #[.int .i64 E.code,.int .i64 E.line,.int .i64 E.col]) ⟨by simp,fun k hk hn=>(setRow_other _ _ _ _ (fun e=>hn (.inr e))).trans (setRow_other _ _ _ _ (fun e=>hn (.inl e)))⟩ (fun b hb _ hh=>by simp at hb; rcases hh with rfl | rfl<;>omega)
   exact h2.base (by simp; omega)
  go_wp2_with fail
  exact bodyPost_ret (results_rows2 rfl _ _ w.heap.size 74 #[x0,x1,x2,x3,x4] (0,0) _ rfl ((setRow_other _ _ _ _ (by omega)).trans (setRow_heap _ _ _ _ _ _ hg0)) Tryd.underlying74 rfl gram_size (w.heap.size+1) 91 #[.int .i64 E.code,.int .i64 E.line,.int .i64 E.col] (0,0) _ rfl (setRow_heap _ _ _ _ _ _ hd0) Tryd.underlying91 rfl diag_size) rfl
   ⟨.agg #[x0,x1,x2,x3,x4],by rw [hv.out,← HE.out]; rfl,by rw [hv.out]; exact hGF,by rw [hv.out]; exact HO.out,low_rows (H2.out.k.drew) (by omega) (by omega)⟩
end Go.Proofs.YtjbggogbnckllaaDoor
end
