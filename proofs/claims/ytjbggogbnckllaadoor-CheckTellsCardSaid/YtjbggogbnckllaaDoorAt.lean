/-
  The reader's place never goes back; a grammar's value as it is read; two results that are structs.
  The walk of the reference's reader: a grammar out of marks.
-/
import Derived.Test.YtjbggogbnckllaaDoorRdN
import Derived.Deep.Cut
section
set_option maxRecDepth 100000
namespace Go.Proofs.YtjbggogbnckllaaDoor
open Go.RowKit
set_option linter.unusedVariables false
set_option linter.unusedSimpArgs false
theorem pattern_ge (L:List Lx.Mark) (r:Rd.St):r.i≤(Rd.pattern L r).2.i:=by
 unfold Rd.pattern
 simp only
 split
 ·exact Nat.le_succ _
 ·split
  ·exact Nat.le_succ_of_le (take_ge L r 4)
  ·exact take_ge L r 4
theorem names_ge (L:List Lx.Mark):∀ (k:Nat) (r:Rd.St) (x:Rd.Lev),r.i≤(Rd.names L k r x).1.i
 | 0,r,x=>Nat.le_refl _
 | k+1,r,x=>by
  rw [Rd.names]
  split
  ·refine Nat.le_trans ?_ (names_ge L k _ _)
   split
   ·rw [fail_i]; exact take_ge L r 1
   ·exact take_ge L r 1
  ·exact Nat.le_refl _
theorem declaration_ge (L:List Lx.Mark) (r:Rd.St) (m:Lx.Mark):r.i≤(Rd.declaration L r m).i:=by
 have ht:=take_ge L r 1
 cases h0:Lx.eqS m.text Rd.wToken
 case true =>
  cases h1:((Rd.take L r 1).2.bad.code == 0)
  ·rw [dt2 h0 rfl rfl h1]; exact ht
  ·cases h2:Rd.declared (Rd.take L r 1).2.g (Rd.take L r 1).1.text
   ·cases h3:((Rd.take L r 1).2.g.toks.length == 20)
    ·rw [dt4 h0 rfl rfl h1 h2 h3 rfl rfl]; exact Nat.le_trans ht (pattern_ge L _)
    ·rw [dt3 h0 rfl rfl h1 h2 h3,fail_i]; exact ht
   ·rw [dt1 h0 rfl rfl h1 h2,fail_i]; exact ht
 unfold Rd.declaration
 rw [h0]
 simp only [Bool.false_eq_true,if_false]
 split
 ·split
  ·rw [fail_i]; exact Nat.le_refl _
  ·exact pattern_ge L r
 ·split
  ·split
   ·rw [fail_i]; exact Nat.le_refl _
   ·exact names_ge L _ r _
  ·split
   ·split
    ·rw [fail_i]; exact Nat.le_refl _
    ·exact take_ge L { r with start:=true } 1
   ·rw [fail_i]; exact Nat.le_refl _
theorem rights_ge (L:List Lx.Mark):∀ (k:Nat) (r:Rd.St) (x:List ByteArray) (q:Rd.St×List ByteArray),Rd.rights L k r x=some q→r.i≤q.1.i
 | 0,r,x,q,h=>by rw [Rd.rights] at h; cases h; exact Nat.le_refl _
 | k+1,r,x,q,h=>by
  rw [Rd.rights] at h
  split at h
  ·split at h
   ·cases h
   ·exact Nat.le_trans (Nat.le_succ _) (rights_ge L k _ _ q h)
  ·cases h; exact Nat.le_refl _
theorem rightsEnd_ge (L:List Lx.Mark):∀ (k:Nat) (r:Rd.St) (x:List ByteArray),r.i≤(Rd.rightsEnd L k r x).i
 | 0,r,x=>Nat.le_refl _
 | k+1,r,x=>by
  rw [Rd.rightsEnd]
  split
  ·split
   ·rw [fail_i]; exact Nat.le_refl _
   ·exact Nat.le_trans (Nat.le_succ r.i) (rightsEnd_ge L k { r with i:=r.i+1 } (x++[(Rd.now L r).text]))
  ·exact Nat.le_refl _
theorem altPrec_ge (L:List Lx.Mark) (r:Rd.St):r.i≤(altPrec L r).2.i:=by
 unfold altPrec
 split
 ·exact Nat.le_trans (Nat.le_succ _) (take_ge L { r with i:=r.i+1 } 1)
 ·exact Nat.le_refl _
theorem altAct_ge (L:List Lx.Mark) (r:Rd.St):r.i≤(altAct L r).2.i:=by
 unfold altAct
 split
 ·exact Nat.le_succ _
 ·exact Nat.le_refl _
theorem alternative_ge (L:List Lx.Mark) (r:Rd.St) (left:ByteArray):r.i≤(Rd.alternative L r left).i:=by
 cases h:(r.g.rules.length == 40)
 ·cases h2:Rd.rights L (L.length+1) r [] with
  | none=>rw [alt_long h h2]; exact rightsEnd_ge L _ r _
  | some q =>
   obtain ⟨r1,right⟩:=q
   have h3:=rights_ge L _ r _ _ h2
   rw [alt_some h h2 (p:=(altPrec L r1).1) (r2:=(altPrec L r1).2) rfl (a:=(altAct L (altPrec L r1).2).1) (r3:=(altAct L (altPrec L r1).2).2) rfl]
   exact Nat.le_trans h3 (Nat.le_trans (altPrec_ge L r1) (altAct_ge L _))
 ·rw [alt_full h,fail_i]; exact Nat.le_refl _
/-- Tokens in memory, as they are read. -/
def TkV (w:World) (a:Option Addr) (l:List Rd.Tok):Prop:=∀ i (h:i < l.length),∃ b off,a=some ⟨b,off,none⟩∧w.cell? ⟨b,off+i*4,none⟩=some (.string l[i].name)∧w.cell? ⟨b,off+i*4+1,none⟩=some (.string l[i].pat.t) ∧
 w.cell? ⟨b,off+i*4+2,none⟩=some (.string l[i].pat.s)∧w.cell? ⟨b,off+i*4+3,none⟩=some (.bool l[i].pat.m)
theorem TkV.of_row {w:World} {a:Option Addr} {n:Nat} {l:List Rd.Tok} (h:RowV w a 4 n (tkC l)) (hn:l.length=n):TkV w a l:=by
 intro i hi
 obtain ⟨b,off,rfl,hb,hc⟩:=h i (by omega)
 obtain ⟨e0,e1,e2,e3⟩:=tkC_at l i hi
 exact ⟨b,off,rfl,(hc 0 (by decide)).trans e0,(hc 1 (by decide)).trans e1,(hc 2 (by decide)).trans e2,(hc 3 (by decide)).trans e3⟩
theorem TkV.below {w w':World} {a:Option Addr} {l:List Rd.Tok} (h:TkV w a l) (k:Below w.heap.size w w'):TkV w' a l:=by
 intro i hi
 obtain ⟨b,off,rfl,h0,h1,h2,h3⟩:=h i hi
 have hb:b < w.heap.size:=World.block_lt_of_cell? w _ h0
 exact ⟨b,off,rfl,((bcell k).1 _ _ hb).trans h0,((bcell k).1 _ _ hb).trans h1,((bcell k).1 _ _ hb).trans h2,((bcell k).1 _ _ hb).trans h3⟩
/-- Patterns in memory, as they are read. -/
def PtV (w:World) (a:Option Addr) (l:List Rd.Pat):Prop:=∀ i (h:i < l.length),∃ b off,a=some ⟨b,off,none⟩∧w.cell? ⟨b,off+i*3,none⟩=some (.string l[i].t)∧w.cell? ⟨b,off+i*3+1,none⟩=some (.string l[i].s) ∧
 w.cell? ⟨b,off+i*3+2,none⟩=some (.bool l[i].m)
theorem PtV.of_row {w:World} {a:Option Addr} {n:Nat} {l:List Rd.Pat} (h:RowV w a 3 n (ptC l)) (hn:l.length=n):PtV w a l:=by
 intro i hi
 obtain ⟨b,off,rfl,hb,hc⟩:=h i (by omega)
 obtain ⟨e0,e1,e2⟩:=ptC_at l i hi
 exact ⟨b,off,rfl,(hc 0 (by decide)).trans e0,(hc 1 (by decide)).trans e1,(hc 2 (by decide)).trans e2⟩
theorem PtV.below {w w':World} {a:Option Addr} {l:List Rd.Pat} (h:PtV w a l) (k:Below w.heap.size w w'):PtV w' a l:=by
 intro i hi
 obtain ⟨b,off,rfl,h0,h1,h2⟩:=h i hi
 have hb:b < w.heap.size:=World.block_lt_of_cell? w _ h0
 exact ⟨b,off,rfl,((bcell k).1 _ _ hb).trans h0,((bcell k).1 _ _ hb).trans h1,((bcell k).1 _ _ hb).trans h2⟩
/-- A grammar's value. -/
def GrV (w:World) (v:Value) (g:Rd.Gr):Prop:=∃ ta tc sa sc la lc ra rc,v=.agg #[.slice ta g.toks.length tc,.slice sa g.skips.length sc,.slice la g.levs.length lc,.string g.start,.slice ra g.rules.length rc] ∧
 TkV w ta g.toks∧PtV w sa g.skips∧LvV w la g.levs∧RlV w ra g.rules
theorem GrV.below {w w':World} {v:Value} {g:Rd.Gr} (h:GrV w v g) (k:Below w.heap.size w w'):GrV w' v g:=by
 obtain ⟨ta,tc,sa,sc,la,lc,ra,rc,e,h1,h2,h3,h4⟩:=h
 exact ⟨ta,tc,sa,sc,la,lc,ra,rc,e,h1.below k,h2.below k,h3.below k,h4.below k⟩
theorem GrV.zero (w:World):GrV w (.agg #[.slice none 0 0,.slice none 0 0,.slice none 0 0,.string ⟨#[]⟩,.slice none 0 0]) Rd.gr0 :=
 ⟨none,0,none,0,none,0,none,0,rfl,fun i h=>absurd h (Nat.not_lt_zero _),fun i h=>absurd h (Nat.not_lt_zero _),fun i h=>absurd h (Nat.not_lt_zero _),fun i h=>absurd h (Nat.not_lt_zero _)⟩
theorem GM.rlV {w:World} {B:Nat} {g:Rd.Gr} {tv sv lv:Value} {ra:Option Addr} {n rc:Nat} (h:GM w B g tv sv lv (.slice ra n rc)):RlV w ra g.rules:=by
 obtain ⟨ns,hn,h1,h2⟩:=h.r
 obtain ⟨a,c,e,hr⟩:=RowV.of_owns h1
 simp at e
 obtain ⟨rfl,_,_⟩:=e
 exact RlV.of_row hr rfl hn h2
theorem GM.tkV {w:World} {B:Nat} {g:Rd.Gr} {sv lv rv:Value} {ta:Option Addr} {n tc:Nat} (h:GM w B g (.slice ta n tc) sv lv rv):TkV w ta g.toks:=by
 obtain ⟨a,c,e,hr⟩:=RowV.of_owns h.t
 simp at e
 obtain ⟨rfl,_,_⟩:=e
 exact TkV.of_row hr rfl
theorem GM.ptV {w:World} {B:Nat} {g:Rd.Gr} {tv lv rv:Value} {sa:Option Addr} {n sc:Nat} (h:GM w B g tv (.slice sa n sc) lv rv):PtV w sa g.skips:=by
 obtain ⟨a,c,e,hr⟩:=RowV.of_owns h.s
 simp at e
 obtain ⟨rfl,_,_⟩:=e
 exact PtV.of_row hr rfl
theorem At1.grV {w0 w:World} {rb:Nat} {la:Option Addr} {lc:Nat} {L:List Lx.Mark} {r:Rd.St} {ta sa lva ra:Option Addr} {tc sc lvc rc:Nat}
  (h:At1 w0 w rb la lc L r (.slice ta r.g.toks.length tc) (.slice sa r.g.skips.length sc) (.slice lva r.g.levs.length lvc) (.slice ra r.g.rules.length rc)) :
  GrV w (.agg #[.slice ta r.g.toks.length tc,.slice sa r.g.skips.length sc,.slice lva r.g.levs.length lvc,.string r.g.start,.slice ra r.g.rules.length rc]) r.g :=
 ⟨ta,tc,sa,sc,lva,lvc,ra,rc,rfl,h.G.tkV,h.G.ptV,h.G.levV,h.G.rlV⟩
/-- Two results, each a variable of a struct's type. -/
theorem results_rows2 {P:Program} {fn:Func} {p q:Tmp} {ty tz:TypeId} (h:fn.results=#[.cell p ty,.cell q tz]) (tmps:Array Value) (w:World) (g:Nat) (t:TypeId) (cs:Array Value) (fr:Nat×Nat) (d:TypeDesc)
  (hp:tmps.getD p undef=.pointer (some ⟨g,0,none⟩)) (hg:w.heap[g]?=some (.cells cs t fr)) (hu:P.underlying ty=some d) (hd:(match d with | .struct _ | .array _ _=>true | _=>false)=true) (hi:(P.info? ty).map (·.size)=some cs.size)
  (g':Nat) (t':TypeId) (cs':Array Value) (fr':Nat×Nat) (d':TypeDesc)
  (hp':tmps.getD q undef=.pointer (some ⟨g',0,none⟩)) (hg':w.heap[g']?=some (.cells cs' t' fr')) (hu':P.underlying tz=some d') (hd':(match d' with | .struct _ | .array _ _=>true | _=>false)=true) (hi':(P.info? tz).map (·.size)=some cs'.size) :
  (results fn tmps).run P w=.ok (.tuple #[.agg cs,.agg cs']) w:=by
 have e1:tmps[p]?.getD undef=.pointer (some ⟨g,0,none⟩):=by simpa using hp
 have e2:tmps[q]?.getD undef=.pointer (some ⟨g',0,none⟩):=by simpa using hp'
 simp [results,h,e1,e2,asAddr,run_loadVar_row w g t ty cs fr d hg hu hd hi,run_loadVar_row w g' t' tz cs' fr' d' hg' hu' hd' hi']
end Go.Proofs.YtjbggogbnckllaaDoor
end
section
set_option maxRecDepth 100000
namespace Go.Proofs.YtjbggogbnckllaaDoor
open Go.RowKit
set_option linter.unusedVariables false
set_option linter.unusedSimpArgs false
section
variable {w w':World} {rb:Nat} {la:Option Addr} {lc:Nat} {L:List Lx.Mark} {r r':Rd.St}
theorem RS.below (h:RS w rb la lc L r) (k:Below w.heap.size w w'):RS w' rb la lc L r:=by
 obtain ⟨tv,sv,lv,rv,hR,hG⟩:=h.ex
 exact ⟨⟨tv,sv,lv,rv,hR.below k,hG.below k⟩,h.ok⟩
theorem RS.lt (h:RS w rb la lc L r):rb < w.heap.size:=by
 obtain ⟨tv,sv,lv,rv,hR,hG⟩:=h.ex
 exact hR.lt
theorem RS.ns (h:RS w rb la lc L r):r.i≤L.length∧L.length≤5000:=by
 obtain ⟨tv,sv,lv,rv,hR,hG⟩:=h.ex
 exact ⟨hR.i,hR.n⟩
theorem RS.upd {r':Rd.St} (h:RS w rb la lc L r) (hr:∀ tv sv lv rv,RdB w rb la lc L r tv sv lv rv→RdB w' rb la lc L r' tv sv lv rv) (k:Upd rb w w') (e:r'.g=r.g):RS w' rb la lc L r':=by
 obtain ⟨tv,sv,lv,rv,hR,hG⟩:=h.ex
 exact ⟨⟨tv,sv,lv,rv,hr _ _ _ _ hR,by rw [e]; exact hG.upd k⟩,by rw [e]; exact h.ok⟩
theorem take_rs (kind:Int) (hk:kind≠0) (h:RS w rb la lc L r) :
  Calls Tryd.prog 87 #[.pointer (some ⟨rb,0,none⟩),.int .i64 kind] w fun e w'=>e=.returned (vMark (Rd.take L r kind).1)∧RS w' rb la lc L (Rd.take L r kind).2∧Upd rb w w':=by
 obtain ⟨tv,sv,lv,rv,hR,hG⟩:=h.ex
 refine (take_any kind hk hR).mono ?_
 rintro e w' ⟨he,h1,h2⟩
 exact ⟨he,⟨⟨tv,sv,lv,rv,h1,by rw [take_g]; exact hG.upd h2⟩,by rw [take_g]; exact h.ok⟩,h2⟩
theorem now_rs (h:RS w rb la lc L r):Calls Tryd.prog 84 #[.pointer (some ⟨rb,0,none⟩)] w fun e w'=>e=.returned (vMark (Rd.now L r))∧Below w.heap.size w w':=by
 obtain ⟨tv,sv,lv,rv,hR,hG⟩:=h.ex
 exact now_any hR
theorem fail_rs (code:Int) (p:Lx.Pos) (h:RS w rb la lc L r) :
  Calls Tryd.prog 85 #[.pointer (some ⟨rb,0,none⟩),.int .i64 code,.agg #[.int .i64 p.line,.int .i64 p.col]] w fun e w'=>e=.returned (.tuple #[])∧RS w' rb la lc L (Rd.fail r code p)∧Upd rb w w':=by
 obtain ⟨tv,sv,lv,rv,hR,hG⟩:=h.ex
 refine (fail_any code p hR).mono ?_
 rintro e w' ⟨he,h1,h2⟩
 exact ⟨he,⟨⟨tv,sv,lv,rv,h1,by rw [fail_g]; exact hG.upd h2⟩,by rw [fail_g]; exact h.ok⟩,h2⟩
theorem RS.setI (h:RS w rb la lc L r) (hi:r.i < L.length):RS (w.setCell ⟨rb,1,none⟩ (.int .i64 ((r.i:Int)+1))) rb la lc L { r with i:=r.i+1 }∧Upd rb w (w.setCell ⟨rb,1,none⟩ (.int .i64 ((r.i:Int)+1))):=by
 obtain ⟨tv,sv,lv,rv,hR,hG⟩:=h.ex
 have hs:=hR.setI hi
 have e1:((r.i+1:Nat):Int)=(r.i:Int)+1:=by omega
 rw [e1] at hs
 exact ⟨⟨⟨tv,sv,lv,rv,hs.1,hG.upd hs.2⟩,h.ok⟩,hs.2⟩
theorem RS.cells (h:RS w rb la lc L r):w.cell? ⟨rb,1,none⟩=some (.int .i64 r.i)∧w.cell? ⟨rb,8,none⟩=some (.int .i64 r.bad.code)∧∀ k,w.frozen? ⟨rb,k,none⟩=false:=by
 obtain ⟨tv,sv,lv,rv,hR,hG⟩:=h.ex
 exact ⟨hR.cells.1,hR.cells.2.2.2.2.2.2.2.1,hR.cells.2.2.2.2.2.2.2.2⟩
end
theorem grOk0:GrOk Rd.gr0:=⟨by decide,by decide,by decide,by decide,fun x hx=>(by cases hx),fun x hx=>(by cases hx)⟩
theorem GM.zero (w:World) (B:Nat):GM w B Rd.gr0 (.slice none 0 0) (.slice none 0 0) (.slice none 0 0) (.slice none 0 0) :=
 ⟨World.ownsRow_nil _ _ _ _,World.ownsRow_nil _ _ _ _,⟨[],rfl,World.ownsRow_nil _ _ _ _,fun i h=>absurd h (Nat.not_lt_zero _)⟩,⟨[],rfl,World.ownsRow_nil _ _ _ _,fun i h=>absurd h (Nat.not_lt_zero _)⟩⟩
def st0:Rd.St:=⟨0,Rd.gr0,false,⟨0,0,0⟩⟩
theorem heads_stop {L:List Lx.Mark} {k:Nat} {r:Rd.St} (h:(r.bad.code == 0)=false):Rd.heads L k r=r:=by
 cases k with
 | zero=>rfl
 | succ k=>rw [Rd.heads,Rd.ok,h]; rfl
theorem heads_fail {L:List Lx.Mark} {k:Nat} {r:Rd.St} (h:(r.bad.code == 0)=true) (h2:((Rd.now L r).kind != 2)=true):Rd.heads L (k+1) r=Rd.fail r 14 (Rd.now L r).pos:=by
 rw [Rd.heads,Rd.ok,h]; simp only [if_true,h2]
theorem heads_end {L:List Lx.Mark} {k:Nat} {r:Rd.St} (h:(r.bad.code == 0)=true) (h2:((Rd.now L r).kind != 2)=false) (h3:Lx.eqS (Rd.now L r).text Rd.wPer=true):Rd.heads L (k+1) r={ r with i:=r.i+1 }:=by
 rw [Rd.heads,Rd.ok,h]; simp only [if_true,h2,h3,Bool.false_eq_true,if_false]
theorem heads_step {L:List Lx.Mark} {k:Nat} {r:Rd.St} (h:(r.bad.code == 0)=true) (h2:((Rd.now L r).kind != 2)=false) (h3:Lx.eqS (Rd.now L r).text Rd.wPer=false):Rd.heads L (k+1) r=Rd.heads L k (Rd.declaration L { r with i:=r.i+1 } (Rd.now L r)):=by
 rw [Rd.heads,Rd.ok,h]; simp only [if_true,h2,h3,Bool.false_eq_true,if_false]
theorem alts_stop {L:List Lx.Mark} {left:ByteArray} {k:Nat} {r:Rd.St} (h:(r.bad.code == 0)=false):Rd.alts L left k r=r:=by
 cases k with
 | zero=>rfl
 | succ k=>rw [Rd.alts,Rd.ok,h]; rfl
theorem alts_end {L:List Lx.Mark} {left:ByteArray} {k:Nat} {r:Rd.St} (h:(r.bad.code == 0)=true) (h2:((Rd.now L (Rd.alternative L r left)).kind != 7)=true):Rd.alts L left (k+1) r=(Rd.take L (Rd.alternative L r left) 8).2:=by
 rw [Rd.alts,Rd.ok,h]; simp only [if_true,h2]
theorem alts_step {L:List Lx.Mark} {left:ByteArray} {k:Nat} {r:Rd.St} (h:(r.bad.code == 0)=true) (h2:((Rd.now L (Rd.alternative L r left)).kind != 7)=false):Rd.alts L left (k+1) r=Rd.alts L left k { (Rd.alternative L r left) with i:=(Rd.alternative L r left).i+1 }:=by
 rw [Rd.alts,Rd.ok,h]; simp only [if_true,h2,Bool.false_eq_true,if_false]
theorem alts_ge (L:List Lx.Mark) (left:ByteArray):∀ (k:Nat) (r:Rd.St),r.i≤(Rd.alts L left k r).i
 | 0,r=>Nat.le_refl _
 | k+1,r=>by
  rw [Rd.alts]
  split
  ·have h1:=alternative_ge L r left
   simp only
   split
   ·exact Nat.le_trans h1 (take_ge L _ 8)
   ·exact Nat.le_trans h1 (Nat.le_trans (Nat.le_succ _) (alts_ge L left k { (Rd.alternative L r left) with i:=(Rd.alternative L r left).i+1 }))
  ·exact Nat.le_refl _
theorem rules_stop {L:List Lx.Mark} {k:Nat} {r:Rd.St} (h:(r.bad.code == 0)=false):Rd.rules L k r=r:=by
 cases k with
 | zero=>rfl
 | succ k=>rw [Rd.rules,Rd.ok,h]; rfl
theorem rules_end {L:List Lx.Mark} {k:Nat} {r:Rd.St} (h:(r.g.rules.length == 0)=false) (h2:((Rd.now L r).kind != 0)=false):Rd.rules L k r=r:=by
 cases k with
 | zero=>rfl
 | succ k=>rw [Rd.rules,h,h2,Bool.or_false,Bool.and_false]; rfl
theorem rules_step {L:List Lx.Mark} {k:Nat} {r r1 r2:Rd.St} {m:Lx.Mark} (h:(r.bad.code == 0)=true) (h2:(r.g.rules.length == 0)=true∨((Rd.now L r).kind != 0)=true) (e0:m=(Rd.take L r 1).1) (e1:r1=(Rd.take L r 1).2) (e2:r2=(Rd.take L r1 6).2) :
  Rd.rules L (k+1) r=Rd.rules L k (Rd.alts L m.text (L.length+1) r2):=by
 have hc:(Rd.ok r&&((r.g.rules.length == 0)||(Rd.now L r).kind != 0))=true:=by
  unfold Rd.ok; rw [h]; rcases h2 with h2 | h2<;>rw [h2]<;>simp
 rw [Rd.rules]
 simp only [hc,if_true]
 rw [e0,e2,e1]
theorem lit_per:ByteArray.toList (⟨#[37]⟩:ByteArray)=[37]:=by rw [ByteArray.toList_eq]
theorem fail_ok {r:Rd.St} {c:Int} {p:Lx.Pos} (h:(r.bad.code == 0)=false):((Rd.fail r c p).bad.code == 0)=false:=by rw [fail_no c p h]; exact h
theorem take_bad {L:List Lx.Mark} {r:Rd.St} {k:Int} (h:(r.bad.code == 0)=false):((Rd.take L r k).2.bad.code == 0)=false:=by
 unfold Rd.take
 simp only
 split
 ·exact fail_ok h
 ·exact h
end Go.Proofs.YtjbggogbnckllaaDoor
end
