/-
  Walks of the reference's reader: a level is declared.
-/
import Derived.Test.YtjbggogbnckllaaDoorAg
import Derived.Test.YtjbggogbnckllaaDoorAc
import Derived.Deep.LoopGhost
namespace Go.Proofs.YtjbggogbnckllaaDoor
open Go.RowKit
set_option linter.unusedVariables false
set_option linter.unusedSimpArgs false
/-- A level's variable. -/
def XB (w:World) (b:Nat) (a:Int) (nv:Value):Prop:=w.heap[b]?=some (.cells #[.int .i64 a,nv] 107 (0,0))
theorem XB.cells {w:World} {b:Nat} {a:Int} {nv:Value} (h:XB w b a nv):w.cell? ⟨b,0,none⟩=some (.int .i64 a)∧w.cell? ⟨b,1,none⟩=some nv∧∀ k,w.frozen? ⟨b,k,none⟩=false :=
 ⟨by rw [cell_of_row _ _ _ _ _ _ h]; rfl,by rw [cell_of_row _ _ _ _ _ _ h]; rfl,fun k=>frozen_of_row _ _ _ _ _ h⟩
theorem XB.lt {w:World} {b:Nat} {a:Int} {nv:Value} (h:XB w b a nv):b < w.heap.size:=(Array.getElem?_eq_some_iff.1 h).1
theorem XB.below {w w':World} {b:Nat} {a:Int} {nv:Value} (h:XB w b a nv) (k:Below w.heap.size w w'):XB w' b a nv:=(k.block _ h.lt).trans h
theorem XB.upd {w w':World} {b rb:Nat} {a:Int} {nv:Value} (h:XB w b a nv) (k:Upd rb w w') (hb:b≠rb):XB w' b a nv:=(k.block _ h.lt hb).trans h
theorem XB.set {w:World} {b:Nat} {a:Int} {nv:Value} (h:XB w b a nv) (v:Value):XB (w.setCell ⟨b,1,none⟩ v) b a v:=by
 unfold XB; rw [heap_setCell_same _ _ _ _ _ _ h]; rfl
theorem XB.grown {w w':World} {b B n:Nat} {a:Int} {nv v:Value} {xs:List Value} (h:XB w b a nv) (ho:w.ownsRow B 9 1 v n xs) (hg:w.grownBy w' v.ownBlock):XB w' b a nv:=by
 refine (hg.block b h.lt fun e=>?_).trans h
 rcases ho.2 with ⟨rfl,_⟩ | ⟨g,cap,cur,rfl,hbg,hg2,_⟩
 ·cases e
 ·simp [Value.ownBlock] at e
  subst e
  rw [h] at hg2
  simp at hg2
def strV (l:List ByteArray):List Value:=l.map Value.string
theorem strV_snoc (l:List ByteArray) (s:ByteArray):strV (l++[s])=strV l++[.string s]:=by simp [strV]
theorem strV_at (l:List ByteArray) (i:Nat) (h:i < l.length):(strV l)[i]?=some (.string l[i]):=by simp [strV,h]
theorem NsM.of_owns {w:World} {B n:Nat} {v:Value} {l:List ByteArray} (h:w.ownsRow B 9 1 v n (strV l)) (hn:l.length=n):NsM w B v l:=by
 subst hn
 rcases h.2 with ⟨rfl,hx⟩ | ⟨g,cap,cur,rfl,hbg,hg,_⟩
 ·have:l=[]:=by simpa [strV] using hx
  subst this
  exact ⟨none,0,rfl,fun i hi=>absurd hi (Nat.not_lt_zero _)⟩
 ·refine ⟨_,cap,rfl,fun i hi=>⟨g,0,cur,rfl,hbg,hg,?_⟩⟩
  rw [Nat.zero_add,h.cellAt i (by omega)]
  exact strV_at l i hi
theorem Upd.new {b:Nat} {w W:World} (h:Upd b w W) (a:Addr) (ha:w.heap.size≤a.block) (v:Value):Upd b w (W.setCell a v) :=
 ⟨h.os,h.tape,h.output,by have:=h.size; simp [World.setCell]; exact this,fun k hk hn=>(Below.heap_setCell _ _ _ _ (by omega)).trans (h.block k hk hn)⟩
theorem owns_upd {w w':World} {base rb:Nat} {e:TypeId} {size:Nat} {v:Value} {n:Nat} {xs:List Value} (h:w.ownsRow base e size v n xs) (k:Upd rb w w') (hb:rb < base):w'.ownsRow base e size v n xs :=
 owns_keeps h k.keeps fun b _ hb2 _=>by omega
theorem GM.levV {w:World} {B:Nat} {g:Rd.Gr} {tv sv rv:Value} {lva:Option Addr} {n lvc:Nat} (h:GM w B g tv sv (.slice lva n lvc) rv):LvV w lva g.levs:=by
 obtain ⟨ns,hn,h1,h2⟩:=h.l
 obtain ⟨a,c,e,hr⟩:=RowV.of_owns h1
 simp at e
 obtain ⟨rfl,_,_⟩:=e
 exact LvV.of_row hr rfl hn h2
theorem RdB.setOther {w:World} {rb:Nat} {la:Option Addr} {lc:Nat} {L:List Lx.Mark} {r:Rd.St} {tv sv lv rv v:Value} {a:Addr} (h:RdB w rb la lc L r tv sv lv rv) (ha:rb < a.block):RdB (w.setCell a v) rb la lc L r tv sv lv rv :=
 h.frame fun j hj=>heap_setCell_other _ _ _ _ (by omega)
section
variable {w0 w w':World} {rb:Nat} {la:Option Addr} {lc:Nat} {L:List Lx.Mark} {r r':Rd.St} {tv sv lv rv:Value}
/-- A block of the call's own is written, by an append or a store. -/
theorem At1.own (h:At1 w0 w rb la lc L r tv sv lv rv) (h0:GM w0 (rb+1) r.g tv sv lv rv) (hR:RdB w' rb la lc L r tv sv lv rv) (hK:Upd rb w0 w'):At1 w0 w' rb la lc L r tv sv lv rv:=⟨hR,h0.upd hK,hK⟩
theorem At1.app {n size:Nat} {e:TypeId} {xs:List Value} {v:Value} (h:At1 w0 w rb la lc L r tv sv lv rv) (h0:GM w0 (rb+1) r.g tv sv lv rv) (hl:rb < w0.heap.size) (ho:w.ownsRow w0.heap.size e size v n xs) (hg:w.grownBy w' v.ownBlock):At1 w0 w' rb la lc L r tv sv lv rv:=by
 refine h.own h0 (h.R.frame fun j hj=>hg.block j (by have:=h.lt; omega) (fun e=>by have:=(owns_lt ho _ e.symm).1; omega)) ⟨hg.os.trans h.K.os,hg.tape.trans h.K.tape,hg.output.trans h.K.output,Nat.le_trans h.K.size hg.size,fun k hk hn=>(hg.block k (Nat.lt_of_lt_of_le hk h.K.size) (fun e=>by have:=(owns_lt ho _ e.symm).1; omega)).trans (h.K.block k hk hn)⟩
theorem At1.set (h:At1 w0 w rb la lc L r tv sv lv rv) (h0:GM w0 (rb+1) r.g tv sv lv rv) (hl:rb < w0.heap.size) (a:Addr) (ha:w0.heap.size≤a.block) (v:Value):At1 w0 (w.setCell a v) rb la lc L r tv sv lv rv :=
 h.own h0 (h.R.setOther (by omega)) (h.K.new a ha v)
end
theorem owns_base {w:World} {B B':Nat} {e:TypeId} {size:Nat} {v:Value} {n:Nat} {xs:List Value} (h:w.ownsRow B e size v n xs) (hb:B'≤B):w.ownsRow B' e size v n xs:=by
 obtain ⟨h1,h2⟩:=h
 refine ⟨h1,?_⟩
 rcases h2 with h2 | ⟨g,cap,cur,hv,hbg,h3⟩
 ·exact .inl h2
 ·exact .inr ⟨g,cap,cur,hv,Nat.le_trans hb hbg,h3⟩
theorem addLev_end {w0 w w':World} {rb:Nat} {la:Option Addr} {lc:Nat} {L:List Lx.Mark} {r:Rd.St} {g:Rd.Gr} {tv sv lv rv lv' nv:Value} {ns:List Value} (t:Rd.Lev) (h:At1 w0 w rb la lc L r tv sv lv rv) (hl:rb < w0.heap.size) (hgg:r.g=g) (ho:GrOk g) (hn:g.levs.length < 10) (hnl:t.names.length≤5002)
  (hns:ns.length=g.levs.length) (h1:w.ownsRow (rb+1) 107 2 lv g.levs.length (lvC g.levs ns)) (h2:∀ i (h:i < r.g.levs.length) (h':i < ns.length),NsM w (rb+1) ns[i] r.g.levs[i].names) (hnv:NsM w (rb+1) nv t.names) (hg:w.grownBy w' lv.ownBlock)
  (hw:w'.ownsRow (rb+1) 107 2 lv' (g.levs.length+1) (lvC g.levs ns++[.int .i64 t.assoc,nv])) :
  RS (w'.setCell ⟨rb,4,none⟩ lv') rb la lc L { r with g:={ r.g with levs:=r.g.levs++[t] } }∧Below rb w0 (w'.setCell ⟨rb,4,none⟩ lv'):=by
 subst hgg
 have hR:=rdb_grown h.R h1 hg
 have hG:=h.G.addLev t hns h1 h2 hnv hg hw
 obtain ⟨e1,e2⟩:=RdB.setG (j:=4) (v:=lv') (r':={ r with g:={ r.g with levs:=r.g.levs++[t] } }) (tv':=tv) (sv':=sv) (lv':=lv') (rv':=rv) hR rfl rfl
 refine ⟨⟨⟨tv,sv,lv',rv,e1,hG.upd e2⟩,⟨ho.t,ho.s,by simp; omega,ho.r,fun x hx=>?_,ho.rn⟩⟩,(low_grown (h.K.low hl) hl h1 hg).setCell (Nat.le_refl _) _⟩
 rcases List.mem_append.1 hx with hx | hx
 ·exact ho.ln x hx
 ·rw [List.mem_singleton.1 hx]; exact hnl
theorem owns_set {w:World} {b B n:Nat} {a:Int} {nv v:Value} {xs:List Value} (ho:w.ownsRow B 9 1 v n xs) (h:XB w b a nv) (u:Value):(w.setCell ⟨b,1,none⟩ u).ownsRow B 9 1 v n xs:=by
 refine owns_keeps ho ((Upd.refl b w).setCell ⟨b,1,none⟩ rfl u).keeps fun k cs hk hcs e=>?_
 subst e
 rw [h] at hcs
 simp at hcs
theorem take_ge (L:List Lx.Mark) (r:Rd.St) (k:Int):r.i≤(Rd.take L r k).2.i:=by
 unfold Rd.take Rd.fail
 simp only
 split
 ·split<;>exact Nat.le_refl _
 ·exact Nat.le_succ _
theorem fail_i (r:Rd.St) (c:Int) (p:Lx.Pos):(Rd.fail r c p).i=r.i:=by unfold Rd.fail; split<;>rfl
theorem fail_bad (r:Rd.St) (c:Int) (p:Lx.Pos) (h:(r.bad.code == 0)=true) (hc:c≠0:=by decide):((Rd.fail r c p).bad.code == 0)=false:=by rw [fail_yes _ _ h]; simpa using hc
theorem take_ok {L:List Lx.Mark} {r:Rd.St} {k:Int} (h:((Rd.take L r k).2.bad.code == 0)=true) (hr:(r.bad.code == 0)=true):(Rd.take L r k).2.i=r.i+1:=by
 unfold Rd.take at h ⊢
 simp only at h ⊢
 split at h
 ·rw [fail_bad _ _ _ hr] at h; cases h
 ·rename_i hc; rw [if_neg hc]
theorem names_stop {L:List Lx.Mark} {k:Nat} {r:Rd.St} {x:Rd.Lev} (h:(r.bad.code == 0)=false):Rd.names L k r x=(r,x):=by
 cases k with
 | zero=>rfl
 | succ k=>rw [Rd.names,Rd.ok,h]; rfl
theorem names_stop2 {L:List Lx.Mark} {k:Nat} {r:Rd.St} {x:Rd.Lev} (h:(x.names.length == 0)=false) (h2:((Rd.now L r).kind == 1)=false):Rd.names L k r x=(r,x):=by
 cases k with
 | zero=>rfl
 | succ k=>rw [Rd.names,h,h2,Bool.or_false,Bool.and_false]; rfl
theorem names_step {L:List Lx.Mark} {k:Nat} {r r1 r2:Rd.St} {m:Lx.Mark} {a:Int} {xl:List ByteArray} (h:(r.bad.code == 0)=true) (h2:(xl.length == 0)=true∨((Rd.now L r).kind == 1)=true) (e1:m=(Rd.take L r 1).1) (e2:r1=(Rd.take L r 1).2)
  (e3:r2=if (r1.bad.code == 0)&&(Rd.level r1.g.levs m.text||Rd.level [⟨a,xl⟩] m.text) then Rd.fail r1 15 m.pos else r1):Rd.names L (k+1) r ⟨a,xl⟩=Rd.names L k r2 ⟨a,xl++[m.text]⟩:=by
 have hc:(Rd.ok r&&((xl.length == 0)||(Rd.now L r).kind == 1))=true:=by
  unfold Rd.ok; rw [h]; rcases h2 with h2 | h2<;>rw [h2]<;>simp
 rw [Rd.names]
 simp only [hc,if_true]
 rw [← e1,← e2,e3]
 rfl
theorem beq10 (n:Nat):((n:Int) == 10)=(n == 10):=by
 rw [Bool.eq_iff_iff,beq_iff_eq,beq_iff_eq]; omega
theorem beq0 (n:Nat):((n:Int) == 0)=(n == 0):=by
 rw [Bool.eq_iff_iff,beq_iff_eq,beq_iff_eq]; omega
/-- Which word, which way to associate. -/
def LevW (t:ByteArray) (a:Int):Prop:=(Lx.eqS t Rd.wLeft=true∧a=1)∨(Lx.eqS t Rd.wRight=true∧a=2)∨(Lx.eqS t Rd.wNon=true∧a=3)
theorem dl1 {L:List Lx.Mark} {r:Rd.St} {m:Lx.Mark} {a:Int} (ht:LevW m.text a) (h1:(r.g.levs.length == 10)=true):Rd.declaration L r m=Rd.fail r 3 m.pos:=by
 rcases ht with ⟨ht,rfl⟩ | ⟨ht,rfl⟩ | ⟨ht,rfl⟩
 ·unfold Rd.declaration; rw [eqs_no ht (by decide),eqs_no ht (by decide),ht,h1]; rfl
 ·unfold Rd.declaration; rw [eqs_no ht (by decide),eqs_no ht (by decide),eqs_no ht (by decide),ht,h1]; rfl
 ·unfold Rd.declaration; rw [eqs_no ht (by decide),eqs_no ht (by decide),eqs_no ht (by decide),eqs_no ht (by decide),ht,h1]; rfl
theorem dl2 {L:List Lx.Mark} {r:Rd.St} {m:Lx.Mark} {a:Int} (ht:LevW m.text a) (h1:(r.g.levs.length == 10)=false) :
  Rd.declaration L r m={ (Rd.names L (L.length+2) r ⟨a,[]⟩).1 with g:={ (Rd.names L (L.length+2) r ⟨a,[]⟩).1.g with levs:=(Rd.names L (L.length+2) r ⟨a,[]⟩).1.g.levs++[(Rd.names L (L.length+2) r ⟨a,[]⟩).2] } }:=by
 rcases ht with ⟨ht,rfl⟩ | ⟨ht,rfl⟩ | ⟨ht,rfl⟩
 ·unfold Rd.declaration; rw [eqs_no ht (by decide),eqs_no ht (by decide),ht,h1,eqs_no ht (by decide),eqs_no ht (by decide)]; rfl
 ·unfold Rd.declaration; rw [eqs_no ht (by decide),eqs_no ht (by decide),eqs_no ht (by decide),ht,h1,eqs_no ht (by decide)]; rfl
 ·unfold Rd.declaration; rw [eqs_no ht (by decide),eqs_no ht (by decide),eqs_no ht (by decide),eqs_no ht (by decide),ht,h1]; rfl
end Go.Proofs.YtjbggogbnckllaaDoor
