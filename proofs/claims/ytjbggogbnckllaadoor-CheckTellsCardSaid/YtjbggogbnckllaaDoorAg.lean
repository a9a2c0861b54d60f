/-
  Walks of the reference's reader: is a name declared, has a level it.
  The reader's state with its grammar's rows: what calls and appends leave of it.
  Walks of the reference's reader: a token is declared.
  Walks of the reference's reader: a skip is declared, a start, none of them.
-/
import Derived.Test.YtjbggogbnckllaaDoorAf
import Derived.Test.YtjbggogbnckllaaDoorAc
section
set_option maxRecDepth 100000
namespace Go.Proofs.YtjbggogbnckllaaDoor
open Go.RowKit
set_option linter.unusedVariables false
set_option linter.unusedSimpArgs false
theorem eqS_yes {x t:ByteArray} (h:x=t):Lx.eqS x t=true:=Lx.eqS_iff.2 h
theorem eqS_no {x t:ByteArray} (h:¬ x=t):Lx.eqS x t=false:=by rw [Bool.eq_false_iff]; exact fun hh=>h (Lx.eqS_iff.1 hh)
theorem strEq_yes {x t:ByteArray} (h:x=t):strEq x t=true:=by simp [strEq,h]
theorem declared_yes {g:Rd.Gr} {n:ByteArray} {k:Nat} (hk:k < g.toks.length) (h:g.toks[k].name=n):Rd.declared g n=true:=by
 unfold Rd.declared
 rw [List.any_eq_true]
 exact ⟨_,List.getElem_mem hk,eqS_yes h⟩
theorem declared_no {g:Rd.Gr} {n:ByteArray} (h:∀ j (hj:j < g.toks.length),g.toks[j].name≠n):Rd.declared g n=false:=by
 unfold Rd.declared
 rw [List.any_eq_false]
 intro x hx
 obtain ⟨j,hj,rfl⟩:=List.getElem_of_mem hx
 rw [eqS_no (h j hj)]
 decide
set_option maxRecDepth 100000 in
set_option maxHeartbeats 8000000 in
theorem declared_any {w:World} {rb B:Nat} {la:Option Addr} {lc:Nat} {L:List Lx.Mark} {r:Rd.St} {tv sv lv rv:Value} (name:ByteArray) (h:RdB w rb la lc L r tv sv lv rv)
  (ht:w.ownsRow B 111 4 tv r.g.toks.length (tkC r.g.toks)) (hn:r.g.toks.length≤5000) :
  Calls Tryd.prog 103 #[.pointer (some ⟨rb,0,none⟩),.string name] w fun e w'=>e=.returned (.bool (Rd.declared r.g name))∧w=w':=by
 obtain ⟨a,cap,rfl,hrow⟩:=RowV.of_owns ht
 have c2:w.cell? ⟨rb,2,none⟩=some (.slice a r.g.toks.length cap):=by rw [cell_of_row _ _ _ _ _ _ h.blk]; rfl
 have HV:=Lib.hid hrow
 clear h ht hrow
 go_enter Tryd.func103,Tryd.ntmps103
 go_wp2_with fail
 go_loop [5] (fun i=>∃ k:Nat,i=.int .i64 k∧k≤r.g.toks.length∧Hid (∀ j (h:j < r.g.toks.length),j < k→r.g.toks[j].name≠name)) (fun i=>r.g.toks.length - (intOf i).toNat)
 case atStart=>exact ⟨0,rfl,by omega,Lib.hid (fun j h hj=>by omega)⟩
 case round =>
  obtain ⟨k,rfl,hk,T⟩:=hrel
  by_cases hlt:k < r.g.toks.length
  ·obtain ⟨b,off,rfl,hb,hc⟩:=HV.out k hlt
   have e0:=(hc 0 (by decide)).trans (tkC_at _ k hlt).1
   simp only [Nat.add_zero] at e0
   clear hc
   obtain ⟨x,hx⟩:∃ x,x=r.g.toks[k].name:=⟨_,rfl⟩
   rw [← hx] at e0
   have HX:=Lib.hid hx
   clear hx
   by_cases he:x=name
   ·have heq:strEq x name=true:=strEq_yes he
    have hv:Hid (Rd.declared r.g name=true):=Lib.hid (declared_yes hlt (by rw [← HX.out,he]))
    clear he HX T
    unfold strEq at heq
    go_wp2_with fail
    go_ret
    exact ⟨ret_bool hv.out.symm,rfl⟩
   ·have heq:strEq x name=false:=strEq_no he
    have T2:Hid (∀ j (h:j < r.g.toks.length),j < k+1→r.g.toks[j].name≠name):=Lib.hid (fun j h hj=>by
     by_cases hjk:j=k
     ·subst hjk; rw [← HX.out]; exact he
     ·exact T.out j h (by omega))
    clear he HX T
    unfold strEq at heq
    go_wp2_with fail
    go_round
    case rel=>exact ⟨k+1,by go_num,by omega,T2⟩
    case measure=>simp [intOf]; omega
  ·have hv:Hid (Rd.declared r.g name=false):=Lib.hid (declared_no (fun j hj=>T.out j hj (by omega)))
   clear T
   go_wp2_with fail
   go_ret
   exact ⟨ret_bool hv.out.symm,rfl⟩
theorem level_yes {ls:List Rd.Lev} {n:ByteArray} {i k:Nat} (hi:i < ls.length) (hk:k < ls[i].names.length) (h:ls[i].names[k]=n):Rd.level ls n=true:=by
 unfold Rd.level
 rw [List.any_eq_true]
 exact ⟨_,List.getElem_mem hi,Lx.isIn_iff.2 (by rw [← h]; exact List.getElem_mem hk)⟩
theorem level_no {ls:List Rd.Lev} {n:ByteArray} (h:∀ i (hi:i < ls.length) k (hk:k < ls[i].names.length),ls[i].names[k]≠n):Rd.level ls n=false:=by
 unfold Rd.level
 rw [List.any_eq_false]
 intro x hx
 obtain ⟨i,hi,rfl⟩:=List.getElem_of_mem hx
 intro hh
 obtain ⟨k,hk,e⟩:=List.getElem_of_mem (Lx.isIn_iff.1 hh)
 exact h i hi k hk e
set_option maxRecDepth 100000 in
set_option maxHeartbeats 8000000 in
theorem level_any {w:World} {a:Option Addr} {cap:Nat} {ls:List Rd.Lev} (name:ByteArray) (h:LvV w a ls) (hn:ls.length≤5000) (hm:∀ i (hi:i < ls.length),ls[i].names.length≤100000) :
  Calls Tryd.prog 105 #[.slice a ls.length cap,.string name] w fun e w'=>e=.returned (.bool (Rd.level ls name))∧w=w':=by
 have HV:=Lib.hid h
 have HM:=Lib.hid hm
 clear h hm
 go_enter Tryd.func105,Tryd.ntmps105
 go_wp2_with fail
 go_loop [5] (fun i=>∃ k:Nat,i=.int .i64 k∧k≤ls.length∧Hid (∀ j (h:j < ls.length),j < k→∀ q (hq:q < ls[j].names.length),ls[j].names[q]≠name)) (fun i=>ls.length - (intOf i).toNat)
 case atStart=>exact ⟨0,rfl,by omega,Lib.hid (fun j h hj=>by omega)⟩
 case round =>
  obtain ⟨i,rfl,hi,T⟩:=hrel
  by_cases hlt:i < ls.length
  ·obtain ⟨b,off,na,ncap,rfl,_,e1,hst⟩:=HV.out i hlt
   have hmi:=HM.out i hlt
   obtain ⟨nm,hnm⟩:∃ nm,nm=ls[i].names:=⟨_,rfl⟩
   rw [← hnm] at e1 hst hmi
   have HN:=Lib.hid hnm
   have HS:=Lib.hid hst
   clear hnm hst
   go_wp2_with fail
   go_loop [6] (fun q=>∃ k:Nat,q=.int .i64 k∧k≤nm.length∧Hid (∀ j (h:j < nm.length),j < k→nm[j]≠name)) (fun q=>nm.length - (intOf q).toNat)
   case atStart=>exact ⟨0,rfl,by omega,Lib.hid (fun j h hj=>by omega)⟩
   case round =>
    obtain ⟨k,rfl,hk,U⟩:=hrel
    by_cases hkl:k < nm.length
    ·obtain ⟨nb,noff,rfl,hx⟩:=HS.out k hkl
     obtain ⟨x,ex⟩:∃ x,x=nm[k]:=⟨_,rfl⟩
     rw [← ex] at hx
     have EX:=Lib.hid ex
     clear ex
     by_cases he:x=name
     ·have heq:strEq x name=true:=strEq_yes he
      have hv:Hid (Rd.level ls name=true):=Lib.hid (level_yes (k:=k) hlt (by rw [← HN.out]; exact hkl) (by simp only [← HN.out]; rw [← EX.out,he]))
      clear he EX T U HN
      unfold strEq at heq
      go_wp2_with fail
      go_ret
      exact ⟨ret_bool hv.out.symm,rfl⟩
     ·have heq:strEq x name=false:=strEq_no he
      have U2:Hid (∀ j (h:j < nm.length),j < k+1→nm[j]≠name):=Lib.hid (fun j h hj=>by
       by_cases hjk:j=k
       ·subst hjk; rw [← EX.out]; exact he
       ·exact U.out j h (by omega))
      clear he EX U
      unfold strEq at heq
      go_wp2_with fail
      go_round
      case rel=>exact ⟨k+1,by go_num,by omega,U2⟩
      case measure=>simp [intOf]; omega
    ·have T2:Hid (∀ j (h:j < ls.length),j < i+1→∀ q (hq:q < ls[j].names.length),ls[j].names[q]≠name):=Lib.hid (fun j h hj q hq=>by
      by_cases hjk:j=i
      ·subst hjk
       have hq2:q < nm.length:=by rw [HN.out]; exact hq
       have:=U.out q hq2 (by omega)
       simpa only [HN.out] using this
      ·exact T.out j h (by omega) q hq)
     clear T U HN
     go_wp2_with fail
     go_round
     case rel=>exact ⟨i+1,by go_num,by omega,T2⟩
     case measure=>simp [intOf]; omega
  ·have hv:Hid (Rd.level ls name=false):=Lib.hid (level_no (fun j hj=>T.out j hj (by omega)))
   clear T
   go_wp2_with fail
   go_ret
   exact ⟨ret_bool hv.out.symm,rfl⟩
end Go.Proofs.YtjbggogbnckllaaDoor
end
section
set_option maxRecDepth 100000
namespace Go.Proofs.YtjbggogbnckllaaDoor
open Go.RowKit
set_option linter.unusedVariables false
set_option linter.unusedSimpArgs false
theorem RdB.cells {w:World} {rb:Nat} {la:Option Addr} {lc:Nat} {L:List Lx.Mark} {r:Rd.St} {tv sv lv rv:Value} (h:RdB w rb la lc L r tv sv lv rv) :
  w.cell? ⟨rb,1,none⟩=some (.int .i64 r.i)∧w.cell? ⟨rb,2,none⟩=some tv∧w.cell? ⟨rb,3,none⟩=some sv∧w.cell? ⟨rb,4,none⟩=some lv∧w.cell? ⟨rb,5,none⟩=some (.string r.g.start)∧w.cell? ⟨rb,6,none⟩=some rv ∧
  w.cell? ⟨rb,7,none⟩=some (.bool r.start)∧w.cell? ⟨rb,8,none⟩=some (.int .i64 r.bad.code)∧∀ k,w.frozen? ⟨rb,k,none⟩=false :=
 ⟨by rw [cell_of_row _ _ _ _ _ _ h.blk]; rfl,by rw [cell_of_row _ _ _ _ _ _ h.blk]; rfl,by rw [cell_of_row _ _ _ _ _ _ h.blk]; rfl,by rw [cell_of_row _ _ _ _ _ _ h.blk]; rfl,by rw [cell_of_row _ _ _ _ _ _ h.blk]; rfl,
  by rw [cell_of_row _ _ _ _ _ _ h.blk]; rfl,by rw [cell_of_row _ _ _ _ _ _ h.blk]; rfl,by rw [cell_of_row _ _ _ _ _ _ h.blk]; rfl,fun k=>frozen_of_row _ _ _ _ _ h.blk⟩
/-- A mark's variable. -/
def MkB (w:World) (b:Nat) (m:Lx.Mark):Prop:=w.heap[b]?=some (.cells #[.int .i64 m.kind,.string m.text,.int .i64 m.pos.line,.int .i64 m.pos.col] 140 (0,0))
theorem MkB.cells {w:World} {b:Nat} {m:Lx.Mark} (h:MkB w b m):w.cell? ⟨b,0,none⟩=some (.int .i64 m.kind)∧w.cell? ⟨b,1,none⟩=some (.string m.text)∧w.cell? ⟨b,2,none⟩=some (.int .i64 m.pos.line)∧w.cell? ⟨b,3,none⟩=some (.int .i64 m.pos.col) :=
 ⟨by rw [cell_of_row _ _ _ _ _ _ h]; rfl,by rw [cell_of_row _ _ _ _ _ _ h]; rfl,by rw [cell_of_row _ _ _ _ _ _ h]; rfl,by rw [cell_of_row _ _ _ _ _ _ h]; rfl⟩
theorem MkB.new (w:World) (m:Lx.Mark):MkB (w.alloc (.cells #[.int .i64 m.kind,.string m.text,.int .i64 m.pos.line,.int .i64 m.pos.col] 140)) w.heap.size m:=heap_alloc_new w _
theorem MkB.lt {w:World} {b:Nat} {m:Lx.Mark} (h:MkB w b m):b < w.heap.size:=(Array.getElem?_eq_some_iff.1 h).1
theorem MkB.below {w w':World} {b:Nat} {m:Lx.Mark} (h:MkB w b m) (k:Below w.heap.size w w'):MkB w' b m:=(k.block _ h.lt).trans h
theorem MkB.upd {w w':World} {b rb:Nat} {m:Lx.Mark} (h:MkB w b m) (k:Upd rb w w') (hb:b≠rb):MkB w' b m:=(k.block _ h.lt hb).trans h
theorem GM.upd {w w':World} {rb:Nat} {g:Rd.Gr} {tv sv lv rv:Value} (h:GM w (rb+1) g tv sv lv rv) (k:Upd rb w w'):GM w' (rb+1) g tv sv lv rv:=h.keeps k.keeps fun b hb _=>by omega
theorem GM.below {w w':World} {rb:Nat} {g:Rd.Gr} {tv sv lv rv:Value} (h:GM w (rb+1) g tv sv lv rv) (k:Below w.heap.size w w'):GM w' (rb+1) g tv sv lv rv:=h.upd (Upd.of k)
theorem GM.alloc {w:World} {rb:Nat} {g:Rd.Gr} {tv sv lv rv:Value} (h:GM w (rb+1) g tv sv lv rv) (o:Obj):GM (w.alloc o) (rb+1) g tv sv lv rv:=h.below ((Below.refl _ _).alloc (Nat.le_refl _) _)
structure GrOk (g:Rd.Gr):Prop where
 t:g.toks.length≤20
 s:g.skips.length≤4
 l:g.levs.length≤10
 r:g.rules.length≤40
 ln:∀ x ∈ g.levs,x.names.length≤5002
 rn:∀ x ∈ g.rules,x.right.length≤8
/-- The reader's state, its rows among the blocks behind it. -/
structure RS (w:World) (rb:Nat) (la:Option Addr) (lc:Nat) (L:List Lx.Mark) (r:Rd.St):Prop where
 ex:∃ tv sv lv rv,RdB w rb la lc L r tv sv lv rv∧GM w (rb+1) r.g tv sv lv rv
 ok:GrOk r.g
/-- What may change: blocks from the reader's on. -/
theorem Upd.low {rb:Nat} {w w':World} (h:Upd rb w w') (hl:rb < w.heap.size):Below rb w w':=h.below (Nat.le_refl _) (by omega)
theorem take_g (L:List Lx.Mark) (r:Rd.St) (k:Int):(Rd.take L r k).2.g=r.g:=by
 unfold Rd.take Rd.fail
 simp only
 split
 ·split<;>rfl
 ·rfl
theorem fail_g (r:Rd.St) (c:Int) (p:Lx.Pos):(Rd.fail r c p).g=r.g:=by unfold Rd.fail; split<;>rfl
theorem pattern_g (L:List Lx.Mark) (r:Rd.St):(Rd.pattern L r).2.g=r.g:=by
 unfold Rd.pattern
 simp only
 split
 ·rfl
 ·split
  ·exact take_g L r 4
  ·exact take_g L r 4
theorem fail_no {r:Rd.St} (c:Int) (p:Lx.Pos) (h:(r.bad.code == 0)=false):Rd.fail r c p=r:=by unfold Rd.fail; rw [h]; rfl
theorem fail_yes {r:Rd.St} (c:Int) (p:Lx.Pos) (h:(r.bad.code == 0)=true):Rd.fail r c p={ r with bad:=⟨c,p.line,p.col⟩ }:=by unfold Rd.fail; rw [h]; rfl
theorem RdB.setG {w:World} {rb j:Nat} {la:Option Addr} {lc:Nat} {L:List Lx.Mark} {r r':Rd.St} {tv sv lv rv tv' sv' lv' rv' v:Value} (h:RdB w rb la lc L r tv sv lv rv) (hi:r'.i=r.i)
  (hc:(rdC (.slice la L.length lc) r tv sv lv rv).setIfInBounds j v=rdC (.slice la L.length lc) r' tv' sv' lv' rv') :
  RdB (w.setCell ⟨rb,j,none⟩ v) rb la lc L r' tv' sv' lv' rv'∧Upd rb w (w.setCell ⟨rb,j,none⟩ v):=by
 have k:Upd rb w (w.setCell ⟨rb,j,none⟩ v):=(Upd.refl rb w).setCell ⟨rb,j,none⟩ rfl _
 refine ⟨h.upd k (by rw [hi]; exact h.i) ?_,k⟩
 rw [heap_setCell_same _ _ _ _ _ _ h.blk,hc]
/-- Behind an append of one row's element. -/
theorem rows_grown {w w':World} {B:Nat} {e e':TypeId} {size size' n n':Nat} {v v':Value} {xs xs':List Value} (h:w.ownsRow B e size v n xs) (ho:w.ownsRow B e' size' v' n' xs') (hg:w.grownBy w' v.ownBlock) (he:e≠e'):w'.ownsRow B e' size' v' n' xs':=by
 refine owns_keeps ho (keeps_grown hg) fun b cs hb hcs hv=>?_
 rcases h.2 with ⟨rfl,_⟩ | ⟨g,cap,cur,rfl,hbg,hg2,_⟩
 ·cases hv
 ·simp [Value.ownBlock] at hv
  subst hv
  rw [hcs] at hg2
  simp at hg2
  exact he hg2.2.symm
theorem NsM.grown {w w':World} {B:Nat} {e:TypeId} {size n:Nat} {v v':Value} {xs:List Value} {l:List ByteArray} (h:w.ownsRow B e size v n xs) (ho:NsM w B v' l) (hg:w.grownBy w' v.ownBlock) (he:e≠9):NsM w' B v' l:=by
 refine ho.keeps (keeps_grown hg) fun b cs hb hcs hv=>?_
 rcases h.2 with ⟨rfl,_⟩ | ⟨g,cap,cur,rfl,hbg,hg2,_⟩
 ·cases hv
 ·simp [Value.ownBlock] at hv
  subst hv
  rw [hcs] at hg2
  simp at hg2
  exact he hg2.2.symm
theorem GM.addTok {w w':World} {B:Nat} {g:Rd.Gr} {tv sv lv rv tv':Value} (t:Rd.Tok) (h:GM w B g tv sv lv rv) (hg:w.grownBy w' tv.ownBlock)
  (ho:w'.ownsRow B 111 4 tv' (g.toks.length+1) (tkC g.toks++[.string t.name,.string t.pat.t,.string t.pat.s,.bool t.pat.m])):GM w' B { g with toks:=g.toks++[t] } tv' sv lv rv:=by
 obtain ⟨ns,hn,h1,h2⟩:=h.l
 obtain ⟨rs,hr,h3,h4⟩:=h.r
 refine ⟨by rw [tkC_snoc,List.length_append]; exact ho,rows_grown h.t h.s hg (by decide),⟨ns,hn,rows_grown h.t h1 hg (by decide),fun i hi hi'=>(h2 i hi hi').grown h.t hg (by decide)⟩,
  ⟨rs,hr,rows_grown h.t h3 hg (by decide),fun i hi hi'=>(h4 i hi hi').grown h.t hg (by decide)⟩⟩
theorem GM.addSkip {w w':World} {B:Nat} {g:Rd.Gr} {tv sv lv rv sv':Value} (t:Rd.Pat) (h:GM w B g tv sv lv rv) (hg:w.grownBy w' sv.ownBlock)
  (ho:w'.ownsRow B 109 3 sv' (g.skips.length+1) (ptC g.skips++[.string t.t,.string t.s,.bool t.m])):GM w' B { g with skips:=g.skips++[t] } tv sv' lv rv:=by
 obtain ⟨ns,hn,h1,h2⟩:=h.l
 obtain ⟨rs,hr,h3,h4⟩:=h.r
 refine ⟨rows_grown h.s h.t hg (by decide),by rw [ptC_snoc,List.length_append]; exact ho,⟨ns,hn,rows_grown h.s h1 hg (by decide),fun i hi hi'=>(h2 i hi hi').grown h.s hg (by decide)⟩,
  ⟨rs,hr,rows_grown h.s h3 hg (by decide),fun i hi hi'=>(h4 i hi hi').grown h.s hg (by decide)⟩⟩
theorem GM.addLev {w w':World} {B:Nat} {g:Rd.Gr} {tv sv lv rv lv' nv:Value} {ns:List Value} (t:Rd.Lev) (h:GM w B g tv sv lv rv) (hn:ns.length=g.levs.length) (h1:w.ownsRow B 107 2 lv g.levs.length (lvC g.levs ns))
  (h2:∀ i (h:i < g.levs.length) (h':i < ns.length),NsM w B ns[i] g.levs[i].names) (hnv:NsM w B nv t.names) (hg:w.grownBy w' lv.ownBlock)
  (ho:w'.ownsRow B 107 2 lv' (g.levs.length+1) (lvC g.levs ns++[.int .i64 t.assoc,nv])):GM w' B { g with levs:=g.levs++[t] } tv sv lv' rv:=by
 obtain ⟨rs,hr,h3,h4⟩:=h.r
 refine ⟨rows_grown h1 h.t hg (by decide),rows_grown h1 h.s hg (by decide),⟨ns++[nv],by simp [hn],?_,fun i hi hi'=>?_⟩,
  ⟨rs,hr,rows_grown h1 h3 hg (by decide),fun i hi hi'=>(h4 i hi hi').grown h1 hg (by decide)⟩⟩
 ·rw [lvC_snoc _ _ _ _ hn,List.length_append]; exact ho
 ·simp only at hi
  by_cases hlt:i < g.levs.length
  ·have hlt':i < ns.length:=by omega
   rw [List.getElem_append_left hlt']
   simp only [List.getElem_append_left hlt]
   exact (h2 i hlt hlt').grown h1 hg (by decide)
  ·have e:i=g.levs.length:=by simp at hi; omega
   subst e
   have e2:(ns++[nv])[g.levs.length]'hi'=nv:=by rw [List.getElem_append_right (by omega)]; simp [hn]
   have e3:(g.levs++[t])[g.levs.length]'hi=t:=by rw [List.getElem_append_right (by omega)]; simp
   simp only [e2,e3]
   exact hnv.grown h1 hg (by decide)
theorem GM.addRule {w w':World} {B:Nat} {g:Rd.Gr} {tv sv lv rv rv' nv:Value} {ns:List Value} (t:Rd.Rul) (h:GM w B g tv sv lv rv) (hn:ns.length=g.rules.length) (h1:w.ownsRow B 77 4 rv g.rules.length (rlC g.rules ns))
  (h2:∀ i (h:i < g.rules.length) (h':i < ns.length),NsM w B ns[i] g.rules[i].right) (hnv:NsM w B nv t.right) (hg:w.grownBy w' rv.ownBlock)
  (ho:w'.ownsRow B 77 4 rv' (g.rules.length+1) (rlC g.rules ns++[.string t.left,nv,.string t.prec,.string t.action])):GM w' B { g with rules:=g.rules++[t] } tv sv lv rv':=by
 obtain ⟨rs,hr,h3,h4⟩:=h.l
 refine ⟨rows_grown h1 h.t hg (by decide),rows_grown h1 h.s hg (by decide),⟨rs,hr,rows_grown h1 h3 hg (by decide),fun i hi hi'=>(h4 i hi hi').grown h1 hg (by decide)⟩,⟨ns++[nv],by simp [hn],?_,fun i hi hi'=>?_⟩⟩
 ·rw [rlC_snoc _ _ _ _ hn,List.length_append]; exact ho
 ·simp only at hi
  by_cases hlt:i < g.rules.length
  ·have hlt':i < ns.length:=by omega
   rw [List.getElem_append_left hlt']
   simp only [List.getElem_append_left hlt]
   exact (h2 i hlt hlt').grown h1 hg (by decide)
  ·have e:i=g.rules.length:=by simp at hi; omega
   subst e
   have e2:(ns++[nv])[g.rules.length]'hi'=nv:=by rw [List.getElem_append_right (by omega)]; simp [hn]
   have e3:(g.rules++[t])[g.rules.length]'hi=t:=by rw [List.getElem_append_right (by omega)]; simp
   simp only [e2,e3]
   exact hnv.grown h1 hg (by decide)
theorem elt_tok:Elt Tryd.prog 69 111 4 56 where
 ht:=Tryd.underlying69
 hi:=by
  have h:(Tryd.prog.info? 111).map (fun i=>(i.zero.map (fun z=>z.cells.size),i.size,i.bytes))=some (some 4,4,56):=by kernel_rfl
  cases hi:Tryd.prog.info? 111 with
  | none=>simp [hi] at h
  | some i =>
   simp [hi] at h
   obtain ⟨⟨z,hz,hz1⟩,h2,h3⟩:=h
   exact ⟨i,z,rfl,hz,h2,h3,hz1⟩
 hsz:=by decide
theorem elt_pat:Elt Tryd.prog 70 109 3 40 where
 ht:=Tryd.underlying70
 hi:=by
  have h:(Tryd.prog.info? 109).map (fun i=>(i.zero.map (fun z=>z.cells.size),i.size,i.bytes))=some (some 3,3,40):=by kernel_rfl
  cases hi:Tryd.prog.info? 109 with
  | none=>simp [hi] at h
  | some i =>
   simp [hi] at h
   obtain ⟨⟨z,hz,hz1⟩,h2,h3⟩:=h
   exact ⟨i,z,rfl,hz,h2,h3,hz1⟩
 hsz:=by decide
theorem elt_lev:Elt Tryd.prog 71 107 2 32 where
 ht:=Tryd.underlying71
 hi:=by
  have h:(Tryd.prog.info? 107).map (fun i=>(i.zero.map (fun z=>z.cells.size),i.size,i.bytes))=some (some 2,2,32):=by kernel_rfl
  cases hi:Tryd.prog.info? 107 with
  | none=>simp [hi] at h
  | some i =>
   simp [hi] at h
   obtain ⟨⟨z,hz,hz1⟩,h2,h3⟩:=h
   exact ⟨i,z,rfl,hz,h2,h3,hz1⟩
 hsz:=by decide
theorem elt_rule:Elt Tryd.prog 72 77 4 72 where
 ht:=Tryd.underlying72
 hi:=by
  have h:(Tryd.prog.info? 77).map (fun i=>(i.zero.map (fun z=>z.cells.size),i.size,i.bytes))=some (some 4,4,72):=by kernel_rfl
  cases hi:Tryd.prog.info? 77 with
  | none=>simp [hi] at h
  | some i =>
   simp [hi] at h
   obtain ⟨⟨z,hz,hz1⟩,h2,h3⟩:=h
   exact ⟨i,z,rfl,hz,h2,h3,hz1⟩
 hsz:=by decide
theorem elt_str:Elt Tryd.prog 28 9 1 16 where
 ht:=Tryd.underlying28
 hi:=by
  have h:(Tryd.prog.info? 9).map (fun i=>(i.zero.map (fun z=>z.cells.size),i.size,i.bytes))=some (some 1,1,16):=by kernel_rfl
  cases hi:Tryd.prog.info? 9 with
  | none=>simp [hi] at h
  | some i =>
   simp [hi] at h
   obtain ⟨⟨z,hz,hz1⟩,h2,h3⟩:=h
   exact ⟨i,z,rfl,hz,h2,h3,hz1⟩
 hsz:=by decide
theorem rdb_grown {w w':World} {rb n size:Nat} {e:TypeId} {xs:List Value} {v:Value} {la:Option Addr} {lc:Nat} {L:List Lx.Mark} {r:Rd.St} {tv sv lv rv:Value} (h:RdB w rb la lc L r tv sv lv rv) (ho:w.ownsRow (rb+1) e size v n xs) (hg:w.grownBy w' v.ownBlock):RdB w' rb la lc L r tv sv lv rv :=
 h.frame fun j hj=>hg.block j (by have:=h.lt; omega) (fun e=>by have:=(owns_lt ho _ e.symm).1; omega)
theorem low_grown {w0 w w':World} {rb n size:Nat} {e:TypeId} {xs:List Value} {v:Value} (h:Below rb w0 w) (hl:rb < w0.heap.size) (ho:w.ownsRow (rb+1) e size v n xs) (hg:w.grownBy w' v.ownBlock):Below rb w0 w' :=
 h.grown hg (by have:=h.size; omega) (fun g e=>by have:=(owns_lt ho _ e).1; omega)
end Go.Proofs.YtjbggogbnckllaaDoor
end
section
set_option maxRecDepth 100000
namespace Go.Proofs.YtjbggogbnckllaaDoor
open Go.RowKit
set_option linter.unusedVariables false
set_option linter.unusedSimpArgs false
theorem lit_token:ByteArray.toList (⟨#[116,111,107,101,110]⟩:ByteArray)=[116,111,107,101,110]:=by rw [ByteArray.toList_eq]
theorem lit_skip:ByteArray.toList (⟨#[115,107,105,112]⟩:ByteArray)=[115,107,105,112]:=by rw [ByteArray.toList_eq]
theorem lit_left:ByteArray.toList (⟨#[108,101,102,116]⟩:ByteArray)=[108,101,102,116]:=by rw [ByteArray.toList_eq]
theorem lit_right:ByteArray.toList (⟨#[114,105,103,104,116]⟩:ByteArray)=[114,105,103,104,116]:=by rw [ByteArray.toList_eq]
theorem lit_non:ByteArray.toList (⟨#[110,111,110,97,115,115,111,99]⟩:ByteArray)=[110,111,110,97,115,115,111,99]:=by rw [ByteArray.toList_eq]
theorem lit_start:ByteArray.toList (⟨#[115,116,97,114,116]⟩:ByteArray)=[115,116,97,114,116]:=by rw [ByteArray.toList_eq]
theorem lit_prec:ByteArray.toList (⟨#[112,114,101,99]⟩:ByteArray)=[112,114,101,99]:=by rw [ByteArray.toList_eq]
theorem eqS_toList (s t:ByteArray):Lx.eqS s t=(s.toList == t.toList):=by unfold Lx.eqS; rw [ByteArray.toList_eq,ByteArray.toList_eq]
theorem eqs_no {s t u:ByteArray} (h:Lx.eqS s t=true) (hn:t≠u):Lx.eqS s u=false:=eqS_no (fun e=>hn ((Lx.eqS_iff.1 h).symm.trans e))
/-- What the walks of a declaration share. -/
structure At1 (w0 w:World) (rb:Nat) (la:Option Addr) (lc:Nat) (L:List Lx.Mark) (r:Rd.St) (tv sv lv rv:Value):Prop where
 R:RdB w rb la lc L r tv sv lv rv
 G:GM w (rb+1) r.g tv sv lv rv
 K:Upd rb w0 w
section
variable {w0 w w':World} {rb:Nat} {la:Option Addr} {lc:Nat} {L:List Lx.Mark} {r r':Rd.St} {tv sv lv rv:Value}
theorem At1.lt (h:At1 w0 w rb la lc L r tv sv lv rv):rb < w.heap.size:=h.R.lt
theorem At1.alloc (h:At1 w0 w rb la lc L r tv sv lv rv) (o:Obj):At1 w0 (w.alloc o) rb la lc L r tv sv lv rv:=⟨h.R.alloc o,h.G.alloc o,h.K.alloc o⟩
theorem At1.below (h:At1 w0 w rb la lc L r tv sv lv rv) (k:Below w.heap.size w w'):At1 w0 w' rb la lc L r tv sv lv rv:=⟨h.R.below k,h.G.below k,h.K.trans (Upd.of k)⟩
theorem At1.step (h:At1 w0 w rb la lc L r tv sv lv rv) (hr:RdB w' rb la lc L r' tv sv lv rv) (k:Upd rb w w') (e:r'.g=r.g):At1 w0 w' rb la lc L r' tv sv lv rv :=
 ⟨hr,by rw [e]; exact h.G.upd k,h.K.trans k⟩
theorem At1.rs (h:At1 w0 w rb la lc L r tv sv lv rv) (ho:GrOk r.g) (hl:rb < w0.heap.size):RS w rb la lc L r∧Below rb w0 w :=
 ⟨⟨⟨tv,sv,lv,rv,h.R,h.G⟩,ho⟩,h.K.low hl⟩
theorem At1.ns (h:At1 w0 w rb la lc L r tv sv lv rv):r.i≤L.length∧L.length≤5000:=⟨h.R.i,h.R.n⟩
theorem RS.at1 (h:RS w rb la lc L r):∃ ta tc sa sc lva lvc ra rc,At1 w w rb la lc L r (.slice ta r.g.toks.length tc) (.slice sa r.g.skips.length sc) (.slice lva r.g.levs.length lvc) (.slice ra r.g.rules.length rc):=by
 obtain ⟨tv,sv,lv,rv,hR,hG⟩:=h.ex
 obtain ⟨ta,tc,rfl,_⟩:=RowV.of_owns hG.t
 obtain ⟨sa,sc,rfl,_⟩:=RowV.of_owns hG.s
 obtain ⟨ns,hn,hl,_⟩:=hG.l
 obtain ⟨lva,lvc,rfl,_⟩:=RowV.of_owns hl
 obtain ⟨rs,hr,hl2,_⟩:=hG.r
 obtain ⟨ra,rc,rfl,_⟩:=RowV.of_owns hl2
 exact ⟨ta,tc,sa,sc,lva,lvc,ra,rc,hR,hG,Upd.refl _ _⟩
end
theorem beq20 (n:Nat):((n:Int) == 20)=(n == 20):=by
 rw [Bool.eq_iff_iff,beq_iff_eq,beq_iff_eq]; omega
theorem dt1 {L:List Lx.Mark} {r r1:Rd.St} {m m1:Lx.Mark} (ht:Lx.eqS m.text Rd.wToken=true) (e1:m1=(Rd.take L r 1).1) (e2:r1=(Rd.take L r 1).2) (h1:(r1.bad.code == 0)=true) (h2:Rd.declared r1.g m1.text=true) :
  Rd.declaration L r m=Rd.fail r1 15 m1.pos:=by
 unfold Rd.declaration
 rw [ht,← e1,← e2]
 simp only [if_true,Rd.ok,h1,h2,Bool.and_self]
 have h3:((Rd.fail r1 15 m1.pos).bad.code == 0)=false:=by rw [fail_yes _ _ h1]; rfl
 rw [fail_no 3 m1.pos h3,ite_self,h3]
 rfl
theorem dt2 {L:List Lx.Mark} {r r1:Rd.St} {m m1:Lx.Mark} (ht:Lx.eqS m.text Rd.wToken=true) (e1:m1=(Rd.take L r 1).1) (e2:r1=(Rd.take L r 1).2) (h1:(r1.bad.code == 0)=false) :
  Rd.declaration L r m=r1:=by
 unfold Rd.declaration
 rw [ht,← e1,← e2]
 simp only [if_true,Rd.ok,h1,Bool.false_and,Bool.false_eq_true,if_false]
 rw [fail_no 3 m1.pos h1,ite_self,h1]
 rfl
theorem dt3 {L:List Lx.Mark} {r r1:Rd.St} {m m1:Lx.Mark} (ht:Lx.eqS m.text Rd.wToken=true) (e1:m1=(Rd.take L r 1).1) (e2:r1=(Rd.take L r 1).2) (h1:(r1.bad.code == 0)=true) (h2:Rd.declared r1.g m1.text=false) (h3:(r1.g.toks.length == 20)=true) :
  Rd.declaration L r m=Rd.fail r1 3 m1.pos:=by
 unfold Rd.declaration
 rw [ht,← e1,← e2]
 simp only [if_true,Rd.ok,h1,h2,h3,Bool.true_and,Bool.false_eq_true,if_false]
 have h3:((Rd.fail r1 3 m1.pos).bad.code == 0)=false:=by rw [fail_yes _ _ h1]; rfl
 rw [h3]
 rfl
theorem dt4 {L:List Lx.Mark} {r r1 r2:Rd.St} {m m1:Lx.Mark} {p:Rd.Pat} (ht:Lx.eqS m.text Rd.wToken=true) (e1:m1=(Rd.take L r 1).1) (e2:r1=(Rd.take L r 1).2) (h1:(r1.bad.code == 0)=true) (h2:Rd.declared r1.g m1.text=false) (h3:(r1.g.toks.length == 20)=false)
  (e3:p=(Rd.pattern L r1).1) (e4:r2=(Rd.pattern L r1).2):Rd.declaration L r m={ r2 with g:={ r2.g with toks:=r2.g.toks++[⟨m1.text,p⟩] } }:=by
 unfold Rd.declaration
 rw [ht,← e1,← e2]
 simp only [if_true,Rd.ok,h1,h2,h3,Bool.true_and,Bool.false_eq_true,if_false,Bool.not_true]
 rw [← e3,← e4]
theorem addTok_end {w0 w w':World} {rb:Nat} {la:Option Addr} {lc:Nat} {L:List Lx.Mark} {r:Rd.St} {tv sv lv rv tv':Value} (t:Rd.Tok) (h:At1 w0 w rb la lc L r tv sv lv rv) (hl:rb < w0.heap.size) (ho:GrOk r.g) (hn:r.g.toks.length < 20) (hg:w.grownBy w' tv.ownBlock)
  (hw:w'.ownsRow (rb+1) 111 4 tv' (r.g.toks.length+1) (tkC r.g.toks++[.string t.name,.string t.pat.t,.string t.pat.s,.bool t.pat.m])) :
  RS (w'.setCell ⟨rb,2,none⟩ tv') rb la lc L { r with g:={ r.g with toks:=r.g.toks++[t] } }∧Below rb w0 (w'.setCell ⟨rb,2,none⟩ tv'):=by
 have hR:=rdb_grown h.R h.G.t hg
 have hG:=h.G.addTok t hg hw
 obtain ⟨h1,h2⟩:=RdB.setG (j:=2) (v:=tv') (r':={ r with g:={ r.g with toks:=r.g.toks++[t] } }) (tv':=tv') (sv':=sv) (lv':=lv) (rv':=rv) hR rfl rfl
 refine ⟨⟨⟨tv',sv,lv,rv,h1,hG.upd h2⟩,⟨by simp; omega,ho.s,ho.l,ho.r,ho.ln,ho.rn⟩⟩,(low_grown (h.K.low hl) hl h.G.t hg).setCell (Nat.le_refl _) _⟩
set_option maxRecDepth 100000 in
set_option maxHeartbeats 16000000 in
theorem decl_token {w:World} {rb:Nat} {la:Option Addr} {lc:Nat} {L:List Lx.Mark} {r:Rd.St} (m:Lx.Mark) (h:RS w rb la lc L r) (ht:Lx.eqS m.text Rd.wToken=true) :
  Calls Tryd.prog 86 #[.pointer (some ⟨rb,0,none⟩),.agg #[.int .i64 m.kind,.string m.text,.int .i64 m.pos.line,.int .i64 m.pos.col]] w fun e w'=>e=.returned (.tuple #[])∧RS w' rb la lc L (Rd.declaration L r m)∧Below rb w w':=by
 have hO:=Lib.hid h.ok
 obtain ⟨ta,tc,sa,sc,lva,lvc,ra,rc,h0⟩:=h.at1
 have hrb:=h0.lt
 have A0:=h0.alloc (.cells #[.int .i64 m.kind,.string m.text,.int .i64 m.pos.line,.int .i64 m.pos.col] 140)
 have he:(m.text.toList == [116,111,107,101,110])=true:=by rw [← lit_token,← eqS_toList]; exact ht
 have HT:=Lib.hid ht
 have htake:=take_any 1 (by decide) A0.R
 obtain ⟨m1,hm1⟩:∃ m1,m1=(Rd.take L r 1).1:=⟨_,rfl⟩
 obtain ⟨r1,hr1⟩:∃ r1,r1=(Rd.take L r 1).2:=⟨_,rfl⟩
 have hg1:r1.g=r.g:=by rw [hr1]; exact take_g L r 1
 rw [← hm1,← hr1] at htake
 simp only [vMark] at htake
 have HM1:=Lib.hid hm1
 have HR1:=Lib.hid hr1
 have HG1:=Lib.hid hg1
 have HA0:=Lib.hid A0
 clear h h0 A0 hm1 hr1 hg1 ht
 go_enter Tryd.func86,Tryd.ntmps86
 go_wp2_with fail
 refine htake.mono ?_
 rintro e w1 ⟨rfl,hR1,hu1⟩
 have A1:=Lib.hid ((HA0.out.step hR1 hu1 HG1.out).alloc (.cells #[.int .i64 m1.kind,.string m1.text,.int .i64 m1.pos.line,.int .i64 m1.pos.col] 140))
 have M1:=Lib.hid (MkB.new w1 m1)
 have hz1:=hu1.size
 simp at hz1
 clear hR1 hu1 HA0 htake
 go_wp2_with fail
 have hdc:=declared_any m1.text A1.out.R (by have:=A1.out.G.t; exact this) (by rw [HG1.out]; have:=hO.out.t; omega)
 refine hdc.mono ?_
 rintro e w2 ⟨rfl,rfl⟩
 clear hdc
 generalize hW2:w1.alloc (.cells #[.int .i64 m1.kind,.string m1.text,.int .i64 m1.pos.line,.int .i64 m1.pos.col] 140)=W2 at A1 M1 ⊢
 have hbm:w1.heap.size≠rb:=by omega
 have hl2:w1.heap.size < W2.heap.size:=M1.out.lt
 obtain ⟨c1,c2,c3,c4,c5,c6,c7,c8,cf⟩:=A1.out.R.cells
 obtain ⟨d0,d1,d2,d3⟩:=M1.out.cells
 clear hW2 cf c3 c4 c5 c6 c7 d0
 cases hc1:(r1.bad.code == 0)
 case false =>
  have hv:Hid (Rd.declaration L r m=r1):=Lib.hid (dt2 HT.out HM1.out HR1.out hc1)
  have hc1n:(r1.bad.code != 0)=true:=by simpa using hc1
  cases h20:((r.g.toks.length:Int) == 20)
  case false =>
   go_wp2_with fail
   refine bodyPost_ret (results_none rfl _ _ _) rfl ⟨rfl,?_⟩
   rw [hv.out]
   exact A1.out.rs (by rw [HG1.out]; exact hO.out) hrb
  case true =>
   go_wp2_with fail
   refine (fail_any 3 m1.pos A1.out.R).mono ?_
   rintro e A2w ⟨rfl,hR,hu⟩
   have A2:=Lib.hid (A1.out.step hR hu (fail_g _ _ _))
   have A2M:=Lib.hid (M1.out.upd hu hbm)
   clear hR hu
   have e2:=fail_no (r:=r1) 3 m1.pos hc1
   rw [e2] at A2
   clear c2 c8
   obtain ⟨x1,x2,x3,x4,x5,x6,x7,x8,xf⟩:=A2.out.R.cells
   obtain ⟨xm0,xm1,xm2,xm3⟩:=A2M.out.cells
   clear xf x1 x3 x4 x5 x6 x7 xm0
   go_wp2_with fail
   refine bodyPost_ret (results_none rfl _ _ _) rfl ⟨rfl,?_⟩
   rw [hv.out]
   exact A2.out.rs (by rw [HG1.out]; exact hO.out) hrb
 case true =>
  cases hdc:Rd.declared r1.g m1.text
  case true =>
   have hv:Hid (Rd.declaration L r m=Rd.fail r1 15 m1.pos):=Lib.hid (dt1 HT.out HM1.out HR1.out hc1 hdc)
   have hb2:((Rd.fail r1 15 m1.pos).bad.code == 0)=false:=by rw [fail_yes _ _ hc1]; rfl
   have hb2n:((Rd.fail r1 15 m1.pos).bad.code != 0)=true:=by simpa using hb2
   have hg2:=Lib.hid (fail_g r1 15 m1.pos)
   go_wp2_with fail
   refine (fail_any 15 m1.pos A1.out.R).mono ?_
   rintro e A2w ⟨rfl,hR,hu⟩
   have A2:=Lib.hid (A1.out.step hR hu (fail_g _ _ _))
   have A2M:=Lib.hid (M1.out.upd hu hbm)
   clear hR hu
   obtain ⟨r2,hr2⟩:∃ r2,r2=Rd.fail r1 15 m1.pos:=⟨_,rfl⟩
   rw [← hr2] at A2 hv hb2 hb2n hg2
   clear hr2
   obtain ⟨x1,x2,x3,x4,x5,x6,x7,x8,xf⟩:=A2.out.R.cells
   obtain ⟨xm0,xm1,xm2,xm3⟩:=A2M.out.cells
   clear xf x1 x3 x4 x5 x6 x7 xm0
   clear c2 c8 d1 d2 d3
   cases h20:((r.g.toks.length:Int) == 20)
   case false =>
    go_wp2_with fail
    refine bodyPost_ret (results_none rfl _ _ _) rfl ⟨rfl,?_⟩
    rw [hv.out]
    exact A2.out.rs (by rw [hg2.out,HG1.out]; exact hO.out) hrb
   case true =>
    go_wp2_with fail
    refine (fail_any 3 m1.pos A2.out.R).mono ?_
    rintro e A3w ⟨rfl,hR,hu⟩
    have A3:=Lib.hid (A2.out.step hR hu (fail_g _ _ _))
    have A3M:=Lib.hid (A2M.out.upd hu hbm)
    clear hR hu
    have e2:=fail_no (r:=r2) 3 m1.pos hb2
    rw [e2] at A3
    clear x2 x8
    obtain ⟨y1,y2,y3,y4,y5,y6,y7,y8,yf⟩:=A3.out.R.cells
    obtain ⟨ym0,ym1,ym2,ym3⟩:=A3M.out.cells
    clear yf y1 y3 y4 y5 y6 y7 ym0
    go_wp2_with fail
    refine bodyPost_ret (results_none rfl _ _ _) rfl ⟨rfl,?_⟩
    rw [hv.out]
    exact A3.out.rs (by rw [hg2.out,HG1.out]; exact hO.out) hrb
  case false =>
   cases h20:((r.g.toks.length:Int) == 20)
   case true =>
    have hv:Hid (Rd.declaration L r m=Rd.fail r1 3 m1.pos):=Lib.hid (dt3 HT.out HM1.out HR1.out hc1 hdc (by rw [HG1.out,← beq20]; exact h20))
    have hb2:((Rd.fail r1 3 m1.pos).bad.code == 0)=false:=by rw [fail_yes _ _ hc1]; rfl
    have hb2n:((Rd.fail r1 3 m1.pos).bad.code != 0)=true:=by simpa using hb2
    have hg2:=Lib.hid (fail_g r1 3 m1.pos)
    go_wp2_with fail
    refine (fail_any 3 m1.pos A1.out.R).mono ?_
    rintro e A2w ⟨rfl,hR,hu⟩
    have A2:=Lib.hid (A1.out.step hR hu (fail_g _ _ _))
    have A2M:=Lib.hid (M1.out.upd hu hbm)
    clear hR hu
    obtain ⟨r2,hr2⟩:∃ r2,r2=Rd.fail r1 3 m1.pos:=⟨_,rfl⟩
    rw [← hr2] at A2 hv hb2 hb2n hg2
    clear hr2 c2 c8 d1 d2 d3
    obtain ⟨x1,x2,x3,x4,x5,x6,x7,x8,xf⟩:=A2.out.R.cells
    obtain ⟨xm0,xm1,xm2,xm3⟩:=A2M.out.cells
    clear xf x1 x3 x4 x5 x6 x7 xm0
    go_wp2_with fail
    refine bodyPost_ret (results_none rfl _ _ _) rfl ⟨rfl,?_⟩
    rw [hv.out]
    exact A2.out.rs (by rw [hg2.out,HG1.out]; exact hO.out) hrb
   case false =>
    obtain ⟨p,hp⟩:∃ p,p=(Rd.pattern L r1).1:=⟨_,rfl⟩
    obtain ⟨r2,hr2⟩:∃ r2,r2=(Rd.pattern L r1).2:=⟨_,rfl⟩
    have hv:Hid (Rd.declaration L r m={ r2 with g:={ r2.g with toks:=r2.g.toks++[⟨m1.text,p⟩] } }):=Lib.hid (dt4 HT.out HM1.out HR1.out hc1 hdc (by rw [HG1.out,← beq20]; exact h20) hp hr2)
    have hg2:Hid (r2.g=r.g):=Lib.hid (by rw [hr2,pattern_g,HG1.out])
    have hpt:=pattern_any A1.out.R
    rw [← hp,← hr2] at hpt
    simp only [vPat] at hpt
    have hc1n:(r1.bad.code != 0)=false:=by simpa using hc1
    clear hp hr2
    go_wp2_with fail
    refine hpt.mono ?_
    rintro e w3 ⟨rfl,hR,hu⟩
    have hz3:=hu.size
    have A2:=Lib.hid ((A1.out.step hR hu (hg2.out.trans HG1.out.symm)).alloc (.cells #[.string p.t,.string p.s,.bool p.m] 109))
    have M2:=Lib.hid ((M1.out.upd hu hbm).below ((Below.refl _ _).alloc (Nat.le_refl _) (.cells #[.string p.t,.string p.s,.bool p.m] 109)))
    have hP:=heap_alloc_new w3 (.cells #[.string p.t,.string p.s,.bool p.m] 109)
    clear hR hu hpt c2 c8 d1 d2 d3
    go_wp2_with fail
    generalize hW3:w3.alloc (.cells #[.string p.t,.string p.s,.bool p.m] 109)=W3 at A2 M2 hP ⊢
    clear hW3
    have hlW:=A2.out.lt
    have hbp:w3.heap.size < W3.heap.size:=(Array.getElem?_eq_some_iff.1 hP).1
    have hl1:w1.heap.size < W3.heap.size:=M2.out.lt
    have c2:∀ z:Wd W3.heap.size W3,z.w.cell? ⟨rb,2,none⟩=some (.slice ta r.g.toks.length tc):=fun z=>((bcell z.ok).1 _ _ hlW).trans A2.out.R.cells.2.1
    have d1:∀ z:Wd W3.heap.size W3,z.w.cell? ⟨w1.heap.size,1,none⟩=some (.string m1.text):=fun z=>((bcell z.ok).1 _ _ hl1).trans M2.out.cells.2.1
    have p0:∀ z:Wd W3.heap.size W3,z.w.cell? ⟨w3.heap.size,0,none⟩=some (.string p.t):=fun z=>((bcell z.ok).1 _ _ hbp).trans (by rw [cell_of_row _ _ _ _ _ _ hP]; rfl)
    have p1:∀ z:Wd W3.heap.size W3,z.w.cell? ⟨w3.heap.size,1,none⟩=some (.string p.s):=fun z=>((bcell z.ok).1 _ _ hbp).trans (by rw [cell_of_row _ _ _ _ _ _ hP]; rfl)
    have p2:∀ z:Wd W3.heap.size W3,z.w.cell? ⟨w3.heap.size,2,none⟩=some (.bool p.m):=fun z=>((bcell z.ok).1 _ _ hbp).trans (by rw [cell_of_row _ _ _ _ _ _ hP]; rfl)
    clear hP
    refine region_fx 10 W3.heap.size (fun c a d v w h=>by cases d<;>exact h) (Nat.le_refl _) (by kernel_rfl) (by kernel_rfl) ?_
    simp only [List.take_succ_cons,List.take_zero,List.drop_succ_cons,List.drop_zero]
    repeat (go_big_quiet_step (fail))
    refine wpQuiet_nil ?_
    intro z
    have A3:=Lib.hid (A2.out.below z.ok)
    have hO1:=hO.out.t
    have hn20:r.g.toks.length < 20:=by
     have:r.g.toks.length≠20:=by intro h; rw [h] at h20; exact absurd h20 (by decide)
     omega
    clear c2 d1 p0 p1 p2 h20
    have hrz:=A3.out.lt
    generalize z.w=Z at A3 hrz ⊢
    have hT:=Lib.hid ((A3.out.alloc (.cells #[.string m1.text,.string p.t,.string p.s,.bool p.m] 111)).G.t)
    rw [hg2.out] at hT
    go_wp2_with (refine list_append_one rfl _ _ _ rfl 111 (rb+1) 4 56 elt_tok (.slice ta r.g.toks.length tc) r.g.toks.length (tkC r.g.toks) rfl hT.out ⟨Z.heap.size,0,none⟩ 1 [.string m1.text,.string p.t,.string p.s,.bool p.m] rfl rfl (World.news_of_block (cs:=#[.string m1.text,.string p.t,.string p.s,.bool p.m]) (t:=111) (fr:=(0,0)) (heap_alloc_new Z _)) (by simp [Value.oneCell']) (by unfold maxLen; omega) (by omega) (by simp; omega) ?_; intro gg gcap w4 hown hgrow hbg hlt4 hat4; have hR4:=rdb_grown (A3.out.alloc (.cells #[.string m1.text,.string p.t,.string p.s,.bool p.m] 111)).R hT.out hgrow; have q2:=hR4.cells.2.1; have qf:=hR4.cells.2.2.2.2.2.2.2.2 2; have HE:=Lib.hid (addTok_end ⟨m1.text,p⟩ (A3.out.alloc (.cells #[.string m1.text,.string p.t,.string p.s,.bool p.m] 111)) hrb (by rw [hg2.out]; exact hO.out) (by rw [hg2.out]; exact hn20) hgrow (by rw [hg2.out]; exact hown)); clear hR4 hown hgrow hat4)
    go_end0
    rw [hv.out]
    exact ⟨rfl,HE.out⟩
end Go.Proofs.YtjbggogbnckllaaDoor
end
section
set_option maxRecDepth 100000
namespace Go.Proofs.YtjbggogbnckllaaDoor
open Go.RowKit
set_option linter.unusedVariables false
set_option linter.unusedSimpArgs false
theorem addSkip_end {w0 w w':World} {rb:Nat} {la:Option Addr} {lc:Nat} {L:List Lx.Mark} {r:Rd.St} {tv sv lv rv sv':Value} (t:Rd.Pat) (h:At1 w0 w rb la lc L r tv sv lv rv) (hl:rb < w0.heap.size) (ho:GrOk r.g) (hn:r.g.skips.length < 4) (hg:w.grownBy w' sv.ownBlock)
  (hw:w'.ownsRow (rb+1) 109 3 sv' (r.g.skips.length+1) (ptC r.g.skips++[.string t.t,.string t.s,.bool t.m])) :
  RS (w'.setCell ⟨rb,3,none⟩ sv') rb la lc L { r with g:={ r.g with skips:=r.g.skips++[t] } }∧Below rb w0 (w'.setCell ⟨rb,3,none⟩ sv'):=by
 have hR:=rdb_grown h.R h.G.s hg
 have hG:=h.G.addSkip t hg hw
 obtain ⟨h1,h2⟩:=RdB.setG (j:=3) (v:=sv') (r':={ r with g:={ r.g with skips:=r.g.skips++[t] } }) (tv':=tv) (sv':=sv') (lv':=lv) (rv':=rv) hR rfl rfl
 refine ⟨⟨⟨tv,sv',lv,rv,h1,hG.upd h2⟩,⟨ho.t,by simp; omega,ho.l,ho.r,ho.ln,ho.rn⟩⟩,(low_grown (h.K.low hl) hl h.G.s hg).setCell (Nat.le_refl _) _⟩
theorem beq4 (n:Nat):((n:Int) == 4)=(n == 4):=by
 rw [Bool.eq_iff_iff,beq_iff_eq,beq_iff_eq]; omega
theorem ds1 {L:List Lx.Mark} {r:Rd.St} {m:Lx.Mark} (ht:Lx.eqS m.text Rd.wSkip=true) (h1:(r.g.skips.length == 4)=true):Rd.declaration L r m=Rd.fail r 3 m.pos:=by
 unfold Rd.declaration
 rw [eqs_no ht (by decide),ht,h1]
 rfl
theorem ds2 {L:List Lx.Mark} {r r2:Rd.St} {p:Rd.Pat} {m:Lx.Mark} (ht:Lx.eqS m.text Rd.wSkip=true) (h1:(r.g.skips.length == 4)=false) (e1:p=(Rd.pattern L r).1) (e2:r2=(Rd.pattern L r).2) :
  Rd.declaration L r m={ r2 with g:={ r2.g with skips:=r2.g.skips++[p] } }:=by
 unfold Rd.declaration
 rw [eqs_no ht (by decide),ht,h1,e1,e2]
 rfl
set_option maxRecDepth 100000 in
set_option maxHeartbeats 16000000 in
theorem decl_skip {w:World} {rb:Nat} {la:Option Addr} {lc:Nat} {L:List Lx.Mark} {r:Rd.St} (m:Lx.Mark) (h:RS w rb la lc L r) (ht:Lx.eqS m.text Rd.wSkip=true) :
  Calls Tryd.prog 86 #[.pointer (some ⟨rb,0,none⟩),.agg #[.int .i64 m.kind,.string m.text,.int .i64 m.pos.line,.int .i64 m.pos.col]] w fun e w'=>e=.returned (.tuple #[])∧RS w' rb la lc L (Rd.declaration L r m)∧Below rb w w':=by
 have hO:=Lib.hid h.ok
 obtain ⟨ta,tc,sa,sc,lva,lvc,ra,rc,h0⟩:=h.at1
 have hrb:=h0.lt
 have A0:=Lib.hid (h0.alloc (.cells #[.int .i64 m.kind,.string m.text,.int .i64 m.pos.line,.int .i64 m.pos.col] 140))
 have M0:=Lib.hid (MkB.new w m)
 have he:(m.text.toList == [115,107,105,112])=true:=by rw [← lit_skip,← eqS_toList]; exact ht
 have hn1:(m.text.toList == [116,111,107,101,110])=false:=by rw [← lit_token,← eqS_toList]; exact eqs_no ht (by decide)
 have HT:=Lib.hid ht
 obtain ⟨c1,c2,c3,c4,c5,c6,c7,c8,cf⟩:=A0.out.R.cells
 clear h h0 ht c1 c2 c4 c5 c6 c7 c8 cf
 cases h20:((r.g.skips.length:Int) == 4)
 case true =>
  have hv:Hid (Rd.declaration L r m=Rd.fail r 3 m.pos):=Lib.hid (ds1 HT.out (by rw [← beq4]; exact h20))
  go_enter Tryd.func86,Tryd.ntmps86
  go_wp2_with fail
  refine (fail_any 3 m.pos A0.out.R).mono ?_
  rintro e w1 ⟨rfl,hR,hu⟩
  have A1:=Lib.hid (A0.out.step hR hu (fail_g _ _ _))
  have hgf:=fail_g r 3 m.pos
  rw [← hgf] at hO
  have HGF:=Lib.hid hgf
  clear hR hu c3 hgf
  go_wp2_with fail
  refine bodyPost_ret (results_none rfl _ _ _) rfl ⟨rfl,?_⟩
  rw [hv.out]
  exact A1.out.rs hO.out hrb
 case false =>
  obtain ⟨p,hp⟩:∃ p,p=(Rd.pattern L r).1:=⟨_,rfl⟩
  obtain ⟨r2,hr2⟩:∃ r2,r2=(Rd.pattern L r).2:=⟨_,rfl⟩
  have hv:Hid (Rd.declaration L r m={ r2 with g:={ r2.g with skips:=r2.g.skips++[p] } }):=Lib.hid (ds2 HT.out (by rw [← beq4]; exact h20) hp hr2)
  have hg2:Hid (r2.g=r.g):=Lib.hid (by rw [hr2,pattern_g])
  have hpt:=pattern_any A0.out.R
  rw [← hp,← hr2] at hpt
  simp only [vPat] at hpt
  clear hp hr2
  go_enter Tryd.func86,Tryd.ntmps86
  go_wp2_with fail
  refine hpt.mono ?_
  rintro e w3 ⟨rfl,hR,hu⟩
  have A2:=Lib.hid ((A0.out.step hR hu hg2.out).alloc (.cells #[.string p.t,.string p.s,.bool p.m] 109))
  have hP:=heap_alloc_new w3 (.cells #[.string p.t,.string p.s,.bool p.m] 109)
  clear hR hu hpt c3
  go_wp2_with fail
  generalize hW3:w3.alloc (.cells #[.string p.t,.string p.s,.bool p.m] 109)=W3 at A2 hP ⊢
  clear hW3
  have hlW:=A2.out.lt
  have hbp:w3.heap.size < W3.heap.size:=(Array.getElem?_eq_some_iff.1 hP).1
  have c2:∀ z:Wd W3.heap.size W3,z.w.cell? ⟨rb,3,none⟩=some (.slice sa r.g.skips.length sc):=fun z=>((bcell z.ok).1 _ _ hlW).trans A2.out.R.cells.2.2.1
  have p0:∀ z:Wd W3.heap.size W3,z.w.cell? ⟨w3.heap.size,0,none⟩=some (.string p.t):=fun z=>((bcell z.ok).1 _ _ hbp).trans (by rw [cell_of_row _ _ _ _ _ _ hP]; rfl)
  have p1:∀ z:Wd W3.heap.size W3,z.w.cell? ⟨w3.heap.size,1,none⟩=some (.string p.s):=fun z=>((bcell z.ok).1 _ _ hbp).trans (by rw [cell_of_row _ _ _ _ _ _ hP]; rfl)
  have p2:∀ z:Wd W3.heap.size W3,z.w.cell? ⟨w3.heap.size,2,none⟩=some (.bool p.m):=fun z=>((bcell z.ok).1 _ _ hbp).trans (by rw [cell_of_row _ _ _ _ _ _ hP]; rfl)
  clear hP
  refine region_fx 7 W3.heap.size (fun c a d v w h=>by cases d<;>exact h) (Nat.le_refl _) (by kernel_rfl) (by kernel_rfl) ?_
  simp only [List.take_succ_cons,List.take_zero,List.drop_succ_cons,List.drop_zero]
  repeat (go_big_quiet_step (fail))
  refine wpQuiet_nil ?_
  intro z
  have A3:=Lib.hid (A2.out.below z.ok)
  have hO1:=hO.out.s
  have hn20:r.g.skips.length < 4:=by
   have:r.g.skips.length≠4:=by intro h; rw [h] at h20; exact absurd h20 (by decide)
   omega
  clear c2 p0 p1 p2 h20
  have hrz:=A3.out.lt
  generalize z.w=Z at A3 hrz ⊢
  have hT:=Lib.hid ((A3.out.alloc (.cells #[.string p.t,.string p.s,.bool p.m] 109)).G.s)
  rw [hg2.out] at hT
  go_wp2_with (refine list_append_one rfl _ _ _ rfl 109 (rb+1) 3 40 elt_pat (.slice sa r.g.skips.length sc) r.g.skips.length (ptC r.g.skips) rfl hT.out ⟨Z.heap.size,0,none⟩ 1 [.string p.t,.string p.s,.bool p.m] rfl rfl (World.news_of_block (cs:=#[.string p.t,.string p.s,.bool p.m]) (t:=109) (fr:=(0,0)) (heap_alloc_new Z _)) (by simp [Value.oneCell']) (by unfold maxLen; omega) (by omega) (by simp; omega) ?_; intro gg gcap w4 hown hgrow hbg hlt4 hat4; have hR4:=rdb_grown (A3.out.alloc (.cells #[.string p.t,.string p.s,.bool p.m] 109)).R hT.out hgrow; have q2:=hR4.cells.2.2.1; have qf:=hR4.cells.2.2.2.2.2.2.2.2 3; have HE:=Lib.hid (addSkip_end p (A3.out.alloc (.cells #[.string p.t,.string p.s,.bool p.m] 109)) hrb (by rw [hg2.out]; exact hO.out) (by rw [hg2.out]; exact hn20) hgrow (by rw [hg2.out]; exact hown)); clear hR4 hown hgrow hat4)
  go_end0
  rw [hv.out]
  exact ⟨rfl,HE.out⟩
theorem dst1 {L:List Lx.Mark} {r:Rd.St} {m:Lx.Mark} (ht:Lx.eqS m.text Rd.wStart=true) (h1:r.start=true):Rd.declaration L r m=Rd.fail r 15 m.pos:=by
 unfold Rd.declaration
 rw [eqs_no ht (by decide),eqs_no ht (by decide),eqs_no ht (by decide),eqs_no ht (by decide),eqs_no ht (by decide),ht,h1]
 rfl
theorem dst2 {L:List Lx.Mark} {r r2:Rd.St} {m m2:Lx.Mark} (ht:Lx.eqS m.text Rd.wStart=true) (h1:r.start=false) (e1:m2=(Rd.take L { r with start:=true } 1).1) (e2:r2=(Rd.take L { r with start:=true } 1).2) :
  Rd.declaration L r m={ r2 with g:={ r2.g with start:=m2.text } }:=by
 unfold Rd.declaration
 rw [eqs_no ht (by decide),eqs_no ht (by decide),eqs_no ht (by decide),eqs_no ht (by decide),eqs_no ht (by decide),ht,h1,e1,e2]
 rfl
theorem delse {L:List Lx.Mark} {r:Rd.St} {m:Lx.Mark} (h1:Lx.eqS m.text Rd.wToken=false) (h2:Lx.eqS m.text Rd.wSkip=false) (h3:Lx.eqS m.text Rd.wLeft=false) (h4:Lx.eqS m.text Rd.wRight=false) (h5:Lx.eqS m.text Rd.wNon=false) (h6:Lx.eqS m.text Rd.wStart=false) :
  Rd.declaration L r m=Rd.fail r 14 m.pos:=by
 unfold Rd.declaration
 rw [h1,h2,h3,h4,h5,h6]
 rfl
set_option maxRecDepth 100000 in
set_option maxHeartbeats 16000000 in
theorem decl_start {w:World} {rb:Nat} {la:Option Addr} {lc:Nat} {L:List Lx.Mark} {r:Rd.St} (m:Lx.Mark) (h:RS w rb la lc L r) (ht:Lx.eqS m.text Rd.wStart=true) :
  Calls Tryd.prog 86 #[.pointer (some ⟨rb,0,none⟩),.agg #[.int .i64 m.kind,.string m.text,.int .i64 m.pos.line,.int .i64 m.pos.col]] w fun e w'=>e=.returned (.tuple #[])∧RS w' rb la lc L (Rd.declaration L r m)∧Below rb w w':=by
 have hO:=Lib.hid h.ok
 obtain ⟨ta,tc,sa,sc,lva,lvc,ra,rc,h0⟩:=h.at1
 have hrb:=h0.lt
 have A0:=Lib.hid (h0.alloc (.cells #[.int .i64 m.kind,.string m.text,.int .i64 m.pos.line,.int .i64 m.pos.col] 140))
 have M0:=Lib.hid (MkB.new w m)
 have he:(m.text.toList == [115,116,97,114,116])=true:=by rw [← lit_start,← eqS_toList]; exact ht
 have hn1:(m.text.toList == [116,111,107,101,110])=false:=by rw [← lit_token,← eqS_toList]; exact eqs_no ht (by decide)
 have hn2:(m.text.toList == [115,107,105,112])=false:=by rw [← lit_skip,← eqS_toList]; exact eqs_no ht (by decide)
 have hn3:(m.text.toList == [108,101,102,116])=false:=by rw [← lit_left,← eqS_toList]; exact eqs_no ht (by decide)
 have hn4:(m.text.toList == [114,105,103,104,116])=false:=by rw [← lit_right,← eqS_toList]; exact eqs_no ht (by decide)
 have hn5:(m.text.toList == [110,111,110,97,115,115,111,99])=false:=by rw [← lit_non,← eqS_toList]; exact eqs_no ht (by decide)
 have HT:=Lib.hid ht
 have H0:=Lib.hid h0
 obtain ⟨c1,c2,c3,c4,c5,c6,c7,c8,cf⟩:=A0.out.R.cells
 have cf7:=cf 7
 clear h h0 ht c1 c2 c3 c4 c5 c6 c8 cf
 cases hs:r.start
 case true =>
  have hv:Hid (Rd.declaration L r m=Rd.fail r 15 m.pos):=Lib.hid (dst1 HT.out hs)
  rw [hs] at c7
  clear hs
  go_enter Tryd.func86,Tryd.ntmps86
  go_wp2_with fail
  refine (fail_any 15 m.pos A0.out.R).mono ?_
  rintro e w1 ⟨rfl,hR,hu⟩
  have A1:=Lib.hid (A0.out.step hR hu (fail_g _ _ _))
  have hgf:=fail_g r 15 m.pos
  rw [← hgf] at hO
  have HGF:=Lib.hid hgf
  clear hR hu c7 hgf
  go_wp2_with fail
  refine bodyPost_ret (results_none rfl _ _ _) rfl ⟨rfl,?_⟩
  rw [hv.out]
  exact A1.out.rs hO.out hrb
 case false =>
  obtain ⟨m2,hm2⟩:∃ p,p=(Rd.take L { r with start:=true } 1).1:=⟨_,rfl⟩
  obtain ⟨r2,hr2⟩:∃ r2,r2=(Rd.take L { r with start:=true } 1).2:=⟨_,rfl⟩
  have hv:Hid (Rd.declaration L r m={ r2 with g:={ r2.g with start:=m2.text } }):=Lib.hid (dst2 HT.out hs hm2 hr2)
  have hg2:Hid (r2.g=r.g):=Lib.hid (by rw [hr2,take_g])
  rw [hs] at c7
  have hset:=RdB.setG (j:=7) (v:=.bool true) (r':={ r with start:=true }) (tv':=.slice ta r.g.toks.length tc) (sv':=.slice sa r.g.skips.length sc) (lv':=.slice lva r.g.levs.length lvc) (rv':=.slice ra r.g.rules.length rc) H0.out.R rfl rfl
  have A1:=Lib.hid ((H0.out.step hset.1 hset.2 rfl).alloc (.cells #[.int .i64 m.kind,.string m.text,.int .i64 m.pos.line,.int .i64 m.pos.col] 140))
  have htk:=take_any 1 (by decide) A1.out.R
  rw [← hm2,← hr2] at htk
  simp only [vMark] at htk
  have hfl:=fld_mark1 m2.kind m2.text m2.pos.line m2.pos.col
  clear hm2 hr2 hset hs
  go_enter Tryd.func86,Tryd.ntmps86
  go_wp2_with fail
  refine htk.mono ?_
  rintro e w3 ⟨rfl,hR,hu⟩
  have A2:=Lib.hid (A1.out.step hR hu hg2.out)
  have q5:=hR.cells.2.2.2.2.1
  have qf:=hR.cells.2.2.2.2.2.2.2.2 5
  clear hR hu htk c7 cf7
  go_wp2_with fail
  go_end0
  rw [hv.out]
  have hset:=RdB.setG (j:=5) (v:=.string m2.text) (r':={ r2 with g:={ r2.g with start:=m2.text } }) (tv':=.slice ta r.g.toks.length tc) (sv':=.slice sa r.g.skips.length sc) (lv':=.slice lva r.g.levs.length lvc) (rv':=.slice ra r.g.rules.length rc) A2.out.R rfl rfl
  have A3:At1 w _ rb la lc L { r2 with g:={ r2.g with start:=m2.text } } _ _ _ _:=⟨hset.1,by have:=A2.out.G.upd hset.2; exact ⟨this.t,this.s,this.l,this.r⟩,A2.out.K.trans hset.2⟩
  exact ⟨rfl,A3.rs (by have:=hO.out; rw [← hg2.out] at this; exact ⟨this.t,this.s,this.l,this.r,this.ln,this.rn⟩) hrb⟩
set_option maxRecDepth 100000 in
set_option maxHeartbeats 16000000 in
theorem decl_else {w:World} {rb:Nat} {la:Option Addr} {lc:Nat} {L:List Lx.Mark} {r:Rd.St} (m:Lx.Mark) (h:RS w rb la lc L r) (h1:Lx.eqS m.text Rd.wToken=false) (h2:Lx.eqS m.text Rd.wSkip=false) (h3:Lx.eqS m.text Rd.wLeft=false) (h4:Lx.eqS m.text Rd.wRight=false) (h5:Lx.eqS m.text Rd.wNon=false) (h6:Lx.eqS m.text Rd.wStart=false) :
  Calls Tryd.prog 86 #[.pointer (some ⟨rb,0,none⟩),.agg #[.int .i64 m.kind,.string m.text,.int .i64 m.pos.line,.int .i64 m.pos.col]] w fun e w'=>e=.returned (.tuple #[])∧RS w' rb la lc L (Rd.declaration L r m)∧Below rb w w':=by
 have hO:=Lib.hid h.ok
 obtain ⟨ta,tc,sa,sc,lva,lvc,ra,rc,h0⟩:=h.at1
 have hrb:=h0.lt
 have A0:=Lib.hid (h0.alloc (.cells #[.int .i64 m.kind,.string m.text,.int .i64 m.pos.line,.int .i64 m.pos.col] 140))
 have hv:Hid (Rd.declaration L r m=Rd.fail r 14 m.pos):=Lib.hid (delse h1 h2 h3 h4 h5 h6)
 rw [eqS_toList] at h1 h2 h3 h4 h5 h6
 unfold Rd.wToken at h1
 unfold Rd.wSkip at h2
 unfold Rd.wLeft at h3
 unfold Rd.wRight at h4
 unfold Rd.wNon at h5
 unfold Rd.wStart at h6
 rw [lit_token] at h1
 rw [lit_skip] at h2
 rw [lit_left] at h3
 rw [lit_right] at h4
 rw [lit_non] at h5
 rw [lit_start] at h6
 clear h h0
 go_enter Tryd.func86,Tryd.ntmps86
 go_wp2_with fail
 refine (fail_any 14 m.pos A0.out.R).mono ?_
 rintro e w1 ⟨rfl,hR,hu⟩
 have A1:=Lib.hid (A0.out.step hR hu (fail_g _ _ _))
 have hgf:=fail_g r 14 m.pos
 rw [← hgf] at hO
 have HGF:=Lib.hid hgf
 clear hR hu hgf
 go_wp2_with fail
 go_end0
 rw [hv.out]
 exact ⟨rfl,A1.out.rs hO.out hrb⟩
end Go.Proofs.YtjbggogbnckllaaDoor
end
