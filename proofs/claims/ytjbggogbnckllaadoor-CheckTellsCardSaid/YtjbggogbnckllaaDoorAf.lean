/-
  The reader in memory: its block, its grammar's rows, their preservation.
  Walks of the reference's reader: the mark that stands there.
  Walks of the reference's reader: what fails, what is taken.
  Walks of the reference's reader: a mark is taken.
  Walks of the reference's reader: a pattern.
  Reading views of a grammar's rows: where the cells of the i-th token, pattern, level, rule lie.
-/
import Derived.Test.YtjbggogbnckllaaDoorRd
import Derived.Test.YtjbggogbnckllaaDoorAe
section
set_option maxRecDepth 100000
namespace Go.Proofs.YtjbggogbnckllaaDoor
open Go.RowKit
set_option linter.unusedVariables false
def ptC (l:List Rd.Pat):List Value:=l.flatMap fun p=>[.string p.t,.string p.s,.bool p.m]
def tkC (l:List Rd.Tok):List Value:=l.flatMap fun t=>[.string t.name,.string t.pat.t,.string t.pat.s,.bool t.pat.m]
def lvC (l:List Rd.Lev) (ns:List Value):List Value:=(l.zip ns).flatMap fun q=>[.int .i64 q.1.assoc,q.2]
def rlC (l:List Rd.Rul) (ns:List Value):List Value:=(l.zip ns).flatMap fun q=>[.string q.1.left,q.2,.string q.1.prec,.string q.1.action]
/-- A slice of names in memory, in a block of texts from B on. -/
def NsM (w:World) (B:Nat) (v:Value) (l:List ByteArray):Prop:=∃ a cap,v=.slice a l.length cap ∧
 ∀ i (h:i < l.length),∃ b off cs,a=some ⟨b,off,none⟩∧B≤b∧w.heap[b]?=some (.cells cs 9 (0,0))∧w.cell? ⟨b,off+i,none⟩=some (.string l[i])
/-- Nothing but the blocks that meet p is changed. -/
structure Keeps (p:Nat→Prop) (w w':World):Prop where
 size:w.heap.size≤w'.heap.size
 block:∀ k,k < w.heap.size→¬ p k→w'.heap[k]?=w.heap[k]?
theorem Upd.keeps {b:Nat} {w w':World} (h:Upd b w w'):Keeps (·=b) w w':=⟨h.size,fun k hk hn=>h.block k hk hn⟩
theorem keeps_grown {w w':World} {row:Option Nat} (h:w.grownBy w' row):Keeps (fun k=>row=some k) w w':=⟨h.size,fun k hk hn=>h.block k hk (fun e=>hn e.symm)⟩
theorem cell_of_block {w w':World} {b o:Nat} (h:w'.heap[b]?=w.heap[b]?):w'.cell? ⟨b,o,none⟩=w.cell? ⟨b,o,none⟩:=by simp [World.cell?,h]
theorem NsM.keeps {p:Nat→Prop} {w w':World} {B:Nat} {v:Value} {l:List ByteArray} (h:NsM w B v l) (k:Keeps p w w') (hp:∀ b cs,B≤b→w.heap[b]?=some (.cells cs 9 (0,0))→¬ p b):NsM w' B v l:=by
 obtain ⟨a,cap,rfl,h⟩:=h
 refine ⟨a,cap,rfl,fun i hi=>?_⟩
 obtain ⟨b,off,cs,rfl,hb,hg,hc⟩:=h i hi
 have hlt:=(Array.getElem?_eq_some_iff.1 hg).1
 have e:=k.block b hlt (hp b cs hb hg)
 exact ⟨b,off,cs,rfl,hb,e.trans hg,(cell_of_block e).trans hc⟩
theorem owns_keeps {p:Nat→Prop} {w w':World} {base:Nat} {e:TypeId} {size:Nat} {v:Value} {n:Nat} {xs:List Value} (h:w.ownsRow base e size v n xs) (k:Keeps p w w')
  (hp:∀ b cs,base≤b→w.heap[b]?=some (.cells cs e (0,0))→¬ p b):w'.ownsRow base e size v n xs:=by
 obtain ⟨h1,h2⟩:=h
 refine ⟨h1,?_⟩
 rcases h2 with h2 | ⟨g,cap,cur,hv,hbg,hg,h3⟩
 ·exact .inl h2
 ·exact .inr ⟨g,cap,cur,hv,hbg,(k.block _ (Array.getElem?_eq_some_iff.1 hg).1 (hp g cur hbg hg)).trans hg,h3⟩
/-- A grammar's rows in memory. -/
structure GM (w:World) (B:Nat) (g:Rd.Gr) (tv sv lv rv:Value):Prop where
 t:w.ownsRow B 111 4 tv g.toks.length (tkC g.toks)
 s:w.ownsRow B 109 3 sv g.skips.length (ptC g.skips)
 l:∃ ns:List Value,ns.length=g.levs.length∧w.ownsRow B 107 2 lv g.levs.length (lvC g.levs ns)∧∀ i (h:i < g.levs.length) (h':i < ns.length),NsM w B ns[i] g.levs[i].names
 r:∃ ns:List Value,ns.length=g.rules.length∧w.ownsRow B 77 4 rv g.rules.length (rlC g.rules ns)∧∀ i (h:i < g.rules.length) (h':i < ns.length),NsM w B ns[i] g.rules[i].right
/-- It stays where no block from B on is changed. -/
theorem GM.keeps {p:Nat→Prop} {w w':World} {B:Nat} {g:Rd.Gr} {tv sv lv rv:Value} (h:GM w B g tv sv lv rv) (k:Keeps p w w') (hp:∀ b,B≤b→b < w.heap.size→¬ p b):GM w' B g tv sv lv rv:=by
 have hq:∀ {e:TypeId} b cs,B≤b→w.heap[b]?=some (.cells cs e (0,0))→¬ p b:=fun b cs hb hg=>hp b hb (Array.getElem?_eq_some_iff.1 hg).1
 obtain ⟨ns,hn,h1,h2⟩:=h.l
 obtain ⟨rs,hr,h3,h4⟩:=h.r
 exact ⟨owns_keeps h.t k hq,owns_keeps h.s k hq,⟨ns,hn,owns_keeps h1 k hq,fun i hi hi'=>(h2 i hi hi').keeps k hq⟩,⟨rs,hr,owns_keeps h3 k hq,fun i hi hi'=>(h4 i hi hi').keeps k hq⟩⟩
end Go.Proofs.YtjbggogbnckllaaDoor
end
section
set_option maxRecDepth 100000
namespace Go.Proofs.YtjbggogbnckllaaDoor
open Go.RowKit
set_option linter.unusedVariables false
set_option linter.unusedSimpArgs false
def vMark (m:Lx.Mark):Value:=.agg #[.int .i64 m.kind,.string m.text,.int .i64 m.pos.line,.int .i64 m.pos.col]
/-- The reader's cells. -/
def rdC (ls:Value) (r:Rd.St) (tv sv lv rv:Value):Array Value:=#[ls,.int .i64 r.i,tv,sv,lv,.string r.g.start,rv,.bool r.start,.int .i64 r.bad.code,.int .i64 r.bad.line,.int .i64 r.bad.col]
/-- The reader's block and its marks. -/
structure RdB (w:World) (rb:Nat) (la:Option Addr) (lc:Nat) (L:List Lx.Mark) (r:Rd.St) (tv sv lv rv:Value):Prop where
 blk:w.heap[rb]?=some (.cells (rdC (.slice la L.length lc) r tv sv lv rv) 143 (0,0))
 mks:Mks w la L
 i:r.i≤L.length
 n:L.length≤5000
 mb:∀ b off,la=some ⟨b,off,none⟩→b < rb
theorem RdB.lt {w:World} {rb:Nat} {la:Option Addr} {lc:Nat} {L:List Lx.Mark} {r:Rd.St} {tv sv lv rv:Value} (h:RdB w rb la lc L r tv sv lv rv):rb < w.heap.size:=(Array.getElem?_eq_some_iff.1 h.blk).1
theorem RdB.below {w w':World} {rb:Nat} {la:Option Addr} {lc:Nat} {L:List Lx.Mark} {r:Rd.St} {tv sv lv rv:Value} (h:RdB w rb la lc L r tv sv lv rv) (k:Below w.heap.size w w'):RdB w' rb la lc L r tv sv lv rv :=
 ⟨(k.block _ h.lt).trans h.blk,h.mks.below k,h.i,h.n,h.mb⟩
theorem Mks.upd {w w':World} {rb:Nat} {a:Option Addr} {l:List Lx.Mark} (h:Mks w a l) (k:Upd rb w w') (hb:∀ b off,a=some ⟨b,off,none⟩→b < rb):Mks w' a l:=by
 intro i hi
 obtain ⟨b,off,rfl,t0,t1,t2,t3⟩:=h i hi
 have hlt:b < w.heap.size:=World.block_lt_of_cell? w _ t0
 have e:w'.heap[b]?=w.heap[b]?:=k.block _ hlt (by have:=hb b off rfl; omega)
 exact ⟨b,off,rfl,(cell_of_block e).trans t0,(cell_of_block e).trans t1,(cell_of_block e).trans t2,(cell_of_block e).trans t3⟩
theorem RdB.upd {w w':World} {rb:Nat} {la:Option Addr} {lc:Nat} {L:List Lx.Mark} {r r':Rd.St} {tv sv lv rv tv' sv' lv' rv':Value} (h:RdB w rb la lc L r tv sv lv rv) (k:Upd rb w w') (hi:r'.i≤L.length)
  (hg:w'.heap[rb]?=some (.cells (rdC (.slice la L.length lc) r' tv' sv' lv' rv') 143 (0,0))):RdB w' rb la lc L r' tv' sv' lv' rv' :=
 ⟨hg,h.mks.upd k h.mb,hi,h.n,h.mb⟩
theorem mark_size:(Tryd.prog.info? 140).map (·.size)=some 4:=by kernel_rfl
set_option maxRecDepth 100000 in
set_option maxHeartbeats 8000000 in
theorem now_any {w:World} {rb:Nat} {la:Option Addr} {lc:Nat} {L:List Lx.Mark} {r:Rd.St} {tv sv lv rv:Value} (h:RdB w rb la lc L r tv sv lv rv) :
  Calls Tryd.prog 84 #[.pointer (some ⟨rb,0,none⟩)] w fun e w'=>e=.returned (vMark (Rd.now L r))∧Below w.heap.size w w':=by
 have hB:Below w.heap.size w (w.alloc (.cells #[.int .i64 0,.string ⟨#[]⟩,.int .i64 0,.int .i64 0] 140)):=(Below.refl _ _).alloc (Nat.le_refl _) _
 have gN:=heap_alloc_new w (.cells #[.int .i64 0,.string ⟨#[]⟩,.int .i64 0,.int .i64 0] 140)
 have hN:w.heap.size < (w.alloc (.cells #[.int .i64 0,.string ⟨#[]⟩,.int .i64 0,.int .i64 0] 140)).heap.size:=by simp
 have h1:=h.below hB
 have hi:=h.i
 have hn:=h.n
 go_enter Tryd.func84,Tryd.ntmps84
 go_wp2_with fail
 generalize (w.alloc (.cells #[.int .i64 0,.string ⟨#[]⟩,.int .i64 0,.int .i64 0] 140))=W at *
 have hlt:=h1.lt
 have c0:∀ z:Wd W.heap.size W,z.w.cell? ⟨rb,0,none⟩=some (.slice la L.length lc):=fun z=>((bcell z.ok).1 _ _ hlt).trans (by rw [cell_of_row _ _ _ _ _ _ h1.blk]; rfl)
 have c1:∀ z:Wd W.heap.size W,z.w.cell? ⟨rb,1,none⟩=some (.int .i64 r.i):=fun z=>((bcell z.ok).1 _ _ hlt).trans (by rw [cell_of_row _ _ _ _ _ _ h1.blk]; rfl)
 have H1:=Lib.hid h1
 have HB:=Lib.hid hB
 have HN:=Lib.hid gN
 clear h h1 hB gN hlt
 refine region_cls W.heap.size (by kernel_rfl) (by kernel_rfl) ?_
 repeat (go_big_quiet_step (fail))
 refine wpQuiet_nil ?_
 intro z
 have d0:=c0 z
 have d1:=c1 z
 have HZ:=Lib.hid (H1.out.below z.ok)
 have HBZ:=Lib.hid (HB.out.trans (z.ok.mono (by omega)))
 have HNZ:Hid (z.w.heap[w.heap.size]?=some (.cells #[.int .i64 0,.string ⟨#[]⟩,.int .i64 0,.int .i64 0] 140 (0,0))):=Lib.hid ((z.ok.block _ hN).trans HN.out)
 have hzn:w.heap.size < z.w.heap.size:=Nat.lt_of_lt_of_le hN z.ok.size
 clear c0 c1
 generalize z.w=W1 at *
 by_cases hl:r.i < L.length
 ·have hv:Hid (Rd.now L r=L[r.i]):=Lib.hid (by unfold Rd.now; rw [dif_pos hl])
  obtain ⟨b,off,rfl,m0,m1,m2,m3⟩:=HZ.out.mks r.i hl
  have hd:decide ((r.i:Int) < (L.length:Int))=true:=by simp; omega
  have hi0:(0:Int)≤(r.i:Int):=by omega
  have hi1:(r.i:Int) < (L.length:Int):=by omega
  have hlt:=HZ.out.lt
  have hlb:b < W1.heap.size:=World.block_lt_of_cell? W1 _ m0
  have x0:∀ x:Wd W1.heap.size W1,x.w.cell? ⟨rb,0,none⟩=some (.slice (some ⟨b,off,none⟩) L.length lc):=fun x=>((bcell x.ok).1 _ _ hlt).trans d0
  have x1:∀ x:Wd W1.heap.size W1,x.w.cell? ⟨rb,1,none⟩=some (.int .i64 r.i):=fun x=>((bcell x.ok).1 _ _ hlt).trans d1
  have y0:∀ x:Wd W1.heap.size W1,x.w.cell? ⟨b,off+r.i*4,none⟩=some (.int .i64 L[r.i].kind):=fun x=>((bcell x.ok).1 _ _ hlb).trans m0
  have y1:∀ x:Wd W1.heap.size W1,x.w.cell? ⟨b,off+r.i*4+1,none⟩=some (.string L[r.i].text):=fun x=>((bcell x.ok).1 _ _ hlb).trans m1
  have y2:∀ x:Wd W1.heap.size W1,x.w.cell? ⟨b,off+r.i*4+2,none⟩=some (.int .i64 L[r.i].pos.line):=fun x=>((bcell x.ok).1 _ _ hlb).trans m2
  have y3:∀ x:Wd W1.heap.size W1,x.w.cell? ⟨b,off+r.i*4+3,none⟩=some (.int .i64 L[r.i].pos.col):=fun x=>((bcell x.ok).1 _ _ hlb).trans m3
  clear d0 d1 m0 m1 m2 m3
  go_wp2_with fail
  refine region_clst 10 W1.heap.size (by kernel_rfl) (by kernel_rfl) ?_
  simp only [List.take_succ_cons,List.take_zero,List.drop_succ_cons,List.drop_zero]
  repeat (go_big_quiet_step (fail))
  refine wpQuiet_nil ?_
  intro x
  have g0:x.w.heap[w.heap.size]?=some (.cells #[.int .i64 0,.string ⟨#[]⟩,.int .i64 0,.int .i64 0] 140 (0,0)):=(x.ok.block _ hzn).trans HNZ.out
  have HBX:=Lib.hid (HBZ.out.trans (x.ok.mono (by omega)))
  clear x0 x1 y0 y1 y2 y3
  refine list_store_row rfl 140 _ _ rfl w.heap.size rfl _ rfl _ 140 g0 rfl mark_size (by simp [Value.oneCell']) ?_
  go_wp2_with fail
  exact bodyPost_ret (results_cell_row rfl _ _ w.heap.size 140 _ (0,0) _ rfl (setRow_heap _ _ _ _ _ _ g0) Tryd.underlying140 rfl mark_size) rfl ⟨by rw [hv.out]; rfl,HBX.out.trans ⟨rfl,rfl,rfl,by simp,fun i hi=>setRow_other _ _ _ _ (by omega)⟩⟩
 ·have hv:Hid (Rd.now L r=Rd.mark0):=Lib.hid (by unfold Rd.now; rw [dif_neg hl])
  have hd:decide ((r.i:Int) < (L.length:Int))=false:=by simp; omega
  have g0:=HNZ.out
  clear d0 d1
  go_wp2_with (refine list_store_row rfl 140 _ _ rfl w.heap.size rfl _ rfl _ 140 g0 rfl mark_size (by simp [Value.oneCell']) ?_)
  exact bodyPost_ret (results_cell_row rfl _ _ w.heap.size 140 _ (0,0) _ rfl (setRow_heap _ _ _ _ _ _ g0) Tryd.underlying140 rfl mark_size) rfl ⟨by rw [hv.out]; rfl,HBZ.out.trans ⟨rfl,rfl,rfl,by simp,fun i hi=>setRow_other _ _ _ _ (by omega)⟩⟩
end Go.Proofs.YtjbggogbnckllaaDoor
end
section
set_option maxRecDepth 100000
namespace Go.Proofs.YtjbggogbnckllaaDoor
open Go.RowKit
set_option linter.unusedVariables false
set_option linter.unusedSimpArgs false
/-- What is wrong is written. -/
theorem RdB.setBad {w:World} {rb:Nat} {la:Option Addr} {lc:Nat} {L:List Lx.Mark} {r:Rd.St} {tv sv lv rv:Value} (code:Int) (p:Lx.Pos) (h:RdB w rb la lc L r tv sv lv rv) :
  RdB (((w.setCell ⟨rb,8,none⟩ (.int .i64 code)).setCell ⟨rb,9,none⟩ (.int .i64 p.line)).setCell ⟨rb,10,none⟩ (.int .i64 p.col)) rb la lc L { r with bad:=⟨code,p.line,p.col⟩ } tv sv lv rv ∧
  Upd rb w (((w.setCell ⟨rb,8,none⟩ (.int .i64 code)).setCell ⟨rb,9,none⟩ (.int .i64 p.line)).setCell ⟨rb,10,none⟩ (.int .i64 p.col)):=by
 have k:Upd rb w (((w.setCell ⟨rb,8,none⟩ (.int .i64 code)).setCell ⟨rb,9,none⟩ (.int .i64 p.line)).setCell ⟨rb,10,none⟩ (.int .i64 p.col)) :=
  (((Upd.refl rb w).setCell ⟨rb,8,none⟩ rfl _).setCell ⟨rb,9,none⟩ rfl _).setCell ⟨rb,10,none⟩ rfl _
 refine ⟨h.upd k h.i ?_,k⟩
 rw [heap_setCell_same _ _ _ _ _ _ (heap_setCell_same _ _ _ _ _ _ (heap_setCell_same _ _ _ _ _ _ h.blk))]
 rfl
/-- The place is moved on. -/
theorem RdB.setI {w:World} {rb:Nat} {la:Option Addr} {lc:Nat} {L:List Lx.Mark} {r:Rd.St} {tv sv lv rv:Value} (h:RdB w rb la lc L r tv sv lv rv) (hi:r.i < L.length) :
  RdB (w.setCell ⟨rb,1,none⟩ (.int .i64 (r.i+1:Nat))) rb la lc L { r with i:=r.i+1 } tv sv lv rv∧Upd rb w (w.setCell ⟨rb,1,none⟩ (.int .i64 (r.i+1:Nat))):=by
 have k:Upd rb w (w.setCell ⟨rb,1,none⟩ (.int .i64 (r.i+1:Nat))):=(Upd.refl rb w).setCell ⟨rb,1,none⟩ rfl _
 refine ⟨h.upd k hi ?_,k⟩
 rw [heap_setCell_same _ _ _ _ _ _ h.blk]
 rfl
set_option maxRecDepth 100000 in
set_option maxHeartbeats 8000000 in
theorem fail_any {w:World} {rb:Nat} {la:Option Addr} {lc:Nat} {L:List Lx.Mark} {r:Rd.St} {tv sv lv rv:Value} (code:Int) (p:Lx.Pos) (h:RdB w rb la lc L r tv sv lv rv) :
  Calls Tryd.prog 85 #[.pointer (some ⟨rb,0,none⟩),.int .i64 code,.agg #[.int .i64 p.line,.int .i64 p.col]] w fun e w'=>e=.returned (.tuple #[])∧RdB w' rb la lc L (Rd.fail r code p) tv sv lv rv∧Upd rb w w':=by
 have hlt:=h.lt
 have c8:w.cell? ⟨rb,8,none⟩=some (.int .i64 r.bad.code):=by rw [cell_of_row _ _ _ _ _ _ h.blk]; rfl
 have c9:w.cell? ⟨rb,9,none⟩=some (.int .i64 r.bad.line):=by rw [cell_of_row _ _ _ _ _ _ h.blk]; rfl
 have c10:w.cell? ⟨rb,10,none⟩=some (.int .i64 r.bad.col):=by rw [cell_of_row _ _ _ _ _ _ h.blk]; rfl
 have f8:∀ k,w.frozen? ⟨rb,k,none⟩=false:=fun k=>frozen_of_row _ _ _ _ _ h.blk
 have H:=Lib.hid h
 clear h
 cases hc:(r.bad.code == 0)
 case true =>
  have hv:Hid (Rd.fail r code p={ r with bad:=⟨code,p.line,p.col⟩ }):=Lib.hid (by unfold Rd.fail; rw [hc]; rfl)
  go_enter Tryd.func85,Tryd.ntmps85
  go_wp2_with fail
  go_end0
  have hb:=H.out.setBad code p
  have hA:Below _ _ _:=(Below.refl (((w.setCell ⟨rb,8,none⟩ (.int .i64 code)).setCell ⟨rb,9,none⟩ (.int .i64 p.line)).setCell ⟨rb,10,none⟩ (.int .i64 p.col)).heap.size _).alloc (Nat.le_refl _) (.cells #[.int .i64 p.line,.int .i64 p.col] 89)
  exact ⟨rfl,by rw [hv.out]; exact hb.1.below hA,hb.2.alloc _⟩
 case false =>
  have hv:Hid (Rd.fail r code p=r):=Lib.hid (by unfold Rd.fail; rw [hc]; rfl)
  go_enter Tryd.func85,Tryd.ntmps85
  go_wp2_with fail
  go_end0
  exact ⟨rfl,by rw [hv.out]; exact H.out.below ((Below.refl _ _).alloc (Nat.le_refl _) _),(Upd.refl _ _).alloc _⟩
end Go.Proofs.YtjbggogbnckllaaDoor
end
section
set_option maxRecDepth 100000
namespace Go.Proofs.YtjbggogbnckllaaDoor
open Go.RowKit
set_option linter.unusedVariables false
set_option linter.unusedSimpArgs false
theorem RdB.frame {w w':World} {rb:Nat} {la:Option Addr} {lc:Nat} {L:List Lx.Mark} {r:Rd.St} {tv sv lv rv:Value} (h:RdB w rb la lc L r tv sv lv rv) (k:∀ j,j≤rb→w'.heap[j]?=w.heap[j]?):RdB w' rb la lc L r tv sv lv rv:=by
 refine ⟨(k _ (Nat.le_refl _)).trans h.blk,fun i hi=>?_,h.i,h.n,h.mb⟩
 obtain ⟨b,off,e,t0,t1,t2,t3⟩:=h.mks i hi
 have hb:=k b (Nat.le_of_lt (h.mb b off e))
 exact ⟨b,off,e,(cell_of_block hb).trans t0,(cell_of_block hb).trans t1,(cell_of_block hb).trans t2,(cell_of_block hb).trans t3⟩
theorem RdB.setRow {w:World} {rb k:Nat} {la:Option Addr} {lc:Nat} {L:List Lx.Mark} {r:Rd.St} {tv sv lv rv:Value} {cs:Array Value} (h:RdB w rb la lc L r tv sv lv rv) (hk:rb < k):RdB (w.setRow k cs) rb la lc L r tv sv lv rv :=
 h.frame fun j hj=>setRow_other _ _ _ _ (by omega)
theorem RdB.alloc {w:World} {rb:Nat} {la:Option Addr} {lc:Nat} {L:List Lx.Mark} {r:Rd.St} {tv sv lv rv:Value} (h:RdB w rb la lc L r tv sv lv rv) (o:Obj):RdB (w.alloc o) rb la lc L r tv sv lv rv :=
 h.below ((Below.refl _ _).alloc (Nat.le_refl _) _)
theorem Upd.setRow {w w':World} {b k:Nat} (h:Upd b w w') (hk:w.heap.size≤k) (cs:Array Value):Upd b w (w'.setRow k cs) :=
 ⟨h.os,h.tape,h.output,by have:=h.size; simpa using this,fun j hj hn=>(setRow_other _ _ _ _ (by omega)).trans (h.block j hj hn)⟩
theorem now_kind {L:List Lx.Mark} {r:Rd.St} (h:(Rd.now L r).kind≠0):r.i < L.length:=by
 rcases Nat.lt_or_ge r.i L.length with h1 | h1
 ·exact h1
 ·exfalso
  apply h
  unfold Rd.now
  rw [dif_neg (by omega)]
  rfl
set_option maxRecDepth 100000 in
set_option maxHeartbeats 8000000 in
theorem take_any {w:World} {rb:Nat} {la:Option Addr} {lc:Nat} {L:List Lx.Mark} {r:Rd.St} {tv sv lv rv:Value} (kind:Int) (hk:kind≠0) (h:RdB w rb la lc L r tv sv lv rv) :
  Calls Tryd.prog 87 #[.pointer (some ⟨rb,0,none⟩),.int .i64 kind] w fun e w'=>e=.returned (vMark (Rd.take L r kind).1)∧RdB w' rb la lc L (Rd.take L r kind).2 tv sv lv rv∧Upd rb w w':=by
 have hlt:=h.lt
 have hB:Below w.heap.size w (w.alloc (.cells #[.int .i64 0,.string ⟨#[]⟩,.int .i64 0,.int .i64 0] 140)):=(Below.refl _ _).alloc (Nat.le_refl _) _
 have gN:=heap_alloc_new w (.cells #[.int .i64 0,.string ⟨#[]⟩,.int .i64 0,.int .i64 0] 140)
 have hN:w.heap.size < (w.alloc (.cells #[.int .i64 0,.string ⟨#[]⟩,.int .i64 0,.int .i64 0] 140)).heap.size:=by simp
 have h1:=h.below hB
 have hnow:=now_any h1
 obtain ⟨m,hm⟩:∃ m,m=Rd.now L r:=⟨_,rfl⟩
 rw [← hm] at hnow
 simp only [vMark] at hnow
 have HM:=Lib.hid hm
 clear h
 go_enter Tryd.func87,Tryd.ntmps87
 go_wp2_with fail
 refine hnow.mono ?_
 rintro e w1 ⟨rfl,hb1⟩
 have h2:=h1.below hb1
 have g2:=(hb1.block _ hN).trans gN
 have hB2:=hB.trans (hb1.mono (by omega))
 have hn2:=Nat.lt_of_lt_of_le hN hb1.size
 have c1:w1.cell? ⟨rb,1,none⟩=some (.int .i64 r.i):=by rw [cell_of_row _ _ _ _ _ _ h2.blk]; rfl
 have f1:w1.frozen? ⟨rb,1,none⟩=false:=frozen_of_row _ _ _ _ _ h2.blk
 have hl1:=h2.lt
 have hi:=h2.i
 have hnn:=h2.n
 have H2:=Lib.hid h2
 have G2:=Lib.hid g2
 have HB2:=Lib.hid hB2
 clear h1 hB gN hN hm hb1 h2 g2 hB2 hnow
 cases hc:(m.kind != kind)
 case false =>
  have hmk:m.kind=kind:=by simpa using hc
  have hlt2:r.i < L.length:=now_kind (by rw [← HM.out,hmk]; exact hk)
  have hv:Hid (Rd.take L r kind=(m,{ r with i:=r.i+1 })):=Lib.hid (by unfold Rd.take; rw [← HM.out]; simp only; rw [hc]; rfl)
  clear hmk
  have hw:w.heap.size≠rb:=by omega
  have hS:=H2.out.setI hlt2
  have e1:((r.i+1:Nat):Int)=(r.i:Int)+1:=by omega
  rw [e1] at hS
  have g3:((w1.setCell ⟨rb,1,none⟩ (.int .i64 ((r.i:Int)+1))).alloc (.cells #[.int .i64 m.kind,.string m.text,.int .i64 m.pos.line,.int .i64 m.pos.col] 140)).heap[w.heap.size]?=some (.cells #[.int .i64 0,.string ⟨#[]⟩,.int .i64 0,.int .i64 0] 140 (0,0)) :=
   (Below.heap_alloc _ _ _ (by simp; omega)).trans ((heap_setCell_other _ _ _ _ (by simp; omega)).trans G2.out)
  have HS:=Lib.hid hS
  clear hS
  go_wp2_with (refine list_store_row rfl 140 _ _ rfl w.heap.size rfl _ rfl _ 140 g3 rfl mark_size (by simp [Value.oneCell']) ?_)
  refine bodyPost_ret (results_cell_row rfl _ _ w.heap.size 140 _ (0,0) _ rfl (setRow_heap _ _ _ _ _ _ g3) Tryd.underlying140 rfl mark_size) rfl ⟨by rw [hv.out]; rfl,?_,?_⟩
  ·rw [hv.out]
   exact (HS.out.1.alloc _).setRow hlt
  ·exact (((Upd.of HB2.out).trans HS.out.2).alloc _).setRow (Nat.le_refl _) _
 case true =>
  have hv:Hid (Rd.take L r kind=(m,Rd.fail r 14 m.pos)):=Lib.hid (by unfold Rd.take; rw [← HM.out]; simp only; rw [hc]; rfl)
  have hf:=fail_any 14 m.pos (H2.out.alloc (.cells #[.int .i64 m.kind,.string m.text,.int .i64 m.pos.line,.int .i64 m.pos.col] 140))
  go_wp2_with fail
  refine hf.mono ?_
  rintro e w2 ⟨rfl,hr2,hu2⟩
  have hw:w.heap.size≠rb:=by omega
  have g3:w2.heap[w.heap.size]?=some (.cells #[.int .i64 0,.string ⟨#[]⟩,.int .i64 0,.int .i64 0] 140 (0,0)):=(hu2.block _ (by simp; omega) hw).trans ((Below.heap_alloc _ _ _ (by omega)).trans G2.out)
  have gb:w2.heap[w1.heap.size]?=some (.cells #[.int .i64 m.kind,.string m.text,.int .i64 m.pos.line,.int .i64 m.pos.col] 140 (0,0)):=(hu2.block _ (by simp) (by omega)).trans (heap_alloc_new _ _)
  have HR:=Lib.hid hr2
  have HU:=Lib.hid hu2
  clear hr2 hu2 hf
  go_wp2_with (first | (refine wpList_load_row rfl 140 _ rfl w1.heap.size rfl 140 _ (0,0) _ gb Tryd.underlying140 rfl mark_size ?_) | (refine list_store_row rfl 140 _ _ rfl w.heap.size rfl _ rfl _ 140 g3 rfl mark_size (by simp [Value.oneCell']) ?_))
  refine bodyPost_ret (results_cell_row rfl _ _ w.heap.size 140 _ (0,0) _ rfl (setRow_heap _ _ _ _ _ _ g3) Tryd.underlying140 rfl mark_size) rfl ⟨by rw [hv.out]; rfl,?_,?_⟩
  ·rw [hv.out]
   exact HR.out.setRow hlt
  ·exact (((Upd.of HB2.out).alloc _).trans HU.out).setRow (Nat.le_refl _) _
/-- A field of a mark's value. -/
theorem fld_mark0 (k:Int) (t:ByteArray) (l c:Int) (w:World):Sem.run Tryd.prog (Instr.field 140 (.agg #[.int .i64 k,.string t,.int .i64 l,.int .i64 c]) 0) w=.ok (.int .i64 k) w:=by kernel_rfl
/-- A field of a mark's value. -/
theorem fld_mark1 (k:Int) (t:ByteArray) (l c:Int) (w:World):Sem.run Tryd.prog (Instr.field 140 (.agg #[.int .i64 k,.string t,.int .i64 l,.int .i64 c]) 1) w=.ok (.string t) w:=by kernel_rfl
/-- A field of a mark's value. -/
theorem fld_mark2 (k:Int) (t:ByteArray) (l c:Int) (w:World):Sem.run Tryd.prog (Instr.field 140 (.agg #[.int .i64 k,.string t,.int .i64 l,.int .i64 c]) 2) w=.ok (.agg #[.int .i64 l,.int .i64 c]) w:=by kernel_rfl
end Go.Proofs.YtjbggogbnckllaaDoor
end
section
set_option maxRecDepth 100000
namespace Go.Proofs.YtjbggogbnckllaaDoor
open Go.RowKit
set_option linter.unusedVariables false
set_option linter.unusedSimpArgs false
def vPat (p:Rd.Pat):Value:=.agg #[.string p.t,.string p.s,.bool p.m]
theorem pat_size:(Tryd.prog.info? 109).map (·.size)=some 3:=by kernel_rfl
theorem take_i {L:List Lx.Mark} {r:Rd.St} {k:Int}:(Rd.take L r k).1=Rd.now L r:=by
 unfold Rd.take; simp only; split<;>rfl
set_option maxRecDepth 100000 in
set_option maxHeartbeats 16000000 in
theorem pattern_any {w:World} {rb:Nat} {la:Option Addr} {lc:Nat} {L:List Lx.Mark} {r:Rd.St} {tv sv lv rv:Value} (h:RdB w rb la lc L r tv sv lv rv) :
  Calls Tryd.prog 104 #[.pointer (some ⟨rb,0,none⟩)] w fun e w'=>e=.returned (vPat (Rd.pattern L r).1)∧RdB w' rb la lc L (Rd.pattern L r).2 tv sv lv rv∧Upd rb w w':=by
 have hlt:=h.lt
 have hB:Below w.heap.size w (w.alloc (.cells #[.string ⟨#[]⟩,.string ⟨#[]⟩,.bool false] 109)):=(Below.refl _ _).alloc (Nat.le_refl _) _
 have gN:=heap_alloc_new w (.cells #[.string ⟨#[]⟩,.string ⟨#[]⟩,.bool false] 109)
 have hN:w.heap.size < (w.alloc (.cells #[.string ⟨#[]⟩,.string ⟨#[]⟩,.bool false] 109)).heap.size:=by simp
 have h1:=h.below hB
 have hnow:=now_any h1
 obtain ⟨m,hm⟩:∃ m,m=Rd.now L r:=⟨_,rfl⟩
 rw [← hm] at hnow
 simp only [vMark] at hnow
 have HM:=Lib.hid hm
 clear h
 go_enter Tryd.func104,Tryd.ntmps104
 go_wp2_with fail
 refine hnow.mono ?_
 rintro e w1 ⟨rfl,hb1⟩
 have h2:=h1.below hb1
 have g2:=(hb1.block _ hN).trans gN
 have hB2:=hB.trans (hb1.mono (by omega))
 have hn2:=Nat.lt_of_lt_of_le hN hb1.size
 have c1:w1.cell? ⟨rb,1,none⟩=some (.int .i64 r.i):=by rw [cell_of_row _ _ _ _ _ _ h2.blk]; rfl
 have f1:w1.frozen? ⟨rb,1,none⟩=false:=frozen_of_row _ _ _ _ _ h2.blk
 have hl1:=h2.lt
 have hi:=h2.i
 have hnn:=h2.n
 have hw:w.heap.size≠rb:=by omega
 have H2:=Lib.hid h2
 have G2:=Lib.hid g2
 have HB2:=Lib.hid hB2
 clear h1 hB gN hN hm hb1 h2 g2 hB2 hnow
 cases hc:(m.kind == 3)
 case true =>
  have hmk:m.kind=3:=by simpa using hc
  have hlt2:r.i < L.length:=now_kind (by rw [← HM.out,hmk]; decide)
  have hv:Hid (Rd.pattern L r=(⟨m.text,⟨#[]⟩,false⟩,{ r with i:=r.i+1 })):=Lib.hid (by unfold Rd.pattern; rw [← HM.out]; simp only; rw [hc]; rfl)
  clear hmk
  have hS:=H2.out.setI hlt2
  have e1:((r.i+1:Nat):Int)=(r.i:Int)+1:=by omega
  rw [e1] at hS
  have g3:((w1.setCell ⟨rb,1,none⟩ (.int .i64 ((r.i:Int)+1))).alloc (.cells #[.int .i64 m.kind,.string m.text,.int .i64 m.pos.line,.int .i64 m.pos.col] 140)).heap[w.heap.size]?=some (.cells #[.string ⟨#[]⟩,.string ⟨#[]⟩,.bool false] 109 (0,0)) :=
   (Below.heap_alloc _ _ _ (by simp; omega)).trans ((heap_setCell_other _ _ _ _ (by simp; omega)).trans G2.out)
  have HS:=Lib.hid hS
  clear hS
  go_wp2_with (refine list_store_row rfl 109 _ _ rfl w.heap.size rfl _ rfl _ 109 g3 rfl pat_size (by simp [Value.oneCell']) ?_)
  refine bodyPost_ret (results_cell_row rfl _ _ w.heap.size 109 _ (0,0) _ rfl (setRow_heap _ _ _ _ _ _ g3) Tryd.underlying109 rfl pat_size) rfl ⟨by rw [hv.out]; rfl,?_,?_⟩
  ·rw [hv.out]
   exact (HS.out.1.alloc _).setRow hlt
  ·exact (((Upd.of HB2.out).trans HS.out.2).alloc _).setRow (Nat.le_refl _) _
 case false =>
  have ht:=take_any 4 (by decide) (H2.out.alloc (.cells #[.int .i64 m.kind,.string m.text,.int .i64 m.pos.line,.int .i64 m.pos.col] 140))
  obtain ⟨r1,hr1⟩:∃ r1,r1=(Rd.take L r 4).2:=⟨_,rfl⟩
  have hv:Hid (Rd.pattern L r=(⟨⟨#[]⟩,m.text,(Rd.now L r1).kind == 5&&Rd.ok r1⟩,if (Rd.now L r1).kind == 5&&Rd.ok r1 then { r1 with i:=r1.i+1 } else r1)):=Lib.hid (by
   unfold Rd.pattern; rw [← HM.out]; simp only; rw [hc]; simp only [Bool.false_eq_true,if_false]; rw [take_i,← HM.out,← hr1]; rfl)
  rw [take_i,← HM.out,← hr1] at ht
  simp only [vMark] at ht
  clear hr1
  go_wp2_with fail
  refine ht.mono ?_
  rintro e w2 ⟨rfl,hr2,hu2⟩
  have g3:w2.heap[w.heap.size]?=some (.cells #[.string ⟨#[]⟩,.string ⟨#[]⟩,.bool false] 109 (0,0)):=(hu2.block _ (by simp; omega) hw).trans ((Below.heap_alloc _ _ _ (by omega)).trans G2.out)
  have hnow:=now_any (hr2.alloc (.cells #[.int .i64 m.kind,.string m.text,.int .i64 m.pos.line,.int .i64 m.pos.col] 140))
  obtain ⟨m2,hm2⟩:∃ m2,Rd.now L r1=m2:=⟨_,rfl⟩
  rw [hm2] at hnow
  simp only [vMark] at hnow
  have hu2':=((Upd.of HB2.out).alloc (.cells #[.int .i64 m.kind,.string m.text,.int .i64 m.pos.line,.int .i64 m.pos.col] 140)).trans hu2
  have hz2:w.heap.size < w2.heap.size:=Nat.lt_of_lt_of_le (by simp; omega) hu2.size
  have hfl:=fld_mark0 m2.kind m2.text m2.pos.line m2.pos.col
  clear ht hu2
  go_wp2_with fail
  refine hnow.mono ?_
  rintro e w3 ⟨rfl,hb3⟩
  have h3:=(hr2.alloc (.cells #[.int .i64 m.kind,.string m.text,.int .i64 m.pos.line,.int .i64 m.pos.col] 140)).below hb3
  have g4:w3.heap[w.heap.size]?=some (.cells #[.string ⟨#[]⟩,.string ⟨#[]⟩,.bool false] 109 (0,0)):=(hb3.block _ (by simp; omega)).trans ((Below.heap_alloc _ _ _ (by omega)).trans g3)
  have gb:w3.heap[w2.heap.size]?=some (.cells #[.int .i64 m.kind,.string m.text,.int .i64 m.pos.line,.int .i64 m.pos.col] 140 (0,0)):=(hb3.block _ (by simp)).trans (heap_alloc_new _ _)
  have b1:w3.cell? ⟨w2.heap.size,1,none⟩=some (.string m.text):=by rw [cell_of_row _ _ _ _ _ _ gb]; rfl
  have e1:w3.cell? ⟨rb,1,none⟩=some (.int .i64 r1.i):=by rw [cell_of_row _ _ _ _ _ _ h3.blk]; rfl
  have e8:w3.cell? ⟨rb,8,none⟩=some (.int .i64 r1.bad.code):=by rw [cell_of_row _ _ _ _ _ _ h3.blk]; rfl
  have k1:w3.frozen? ⟨rb,1,none⟩=false:=frozen_of_row _ _ _ _ _ h3.blk
  have hu3:=(hu2'.alloc (.cells #[.int .i64 m.kind,.string m.text,.int .i64 m.pos.line,.int .i64 m.pos.col] 140)).trans (Upd.of hb3)
  have i3:=h3.i
  have n3:=h3.n
  have hne:w2.heap.size≠rb:=by have:=hr2.lt; omega
  have H3:=Lib.hid h3
  have HU3:=Lib.hid hu3
  have G4:=Lib.hid g4
  clear hr2 hnow hu2' hb3 h3 g4 gb hu3 g3 c1 f1 hi
  cases d1:(m2.kind == 5)
  case false =>
   have hv2:Hid (Rd.pattern L r=(⟨⟨#[]⟩,m.text,false⟩,r1)):=Lib.hid (by rw [hv.out,hm2,d1]; rfl)
   have g5:=G4.out
   clear hv e1 e8 k1
   go_wp2_with (refine list_store_row rfl 109 _ _ rfl w.heap.size rfl _ rfl _ 109 g5 rfl pat_size (by simp [Value.oneCell']) ?_)
   refine bodyPost_ret (results_cell_row rfl _ _ w.heap.size 109 _ (0,0) _ rfl (setRow_heap _ _ _ _ _ _ g5) Tryd.underlying109 rfl pat_size) rfl ⟨by rw [hv2.out]; rfl,?_,?_⟩
   ·rw [hv2.out]; exact H3.out.setRow hlt
   ·exact HU3.out.setRow (Nat.le_refl _) _
  case true =>
   cases d2:(r1.bad.code == 0)
   case false =>
    have hv2:Hid (Rd.pattern L r=(⟨⟨#[]⟩,m.text,false⟩,r1)):=Lib.hid (by rw [hv.out,hm2,d1,Rd.ok,d2]; rfl)
    have g5:=G4.out
    clear hv e1 k1
    go_wp2_with (refine list_store_row rfl 109 _ _ rfl w.heap.size rfl _ rfl _ 109 g5 rfl pat_size (by simp [Value.oneCell']) ?_)
    refine bodyPost_ret (results_cell_row rfl _ _ w.heap.size 109 _ (0,0) _ rfl (setRow_heap _ _ _ _ _ _ g5) Tryd.underlying109 rfl pat_size) rfl ⟨by rw [hv2.out]; rfl,?_,?_⟩
    ·rw [hv2.out]; exact H3.out.setRow hlt
    ·exact HU3.out.setRow (Nat.le_refl _) _
   case true =>
    have hv2:Hid (Rd.pattern L r=(⟨⟨#[]⟩,m.text,true⟩,{ r1 with i:=r1.i+1 })):=Lib.hid (by rw [hv.out,hm2,d1,Rd.ok,d2]; rfl)
    have hlt3:r1.i < L.length:=now_kind (by rw [hm2]; intro h0; rw [h0] at d1; cases d1)
    have hS:=H3.out.setI hlt3
    have ee:((r1.i+1:Nat):Int)=(r1.i:Int)+1:=by omega
    rw [ee] at hS
    have g5:(w3.setCell ⟨rb,1,none⟩ (.int .i64 ((r1.i:Int)+1))).heap[w.heap.size]?=some (.cells #[.string ⟨#[]⟩,.string ⟨#[]⟩,.bool false] 109 (0,0)):=(heap_setCell_other _ _ _ _ (by simp; omega)).trans G4.out
    have HS:=Lib.hid hS
    clear hv hS
    go_wp2_with (refine list_store_row rfl 109 _ _ rfl w.heap.size rfl _ rfl _ 109 g5 rfl pat_size (by simp [Value.oneCell']) ?_)
    refine bodyPost_ret (results_cell_row rfl _ _ w.heap.size 109 _ (0,0) _ rfl (setRow_heap _ _ _ _ _ _ g5) Tryd.underlying109 rfl pat_size) rfl ⟨by rw [hv2.out]; rfl,?_,?_⟩
    ·rw [hv2.out]; exact HS.out.1.setRow hlt
    ·exact (HU3.out.trans HS.out.2).setRow (Nat.le_refl _) _
end Go.Proofs.YtjbggogbnckllaaDoor
end
section
set_option maxRecDepth 100000
namespace Go.Proofs.YtjbggogbnckllaaDoor
open Go.RowKit
set_option linter.unusedVariables false
set_option linter.unusedSimpArgs false
/-- A slice whose cells are these. -/
def RowV (w:World) (a:Option Addr) (size n:Nat) (xs:List Value):Prop:=∀ i,i < n→∃ b off,a=some ⟨b,off,none⟩∧b < w.heap.size∧∀ k,k < size→w.cell? ⟨b,off+i*size+k,none⟩=xs[i*size+k]?
theorem RowV.of_owns {w:World} {base:Nat} {e:TypeId} {size:Nat} {v:Value} {n:Nat} {xs:List Value} (h:w.ownsRow base e size v n xs):∃ a cap,v=.slice a n cap∧RowV w a size n xs:=by
 rcases h.2 with ⟨rfl,rfl⟩ | ⟨g,cap,cur,rfl,hbg,hg,_⟩
 ·exact ⟨none,0,rfl,fun i hi=>absurd hi (Nat.not_lt_zero _)⟩
 ·refine ⟨_,cap,rfl,fun i hi=>⟨g,0,rfl,(Array.getElem?_eq_some_iff.1 hg).1,fun k hk=>?_⟩⟩
  have hlt:i*size+k < n*size:=by
   have:=Nat.mul_le_mul_right size (show i+1≤n by omega)
   rw [Nat.add_mul,Nat.one_mul] at this
   omega
  rw [Nat.zero_add]
  exact h.cellAt _ hlt
theorem RowV.below {w w':World} {a:Option Addr} {size n:Nat} {xs:List Value} (h:RowV w a size n xs) (k:Below w.heap.size w w'):RowV w' a size n xs:=by
 intro i hi
 obtain ⟨b,off,e,hb,hc⟩:=h i hi
 exact ⟨b,off,e,Nat.lt_of_lt_of_le hb k.size,fun j hj=>((bcell k).1 _ _ hb).trans (hc j hj)⟩
theorem tkC_at:∀ (l:List Rd.Tok) (i:Nat) (h:i < l.length),(tkC l)[i*4]?=some (.string l[i].name)∧(tkC l)[i*4+1]?=some (.string l[i].pat.t)∧(tkC l)[i*4+2]?=some (.string l[i].pat.s)∧(tkC l)[i*4+3]?=some (.bool l[i].pat.m)
 | [],i,h=>absurd h (Nat.not_lt_zero _)
 | m::l,0,_=>by refine ⟨rfl,rfl,rfl,rfl⟩
 | m::l,i+1,h=>by
  have ih:=tkC_at l i (by simpa using h)
  have e:tkC (m::l)=.string m.name::.string m.pat.t::.string m.pat.s::.bool m.pat.m::tkC l:=by simp [tkC]
  rw [e,show (i+1)*4=i*4+1+1+1+1 by omega]
  simp only [List.getElem?_cons_succ,List.getElem_cons_succ]
  exact ih
theorem ptC_at:∀ (l:List Rd.Pat) (i:Nat) (h:i < l.length),(ptC l)[i*3]?=some (.string l[i].t)∧(ptC l)[i*3+1]?=some (.string l[i].s)∧(ptC l)[i*3+2]?=some (.bool l[i].m)
 | [],i,h=>absurd h (Nat.not_lt_zero _)
 | m::l,0,_=>by refine ⟨rfl,rfl,rfl⟩
 | m::l,i+1,h=>by
  have ih:=ptC_at l i (by simpa using h)
  have e:ptC (m::l)=.string m.t::.string m.s::.bool m.m::ptC l:=by simp [ptC]
  rw [e,show (i+1)*3=i*3+1+1+1 by omega]
  simp only [List.getElem?_cons_succ,List.getElem_cons_succ]
  exact ih
theorem lvC_at:∀ (l:List Rd.Lev) (ns:List Value) (i:Nat) (h:i < l.length) (h':i < ns.length),(lvC l ns)[i*2]?=some (.int .i64 l[i].assoc)∧(lvC l ns)[i*2+1]?=some ns[i]
 | [],_,i,h,_=>absurd h (Nat.not_lt_zero _)
 | _::_,[],i,_,h=>absurd h (Nat.not_lt_zero _)
 | m::l,n::ns,0,_,_=>by refine ⟨rfl,rfl⟩
 | m::l,n::ns,i+1,h,h'=>by
  have ih:=lvC_at l ns i (by simpa using h) (by simpa using h')
  have e:lvC (m::l) (n::ns)=.int .i64 m.assoc::n::lvC l ns:=by simp [lvC]
  rw [e,show (i+1)*2=i*2+1+1 by omega]
  simp only [List.getElem?_cons_succ,List.getElem_cons_succ]
  exact ih
theorem rlC_at:∀ (l:List Rd.Rul) (ns:List Value) (i:Nat) (h:i < l.length) (h':i < ns.length),(rlC l ns)[i*4]?=some (.string l[i].left)∧(rlC l ns)[i*4+1]?=some ns[i]∧(rlC l ns)[i*4+2]?=some (.string l[i].prec)∧(rlC l ns)[i*4+3]?=some (.string l[i].action)
 | [],_,i,h,_=>absurd h (Nat.not_lt_zero _)
 | _::_,[],i,_,h=>absurd h (Nat.not_lt_zero _)
 | m::l,n::ns,0,_,_=>by refine ⟨rfl,rfl,rfl,rfl⟩
 | m::l,n::ns,i+1,h,h'=>by
  have ih:=rlC_at l ns i (by simpa using h) (by simpa using h')
  have e:rlC (m::l) (n::ns)=.string m.left::n::.string m.prec::.string m.action::rlC l ns:=by simp [rlC]
  rw [e,show (i+1)*4=i*4+1+1+1+1 by omega]
  simp only [List.getElem?_cons_succ,List.getElem_cons_succ]
  exact ih
theorem tkC_snoc (l:List Rd.Tok) (m:Rd.Tok):tkC (l++[m])=tkC l++[.string m.name,.string m.pat.t,.string m.pat.s,.bool m.pat.m]:=by simp [tkC]
theorem ptC_snoc (l:List Rd.Pat) (m:Rd.Pat):ptC (l++[m])=ptC l++[.string m.t,.string m.s,.bool m.m]:=by simp [ptC]
theorem lvC_snoc (l:List Rd.Lev) (ns:List Value) (m:Rd.Lev) (n:Value) (h:ns.length=l.length):lvC (l++[m]) (ns++[n])=lvC l ns++[.int .i64 m.assoc,n]:=by simp [lvC,List.zip_append h.symm]
theorem rlC_snoc (l:List Rd.Rul) (ns:List Value) (m:Rd.Rul) (n:Value) (h:ns.length=l.length):rlC (l++[m]) (ns++[n])=rlC l ns++[.string m.left,n,.string m.prec,.string m.action]:=by simp [rlC,List.zip_append h.symm]
theorem NsM.strs {w:World} {B:Nat} {v:Value} {l:List ByteArray} (h:NsM w B v l):∃ a cap,v=.slice a l.length cap∧Strs w a l:=by
 obtain ⟨a,cap,rfl,h⟩:=h
 refine ⟨a,cap,rfl,fun i hi=>?_⟩
 obtain ⟨b,off,cs,rfl,_,_,hc⟩:=h i hi
 exact ⟨b,off,rfl,hc⟩
/-- Levels in memory, as they are read. -/
def LvV (w:World) (a:Option Addr) (l:List Rd.Lev):Prop:=∀ i (h:i < l.length),∃ b off na ncap,a=some ⟨b,off,none⟩∧w.cell? ⟨b,off+i*2,none⟩=some (.int .i64 l[i].assoc) ∧
 w.cell? ⟨b,off+i*2+1,none⟩=some (.slice na l[i].names.length ncap)∧Strs w na l[i].names
theorem LvV.of_row {w:World} {B:Nat} {a:Option Addr} {n:Nat} {l:List Rd.Lev} {ns:List Value} (h:RowV w a 2 n (lvC l ns)) (hn:l.length=n) (hl:ns.length=l.length) (hs:∀ i (h:i < l.length) (h':i < ns.length),NsM w B ns[i] l[i].names):LvV w a l:=by
 intro i hi
 obtain ⟨b,off,rfl,hb,hc⟩:=h i (by omega)
 obtain ⟨e0,e1⟩:=lvC_at l ns i hi (by omega)
 obtain ⟨na,ncap,hv,hst⟩:=(hs i hi (by omega)).strs
 exact ⟨b,off,na,ncap,rfl,(hc 0 (by decide)).trans e0,(hc 1 (by decide)).trans (by rw [e1,hv]),hst⟩
theorem LvV.below {w w':World} {a:Option Addr} {l:List Rd.Lev} (h:LvV w a l) (k:Below w.heap.size w w'):LvV w' a l:=by
 intro i hi
 obtain ⟨b,off,na,ncap,rfl,h0,h1,h2⟩:=h i hi
 have hb:b < w.heap.size:=World.block_lt_of_cell? w _ h0
 exact ⟨b,off,na,ncap,rfl,((bcell k).1 _ _ hb).trans h0,((bcell k).1 _ _ hb).trans h1,h2.below k⟩
/-- Rules in memory, as they are read. -/
def RlV (w:World) (a:Option Addr) (l:List Rd.Rul):Prop:=∀ i (h:i < l.length),∃ b off na ncap,a=some ⟨b,off,none⟩∧w.cell? ⟨b,off+i*4,none⟩=some (.string l[i].left) ∧
 w.cell? ⟨b,off+i*4+1,none⟩=some (.slice na l[i].right.length ncap)∧w.cell? ⟨b,off+i*4+2,none⟩=some (.string l[i].prec)∧w.cell? ⟨b,off+i*4+3,none⟩=some (.string l[i].action)∧Strs w na l[i].right
theorem RlV.of_row {w:World} {B:Nat} {a:Option Addr} {n:Nat} {l:List Rd.Rul} {ns:List Value} (h:RowV w a 4 n (rlC l ns)) (hn:l.length=n) (hl:ns.length=l.length) (hs:∀ i (h:i < l.length) (h':i < ns.length),NsM w B ns[i] l[i].right):RlV w a l:=by
 intro i hi
 obtain ⟨b,off,rfl,hb,hc⟩:=h i (by omega)
 obtain ⟨e0,e1,e2,e3⟩:=rlC_at l ns i hi (by omega)
 obtain ⟨na,ncap,hv,hst⟩:=(hs i hi (by omega)).strs
 exact ⟨b,off,na,ncap,rfl,(hc 0 (by decide)).trans e0,(hc 1 (by decide)).trans (by rw [e1,hv]),(hc 2 (by decide)).trans e2,(hc 3 (by decide)).trans e3,hst⟩
theorem RlV.below {w w':World} {a:Option Addr} {l:List Rd.Rul} (h:RlV w a l) (k:Below w.heap.size w w'):RlV w' a l:=by
 intro i hi
 obtain ⟨b,off,na,ncap,rfl,h0,h1,h2,h3,h4⟩:=h i hi
 have hb:b < w.heap.size:=World.block_lt_of_cell? w _ h0
 exact ⟨b,off,na,ncap,rfl,((bcell k).1 _ _ hb).trans h0,((bcell k).1 _ _ hb).trans h1,((bcell k).1 _ _ hb).trans h2,((bcell k).1 _ _ hb).trans h3,h4.below k⟩
end Go.Proofs.YtjbggogbnckllaaDoor
end
