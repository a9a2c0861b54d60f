/-
  The iterator of a set: the contract of the function that Each makes.
  Walks of AppendSeq, Collect and List over a set's iterator.
  Walks of the comparisons of lists: Ints, slices.Equal; and of In.
  Plain laws of a union of small sets.
  The walk of Union.
-/
import Derived.Test.YtjbggogbnckllaaDoorBsT
import Derived.RangeFuncNested
import Derived.RangeFuncBound
import Derived.RangeFuncCalls
import Derived.RangeFuncLeaves
import Derived.RangeFuncBox
import Derived.Shelf.Abstract
import Derived.Shelf.RegionOpen
import Derived.OwnWalkIn
import Derived.TacticsInMore
import Derived.LoopNIn
import Derived.LoopIn
import Derived.Maps.AppendAt
section
set_option maxRecDepth 100000
namespace Go.Proofs.YtjbggogbnckllaaDoor
open Go.RowKit Go.Shelf
set_option linter.unusedVariables false
attribute [local go_sem] Oper.semAt_some
/-- A number that a set of any width may have. -/
abbrev Num:={ x:Nat // x < 1024 }
/-- What a round must keep for the iterator: its words, their header, the table. -/
def Keep (g b:Nat) (W W':World):Prop:=W'.heap[g]?=W.heap[g]?∧W'.heap[b]?=W.heap[b]?∧W'.heap[0]?=W.heap[0]?
theorem Keep.refl (g b:Nat) (W:World):Keep g b W W:=⟨rfl,rfl,rfl⟩
theorem Keep.trans {g b:Nat} {A B C:World} (h:Keep g b A B) (k:Keep g b B C):Keep g b A C:=⟨k.1.trans h.1,k.2.1.trans h.2.1,k.2.2.trans h.2.2⟩
/-- What the iterator reads. -/
structure Its (W:World) (g b n X:Nat):Prop where
 head:∃ cap,W.heap[g]?=some (.cells #[.slice (some ⟨b,0,none⟩) (Bs.nw n:Nat) cap] 119 (0,0))
 row:∃ cs:Array Value,W.heap[b]?=some (.cells cs 118 (0,0))∧Bs.nw n≤cs.size∧∀ k,k < Bs.nw n→cs[k]?=some (.int .u64 (Bs.word X k:Nat))
 tab:Tab W
 le:n≤1000
 lt:X < 2 ^ n
theorem Its.keep {W W':World} {g b n X:Nat} (h:Its W g b n X) (k:Keep g b W W'):Its W' g b n X:=by
 obtain ⟨c,e⟩:=h.head
 obtain ⟨cs,f,r⟩:=h.row
 exact ⟨⟨c,k.1.trans e⟩,⟨cs,k.2.1.trans f,r⟩,h.tab.kept k.2.2,h.le,h.lt⟩
theorem Its.below {W W':World} {g b n X:Nat} (h:Its W g b n X) (k:Below W.heap.size W W'):Its W' g b n X:=by
 obtain ⟨c,e⟩:=h.head
 obtain ⟨cs,f,r⟩:=h.row
 exact h.keep ⟨k.block _ (lt_of_block e),k.block _ (lt_of_block f),k.block _ h.tab.lt⟩
def vals (l:List Num):List Nat:=l.map Subtype.val
theorem vals_snoc (l:List Num) (x:Num):vals (l++[x])=vals l++[x.1]:=by simp [vals]
def Rel1 (n X:Nat) (J:List Num→World→Prop) (g b:Nat) (i:Value) (wr:World):Prop :=
 ∃ (k:Nat) (pre:List Num),i=.int .i64 k∧k≤Bs.nw n∧vals pre++Bs.from_ n X k=Bs.lst n X∧J pre wr∧Its wr g b n X
def Rel2 (n X k:Nat) (J:List Num→World→Prop) (g b:Nat) (v:Value) (wr:World):Prop :=
 ∃ (x:Nat) (pre:List Num),v=.int .u64 x∧x < 18446744073709551616∧vals pre++((Bs.bl x).map (64*k+·)++Bs.from_ n X (k+1))=Bs.lst n X∧J pre wr∧Its wr g b n X
theorem bits_short {n X:Nat} {pre:List Num} {r:List Nat} (h:vals pre++r=Bs.lst n X) (hn:n≤1000):pre.length < 1024:=by
 have h1:=congrArg List.length h
 have h2:=Bs.lst_len n X
 simp [vals] at h1
 omega
set_option maxRecDepth 100000 in
set_option maxHeartbeats 4000000 in
theorem each1_in (n' l g b n X:Nat) (hn:1≤n') (J Jx:List Num→World→Prop)
  (hY:∀ pre x W,J pre W→pre.length < 1024→YieldAt Fence.wide (n' - 1) Tryd.prog l #[.int .i64 ((x:Num).1:Nat)] W fun e W' =>
   (e=.returned (.bool true)∧J (pre++[x]) W'∧Keep g b W W')∨(e=.returned (.bool false)∧Jx (pre++[x]) W'))
  (W:World) (hI:Its W g b n X) (h0:J [] W) :
  CallsIn Fence.wide n' Tryd.prog 91 #[.func (.yield l) #[] #[],.pointer (some ⟨g,0,none⟩)] W fun e W'=>(∃ v,e=.returned v) ∧
   ((∃ ys,vals ys=Bs.lst n X∧J ys W')∨(∃ pre,vals pre <+: Bs.lst n X∧Jx pre W')):=by
 refine callsIn_of_wp Tryd.func91 rfl trivial ?_ rfl
 simp only [Tryd.ntmps91,List.size_toArray,List.length_cons,List.length_nil,Nat.reduceAdd,Nat.reduceSub,Array.replicate_succ,Array.replicate_zero,List.push_toArray,List.append_toArray,List.nil_append,List.cons_append]
 obtain ⟨cap,hg⟩:=hI.head
 have hc:=cell_of_one hg
 have hle:=Bs.nw_le hI.le
 have hlst:=Lib.hid (Bs.lst_from hI.lt)
 have H:=Lib.hid hI
 clear hg hI
 gi_wp2
 gi_loopw [7] (fun i wr=>Rel1 n X J g b i wr) (fun i _=>Bs.nw n - (intOf i).toNat)
 case atStart=>exact ⟨0,[],rfl,Nat.zero_le _,by simpa [vals] using hlst.out,h0,H.out⟩
 case round =>
  obtain ⟨k,pre,rfl,hk,hp,hJ,hi⟩:=hrel
  have HP:=Lib.hid hp
  have HI:=Lib.hid hi
  clear hp hi
  by_cases hlt:k < Bs.nw n
  ·obtain ⟨cs,hrow,_,hcs⟩:=HI.out.row
   have hcx:wr.cell? ⟨b,k,none⟩=some (.int .u64 (Bs.word X k:Nat)):=by simp [World.cell?,hrow,hcs k hlt]
   have hwl:=Bs.word_lt X k
   clear hcs hrow
   obtain ⟨wo,rfl⟩:∃ wo:World,wo=wr:=⟨_,rfl⟩
   gi_wp2
   gi_loopw [4] (fun v wr=>Rel2 n X k J g b v wr) (fun v _=>(intOf v).toNat)
   case atStart=>exact ⟨_,pre,rfl,hwl,by rw [← Bs.from_step hlt]; exact HP.out,hJ,HI.out⟩
   case round =>
    clear hJ
    obtain ⟨x,pre2,rfl,hx,hp2,hJ,hi2⟩:=hrel
    have HP2:=Lib.hid hp2
    have HI2:=Lib.hid hi2
    clear hp2 hi2
    by_cases hx0:x=0
    ·subst hx0
     gi_wp2
     go_roundw
     case rel=>exact ⟨k+1,pre2,by go_num,by omega,by simpa [Bs.bl_zero] using HP2.out,hJ,HI2.out⟩
     case measure=>simp [intOf]; omega
    ·obtain ⟨hk64,_,_,_⟩:=Bs.low_spec hx0 (by omega:x < 2 ^ 64)
     have hb:=Lib.hid (Bs.bl_cons hx0 (by omega:x < 2 ^ 64))
     have hnx:=Lib.hid (Bs.next_lt (by omega:x < 2 ^ 64))
     have htz:=tz_any x wr hx0 hx HI2.out.tab
     have hne:((x:Int) != 0)=true:=by simp; omega
     have hx1:0 < x:=by omega
     have hwr:IntKind.u64.wrap ((x:Int) - 1)=((x - 1:Nat):Int):=by rw [IntKind.wrap_u64]; omega
     have hand:=bits_and_u64_nat x (x - 1) hx (by omega)
     have hlen:=Lib.hid (bits_short HP2.out HI2.out.le)
     obtain ⟨c,hcc⟩:∃ c,c=Lib.ctz 64 x:=⟨_,rfl⟩
     have hns:64*k+c < 1024:=by omega
     obtain ⟨fn,tmps,assign,body,hy,hR⟩:=hY pre2 ⟨64*k+c,hns⟩ wr hJ hlen.out
     have ecast:((64*k+c:Nat):Int)=↑k*64+↑c:=by omega
     simp only [ecast] at hy
     rw [← hcc] at htz
     have Hy:=Lib.hid hy
     clear hy hx0 ecast
     have Hc:=Lib.hid hcc
     have Hwr:=Lib.hid hwr
     have Hand:=Lib.hid hand
     clear hcc hwr hand
     gi_wp2_with (refine ⟨trivial,?_⟩; gi_at_call 92; refine (callsIn_wide.2 htz).mono ?_; rintro e w' ⟨rfl,rfl⟩; have hy:=Hy.out)
     clear hy
     refine hR.mono ?_
     rintro e W3 (⟨rfl,hJ3,hk3⟩ | ⟨rfl,hJx3⟩)
     ·have HI3:=Lib.hid (HI2.out.keep hk3)
      have HP3:Hid (vals (pre2++[⟨64*k+c,hns⟩])++((Bs.bl (x &&& (x - 1))).map (64*k+·)++Bs.from_ n X (k+1))=Bs.lst n X):=by
       refine Lib.hid ?_
       rw [vals_snoc,← HP2.out,hb.out,← Hc.out]
       simp
      have hval':Hid (bits BinOp.and IntKind.u64 (x:Int) ((x:Int) - 1)=((x &&& (x - 1):Nat):Int)):=Lib.hid (by
       have:=Hand.out
       rw [show ((x - 1:Nat):Int)=(x:Int) - 1 from by omega] at this
       exact this)
      have hdec:x &&& (x - 1) < x:=Nat.lt_of_le_of_lt Nat.and_le_right (by omega)
      clear hk3 HI2 HP2 hR hJ
      gi_wp2
      go_roundw
      case rel=>exact ⟨x &&& (x - 1),_,by rw [hval'.out],by omega,HP3.out,hJ3,HI3.out⟩
      case measure=>simp [hval'.out]; simp only [intOf]; omega
     ·clear hR hJ
      gi_wp2
      refine bodyPost_ret (results_none rfl _ _ _) rfl ?_
      refine ⟨⟨_,rfl⟩,.inr ⟨_,?_,hJx3⟩⟩
      rw [vals_snoc,← HP2.out,hb.out,← Hc.out]
      exact ⟨(Bs.bl (x &&& (x - 1))).map (64*k+·)++Bs.from_ n X (k+1),by simp⟩
  ·obtain rfl:k=Bs.nw n:=by omega
   gi_wp2
   go_end0
   refine ⟨⟨_,rfl⟩,.inl ⟨pre,?_,hJ⟩⟩
   simpa [Bs.from_end] using HP.out
/-- The contract of a set's iterator. -/
theorem each_stops (n' g b n X:Nat) (hn:1≤n') (w:World) (hI:Its w g b n X) :
  SeqStopsK Fence.wide n' Tryd.prog 91 #[.pointer (some ⟨g,0,none⟩)] (fun x:Num=>#[Value.int .i64 (x.1:Nat)]) (Keep g b) (fun ys=>vals ys=Bs.lst n X) (fun pre=>vals pre <+: Bs.lst n X) 1024 w :=
 fun l J Jx W hW _ _ hY h0=>each1_in n' l g b n X hn J Jx hY W (hI.below hW) h0
theorem keep_of_below {n₀ g b:Nat} {A B:World} (h:Below n₀ A B) (hg:g < n₀) (hb:b < n₀) (ht:0 < n₀):Keep g b A B:=⟨h.block _ hg,h.block _ hb,h.block _ ht⟩
theorem keep_put {w:World} {g b:Nat} (hg:g < w.heap.size) (hb:b < w.heap.size) (ht:0 < w.heap.size) (W:World) (l:Nat) (o o':Obj) (hl:w.heap.size≤l) (h:W.heap[l]?=some o) (h1:o.isCells=false) (h2:o.isWalk=false):Keep g b W (W.putObj l o') :=
 keep_of_below (belowK_b (w:=w) (Nat.le_refl _) W l o o' hl h h1 h2) hg hb ht
end Go.Proofs.YtjbggogbnckllaaDoor
end
section
set_option maxRecDepth 100000
namespace Go.Proofs.YtjbggogbnckllaaDoor
open Go.RowKit Go.Shelf
set_option linter.unusedVariables false
attribute [local go_sem] Oper.semAt_some
theorem info3:(Tryd.prog.info? 3).map (fun i=>(i.zero,i.size,i.bytes))=some (some (.int .i64 0),1,8):=by kernel_rfl
def cells (l:List Num):List Value:=l.map fun x=>Value.int .i64 (x.1:Nat)
theorem cells_snoc (l:List Num) (x:Num):cells (l++[x])=cells l++[.int .i64 (x.1:Nat)]:=by simp [cells]
def CollPost (w:World) (n X:Nat) (e:Ending) (w':World):Prop :=
 ∃ v ys,e=.returned v∧vals ys=Bs.lst n X∧w'.ownsRow w.heap.size 3 1 v ys.length (cells ys)∧Below w.heap.size w w'
set_option maxRecDepth 100000 in
set_option maxHeartbeats 4000000 in
theorem appendSeq_in (n' g b n X:Nat) (hn:3≤n') (w:World) (hI:Its w g b n X) :
  CallsIn Fence.wide n' Tryd.prog 89 #[.slice none 0 0,.func (.func 91) #[] #[.pointer (some ⟨g,0,none⟩)]] w (CollPost w n X):=by
 have h1:1≤n':=by omega
 obtain ⟨i0,hi,hz0,hz1,hz2⟩:=info_parts info3
 have hg:g < w.heap.size:=by obtain ⟨_,e⟩:=hI.head; exact lt_of_block e
 have hb:b < w.heap.size:=by obtain ⟨_,e,_⟩:=hI.row; exact lt_of_block e
 have ht:=hI.tab.lt
 refine callsIn_of_wp_marks Tryd.func89 rfl trivial ?_ rfl
 simp only [Tryd.ntmps89,List.size_toArray,List.length_cons,List.length_nil,Nat.reduceAdd,Nat.reduceSub,Array.replicate_succ,Array.replicate_zero,List.push_toArray,List.append_toArray,List.nil_append,List.cons_append]
 gi_wp2
 have bO:=Boxed.new w 30 (.slice none 0 0)
 have hB0:Below w.heap.size w (w.alloc (.cells #[.slice none 0 0] 30)):=(Below.refl _ w).alloc (Nat.le_refl _) _
 refine wpIn_rangeFunc_ownG rfl h1 (gf:=91) (lb:=#[.pointer (some ⟨g,0,none⟩)]) rfl trivial (enters_of Tryd.func91 (by kernel_rfl) rfl)
  (each_stops (n' - 1) g b n X (by omega) _ (hI.below hB0)) (fun h k=>Keep.trans h k) (keep_put (by rw [World.size_alloc]; omega) (by rw [World.size_alloc]; omega) (by rw [World.size_alloc]; omega)) (Below.refl _ _) (fun _=>rfl)
  (fun pre W=>(∃ v,Boxed W w.heap.size 30 v∧W.ownsRow w.heap.size 3 1 v pre.length (cells pre)∧True)∧Below w.heap.size w W)
  (fun _ _ _=>False)
  (OwnFrom.and (Own.from (holdsRow_own w.heap.size w.heap.size 30 3 1 (fun pre=>pre.length) (fun pre=>cells pre) (fun pre v=>True)) _) (ownFrom_below (Nat.le_refl _) (by simp)))
  (fun _ _ _ _ _ hs _ _=>hs)
  ⟨⟨_,bO,World.ownsRow_nil _ _ _ _,trivial⟩,hB0⟩
  (fun x=>{ tmps:=#[.slice none 0 0,.func (.func 91) #[] #[.pointer (some ⟨g,0,none⟩)],.pointer (some ⟨w.heap.size,0,none⟩),undef,.slice none 0 0,.int .i64 (x.1:Nat),.func (.func 91) #[] #[.pointer (some ⟨g,0,none⟩)],.int .i64 (x.1:Nat),undef,undef,undef,undef,undef],defers:=[] }) ?assign ?body ?done ?stop
 case assign =>
  intro l x W K hK
  gi_wp2
  exact hK
 case body =>
  rintro l pre x W ⟨⟨v,hv,hrow,_⟩,hB⟩ hlt
  have hc:=hv.cell
  gi_wp2_with (gi_at_builtin; refine wpListIn_append_own _ rfl _ _ 30 rfl w.heap.size 3 i0 (.int .i64 0) 1 8 Tryd.underlying30 hi hz0 hz1 hz2 rfl (by decide) _ _ _ rfl (hrow.alloc _) ⟨W.heap.size,0,none⟩ 1 1 [.int .i64 (x.1:Nat)] rfl rfl (cell_one_new _ _ _) (by simp [Value.oneCell']) (by unfold maxLen; omega) (by omega) (by have:=hB.size; simp; omega) ?_; intro v' w1 hown' hgrow _; obtain ⟨g',cap',rfl⟩:=ownsRow_succ hown'; obtain ⟨hv1,hv2,hr2,hk2,hb2⟩:=hv.appended (by decide) hrow hB.size (Nat.le_refl _) hown' hgrow; have hc1:=hv1.cell; have hf1:=hv1.frozen)
  exact ⟨hk2.from _,keep_of_below hb2 hg hb ht,⟨⟨_,hv2,by rw [cells_snoc]; simpa using hr2,trivial⟩,hB.trans hb2⟩⟩
 case done =>
  rintro D ys W hD hys ⟨⟨v,hv,hrow,_⟩,hB⟩ hK
  have hc:=hv.cell
  gi_wp2
  refine ⟨by simp,.inl ⟨_,_,rfl,run_takeDeferred hK,?_⟩⟩
  exact ⟨_,results_tmp rfl _ _ _,v,ys,rfl,hys,ownsRow_putObj hrow _ hK rfl,hB.trans (belowK_b (w:=w) (Nat.le_refl _) W D _ _ (by simp at hD; omega) hK rfl rfl)⟩
 case stop =>
  rintro D c pre W _ _ h _
  exact h.elim
theorem appendSeq_any (g b n X:Nat) (w:World) (hI:Its w g b n X) :
  Calls Tryd.prog 89 #[.slice none 0 0,.func (.func 91) #[] #[.pointer (some ⟨g,0,none⟩)]] w (CollPost w n X) :=
 (callsIn_wide (n:=3)).1 (appendSeq_in 3 g b n X (by omega) w hI)
set_option maxHeartbeats 1000000 in
theorem collect_any (g b n X:Nat) (w:World) (hI:Its w g b n X) :
  Calls Tryd.prog 73 #[.func (.func 91) #[] #[.pointer (some ⟨g,0,none⟩)]] w (CollPost w n X):=by
 have h:=appendSeq_any g b n X w hI
 clear hI
 go_enter Tryd.func73,Tryd.ntmps73
 go_wp2_with fail
 refine h.mono ?_
 rintro e w1 ⟨v,ys,rfl,hys,hr,hB⟩
 have H1:=Lib.hid hys
 have H2:=Lib.hid hr
 have H3:=Lib.hid hB
 clear hys hr hB h
 go_wp2_with fail
 go_ret
 exact ⟨v,ys,rfl,H1.out,H2.out,H3.out⟩
/-- A list of numbers that a slice holds, which the call made. -/
def natI (l:List Nat):List Int:=l.map fun (x:Nat)=>(x:Int)
theorem Ints.upd {w w':World} {a:Option Addr} {l:List Int} {b:Nat} (h:Ints w a l) (k:Upd b w w') (hb:∀ g o s,a=some ⟨g,o,s⟩→g≠b):Ints w' a l:=by
 intro i hi
 obtain ⟨g,off,rfl,hc⟩:=h i hi
 have hlt:g < w.heap.size:=World.block_lt_of_cell? w _ hc
 exact ⟨g,off,rfl,(World.cell?_of_block (w:=w) (a:=⟨g,off+i,none⟩) (k.block g hlt (hb _ _ _ rfl))).trans hc⟩
def ListPost (w:World) (l:List Nat) (e:Ending) (w':World):Prop :=
 ∃ a cap,e=.returned (.slice a (natI l).length cap)∧(∀ g o s,a=some ⟨g,o,s⟩→w.heap.size≤g∧g < w'.heap.size)∧Ints w' a (natI l)∧Below w.heap.size w w'
theorem ints_of_row {w:World} {base:Nat} {v:Value} {ys:List Num} (h:w.ownsRow base 3 1 v ys.length (cells ys)):∃ a cap,v=.slice a ys.length cap∧(∀ g o s,a=some ⟨g,o,s⟩→base≤g∧g < w.heap.size)∧Ints w a (natI (vals ys)):=by
 rcases h.2 with ⟨rfl,h0⟩ | ⟨g,cp,cur,rfl,hg,hh,h1,h2,h3,h4⟩
 ·exact ⟨none,0,by rw [h0],(fun _ _ _ e=>by cases e),fun i hi=>by simp [natI,vals,h0] at hi⟩
 ·refine ⟨_,cp,rfl,(fun _ _ _ e=>by cases e; exact ⟨hg,lt_of_block hh⟩),fun i hi=>⟨g,0,rfl,?_⟩⟩
  have hi':i < ys.length:=by simpa [natI,vals] using hi
  rw [Nat.mul_one] at h4
  have:(cur.toList.take ys.length)[i]?=some (.int .i64 (ys[i].1:Nat)):=by rw [h4]; simp [cells,hi']
  rw [List.getElem?_take,if_pos hi'] at this
  have e:cur[i]?=some (.int .i64 (ys[i].1:Nat)):=by simpa using this
  simp [World.cell?,hh,e,natI,vals]
set_option maxHeartbeats 1000000 in
theorem list_any (p b n X:Nat) (w:World) (h:SetAt w p b n X) (hT:Tab w) :
  Calls Tryd.prog 53 #[.pointer (some ⟨p,0,none⟩)] w (ListPost w (Bs.lst n X)):=by
 have H:=Lib.hid h
 have T:=Lib.hid hT
 clear h hT
 go_enter Tryd.func53,Tryd.ntmps53
 go_wp2_with fail
 refine (each_any p b n X w H.out).mono ?_
 rintro e w1 ⟨g,b1,rfl,hg,hb,hh,hr,hB⟩
 have I1:=Lib.hid (show Its w1 g b1 n X from ⟨hh,hr,T.out.below hB,H.out.le,H.out.lt⟩)
 have L1:=Lib.hid hB
 clear hh hr hB
 go_wp2_with fail
 refine (collect_any g b1 n X w1 I1.out).mono ?_
 rintro e w2 ⟨v,ys,rfl,hys,hr,hB⟩
 have H1:=Lib.hid hys
 have H2:=Lib.hid hr
 have L2:=Lib.hid (L1.out.trans (hB.mono L1.out.size))
 clear hys hr hB
 go_wp2_with fail
 go_ret
 obtain ⟨a,cap,rfl,hge,hi⟩:=ints_of_row H2.out
 rw [H1.out] at hi
 have hsz:=L1.out.size
 refine ⟨a,cap,?_,(fun g o s e=>by have:=hge g o s e; omega),hi,L2.out⟩
 rw [← H1.out]
 simp [vals,natI]
end Go.Proofs.YtjbggogbnckllaaDoor
end
section
set_option maxRecDepth 100000
namespace Go.Proofs.YtjbggogbnckllaaDoor
open Go.RowKit
set_option linter.unusedVariables false
def eqI (x y:List Int):Bool:=decide (x=y)
theorem eqI_len {x y:List Int} (h:x.length≠y.length):eqI x y=false:=by
 unfold eqI; rw [decide_eq_false]; intro e; exact h (by rw [e])
theorem eqI_at {x y:List Int} {k:Nat} (h1:k < x.length) (h2:k < y.length) (h:x[k]≠y[k]):eqI x y=false:=by
 unfold eqI; rw [decide_eq_false]; intro e; subst e; exact h rfl
theorem eqI_all {x y:List Int} (hl:x.length=y.length) (h:x.take x.length=y.take x.length):eqI x y=true:=by
 unfold eqI; rw [List.take_length] at h; rw [decide_eq_true]; rw [h,hl,List.take_length]
theorem take_same {x y:List Int} {k:Nat} (h1:k < x.length) (h2:k < y.length) (h:x.take k=y.take k) (e:x[k]=y[k]):x.take (k+1)=y.take (k+1):=by
 rw [List.take_succ_eq_append_getElem h1,List.take_succ_eq_append_getElem h2,h,e]
set_option maxRecDepth 100000 in
set_option maxHeartbeats 1000000 in
theorem ints_any (a b:Option Addr) (x y:List Int) (c d:Nat) (w:World) (hx:Ints w a x) (hy:Ints w b y) (lx:x.length≤maxLen) (ly:y.length≤maxLen) :
  Calls Tryd.prog 25 #[.slice a x.length c,.slice b y.length d] w fun e w'=>e=.returned (.bool (eqI x y))∧Below w.heap.size w w':=by
 unfold maxLen at lx ly
 have X:=Lib.hid hx
 have Y:=Lib.hid hy
 clear hx hy
 by_cases hl:x.length=y.length
 case neg =>
  have hv:=Lib.hid (eqI_len hl)
  have hne:(((x.length:Int)) != (y.length:Int))=true:=by simp; omega
  clear hl
  go_enter Tryd.func25,Tryd.ntmps25
  go_wp2_with fail
  go_ret
  exact ⟨ret_bool hv.out.symm,Below.refl _ _⟩
 have hne:(((x.length:Int)) != (y.length:Int))=false:=by simp; omega
 have HL:=Lib.hid hl
 go_enter Tryd.func25,Tryd.ntmps25
 clear hl
 go_wp2_with fail
 clear hne
 go_loopw [5] (fun i wr=>∃ k:Nat,i=.int .i64 k∧k≤x.length∧Hid (x.take k=y.take k)∧Hid (Below w.heap.size w wr)) (fun i _=>x.length - (intOf i).toNat)
 case atStart=>exact ⟨0,rfl,by omega,Lib.hid rfl,Lib.hid (Below.refl _ _)⟩
 case round =>
  obtain ⟨k,rfl,hk,T,L⟩:=hrel
  by_cases hlt:k < x.length
  ·have hlt2:k < y.length:=by have:=HL.out; omega
   obtain ⟨g1,o1,rfl,_⟩:=X.out k hlt
   obtain ⟨g2,o2,rfl,_⟩:=Y.out k hlt2
   have X1:=X.out.below L.out
   have Y1:=Y.out.below L.out
   have ez1:∀ z:Wd wr.heap.size wr,z.w.cell? ⟨g1,o1+k,none⟩=some (.int .i64 x[k]):=fun z=>by
    obtain ⟨g,o,e,h⟩:=(X1.below z.ok) k hlt; cases e; exact h
   have ez2:∀ z:Wd wr.heap.size wr,z.w.cell? ⟨g2,o2+k,none⟩=some (.int .i64 y[k]):=fun z=>by
    obtain ⟨g,o,e,h⟩:=(Y1.below z.ok) k hlt2; cases e; exact h
   have hkn:(0:Int)≤k:=by omega
   clear X1 Y1
   go_wp2_with fail
   refine region_cls wr.heap.size (by kernel_rfl) (by kernel_rfl) ?_
   repeat (go_big_quiet_step (fail))
   refine wpQuiet_nil ?_
   intro z
   have L2:=Lib.hid (L.out.trans (z.ok.mono L.out.size))
   clear ez1 ez2
   by_cases he:x[k]=y[k]
   ·have heq:(x[k] != y[k])=false:=by simpa using he
    have T2:=Lib.hid (take_same hlt hlt2 T.out he)
    clear he
    go_wp2_with fail
    go_roundw
    case rel=>exact ⟨k+1,by go_num,by omega,T2,L2⟩
    case measure=>simp [intOf]; omega
   ·have heq:(x[k] != y[k])=true:=by simpa using he
    have hv:=Lib.hid (eqI_at hlt hlt2 he)
    clear he
    go_wp2_with fail
    go_ret
    exact ⟨ret_bool hv.out.symm,L2.out⟩
  ·obtain rfl:k=x.length:=by omega
   have hv:=Lib.hid (eqI_all HL.out T.out)
   go_wp2_with fail
   go_ret
   exact ⟨ret_bool hv.out.symm,L.out⟩
def inI (l:List Int) (x:Int):Bool:=l.contains x
end Go.Proofs.YtjbggogbnckllaaDoor
end
section
set_option maxRecDepth 100000
namespace Go.Proofs.YtjbggogbnckllaaDoor
open Go.RowKit
set_option linter.unusedVariables false
/-- Did a set grow? -/
def gr (n X:Nat) (l:List Int):Bool:=!decide (Bs.adds n X l=X)
theorem adds_sup (n X:Nat) (l:List Int) {j:Nat} (h:X.testBit j=true):(Bs.adds n X l).testBit j=true:=by rw [Bs.adds_bit,h]; rfl
theorem addX_eq (n X:Nat) (i:Int):addX n X i=Bs.adds n X [i]:=by simp [addX,Bs.adds]
theorem addB_eq (n X:Nat) (i:Int):addB n X i=!decide (addX n X i=X):=by
 unfold addB addX
 cases hi:Bs.is n i with
 | false=>simp
 | true =>
  have h0:0≤i:=by simp [Bs.is] at hi; omega
  simp only [if_true,Bool.true_and]
  cases hx:Bs.has X i with
  | true =>
   have:X.testBit i.toNat=true:=by simpa [Bs.has,h0] using hx
   simp [Bs.add_same this]
  | false =>
   have:X.testBit i.toNat=false:=by simpa [Bs.has,h0] using hx
   have hne:Bs.add X i.toNat≠X:=by
    intro e
    have:=congrArg (fun Y=>Y.testBit i.toNat) e
    simp [Bs.add_bit] at this
    simp_all
   simp [hne]
theorem ne_bit {X Y:Nat} (h:∀ j,X.testBit j=true→Y.testBit j=true) (hne:Y≠X):∃ j,Y.testBit j=true∧X.testBit j=false:=by
 apply Classical.byContradiction
 intro hc
 apply hne
 apply Nat.eq_of_testBit_eq
 intro j
 cases hy:Y.testBit j with
 | true =>
  cases hx:X.testBit j with
  | true=>rfl
  | false=>exact absurd ⟨j,hy,hx⟩ hc
 | false =>
  cases hx:X.testBit j with
  | true=>rw [h j hx] at hy; cases hy
  | false=>rfl
theorem adds_app (n X:Nat) (l r:List Int):Bs.adds n X (l++r)=Bs.adds n (Bs.adds n X l) r:=by simp [Bs.adds]
theorem gr_snoc (n X:Nat) (l:List Int) (i:Int):gr n X (l++[i])=(addB n (Bs.adds n X l) i||gr n X l):=by
 unfold gr
 rw [adds_app,← addX_eq,addB_eq]
 by_cases h:Bs.adds n X l=X
 ·rw [h]; simp
 ·have h2:addX n (Bs.adds n X l) i≠X:=by
   obtain ⟨j,hj,hx⟩:=ne_bit (fun j hj=>adds_sup n X l hj) h
   intro e
   rw [addX_eq] at e
   have:=adds_sup n _ [i] hj
   rw [e,hx] at this
   cases this
  simp [h,h2]
theorem adds_none {n X:Nat} {l:List Int} (h:∀ i ∈ l,(n:Int)≤i):Bs.adds n X l=X:=by
 induction l generalizing X with
 | nil=>rfl
 | cons i l ih =>
  have hi:=h i (by simp)
  have:Bs.is n i=false:=by simp [Bs.is]; omega
  unfold Bs.adds; rw [List.foldl_cons,if_neg (by simp [this])]
  exact ih (fun k hk=>h k (by simp [hk]))
theorem lst_sorted (n X:Nat):(Bs.lst n X).Pairwise (· < ·):=(List.pairwise_lt_range (n:=n)).filter _
/-- Behind a number that is too large there are such alone. -/
theorem adds_stop {n X m Y:Nat} {l r:List Nat} {x:Nat} (h:(l++[x])++r=Bs.lst m Y) (hx:n≤x):Bs.adds n X (natI (Bs.lst m Y))=Bs.adds n X (natI l):=by
 have hs:=lst_sorted m Y
 rw [← h] at hs ⊢
 unfold natI
 rw [List.append_assoc,List.map_append,adds_app]
 apply adds_none
 intro i hi
 obtain ⟨k,hk,rfl⟩:=List.mem_map.1 hi
 simp at hk
 rcases hk with rfl | hk
 ·omega
 ·have:=(List.pairwise_append.1 hs).2.2 x (by simp) k hk
  omega
/-- The union's numbers. -/
def un (n X m Y:Nat):Nat:=Bs.adds n X (natI (Bs.lst m Y))
theorem un_bit {n X m Y:Nat} (hY:Y < 2 ^ m) (j:Nat):(un n X m Y).testBit j=(X.testBit j||(decide (j < n)&&Y.testBit j)):=by
 unfold un
 rw [Bs.adds_bit]
 congr 2
 have:(natI (Bs.lst m Y)).contains (j:Int)=decide (j < m∧Y.testBit j=true):=by
  rw [Bool.eq_iff_iff,List.contains_iff_mem,decide_eq_true_eq,← Bs.mem_lst]
  unfold natI
  rw [List.mem_map]
  constructor
  ·rintro ⟨a,ha,e⟩
   have:a=j:=by omega
   rw [← this]; exact ha
  ·intro h; exact ⟨j,h,rfl⟩
 rw [this]
 cases hb:Y.testBit j with
 | false=>simp
 | true =>
  rcases Nat.lt_or_ge j m with h | h
  ·simp [h]
  ·rw [Bs.bit_of_lt hY h] at hb; cases hb
/-- Does a union grow? -/
def unB (n X m Y:Nat):Bool:=gr n X (natI (Bs.lst m Y))
end Go.Proofs.YtjbggogbnckllaaDoor
end
section
set_option maxRecDepth 100000
namespace Go.Proofs.YtjbggogbnckllaaDoor
open Go.RowKit Go.Shelf
set_option linter.unusedVariables false
attribute [local go_sem] Oper.semAt_some
theorem cells_kept {W W':World} {row:Option Nat} {k:Nat} {cs:Array Value} {t:TypeId} {f:Nat×Nat} (h:W.heap[k]?=some (.cells cs t f)) (hg:W.grownBy W' row) (hr:∀ r,row=some r→∃ o:Obj,W.heap[r]?=some o∧o.isCells=false):W'.heap[k]?=W.heap[k]? :=
 hg.block k (lt_of_block h) (fun e=>by
  obtain ⟨o,ho,hc⟩:=hr k e.symm
  rw [h] at ho; cases ho; cases hc)
theorem SetAt.grown {W W':World} {row:Option Nat} {p b n X:Nat} (h:SetAt W p b n X) (hg:W.grownBy W' row) (hr:∀ r,row=some r→∃ o:Obj,W.heap[r]?=some o∧o.isCells=false):SetAt W' p b n X:=by
 obtain ⟨c,e⟩:=h.box
 obtain ⟨cs,f,g⟩:=h.row
 exact h.kept (cells_kept e hg hr) (cells_kept f hg hr)
theorem boxed_grown {W W':World} {row:Option Nat} {B:Nat} {t:TypeId} {v:Value} (h:Boxed W B t v) (hg:W.grownBy W' row) (hr:∀ r,row=some r→∃ o:Obj,W.heap[r]?=some o∧o.isCells=false):Boxed W' B t v :=
 (cells_kept h hg hr).trans h
theorem boxed_upd {W W':World} {B b:Nat} {t:TypeId} {v:Value} (h:Boxed W B t v) (k:Upd b W W') (hb:B≠b):Boxed W' B t v:=(k.block B h.lt hb).trans h
theorem Upd.grown {w W W':World} {row:Option Nat} {b:Nat} (h:Upd b w W) (hg:W.grownBy W' row) (hr:∀ r,row=some r→w.heap.size≤r):Upd b w W' :=
 ⟨hg.os.trans h.os,hg.tape.trans h.tape,hg.output.trans h.output,Nat.le_trans h.size hg.size,fun k hk hb=>(hg.block k (Nat.lt_of_lt_of_le hk h.size) (fun e=>by have:=hr k e.symm; omega)).trans (h.block k hk hb)⟩
theorem KeepsOthers.upd {W W':World} {b:Nat} {cs:Array Value} {t:TypeId} {f:Nat×Nat} (h:Upd b W W') (hb:W.heap[b]?=some (.cells cs t f)):KeepsOthers W W' :=
 ⟨h.size,fun k o hk ho=>(h.block k (lt_of_block hk) (fun e=>by subst e; rw [hb] at hk; cases hk; cases ho)).trans hk⟩
theorem Keep.upd {W W':World} {g c b:Nat} (h:Upd b W W') (hg:g < W.heap.size) (hc:c < W.heap.size) (ht:0 < W.heap.size) (h1:g≠b) (h2:c≠b) (h3:0≠b):Keep g c W W' :=
 ⟨h.block _ hg h1,h.block _ hc h2,h.block _ ht h3⟩
theorem Upd.putObj {b:Nat} {w W:World} (h:Upd b w W) {l:Nat} (hl:w.heap.size≤l) (o':Obj):Upd b w (W.putObj l o'):=h.grown (grownBy_putObj' W l o') (fun r e=>by cases e; exact hl)
theorem SetAt.putObj {W:World} {p b n X l:Nat} {o:Obj} (h:SetAt W p b n X) (o':Obj) (hl:W.heap[l]?=some o) (ho:o.isCells=false):SetAt (W.putObj l o') p b n X:=h.grown (grownBy_putObj' W l o') (fun r e=>by cases e; exact ⟨o,hl,ho⟩)
/-- What holds between two rounds. -/
structure UI (w:World) (z p b n X:Nat) (pre:List Num) (W:World):Prop where
 one:Boxed W w.heap.size 85 (.pointer (some ⟨p,0,none⟩))
 two:Boxed W (w.heap.size+1) 4 (.bool (gr n X (natI (vals pre))))
 set:SetAt W p b n (Bs.adds n X (natI (vals pre)))
 upd:Upd b w W
 big:z≤W.heap.size
theorem UI.own (w:World) (z p b n X B:Nat) (hB:w.heap.size≤B):OwnFrom B (UI w z p b n X) :=
 fun s W W' row h hg hr=>⟨boxed_grown h.one hg (fun r e=>(hr r e).2),boxed_grown h.two hg (fun r e=>(hr r e).2),h.set.grown hg (fun r e=>(hr r e).2),h.upd.grown hg (fun r e=>Nat.le_trans hB (hr r e).1),Nat.le_trans h.big hg.size⟩
def UX (w:World) (z p b n X:Nat) (c:Code) (pre:List Num) (W:World):Prop:=c=.exit 0∧∃ l x,pre=l++[x]∧n≤x.1∧UI w z p b n X l W
theorem UX.own (w:World) (z p b n X B:Nat) (hB:w.heap.size≤B) (c:Code):OwnFrom B (UX w z p b n X c) :=
 fun s W W' row h hg hr=>by obtain ⟨hc,l,x,e,hx,hu⟩:=h; exact ⟨hc,l,x,e,hx,UI.own w z p b n X B hB l W W' row hu hg hr⟩
theorem Upd.setNew {b:Nat} {w W:World} (h:Upd b w W) (a:Addr) (ha:w.heap.size≤a.block) (v:Value):Upd b w (W.setCell a v) :=
 ⟨h.os,h.tape,h.output,Nat.le_trans h.size (by simp [World.setCell]),fun k hk hb=>(Below.heap_setCell _ _ _ _ (by omega)).trans (h.block k hk hb)⟩
theorem UI.step {w W W2:World} {z p b n X:Nat} {pre:List Num} {x:Num} {v:Bool} (h:UI w z p b n X pre W) (hp:p < w.heap.size) (hb:b < w.heap.size) (hv:v=gr n X (natI (vals pre)++[((x.1:Nat):Int)]))
  (hs:SetAt W2 p b n (addX n (Bs.adds n X (natI (vals pre))) (x.1:Nat))) (hu:Upd b W W2):UI w z p b n X (pre++[x]) (W2.setCell ⟨w.heap.size+1,0,none⟩ (.bool v)):=by
 have e:natI (vals (pre++[x]))=natI (vals pre)++[((x.1:Nat):Int)]:=by rw [vals_snoc]; simp [natI]
 have b1:=boxed_upd h.one hu (by omega)
 have b2:=boxed_upd h.two hu (by omega)
 refine ⟨(Below.heap_setCell _ _ _ _ (by simp)).trans b1,by rw [e,← hv]; exact b2.set _,?_,(h.upd.trans hu).setNew _ (by simp) _,Nat.le_trans h.big (Nat.le_trans hu.size (by simp [World.setCell]))⟩
 rw [e,adds_app,← addX_eq]
 exact hs.kept (Below.heap_setCell _ _ _ _ (by simp; omega)) (Below.heap_setCell _ _ _ _ (by simp; omega))
theorem UI.body {w W W2:World} {z p b n X g c B:Nat} {pre:List Num} {x:Num} {v:Bool} {a:Act} (h:UI w z p b n X pre W) (hp:p < w.heap.size) (hb:b < w.heap.size) (ht:0 < w.heap.size) (htb:0≠b)
  (hg:w.heap.size+1+1≤g) (hc:w.heap.size+1+1≤c) (hg':g < z) (hc':c < z) (hv:v=gr n X (natI (vals pre)++[((x.1:Nat):Int)]))
  (hs:SetAt W2 p b n (addX n (Bs.adds n X (natI (vals pre))) (x.1:Nat))) (hu:Upd b W W2):ownPostG B (Keep g c) (UI w z p b n X) (UX w z p b n X) (pre++[x]) W .normal a (W2.setCell ⟨w.heap.size+1,0,none⟩ (.bool v)):=by
 obtain ⟨cs,hrow,_⟩:=h.set.row
 have hz:=h.big
 refine ⟨((KeepsOthers.upd hu hrow).trans (KeepsOthers.setCell _ _ _)).from _,(Keep.upd hu (by omega) (by omega) (by have:=h.upd.size; omega) (by omega) (by omega) htb).trans ⟨Below.heap_setCell _ _ _ _ (by simp; omega),Below.heap_setCell _ _ _ _ (by simp; omega),Below.heap_setCell _ _ _ _ (fun e=>by first | (simp at e; done) | (simp at e; omega))⟩,h.step hp hb hv hs hu⟩
def UnionPost (w:World) (p b n X m Y:Nat) (e:Ending) (w':World):Prop:=e=.returned (.bool (unB n X m Y))∧SetAt w' p b n (un n X m Y)∧Upd b w w'
set_option maxRecDepth 100000 in
set_option maxHeartbeats 8000000 in
theorem union_in (n' p b n X q c m Y:Nat) (hn:3≤n') (w:World) (hS:SetAt w p b n X) (hO:SetAt w q c m Y) (hT:Tab w) (hTb:0≠b) :
  CallsIn Fence.wide n' Tryd.prog 54 #[.pointer (some ⟨p,0,none⟩),.pointer (some ⟨q,0,none⟩)] w (UnionPost w p b n X m Y):=by
 have h1:1≤n':=by omega
 have hp:=hS.plt
 have hb:=hS.blt
 have ht:=hT.lt
 have HS:=Lib.hid hS
 have HO:=Lib.hid hO
 have HT:=Lib.hid hT
 clear hS hO hT
 refine callsIn_of_wp_marks Tryd.func54 rfl trivial ?_ rfl
 simp only [Tryd.ntmps54,List.size_toArray,List.length_cons,List.length_nil,Nat.reduceAdd,Nat.reduceSub,Array.replicate_succ,Array.replicate_zero,List.push_toArray,List.append_toArray,List.nil_append,List.cons_append]
 have hB0:Below w.heap.size w ((w.alloc (.cells #[.pointer (some ⟨p,0,none⟩)] 85)).alloc (.cells #[.bool false] 4)):=((Below.refl _ w).alloc (Nat.le_refl _) _).alloc (by simp) _
 have hea:=each_any q c m Y _ (HO.out.below hB0)
 have HB0:=Lib.hid hB0
 clear hB0
 gi_wp2_with (refine ⟨trivial,?_⟩; gi_at_call 74; refine (callsIn_wide.2 hea).mono ?_; rintro e w1 ⟨g,c1,rfl,hg,hc1,hh,hr,hB1⟩)
 simp only [World.size_alloc] at hg hc1
 have b1:Boxed w1 w.heap.size 85 (.pointer (some ⟨p,0,none⟩)) :=
  (hB1.block _ (by simp; omega)).trans ((Boxed.new w 85 (.pointer (some ⟨p,0,none⟩))).alloc _)
 have b2:Boxed w1 (w.heap.size+1) 4 (.bool false):=by
  have:=Boxed.new (w.alloc (.cells #[.pointer (some ⟨p,0,none⟩)] 85)) 4 (.bool false)
  rw [World.size_alloc] at this
  exact (hB1.block _ (by simp)).trans this
 have hBw:Below w.heap.size w w1:=HB0.out.trans (hB1.mono (by simp; omega))
 have hT1:=HT.out.below hBw
 have hI1:Its w1 g c1 m Y:=⟨hh,hr,hT1,HO.out.le,HO.out.lt⟩
 have hU0:UI w w1.heap.size p b n X [] w1:=⟨b1,by simpa [vals,natI,gr,Bs.adds] using b2,by simpa [vals,natI,Bs.adds] using HS.out.below hBw,.of hBw,Nat.le_refl _⟩
 have hgl:g < w1.heap.size:=by obtain ⟨_,e⟩:=hh; exact lt_of_block e
 have hcl:c1 < w1.heap.size:=by obtain ⟨_,e,_⟩:=hr; exact lt_of_block e
 have htl:=hT1.lt
 have hsz:=hBw.size
 clear b1 b2 hh hr hB1 hT1 hea
 refine wpIn_rangeFunc_ownG rfl h1 (gf:=91) (lb:=#[.pointer (some ⟨g,0,none⟩)]) rfl trivial (enters_of Tryd.func91 (by kernel_rfl) rfl)
  (each_stops (n' - 1) g c1 m Y (by omega) w1 hI1) (fun h k=>Keep.trans h k) (keep_put hgl hcl htl) (Below.refl _ _) (fun _=>rfl)
  (UI w w1.heap.size p b n X) (UX w w1.heap.size p b n X) (UI.own _ _ _ _ _ _ _ hsz) (UX.own _ _ _ _ _ _ _ hsz) hU0
  (fun x=>{ tmps:=#[.pointer (some ⟨p,0,none⟩),.pointer (some ⟨q,0,none⟩),.pointer (some ⟨w.heap.size,0,none⟩),undef,.bool false,.pointer (some ⟨w.heap.size+1,0,none⟩),.int .i64 (x.1:Nat),.pointer (some ⟨q,0,none⟩),.func (.func 91) #[] #[.pointer (some ⟨g,0,none⟩)],.int .i64 (x.1:Nat),undef,undef,undef,undef,undef,undef,undef,undef,undef,undef,undef,undef,undef],defers:=[] }) ?assign ?body ?done ?stop
 case assign =>
  intro l x W K hK
  gi_wp2
  exact hK
 case body =>
  intro l pre x W hU hlt
  have hdp:1≤n' - 1 - 1:=by omega
  have hc1':=hU.one.cell
  have hc2':=hU.two.cell
  have hf2':=hU.two.frozen
  obtain ⟨s0,_,_,_⟩:=hU.set.cells
  have HU:=Lib.hid hU
  clear hU
  by_cases hx:x.1 < n
  ·have hd:decide ((n:Int)≤((x.1:Nat):Int))=false:=by simp; omega
   have hd2:decide (n≤x.1)=false:=by simp; omega
   have hadd:=add_any p b n _ x.1 W HU.out.set
   have hgs:=Lib.hid (gr_snoc n X (natI (vals pre)) (x.1:Nat))
   cases hab:addB n (Bs.adds n X (natI (vals pre))) (x.1:Nat) with
   | true =>
    rw [hab] at hadd
    have HV:Hid (true=gr n X (natI (vals pre)++[((x.1:Nat):Int)])):=Lib.hid (by rw [hgs.out,hab]; rfl)
    clear hab
    gi_wp2_with (refine ⟨trivial,?_⟩; gi_at_call 45; refine (CallsIn.inRound l (callsIn_wide.2 hadd)).mono ?_; rintro e W2 ⟨rfl,hs2,hu2⟩; have hc3':=(boxed_upd HU.out.two hu2 (by omega)).cell; have hf3':=(boxed_upd HU.out.two hu2 (by omega)).frozen)
    exact HU.out.body hp hb ht hTb hg hc1 hgl hcl HV.out hs2 hu2
   | false =>
    rw [hab] at hadd
    have HV:Hid (gr n X (natI (vals pre))=gr n X (natI (vals pre)++[((x.1:Nat):Int)])):=Lib.hid (by rw [hgs.out,hab]; rfl)
    clear hab
    gi_wp2_with (refine ⟨trivial,?_⟩; gi_at_call 45; refine (CallsIn.inRound l (callsIn_wide.2 hadd)).mono ?_; rintro e W2 ⟨rfl,hs2,hu2⟩; have hc3':=(boxed_upd HU.out.two hu2 (by omega)).cell; have hf3':=(boxed_upd HU.out.two hu2 (by omega)).frozen)
    exact HU.out.body hp hb ht hTb hg hc1 hgl hcl HV.out hs2 hu2
  ·have hd:decide ((n:Int)≤((x.1:Nat):Int))=true:=by simp; omega
   have hd2:decide (n≤x.1)=true:=by simp; omega
   have hx':n≤x.1:=by omega
   gi_wp2
   exact ⟨(KeepsOthers.refl _).from _,rfl,pre,x,rfl,hx',HU.out⟩
 case done =>
  intro D ys W hD hys hU hK
  have hc2':=hU.two.cell
  have key:Hid (UnionPost w p b n X m Y (.returned (.bool (gr n X (natI (vals ys))))) (W.putObj D (.deferred none))) :=
   Lib.hid ⟨ret_bool (by unfold unB; rw [← hys]),by unfold un; rw [← hys]; exact hU.set.putObj (.deferred none) hK rfl,hU.upd.putObj (by omega) _⟩
  clear hU hys
  gi_wp2
  refine ⟨by simp,.inl ⟨_,_,rfl,run_takeDeferred hK,?_⟩⟩
  exact ⟨_,results_tmp rfl _ _ _,by exact key.out⟩
 case stop =>
  rintro D cc pre W hD hpre ⟨rfl,l,x,rfl,hx,hU⟩ hK
  have hc2':=hU.two.cell
  obtain ⟨r,hr⟩:=hpre
  rw [vals_snoc] at hr
  have he:Bs.adds n X (natI (Bs.lst m Y))=Bs.adds n X (natI (vals l)):=adds_stop hr hx
  have key:Hid (UnionPost w p b n X m Y (.returned (.bool (gr n X (natI (vals l))))) (W.putObj D (.deferred none))) :=
   Lib.hid ⟨ret_bool (by unfold unB gr; rw [he]),by unfold un; rw [he]; exact hU.set.putObj (.deferred none) hK rfl,hU.upd.putObj (by omega) _⟩
  clear hU hr he
  gi_wp2
  refine ⟨by simp,.inl ⟨_,_,rfl,run_takeDeferred hK,?_⟩⟩
  exact ⟨_,results_tmp rfl _ _ _,by exact key.out⟩
theorem union_any (p b n X q c m Y:Nat) (w:World) (hS:SetAt w p b n X) (hO:SetAt w q c m Y) (hT:Tab w) (hTb:0≠b) :
  Calls Tryd.prog 54 #[.pointer (some ⟨p,0,none⟩),.pointer (some ⟨q,0,none⟩)] w (UnionPost w p b n X m Y) :=
 (callsIn_wide (n:=3)).1 (union_in 3 p b n X q c m Y (by omega) w hS hO hT hTb)
end Go.Proofs.YtjbggogbnckllaaDoor
end
