/-
  A region whose head reads, and in whose tail a slice is made and appended to, while another slice is made (append(append([]T{}, ..), x)): the three orders of the three operations.
-/
import Derived.Test.YtjbggogbnckllaaDoorAc
import Derived.Test.YtjbggogbnckllaaDoorAa
namespace Go.Proofs.YtjbggogbnckllaaDoor
open Go Go.RowKit
section
variable {P:Program} {D:World→Prop}
def seq3 (md:Region.Mode) (ops:Array Oper) (b0 ap b1:Nat) (ts:List Nat) (L:Array Bool):Bool :=
 (decide (Region.ready md ops L=[b0,b1])||decide (Region.ready md ops L=[b1,b0])) &&
 (decide (Region.ready md ops (L.setIfInBounds b0 true)=[ap,b1])||decide (Region.ready md ops (L.setIfInBounds b0 true)=[b1,ap])) &&
 seqH md ops (b1::ts) ((L.setIfInBounds b0 true).setIfInBounds ap true)&&seqH md ops (ap::ts) ((L.setIfInBounds b0 true).setIfInBounds b1 true)&&seqH md ops (b0::ap::ts) (L.setIfInBounds b1 true)
def lexH3 (md:Region.Mode) (ops:Array Oper) (b0 ap b1:Nat) (ts:List Nat):List Nat→Array Bool→Bool
 | [],L=>seq3 md ops b0 ap b1 ts L
 | k::hs,L=>(Region.ready md ops L).contains k&&Region.free md ops L k&&lexH3 md ops b0 ap b1 ts hs (L.setIfInBounds k true)
theorem listE_two {ops:Array Oper} {Q:Exit→Act→World→Prop} {e:Nat} {o:Oper} {l1 l2:List Oper} {a:Act} {w:World} (hb:isBS o=true) (hw:Region.wanted o (yielded ops a.tmps)=true)
  (h1:wpListE P ops Q D (e+1) (o::l1) a w) (h2:wpListE P ops Q D (e+1) (o::l2) a w) :
  o.wp P a w (fun a' w'=>D w'∧wpListE P ops Q D e l1 a' w'∧wpListE P ops Q D e l2 a' w') Q:=by
 rw [wpListE,if_pos hw] at h1 h2
 unfold Oper.wp at *
 have hval:∀ n w',(execOp a.eval o).run P w=.ok n w'→∃ u,n=.value u:=fun n w' hr=>bs_value hb hr
 generalize (execOp a.eval o).run P w=r at *
 cases r with
 | ok n w' =>
  obtain ⟨u,rfl⟩:=hval n w' rfl
  exact ⟨h1.1,h1.2,h2.2⟩
 | halt x w' =>
  cases x<;>exact h1
theorem wpAnyD_three {l:List Oper} {E:Nat→Bool} {Q:Exit→Act→World→Prop} {md:Region.Mode} (b0 ap b1:Nat) (ts:List Nat) (e:Nat) (L:Array Bool) (a:Act) (w:World) (hE:∀ t ∈ ts.drop e,E t=false)
  (o0:Oper) (h0:l[b0]?=some o0) (hb0:isBS o0=true) (hg0:o0.guard=none) (hB:seq3 md l.toArray b0 ap b1 ts L=true)
  (H1:wpListE P l.toArray Q D (e+3) (pickL l (b0::ap::b1::ts)) a w) (H2:wpListE P l.toArray Q D (e+3) (pickL l (b0::b1::ap::ts)) a w) (H3:wpListE P l.toArray Q D (e+3) (pickL l (b1::b0::ap::ts)) a w) :
  wpAnyD P md l.toArray D E Q (ts.length+3) L a w:=by
 simp only [seq3,Bool.and_eq_true,Bool.or_eq_true,decide_eq_true_eq] at hB
 obtain ⟨⟨⟨⟨hr,hr1⟩,hs1⟩,hs2⟩,hs3⟩:=hB
 have hm0:b0 ∈ Region.ready md l.toArray L:=by rcases hr with h | h<;>simp [h]
 have hm1:b1 ∈ Region.ready md l.toArray L:=by rcases hr with h | h<;>simp [h]
 have hma:ap ∈ Region.ready md l.toArray (L.setIfInBounds b0 true):=by rcases hr1 with h | h<;>simp [h]
 have hmb:b1 ∈ Region.ready md l.toArray (L.setIfInBounds b0 true):=by rcases hr1 with h | h<;>simp [h]
 obtain ⟨_,o1,ho1,_⟩:=mem_ready.1 hm1
 obtain ⟨_,oa,hoa,_⟩:=mem_ready.1 hma
 have ho1':l[b1]?=some o1:=by simpa using ho1
 have hoa':l[ap]?=some oa:=by simpa using hoa
 have ho0:l.toArray[b0]?=some o0:=by simpa using h0
 rw [pickL,h0] at H1 H2
 have hP1:pickL l (ap::b1::ts)=oa::pickL l (b1::ts):=by rw [pickL,hoa']
 have hP2:pickL l (b1::ap::ts)=o1::pickL l (ap::ts):=by rw [pickL,ho1']
 have hP3:pickL l (b1::b0::ap::ts)=o1::pickL l (b0::ap::ts):=by rw [pickL,ho1']
 simp only [hP1,hP2] at H1 H2
 rw [hP3] at H3
 have one:∀ (k:Nat) (o:Oper) (rest:List Nat) (m:Nat) (L:Array Bool) (a:Act) (w:World),l.toArray[k]?=some o→(∀ t ∈ rest.drop m,E t=false)→seqH md l.toArray rest (L.setIfInBounds k true)=true →
   wpListE P l.toArray Q D (m+1) (o::pickL l rest) a w→wpOp P l.toArray Q k (fun a' w'=>(E k=true→D w→D w')∧wpAnyD P md l.toArray D E Q rest.length (L.setIfInBounds k true) a' w') a w:=by
  intro k o rest m L a w hk hE' hs h
  have hw:wpOp P l.toArray Q k (fun a' w'=>D w'∧wpListE P l.toArray Q D m (pickL l rest) a' w') a w:=by
   unfold wpOp
   simp only [hk]
   simp only [wpListE] at h
   split
   ·rename_i hwt; rw [if_pos hwt] at h; exact .inl h
   ·rename_i hwt; rw [if_neg hwt] at h; exact h
  exact wpOp_mono (fun a' w' h'=>⟨fun _ _=>h'.1,wpAnyD_seq rest m _ a' w' hE' hs h'.2⟩) hw
 refine ⟨fun h=>(by rw [h] at hm0; cases hm0),fun i hi=>?_⟩
 have hi':i=b0∨i=b1:=by rcases hr with h | h<;>rw [h] at hi<;>simp at hi<;>omega
 by_cases h01:i=b0
 ·subst h01
  have hwt:Region.wanted o0 (yielded l.toArray a.tmps)=true:=by simp [Region.wanted,hg0]
  have hc:=listE_two hb0 hwt H1 H2
  unfold wpOp
  simp only [ho0,hwt,if_true]
  refine .inl ?_
  have mono:∀ {K1 K2:Act→World→Prop},(∀ a' w',K1 a' w'→K2 a' w')→o0.wp P a w K1 Q→o0.wp P a w K2 Q:=by
   intro K1 K2 hk h
   unfold Oper.wp at *
   have hval:∀ n w',(execOp a.eval o0).run P w=.ok n w'→∃ u,n=.value u:=fun n w' hr=>bs_value hb0 hr
   generalize (execOp a.eval o0).run P w=r at *
   cases r with
   | ok n w' =>
    obtain ⟨u,rfl⟩:=hval n w' rfl
    exact hk _ _ h
   | halt x w'=>cases x<;>exact h
  refine mono (fun a' w' ⟨hd,k1,k2⟩=>⟨fun _ _=>hd,fun h=>(by rw [h] at hma; cases hma),fun j hj=>?_⟩) hc
  have hj':j=ap∨j=b1:=by rcases hr1 with h | h<;>rw [h] at hj<;>simp at hj<;>omega
  rcases hj' with rfl | rfl
  ·exact one j oa (b1::ts) (e+1) _ a' w' hoa (by simpa using hE) hs1 k1
  ·exact one j o1 (ap::ts) (e+1) _ a' w' ho1 (by simpa using hE) hs2 k2
 ·obtain rfl:i=b1:=hi'.resolve_left h01
  exact one i o1 (b0::ap::ts) (e+2) _ a w ho1 (by simpa using hE) hs3 H3
def gx3B (l:List Oper) (hs:List Nat) (b0 ap b1:Nat) (ts:List Nat) (e sz:Nat):Bool:=Region.noSelect l.toArray&&headsB .any l (earlyE hs (b0::ap::b1::ts) (e+3)) hs&&(ts.drop e).all (fun t=>!earlyE hs (b0::ap::b1::ts) (e+3) t)&&dstB (pickL l hs) sz&&decide (hs.length+(ts.length+3)=l.length) &&
 lexH3 .any l.toArray b0 ap b1 ts hs (Array.replicate l.length false)&&(match l[b0]? with | some o=>isBS o&&o.guard.isNone | none=>false)
theorem wpAnyD_lex3 {l:List Oper} {E:Nat→Bool} {Q:Exit→Act→World→Prop} {A:Act} {b0 ap b1:Nat} {ts:List Nat} {e sz:Nat} {md:Region.Mode} (hsel:Region.noSelect l.toArray=true) (hQ:∀ c (a:Act) (d:Option Tmp) (v:Value) w,Q (.panic c) (a.put d v) w→Q (.panic c) a w) (hkeep:∀ w w',Below w.heap.size w w'→D w→D w') (hne:∃ W,D W)
  (hE:∀ t ∈ ts.drop e,E t=false) (w:World) (hw:D w) (o0:Oper) (h0:l[b0]?=some o0) (hb0:isBS o0=true) (hg0:o0.guard=none)
  (H1:wpListE P l.toArray Q D (e+3) (pickL l (b0::ap::b1::ts)) A w) (H2:wpListE P l.toArray Q D (e+3) (pickL l (b0::b1::ap::ts)) A w) (H3:wpListE P l.toArray Q D (e+3) (pickL l (b1::b0::ap::ts)) A w) :
  ∀ (hs:List Nat) (L:Array Bool) (a:Act),headsB md l E hs=true→dstB (pickL l hs) sz=true→a.tmps.size=sz→Closed md l.toArray L→lexH3 md l.toArray b0 ap b1 ts hs L=true →
  (∀ W,D W→wpQuiet P l.toArray (fun w'=>w'=W) (fun a'=>a'=A) (pickL l hs) a)→wpAnyD P md l.toArray D E Q (hs.length+(ts.length+3)) L a w
 | [],L,a,_,_,_,_,hB,h=>by
  have:a=A:=h w hw
  subst this
  rw [List.length_nil,Nat.zero_add]
  exact wpAnyD_three b0 ap b1 ts e L a w hE o0 h0 hb0 hg0 hB H1 H2 H3
 | i::hs,L,a,hh,hd,hsz,hcl,hB,h=>by
  simp only [lexH3,Bool.and_eq_true] at hB
  obtain ⟨⟨hr,hf⟩,hB'⟩:=hB
  have hr':i ∈ Region.ready md l.toArray L:=by simpa using hr
  obtain ⟨_,o,ho,_⟩:=mem_ready.1 hr'
  have ho':l[i]?=some o:=by simpa using ho
  have hp:pickL l (i::hs)=o::pickL l hs:=by rw [pickL,ho']
  rw [hp] at hd h
  simp only [headsB,List.all_cons,ho',Bool.and_eq_true] at hh
  obtain ⟨hk1,hh'⟩:=hh
  obtain ⟨v,hy,hrest⟩:=fam_step hne hd hsz h
  have hd':dstB (pickL l hs) sz=true:=by
   rw [dstB,Bool.and_eq_true] at hd
   exact hd.2
  have hrec:=wpAnyD_lex3 (sz:=sz) (e:=e) hsel hQ hkeep hne hE w hw o0 h0 hb0 hg0 H1 H2 H3 hs (L.setIfInBounds i true) (a.put o.dst v) hh' hd' (by rw [put_size]; exact hsz) (hcl.set hr') hB' hrest
  rw [List.length_cons,show hs.length+1+(ts.length+3)=(hs.length+(ts.length+3))+1 by omega]
  rw [Bool.or_eq_true] at hk1
  rcases hk1 with hm | hwt
  ·exact wpAnyD_move ho (Region.noSelect_spec hsel) (fun c a w=>hQ c a _ _ w) _ L a w (Region.free_spec ho hf) hr' (yieldsS_move hm hy hw) hrec
  ·refine wpAnyD_first ho (Region.noSelect_spec hsel) (fun c a w=>hQ c a _ _ w) hkeep (fun j oj hj hji=>?_) _ L a w hcl (Region.free_spec ho hf) hr' hy hw hrec
   have hj':l[j]?=some oj:=by simpa using hj
   have h1:=List.all_eq_true.1 hwt j (List.mem_range.2 (List.getElem?_eq_some_iff.1 hj').1)
   simp only [hj',Bool.or_eq_true,beq_iff_eq] at h1
   rcases h1 with ((h1 | h1) | h1) | h1
   ·exact absurd h1 hji
   ·exact .inl h1
   ·exact .inr (.inl h1)
   ·exact .inr (.inr (by simpa using h1))
/-- **append(append([]T{}, ..), x).** -/
theorem region_three {id:Nat} {l:List Oper} {Q:Exit→Act→World→Prop} {a:Act} {w:World} (hs:List Nat) (b0 ap b1:Nat) (ts:List Nat) (e sz B:Nat) (A:Act) (hQ:∀ c (a:Act) (d:Option Tmp) (v:Value) w,Q (.panic c) (a.put d v) w→Q (.panic c) a w)
  (hb:B≤w.heap.size) (hm:P.follows .mixedOrders=true) (hB:gx3B l hs b0 ap b1 ts e sz=true) (hsz:a.tmps.size=sz)
  (hh:∀ z:Wd B w,wpQuiet P l.toArray (fun w'=>w'=z.w) (fun a'=>a'=A) (pickL l hs) a)
  (H1:wpListE P l.toArray Q (fun w'=>∃ x:Wd B w,w'=x.w) (e+3) (pickL l (b0::ap::b1::ts)) A w.drew)
  (H2:wpListE P l.toArray Q (fun w'=>∃ x:Wd B w,w'=x.w) (e+3) (pickL l (b0::b1::ap::ts)) A w.drew)
  (H3:wpListE P l.toArray Q (fun w'=>∃ x:Wd B w,w'=x.w) (e+3) (pickL l (b1::b0::ap::ts)) A w.drew):(Code.region id l.toArray true).wp P Q a w:=by
 simp only [gx3B,Bool.and_eq_true,decide_eq_true_eq] at hB
 obtain ⟨⟨⟨⟨⟨⟨hsel,hh1⟩,hE⟩,hd⟩,hlen⟩,hlex⟩,hbs⟩:=hB
 cases h0:l[b0]? with
 | none=>rw [h0] at hbs; cases hbs
 | some o0 =>
  rw [h0] at hbs
  simp only [Bool.and_eq_true,Option.isNone_iff_eq_none] at hbs
  refine wp_region_any hm ?_
  have key:=wpAnyD_lex3 (P:=P) (D:=fun w'=>∃ x:Wd B w,w'=x.w) (md:=.any) (Q:=Q) (A:=A) (ts:=ts) (e:=e) (sz:=sz) hsel hQ (fun w1 w2 hk hx=>by
   obtain ⟨x,rfl⟩:=hx
   exact ⟨⟨w2,x.ok.trans (hk.mono (Nat.le_trans hb x.ok.size))⟩,rfl⟩) ⟨_,⟨⟨_,(Below.refl _ _).drew⟩,rfl⟩⟩ (fun t ht=>by simpa using List.all_eq_true.1 hE t ht) w.drew ⟨⟨_,(Below.refl _ _).drew⟩,rfl⟩ o0 h0 hbs.1 hbs.2 H1 H2 H3 hs (Array.replicate l.length false) a hh1 hd hsz
   (fun j oj _ hl=>(by rw [getD_replicate_false] at hl; cases hl)) hlex (fun W hW=>by obtain ⟨x,rfl⟩:=hW; exact hh x)
  have key2:=wpAny_of_D _ _ _ _ key
  rw [hlen] at key2
  have hz:l.toArray.size=l.length:=by simp
  rw [hz]
  exact key2
/-- One of the tail's first operations. -/
theorem listE_wp {ops:Array Oper} {rest:List Oper} {o:Oper} {a:Act} {w:World} {Q:Exit→Act→World→Prop} {e:Nat} (hgd:o.guard=none)
  (h:o.wp P a w (fun a' w'=>D w'∧wpListE P ops Q D e rest a' w') Q):wpListE P ops Q D (e+1) (o::rest) a w:=by
 rw [wpListE,if_pos (by simp [Region.wanted,hgd])]
 exact h
theorem fold_set:∀ (l:List Value) (k:Nat) (c0:Array Value),k+l.length≤c0.size→((l.zipIdx k).foldl (fun cs p=>cs.setIfInBounds (0+p.2) p.1) c0).size=c0.size ∧
  ∀ j,((l.zipIdx k).foldl (fun cs p=>cs.setIfInBounds (0+p.2) p.1) c0)[j]?=if k≤j∧j < k+l.length then l[j - k]? else c0[j]?
 | [],k,c0,_=>⟨rfl,fun j=>by simp; intro h1 h2; omega⟩
 | x::l,k,c0,h=>by
  simp only [List.zipIdx_cons,List.foldl_cons,Nat.zero_add]
  simp only [List.length_cons] at h
  obtain ⟨h1,h2⟩:=fold_set l (k+1) (c0.setIfInBounds k x) (by simp; omega)
  simp only [Nat.zero_add] at h1 h2
  refine ⟨by rw [h1]; simp,fun j=>?_⟩
  rw [h2]
  by_cases hj:k+1≤j∧j < k+1+l.length
  ·rw [if_pos hj,if_pos ⟨by omega,by simp; omega⟩]
   rw [show j - k=(j - (k+1))+1 by omega,List.getElem?_cons_succ]
  ·rw [if_neg hj]
   by_cases hk:j=k
   ·subst hk
    rw [if_pos ⟨Nat.le_refl _,by simp⟩,Nat.sub_self]
    rw [Array.getElem?_setIfInBounds_self_of_lt (by omega)]
    rfl
   ·rw [if_neg (by simp; omega),Array.getElem?_setIfInBounds_ne (by omega)]
/-- A slice of nothing, a slice of one. -/
theorem run_bs0 {w:World} {t e:TypeId} {size bytes:Nat} (E:Elt P t e size bytes):(Instr.buildSlice t 0 #[]).run P w=.ok (.slice (some ⟨w.heap.size,0,none⟩) 0 0) (w.alloc (.cells #[] e)):=by
 obtain ⟨i,z,hi,hz,hsz,_,hzs⟩:=E.hi
 simp [Instr.buildSlice,run_underlying E.ht,sizeOf,typeInfo,hi,Instr.fill,newRow]
 congr 2
 exact Array.eq_empty_of_size_eq_zero (by simp)
theorem run_bs1 {w:World} {t e:TypeId} {size bytes:Nat} (E:Elt P t e size bytes) (hlt:size≤1000) (v:Value) (cs:Array Value) (hv:v.cells=cs) (hc:cs.size=size) :
  (Instr.buildSlice t 1 #[(0,v)]).run P w=.ok (.slice (some ⟨w.heap.size,0,none⟩) 1 1) (w.alloc (.cells cs e)):=by
 obtain ⟨i,z,hi,hz,hsz,_,hzs⟩:=E.hi
 have h0:=E.hsz
 subst hv
 have hf:Instr.fill (fun i=>some (i*size,size)) ((Array.range (1*size)).map (z.cells[· % z.cells.size]!)) [(0,v)]=some v.cells:=by
  simp only [Instr.fill]
  rw [if_neg (by simp [hc])]
  congr 1
  generalize hc0:(Array.range (1*size)).map (z.cells[· % z.cells.size]!)=c0
  have hs0:c0.size=size:=by rw [← hc0]; simp
  have e1:v.cells.zipIdx.foldl (fun cs x=>match x with | (c,j)=>cs.setIfInBounds (0*size+j) c) c0=(v.cells.toList.zipIdx 0).foldl (fun cs p=>cs.setIfInBounds (0+p.2) p.1) c0:=by
   rw [← Array.foldl_toList,Array.toList_zipIdx,Nat.zero_mul]
  rw [e1]
  obtain ⟨g1,g2⟩:=fold_set v.cells.toList 0 c0 (by simp [hc,hs0])
  refine Array.ext_getElem? fun j=>?_
  rw [g2]
  by_cases hj:j < v.cells.size
  ·rw [if_pos ⟨Nat.zero_le _,by simpa using hj⟩]
   simp
  ·rw [if_neg (by simp; omega),Array.getElem?_eq_none (by omega),Array.getElem?_eq_none (by omega)]
 have hm:¬ 16777216 < size:=by omega
 have hz1:¬ size=0:=by omega
 rw [Nat.one_mul] at hf
 simp [Instr.buildSlice,run_underlying E.ht,sizeOf,typeInfo,zeroValue,hi,hz,hsz,hm,hz1,newRow,hf]
end
end Go.Proofs.YtjbggogbnckllaaDoor
