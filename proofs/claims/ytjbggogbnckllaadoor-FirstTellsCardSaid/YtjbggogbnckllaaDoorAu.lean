/-
  A region with two calls, one behind the other, while something else is made: the three orders, whatever the calls give.
  A region that draws its order: a head that only reads or gives one value in each world of a class; then one call, whatever it gives; then operations that each yield one value.
  A region that draws its order: a reading head, a chain of operations whatever they give, and operations behind it that each yield one value.
-/
import Derived.Test.YtjbggogbnckllaaDoorIx
import Derived.Test.YtjbggogbnckllaaDoorAa
section
set_option maxRecDepth 100000
namespace Go.Proofs.YtjbggogbnckllaaDoor
open Go Go.RowKit
section
variable {P:Program} {D:World→Prop}
theorem wpAnyD_threeC {l:List Oper} {E:Nat→Bool} {Q:Exit→Act→World→Prop} {md:Region.Mode} (b0 ap b1:Nat) (ts:List Nat) (e:Nat) (L:Array Bool) (a:Act) (w:World) (hE:∀ t ∈ ts.drop e,E t=false)
  (o0:Oper) (h0:l[b0]?=some o0) (hg0:o0.guard=none) (hB:seq3 md l.toArray b0 ap b1 ts L=true)
  (H12:o0.wp P a w (fun a' w'=>D w'∧wpListE P l.toArray Q D (e+2) (pickL l (ap::b1::ts)) a' w'∧wpListE P l.toArray Q D (e+2) (pickL l (b1::ap::ts)) a' w') Q) (H3:wpListE P l.toArray Q D (e+3) (pickL l (b1::b0::ap::ts)) a w) :
  wpAnyD P md l.toArray D E Q (ts.length+3) L a w:=by
 simp only [seq3,Bool.and_eq_true,Bool.or_eq_true,decide_eq_true_eq] at hB
 obtain ⟨⟨⟨⟨hr,hr1⟩,hs1⟩,hs2⟩,hs3⟩:=hB
 have hm0:b0 ∈ Region.ready md l.toArray L:=by rcases hr with h | h<;>simp [h]
 have hm1:b1 ∈ Region.ready md l.toArray L:=by rcases hr with h | h<;>simp [h]
 have hma:ap ∈ Region.ready md l.toArray (L.setIfInBounds b0 true):=by rcases hr1 with h | h<;>simp [h]
 have hmb:b1 ∈ Region.ready md l.toArray (L.setIfInBounds b0 true):=by rcases hr1 with h | h<;>simp [h]
 obtain ⟨_,o1,ho1,_⟩:=mem_ready.1 hm1
 obtain ⟨_,oa,hoa,_⟩:=mem_ready.1 hma
 have ho1':l[b1]?=some o1:=by simpa using ho1
 have hoa':l[ap]?=some oa:=by simpa using hoa
 have ho0:l.toArray[b0]?=some o0:=by simpa using h0
 have hP1:pickL l (ap::b1::ts)=oa::pickL l (b1::ts):=by rw [pickL,hoa']
 have hP2:pickL l (b1::ap::ts)=o1::pickL l (ap::ts):=by rw [pickL,ho1']
 have hP3:pickL l (b1::b0::ap::ts)=o1::pickL l (b0::ap::ts):=by rw [pickL,ho1']
 rw [hP1,hP2] at H12
 rw [hP3] at H3
 have one:∀ (k:Nat) (o:Oper) (rest:List Nat) (m:Nat) (L:Array Bool) (a:Act) (w:World),l.toArray[k]?=some o→(∀ t ∈ rest.drop m,E t=false)→seqH md l.toArray rest (L.setIfInBounds k true)=true →
   wpListE P l.toArray Q D (m+1) (o::pickL l rest) a w→wpOp P l.toArray Q k (fun a' w'=>(E k=true→D w→D w')∧wpAnyD P md l.toArray D E Q rest.length (L.setIfInBounds k true) a' w') a w:=by
  intro k o rest m L a w hk hE' hs h
  have hw:wpOp P l.toArray Q k (fun a' w'=>D w'∧wpListE P l.toArray Q D m (pickL l rest) a' w') a w:=by
   unfold wpOp
   simp only [hk]
   simp only [wpListE] at h
   split
   ·rename_i hwt; rw [if_pos hwt] at h; exact .inl h
   ·rename_i hwt; rw [if_neg hwt] at h; exact h
  exact wpOp_mono (fun a' w' h'=>⟨fun _ _=>h'.1,wpAnyD_seq rest m _ a' w' hE' hs h'.2⟩) hw
 refine ⟨fun h=>(by rw [h] at hm0; cases hm0),fun i hi=>?_⟩
 have hi':i=b0∨i=b1:=by rcases hr with h | h<;>rw [h] at hi<;>simp at hi<;>omega
 by_cases h01:i=b0
 ·subst h01
  have hwt:Region.wanted o0 (yielded l.toArray a.tmps)=true:=by simp [Region.wanted,hg0]
  have hw:wpOp P l.toArray Q i (fun a' w'=>D w'∧wpListE P l.toArray Q D (e+2) (oa::pickL l (b1::ts)) a' w'∧wpListE P l.toArray Q D (e+2) (o1::pickL l (ap::ts)) a' w') a w:=by
   unfold wpOp
   simp only [ho0,hwt,if_true]
   exact .inl H12
  refine wpOp_mono (fun a' w' ⟨hd,k1,k2⟩=>⟨fun _ _=>hd,fun h=>(by rw [h] at hma; cases hma),fun j hj=>?_⟩) hw
  have hj':j=ap∨j=b1:=by rcases hr1 with h | h<;>rw [h] at hj<;>simp at hj<;>omega
  rcases hj' with rfl | rfl
  ·exact one j oa (b1::ts) (e+1) _ a' w' hoa (by simpa using hE) hs1 k1
  ·exact one j o1 (ap::ts) (e+1) _ a' w' ho1 (by simpa using hE) hs2 k2
 ·obtain rfl:i=b1:=hi'.resolve_left h01
  exact one i o1 (b0::ap::ts) (e+2) _ a w ho1 (by simpa using hE) hs3 H3
theorem wpAnyD_lex3C {l:List Oper} {E:Nat→Bool} {Q:Exit→Act→World→Prop} {A:Act} {b0 ap b1:Nat} {ts:List Nat} {e sz:Nat} {md:Region.Mode} (hsel:Region.noSelect l.toArray=true) (hQ:∀ c (a:Act) (d:Option Tmp) (v:Value) w,Q (.panic c) (a.put d v) w→Q (.panic c) a w) (hkeep:∀ w w',Below w.heap.size w w'→D w→D w') (hne:∃ W,D W)
  (hE:∀ t ∈ ts.drop e,E t=false) (w:World) (hw:D w) (o0:Oper) (h0:l[b0]?=some o0) (hg0:o0.guard=none)
  (H12:o0.wp P A w (fun a' w'=>D w'∧wpListE P l.toArray Q D (e+2) (pickL l (ap::b1::ts)) a' w'∧wpListE P l.toArray Q D (e+2) (pickL l (b1::ap::ts)) a' w') Q) (H3:wpListE P l.toArray Q D (e+3) (pickL l (b1::b0::ap::ts)) A w) :
  ∀ (hs:List Nat) (L:Array Bool) (a:Act),headsB md l E hs=true→dstB (pickL l hs) sz=true→a.tmps.size=sz→Closed md l.toArray L→lexH3 md l.toArray b0 ap b1 ts hs L=true →
  (∀ W,D W→wpQuiet P l.toArray (fun w'=>w'=W) (fun a'=>a'=A) (pickL l hs) a)→wpAnyD P md l.toArray D E Q (hs.length+(ts.length+3)) L a w
 | [],L,a,_,_,_,_,hB,h=>by
  have:a=A:=h w hw
  subst this
  rw [List.length_nil,Nat.zero_add]
  exact wpAnyD_threeC b0 ap b1 ts e L a w hE o0 h0 hg0 hB H12 H3
 | i::hs,L,a,hh,hd,hsz,hcl,hB,h=>by
  simp only [lexH3,Bool.and_eq_true] at hB
  obtain ⟨⟨hr,hf⟩,hB'⟩:=hB
  have hr':i ∈ Region.ready md l.toArray L:=by simpa using hr
  obtain ⟨_,o,ho,_⟩:=mem_ready.1 hr'
  have ho':l[i]?=some o:=by simpa using ho
  have hp:pickL l (i::hs)=o::pickL l hs:=by rw [pickL,ho']
  rw [hp] at hd h
  simp only [headsB,List.all_cons,ho',Bool.and_eq_true] at hh
  obtain ⟨hk1,hh'⟩:=hh
  obtain ⟨v,hy,hrest⟩:=fam_step hne hd hsz h
  have hd':dstB (pickL l hs) sz=true:=by
   rw [dstB,Bool.and_eq_true] at hd
   exact hd.2
  have hrec:=wpAnyD_lex3C (sz:=sz) (e:=e) hsel hQ hkeep hne hE w hw o0 h0 hg0 H12 H3 hs (L.setIfInBounds i true) (a.put o.dst v) hh' hd' (by rw [put_size]; exact hsz) (hcl.set hr') hB' hrest
  rw [List.length_cons,show hs.length+1+(ts.length+3)=(hs.length+(ts.length+3))+1 by omega]
  rw [Bool.or_eq_true] at hk1
  rcases hk1 with hm | hwt
  ·exact wpAnyD_move ho (Region.noSelect_spec hsel) (fun c a w=>hQ c a _ _ w) _ L a w (Region.free_spec ho hf) hr' (yieldsS_move hm hy hw) hrec
  ·refine wpAnyD_first ho (Region.noSelect_spec hsel) (fun c a w=>hQ c a _ _ w) hkeep (fun j oj hj hji=>?_) _ L a w hcl (Region.free_spec ho hf) hr' hy hw hrec
   have hj':l[j]?=some oj:=by simpa using hj
   have h1:=List.all_eq_true.1 hwt j (List.mem_range.2 (List.getElem?_eq_some_iff.1 hj').1)
   simp only [hj',Bool.or_eq_true,beq_iff_eq] at h1
   rcases h1 with ((h1 | h1) | h1) | h1
   ·exact absurd h1 hji
   ·exact .inl h1
   ·exact .inr (.inl h1)
   ·exact .inr (.inr (by simpa using h1))
def gx3C (l:List Oper) (hs:List Nat) (b0 ap b1:Nat) (ts:List Nat) (e sz:Nat):Bool:=Region.noSelect l.toArray&&headsB .any l (earlyE hs (b0::ap::b1::ts) (e+3)) hs&&(ts.drop e).all (fun t=>!earlyE hs (b0::ap::b1::ts) (e+3) t)&&dstB (pickL l hs) sz&&decide (hs.length+(ts.length+3)=l.length) &&
 lexH3 .any l.toArray b0 ap b1 ts hs (Array.replicate l.length false)
theorem region_threeC {id:Nat} {l:List Oper} {Q:Exit→Act→World→Prop} {a:Act} {w:World} (hs:List Nat) (b0 ap b1:Nat) (ts:List Nat) (e sz B:Nat) (A:Act) (hQ:∀ c (a:Act) (d:Option Tmp) (v:Value) w,Q (.panic c) (a.put d v) w→Q (.panic c) a w)
  (hb:B≤w.heap.size) (hm:P.follows .mixedOrders=true) (hB:gx3C l hs b0 ap b1 ts e sz=true) (hsz:a.tmps.size=sz)
  (hh:∀ z:Wd B w,wpQuiet P l.toArray (fun w'=>w'=z.w) (fun a'=>a'=A) (pickL l hs) a) (o0:Oper) (h0:l[b0]?=some o0) (hg0:o0.guard=none)
  (H12:o0.wp P A w.drew (fun a' w'=>(∃ x:Wd B w,w'=x.w)∧wpListE P l.toArray Q (fun w'=>∃ x:Wd B w,w'=x.w) (e+2) (pickL l (ap::b1::ts)) a' w'∧wpListE P l.toArray Q (fun w'=>∃ x:Wd B w,w'=x.w) (e+2) (pickL l (b1::ap::ts)) a' w') Q)
  (H3:wpListE P l.toArray Q (fun w'=>∃ x:Wd B w,w'=x.w) (e+3) (pickL l (b1::b0::ap::ts)) A w.drew):(Code.region id l.toArray true).wp P Q a w:=by
 simp only [gx3C,Bool.and_eq_true,decide_eq_true_eq] at hB
 obtain ⟨⟨⟨⟨⟨hsel,hh1⟩,hE⟩,hd⟩,hlen⟩,hlex⟩:=hB
 refine wp_region_any hm ?_
 have key:=wpAnyD_lex3C (P:=P) (D:=fun w'=>∃ x:Wd B w,w'=x.w) (md:=.any) (Q:=Q) (A:=A) (ts:=ts) (e:=e) (sz:=sz) hsel hQ (fun w1 w2 hk hx=>by
  obtain ⟨x,rfl⟩:=hx
  exact ⟨⟨w2,x.ok.trans (hk.mono (Nat.le_trans hb x.ok.size))⟩,rfl⟩) ⟨_,⟨⟨_,(Below.refl _ _).drew⟩,rfl⟩⟩ (fun t ht=>by simpa using List.all_eq_true.1 hE t ht) w.drew ⟨⟨_,(Below.refl _ _).drew⟩,rfl⟩ o0 h0 hg0 H12 H3 hs (Array.replicate l.length false) a hh1 hd hsz
  (fun j oj _ hl=>(by rw [getD_replicate_false] at hl; cases hl)) hlex (fun W hW=>by obtain ⟨x,rfl⟩:=hW; exact hh x)
 have key2:=wpAny_of_D _ _ _ _ key
 rw [hlen] at key2
 have hz:l.toArray.size=l.length:=by simp
 rw [hz]
 exact key2
/-- A call whose results are many, as an operation. -/
theorem op_callE1 {w:World} {o:Oper} {a:Act} {K:Act→World→Prop} {Q:Exit→Act→World→Prop} (f:FuncId) (hcf:∀ args w,Sem.run P (callFunc f args) w=.ok (.enter f args) w) (x:Operand) (tys:Array TypeId)
  (ho:o.op=.call { callee:=.value (.func f),args:=#[x],argTypes:=tys }) (vx:Value) (hx:a.eval x=vx) (Ψ:Value→World→Prop)
  (hc:Calls P f #[vx] w fun e w'=>∃ v,e=.returned v∧Ψ v w') (h:∀ v w',Ψ v w'→K (a.put o.dst v) w'):o.wp P a w K Q:=by
 subst hx
 unfold Oper.wp
 have hr:(execOp a.eval o).run P w=.ok (.enter f #[a.eval x]) w:=by
  unfold execOp
  simp [ho,resolve,invoke,Act.eval,Deferred.ofValue,hcf]
 rw [hr]
 exact hc.mono fun e w' ⟨v,he,hw⟩=>by subst he; exact h _ _ hw
end
end Go.Proofs.YtjbggogbnckllaaDoor
end
section
set_option maxRecDepth 100000
namespace Go.Proofs.YtjbggogbnckllaaDoor
open Go Go.RowKit
section
variable {P:Program} {l:List Oper} {n:Nat} {C:World→Prop}
/-- Each operation behind the n-th waits for one that is not ahead of the n-th. -/
def behB (ops:Array Oper) (n:Nat):Bool:=(List.range ops.size).all fun t=>decide (t≤n)||(List.range t).any fun j=>decide (n≤j)&&Region.waitsFor .any ops t j
theorem mid_waits {L:Array Bool} (hs:Region.sinkB .any l.toArray n=true) (hc:behB l.toArray n=true) (hn:n < l.toArray.size) (inv:HeadInv .any l.toArray n L) (i:Nat) (hi:i < n) (hun:L.getD i true=false):∀ t,n≤t→t ∉ Region.ready .any l.toArray L:=by
 have key:∀ (d i:Nat),n - i=d→i < n→L.getD i true=false→n ∉ Region.ready .any l.toArray L:=by
  intro d
  induction d using Nat.strongRecOn with
  | _ d ih =>
   intro i hd hi hun hr
   obtain ⟨_,ot,hot,hall⟩:=mem_ready.1 hr
   have h1:=List.all_eq_true.1 hs i (List.mem_range.2 hi)
   obtain ⟨j,hj,hj2⟩:=List.any_eq_true.1 h1
   simp only [Bool.and_eq_true,decide_eq_true_eq] at hj2
   obtain ⟨oj,hoj,e,he,hb,hon⟩:=Region.waitsFor_spec hj2.2
   have hjle:j≤n:=by have:=List.mem_range.1 hj; omega
   by_cases hjt:j=n
   ·subst hjt
    have:oj=ot:=Option.some.inj (hoj.symm.trans hot)
    subst this
    have h2:=hall e he hb
    rw [hon,getD_both hun] at h2
    cases h2
   ·cases hl:L.getD j false with
    | true =>
     have h2:=inv.closed j oj hoj hl e he hb
     rw [hon,getD_both hun] at h2
     cases h2
    | false =>
     have hjs:j < L.size:=by rw [inv.size]; omega
     exact ih (n - j) (by omega) j rfl (by omega) (getD_in hjs hl) hr
 intro t ht hr
 by_cases htn:t=n
 ·subst htn; exact key _ i rfl hi hun hr
 ·obtain ⟨_,ot,hot,hall⟩:=mem_ready.1 hr
  have htlt:t < l.toArray.size:=(Array.getElem?_eq_some_iff.1 hot).1
  have h1:=List.all_eq_true.1 hc t (List.mem_range.2 htlt)
  simp only [Bool.or_eq_true,decide_eq_true_eq] at h1
  rcases h1 with h1 | h1
  ·omega
  ·obtain ⟨j,hj,hj2⟩:=List.any_eq_true.1 h1
   simp only [Bool.and_eq_true,decide_eq_true_eq] at hj2
   have hjt:=List.mem_range.1 hj
   obtain ⟨o',ho',e,he,hb,hon⟩:=Region.waitsFor_spec hj2.2
   have:o'=ot:=Option.some.inj (ho'.symm.trans hot)
   subst this
   have h2:=hall e he hb
   rw [hon,getD_both (inv.tail j hj2.1 (by omega))] at h2
   cases h2
theorem wpAny_of_headT {Q:Act→Prop} {Q':Exit→Act→World→Prop} {g:Nat} (hn:n < l.length) (htw:∀ L,HeadInv .any l.toArray n L→∀ i,i < n→L.getD i true=false→∀ t,n≤t→t ∉ Region.ready .any l.toArray L) (hg:guardsIn n (l.take n)=true) (hb:backB n l=true)
  (hQ:∀ a w,Q a→C w→wpAny P .any l.toArray Q' g (Array.replicate n true++Array.replicate (l.length - n) false) a w) :
  ∀ (f:Nat) (rem:List Nat) (hl L:Array Bool) (a:Act) (w:World),rem.Nodup→rem.length=f→(∀ i,i ∈ rem↔i < n∧L.getD i true=false)→HeadInv .any l.toArray n L→(∀ i,i < n→hl[i]?=L[i]?)→C w →
   wpAnyQ P .any (l.take n).toArray C Q f hl a→wpAny P .any l.toArray Q' (f+g) L a w:=by
 intro f
 induction f with
 | zero =>
  intro rem hl L a w hnd hlen hrem inv hh hw h
  have hrem0:rem=[]:=List.eq_nil_of_length_eq_zero hlen
  subst hrem0
  have hL:L=Array.replicate n true++Array.replicate (l.length - n) false:=by
   have hsz:L.size=l.length:=by simpa using inv.size
   apply Array.ext
   ·simp [hsz]; omega
   ·intro i h1 h2
    rcases Nat.lt_or_ge i n with h3 | h3
    ·have h4:¬ L.getD i true=false:=fun h5=>by
      have:=(hrem i).2 ⟨h3,h5⟩
      cases this
     have h6:L.getD i true=L[i]:=by simp [h1]
     rw [h6] at h4
     rw [Array.getElem_append_left (by simpa using h3)]
     simpa using h4
    ·have h5:=inv.tail i h3 (by simp; omega)
     have h6:L.getD i true=L[i]:=by simp [h1]
     rw [h6] at h5
     rw [h5,Array.getElem_append_right (by simpa using h3)]
     simp
  subst hL
  rw [Nat.zero_add]
  exact hQ a w h.2 hw
 | succ f ih =>
  intro rem hl L a w hnd hlen hrem inv hh hw h
  obtain ⟨i0,hi0⟩:∃ i0,i0 ∈ rem:=by
   cases rem with
   | nil=>simp at hlen
   | cons x r=>exact ⟨x,by simp⟩
  obtain ⟨hi0n,hi0u⟩:=(hrem i0).1 hi0
  have hne:=ready_some hb hn inv.size i0 hi0n hi0u
  rw [show f+1+g=(f+g)+1 by omega]
  refine ⟨fun h0=>absurd h0 hne,fun i hi=>?_⟩
  have hin:i < n:=by
   rcases Nat.lt_or_ge i n with h1 | h1
   ·exact h1
   ·exact absurd hi (htw L inv i0 hi0n hi0u i h1)
  obtain ⟨hu,o,ho,hall⟩:=mem_ready.1 hi
  have hu':hl.getD i true=false:=by
   have:=hh i hin
   simp only [Array.getD_eq_getD_getElem?] at hu ⊢
   rw [this]; exact hu
  have hmem:i ∈ Region.ready .any (l.take n).toArray hl:=by
   refine mem_ready.2 ⟨hu',o,by rw [head_get hin]; exact ho,fun e he hbd=>?_⟩
   have h1:=hall e he hbd
   have hen:e.on < n:=by
    rcases Nat.lt_or_ge e.on n with h2 | h2
    ·exact h2
    ·exfalso
     rcases Nat.lt_or_ge e.on l.toArray.size with h3 | h3
     ·rw [getD_both (inv.tail e.on h2 h3)] at h1
      cases h1
     ·have:L.size≤e.on:=by rw [inv.size]; exact h3
      simp [Array.getElem?_eq_none this] at h1
   have:=hh e.on hen
   simp only [Array.getD_eq_getD_getElem?] at h1 ⊢
   rw [this]; exact h1
  have h2:=h.2 i hmem
  refine wpOp_head hg hin (wpOp_of_qOp hw (fun a' w' hw' hk=>?_) h2)
  refine ih (rem.erase i) (hl.setIfInBounds i true) (L.setIfInBounds i true) a' w' (hnd.erase i) ?_ ?_ (inv.set hi hin) ?_ hw' hk
  ·have:=List.length_erase_of_mem ((hrem i).2 ⟨hin,hu⟩)
   omega
  ·intro j
   rw [hnd.mem_erase_iff]
   by_cases hij:i=j
   ·subst hij
    have hsz:i < L.size:=by rw [inv.size]; simp; omega
    simp [hsz]
   ·rw [getD_set_ne true hij,hrem j]
    constructor
    ·rintro ⟨_,h⟩; exact h
    ·intro h; exact ⟨fun h=>hij h.symm,h⟩
  ·intro j hj
   by_cases hij:i=j
   ·subst hij
    have hsz:i < L.size:=by rw [inv.size]; simp; omega
    have hsz2:i < hl.size:=by
     have:=hh i hin
     rcases Nat.lt_or_ge i hl.size with h3 | h3
     ·exact h3
     ·rw [Array.getElem?_eq_none h3] at this
      have h4:L[i]?=some L[i]:=by simp
      rw [h4] at this
      cases this
    simp [hsz,hsz2]
   ·rw [Array.getElem?_setIfInBounds_ne hij,Array.getElem?_setIfInBounds_ne hij]
    exact hh j hj
def midL (l:List Oper) (n:Nat):Array Bool:=Array.replicate n true++Array.replicate (l.length - n) false
def midB (l:List Oper) (n:Nat):Bool :=
 decide (n < l.length)&&Region.noSelect l.toArray&&Region.sinkB .any l.toArray n&&behB l.toArray n&&Region.lexB .any (l.take n).toArray&&guardsIn n (l.take n)&&backB n l &&
 decide (Region.ready .any l.toArray (midL l n)=[n])&&Region.lexFrom .any l.toArray (l.length - (n+1)) (n+1) ((midL l n).setIfInBounds n true)
/-- **A region: a head that reads, a call, a quiet rest.** -/
theorem region_mid {id:Nat} {Q:Exit→Act→World→Prop} {a:Act} {w:World} (n B:Nat) (hm:P.follows .mixedOrders=true) (hB:midB l n=true) (o:Oper) (ho:l[n]?=some o) (hgd:o.guard=none)
  (h:wpQuiet P (l.take n).toArray (fun w'=>∃ x:Wd B w,w'=x.w) (fun a'=>∀ x:Wd B w,o.wp P a' x.w (fun a1 w1=>wpQuiet P l.toArray (fun w'=>w'=w1) (fun a2=>Q .normal a2 w1) (l.drop (n+1)) a1) Q) (l.take n) a):(Code.region id l.toArray true).wp P Q a w:=by
 simp only [midB,Bool.and_eq_true,decide_eq_true_eq] at hB
 obtain ⟨⟨⟨⟨⟨⟨⟨⟨hn,hsel⟩,hs⟩,hc⟩,hlx⟩,hg⟩,hb⟩,hrd⟩,hlex⟩:=hB
 simp only [Region.lexB,Bool.and_eq_true] at hlx
 have htl:(l.take n).length=n:=by simp; omega
 have hq:=wpAnyQ_lex (C:=fun w'=>∃ x:Wd B w,w'=x.w) (md:=.any) hlx.1 (l.take n) 0 (Array.replicate (l.take n).toArray.size false) a (by simp) (by simpa using hlx.2) h
 rw [htl] at hq
 refine wp_region_any hm ?_
 have hsize:l.toArray.size=n+((l.length - (n+1))+1):=by simp; omega
 have inv0:HeadInv .any l.toArray n (Array.replicate l.toArray.size false) :=
  ⟨by simp,fun j oj _ hl=>(by rw [getD_replicate_false] at hl; cases hl),fun t _ ht=>getD_in (by simpa using ht) (getD_replicate_false _ _)⟩
 have:=wpAny_of_headT (Q':=Q) (C:=fun w'=>∃ x:Wd B w,w'=x.w) (g:=(l.length - (n+1))+1) hn (fun L inv i hi hun=>mid_waits hs hc (by simpa using hn) inv i hi hun) hg hb (fun a' w' hk hw'=>by
  obtain ⟨x,rfl⟩:=hw'
  have hx:=hk x
  refine ⟨fun h0=>(by have h1:=hrd; unfold midL at h1; rw [h1] at h0; cases h0),fun i hi=>?_⟩
  have h1:=hrd
  unfold midL at h1
  rw [h1] at hi
  obtain rfl:i=n:=by simpa using hi
  unfold wpOp
  have hoo:l.toArray[i]?=some o:=by simpa using ho
  have hwt:Region.wanted o (yielded l.toArray a'.tmps)=true:=by simp [Region.wanted,hgd]
  simp only [hoo,hwt,if_true]
  refine .inl (Oper.wp_mono (fun a1 w1 hk1=>?_) hx)
  have hq2:=wpAnyQ_lex (C:=fun w'=>w'=w1) (md:=.any) hsel (l.drop (i+1)) (i+1) ((midL l i).setIfInBounds i true) a1 (fun j=>by simp [List.getElem?_drop]) (by rw [List.length_drop]; exact hlex) hk1
  rw [List.length_drop] at hq2
  exact wpAny_of_quiet (C:=fun w'=>w'=w1) (Q:=fun a2=>Q .normal a2 w1) (Q':=Q) (fun a2 w2 (e:w2=w1) hk2=>by subst e; exact hk2) _ _ a1 w1 rfl hq2) n (List.range n) _ (Array.replicate l.toArray.size false) a _ List.nodup_range List.length_range (fun i=>by
   rw [List.mem_range]
   constructor
   ·intro hi
    exact ⟨hi,getD_in (by simp; omega) (getD_replicate_false _ _)⟩
   ·exact fun hi=>hi.1) inv0 (fun i hi=>by
    have h1:i < (l.take n).toArray.size:=by simp; omega
    have h2:i < l.toArray.size:=by simp; omega
    rw [Array.getElem?_replicate,Array.getElem?_replicate,if_pos h1,if_pos h2]) ⟨⟨_,(Below.refl _ _).drew⟩,rfl⟩ hq
 rw [← hsize] at this
 exact this
/-- A call as an operation, whatever it gives. -/
theorem op_callE {w:World} {o:Oper} {a:Act} {K:Act→World→Prop} {Q:Exit→Act→World→Prop} (f:FuncId) (hcf:∀ args w,Sem.run P (callFunc f args) w=.ok (.enter f args) w) (xs:Array Operand) (tys:Array TypeId)
  (ho:o.op=.call { callee:=.value (.func f),args:=xs,argTypes:=tys }) (args:Array Value) (hargs:xs.map a.eval=args) (Ψ:Value→World→Prop)
  (hc:Calls P f args w fun e w'=>∃ v,e=.returned v∧Ψ v w') (h:∀ v w',Ψ v w'→K (a.put o.dst v) w'):o.wp P a w K Q:=by
 subst hargs
 unfold Oper.wp
 have hr:(execOp a.eval o).run P w=.ok (.enter f (xs.map a.eval)) w:=by
  unfold execOp
  simp [ho,resolve,invoke,Act.eval,Deferred.ofValue,hcf]
 rw [hr]
 exact hc.mono fun e w' ⟨v,he,hw⟩=>by subst he; exact h _ _ hw
theorem op_callE2 {w:World} {o:Oper} {a:Act} {K:Act→World→Prop} {Q:Exit→Act→World→Prop} (f:FuncId) (hcf:∀ args w,Sem.run P (callFunc f args) w=.ok (.enter f args) w) (x y:Operand) (tys:Array TypeId)
  (ho:o.op=.call { callee:=.value (.func f),args:=#[x,y],argTypes:=tys }) (vx vy:Value) (hx:a.eval x=vx) (hy:a.eval y=vy) (Ψ:Value→World→Prop)
  (hc:Calls P f #[vx,vy] w fun e w'=>∃ v,e=.returned v∧Ψ v w') (h:∀ v w',Ψ v w'→K (a.put o.dst v) w'):o.wp P a w K Q :=
 op_callE f hcf #[x,y] tys ho #[vx,vy] (by simp [hx,hy]) Ψ hc h
theorem op_callE3 {w:World} {o:Oper} {a:Act} {K:Act→World→Prop} {Q:Exit→Act→World→Prop} (f:FuncId) (hcf:∀ args w,Sem.run P (callFunc f args) w=.ok (.enter f args) w) (x y z:Operand) (tys:Array TypeId)
  (ho:o.op=.call { callee:=.value (.func f),args:=#[x,y,z],argTypes:=tys }) (vx vy vz:Value) (hx:a.eval x=vx) (hy:a.eval y=vy) (hz:a.eval z=vz) (Ψ:Value→World→Prop)
  (hc:Calls P f #[vx,vy,vz] w fun e w'=>∃ v,e=.returned v∧Ψ v w') (h:∀ v w',Ψ v w'→K (a.put o.dst v) w'):o.wp P a w K Q :=
 op_callE f hcf #[x,y,z] tys ho #[vx,vy,vz] (by simp [hx,hy,hz]) Ψ hc h
end
end Go.Proofs.YtjbggogbnckllaaDoor
end
section
set_option maxRecDepth 100000
namespace Go.Proofs.YtjbggogbnckllaaDoor
open Go Go.RowKit
section
variable {P:Program} {md:Region.Mode} {D:World→Prop}
/-- The chain: the first e operations keep the class; what holds behind it is R. -/
def wpListM (P:Program) (ops:Array Oper) (Q:Exit→Act→World→Prop) (D:World→Prop) (R:Act→World→Prop):Nat→List Oper→Act→World→Prop
 | _,[],a,w=>R a w
 | 0,o::l,a,w=>if Region.wanted o (yielded ops a.tmps)=true then o.wp P a w (fun a' w'=>wpListM P ops Q D R 0 l a' w') Q else wpListM P ops Q D R 0 l (a.put o.dst undef) w
 | e+1,o::l,a,w=>if Region.wanted o (yielded ops a.tmps)=true then o.wp P a w (fun a' w'=>D w'∧wpListM P ops Q D R e l a' w') Q else D w∧wpListM P ops Q D R e l (a.put o.dst undef) w
def seqM (md:Region.Mode) (ops:Array Oper) (r:Nat):List Nat→Array Bool→Bool
 | [],L=>Region.lexFrom md ops r (ops.size - r) L
 | k::ts,L=>decide (Region.ready md ops L=[k])&&seqM md ops r ts (L.setIfInBounds k true)
def lexM (md:Region.Mode) (ops:Array Oper) (r:Nat) (ts:List Nat):List Nat→Array Bool→Bool
 | [],L=>seqM md ops r ts L
 | k::hs,L=>(Region.ready md ops L).contains k&&Region.free md ops L k&&lexM md ops r ts hs (L.setIfInBounds k true)
def gmB (l:List Oper) (hs ts:List Nat) (e r sz:Nat):Bool:=Region.noSelect l.toArray&&headsB .any l (earlyE hs ts e) hs&&(ts.drop e).all (fun t=>!earlyE hs ts e t)&&dstB (pickL l hs) sz&&decide (hs.length+(ts.length+r)=l.length)&&lexM .any l.toArray r ts hs (Array.replicate l.length false)
/-- What holds behind the chain: the rest is quiet. -/
def restM (P:Program) (l:List Oper) (Q:Exit→Act→World→Prop) (r:Nat) (a:Act) (w:World):Prop:=wpQuiet P l.toArray (fun w'=>w'=w) (fun a2=>Q .normal a2 w) (l.drop (l.length - r)) a
end
end Go.Proofs.YtjbggogbnckllaaDoor
end
