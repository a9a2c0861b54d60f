/-
  A region that draws its order: reads, a chain of operations whatever they give, reads, a chain.
-/
import Derived.Test.YtjbggogbnckllaaDoorAu
namespace Go.Proofs.YtjbggogbnckllaaDoor
open Go Go.RowKit
section
variable {P:Program} {md:Region.Mode} {D:World→Prop}
def setAll (L:Array Bool) (ks:List Nat):Array Bool:=ks.foldl (fun L k=>L.setIfInBounds k true) L
def lexR (md:Region.Mode) (ops:Array Oper):List Nat→Array Bool→Bool
 | [],_=>true
 | k::hs,L=>(Region.ready md ops L).contains k&&Region.free md ops L k&&lexR md ops hs (L.setIfInBounds k true)
def seqR (md:Region.Mode) (ops:Array Oper):List Nat→Array Bool→Bool
 | [],_=>true
 | k::ts,L=>decide (Region.ready md ops L=[k])&&seqR md ops ts (L.setIfInBounds k true)
theorem wpListM_mono {ops:Array Oper} {Q:Exit→Act→World→Prop} {R R':Act→World→Prop} (h:∀ a w,R a w→R' a w):∀ (e:Nat) (l:List Oper) (a:Act) (w:World),wpListM P ops Q D R e l a w→wpListM P ops Q D R' e l a w
 | e,[],a,w,hk=>by cases e<;>exact h _ _ hk
 | 0,o::l,a,w,hk=>by
  rw [wpListM] at hk ⊢
  split
  ·rename_i hw; rw [if_pos hw] at hk; exact Oper.wp_mono (fun a' w' h'=>wpListM_mono h 0 l a' w' h') hk
  ·rename_i hw; rw [if_neg hw] at hk; exact wpListM_mono h 0 l _ _ hk
 | e+1,o::l,a,w,hk=>by
  rw [wpListM] at hk ⊢
  split
  ·rename_i hw; rw [if_pos hw] at hk; exact Oper.wp_mono (fun a' w' h'=>⟨h'.1,wpListM_mono h e l a' w' h'.2⟩) hk
  ·rename_i hw; rw [if_neg hw] at hk; exact ⟨hk.1,wpListM_mono h e l _ _ hk.2⟩
theorem wpAnyD_seqR {l:List Oper} {Q:Exit→Act→World→Prop} {g:Nat}:∀ (ts:List Nat) (L:Array Bool) (a:Act) (w:World),seqR md l.toArray ts L=true→wpListM P l.toArray Q D (fun a w=>wpAnyD P md l.toArray D (fun _=>true) Q g (setAll L ts) a w) ts.length (pickL l ts) a w→wpAnyD P md l.toArray D (fun _=>true) Q (ts.length+g) L a w
 | [],L,a,w,_,h=>by
  rw [List.length_nil,Nat.zero_add]
  exact h
 | t::ts,L,a,w,hB,h=>by
  simp only [seqR,Bool.and_eq_true,decide_eq_true_eq] at hB
  rw [List.length_cons,show ts.length+1+g=(ts.length+g)+1 by omega]
  refine ⟨fun h1=>(by rw [hB.1] at h1; cases h1),fun i hi=>?_⟩
  rw [hB.1] at hi
  have hik:i=t:=by simpa using hi
  subst hik
  have hlt:i ∈ Region.ready md l.toArray L:=by rw [hB.1]; simp
  obtain ⟨_,o,ho,_⟩:=mem_ready.1 hlt
  have ho':l[i]?=some o:=by simpa using ho
  rw [pickL,ho',List.length_cons] at h
  have hw:wpOp P l.toArray Q i (fun a' w'=>D w'∧wpListM P l.toArray Q D (fun a w=>wpAnyD P md l.toArray D (fun _=>true) Q g (setAll (L.setIfInBounds i true) ts) a w) ts.length (pickL l ts) a' w') a w:=by
   unfold wpOp
   simp only [ho]
   simp only [wpListM] at h
   split
   ·rename_i hwt; rw [if_pos hwt] at h; exact .inl h
   ·rename_i hwt; rw [if_neg hwt] at h; exact h
  exact wpOp_mono (fun a' w' h'=>⟨fun _ _=>h'.1,wpAnyD_seqR ts _ a' w' hB.2 h'.2⟩) hw
theorem wpAnyD_lexR {l:List Oper} {Q:Exit→Act→World→Prop} {A:Act} {g sz:Nat} (hsel:Region.noSelect l.toArray=true) (hQ:∀ c (a:Act) (d:Option Tmp) (v:Value) w,Q (.panic c) (a.put d v) w→Q (.panic c) a w) (hkeep:∀ w w',Below w.heap.size w w'→D w→D w') (w:World) (hw:D w) :
  ∀ (hs:List Nat) (L:Array Bool) (a:Act),dstB (pickL l hs) sz=true→a.tmps.size=sz→Closed md l.toArray L→lexR md l.toArray hs L=true →
  (∀ W,D W→wpQuiet P l.toArray (fun w'=>w'=W) (fun a'=>a'=A) (pickL l hs) a)→wpAnyD P md l.toArray D (fun _=>true) Q g (setAll L hs) A w→wpAnyD P md l.toArray D (fun _=>true) Q (hs.length+g) L a w
 | [],L,a,_,_,_,_,h,ht=>by
  have:a=A:=h w hw
  subst this
  rw [List.length_nil,Nat.zero_add]
  exact ht
 | i::hs,L,a,hd,hsz,hcl,hB,h,ht=>by
  simp only [lexR,Bool.and_eq_true] at hB
  obtain ⟨⟨hr,hf⟩,hB'⟩:=hB
  have hr':i ∈ Region.ready md l.toArray L:=by simpa using hr
  obtain ⟨_,o,ho,_⟩:=mem_ready.1 hr'
  have ho':l[i]?=some o:=by simpa using ho
  have hp:pickL l (i::hs)=o::pickL l hs:=by rw [pickL,ho']
  rw [hp] at hd h
  obtain ⟨v,hy,hrest⟩:=fam_step ⟨w,hw⟩ hd hsz h
  have hd':dstB (pickL l hs) sz=true:=by
   rw [dstB,Bool.and_eq_true] at hd
   exact hd.2
  have hrec:=wpAnyD_lexR (sz:=sz) (g:=g) hsel hQ hkeep w hw hs (L.setIfInBounds i true) (a.put o.dst v) hd' (by rw [put_size]; exact hsz) (hcl.set hr') hB' hrest ht
  rw [List.length_cons,show hs.length+1+g=(hs.length+g)+1 by omega]
  exact wpAnyD_first ho (Region.noSelect_spec hsel) (fun c a w=>hQ c a _ _ w) hkeep (fun j oj hj hji=>.inl rfl) _ L a w hcl (Region.free_spec ho hf) hr' hy hw hrec
theorem closed_lexR {l:List Oper}:∀ (hs:List Nat) (L:Array Bool),Closed md l.toArray L→lexR md l.toArray hs L=true→Closed md l.toArray (setAll L hs)
 | [],_,h,_=>h
 | k::hs,L,h,hB=>by
  simp only [lexR,Bool.and_eq_true] at hB
  exact closed_lexR hs _ (h.set (by simpa using hB.1.1)) hB.2
theorem closed_seqR {l:List Oper}:∀ (ts:List Nat) (L:Array Bool),Closed md l.toArray L→seqR md l.toArray ts L=true→Closed md l.toArray (setAll L ts)
 | [],_,h,_=>h
 | k::ts,L,h,hB=>by
  simp only [seqR,Bool.and_eq_true,decide_eq_true_eq] at hB
  exact closed_seqR ts _ (h.set (by rw [hB.1]; simp)) hB.2
def g2B (l:List Oper) (hs ts hs2 ts2:List Nat) (sz:Nat):Bool :=
 Region.noSelect l.toArray&&dstB (pickL l hs) sz&&dstB (pickL l hs2) sz&&decide (hs.length+(ts.length+(hs2.length+(ts2.length+0)))=l.length) &&
 lexR .any l.toArray hs (Array.replicate l.length false)&&seqR .any l.toArray ts (setAll (Array.replicate l.length false) hs) &&
 lexR .any l.toArray hs2 (setAll (setAll (Array.replicate l.length false) hs) ts)&&seqR .any l.toArray ts2 (setAll (setAll (setAll (Array.replicate l.length false) hs) ts) hs2) &&
 decide (Region.ready .any l.toArray (setAll (setAll (setAll (setAll (Array.replicate l.length false) hs) ts) hs2) ts2)=[])
end
end Go.Proofs.YtjbggogbnckllaaDoor
