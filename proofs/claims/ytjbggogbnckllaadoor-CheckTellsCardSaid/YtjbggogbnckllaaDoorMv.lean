/-
  A region that draws its order: reads and chains, in turns.
-/
import Derived.Test.YtjbggogbnckllaaDoorMw
namespace Go.Proofs.YtjbggogbnckllaaDoor
open Go Go.RowKit
section
variable {P:Program} {l:List Oper} {Q:Exit→Act→World→Prop} {D:World→Prop}
def gnB (l:List Oper) (sz:Nat):List (List Nat×List Nat)→Array Bool→Bool
 | [],L=>decide (Region.ready .any l.toArray L=[])
 | (hs,ts)::ph,L=>dstB (pickL l hs) sz&&lexR .any l.toArray hs L&&seqR .any l.toArray ts (setAll L hs)&&gnB l sz ph (setAll (setAll L hs) ts)
def gnN:List (List Nat×List Nat)→Nat
 | []=>0
 | (hs,ts)::ph=>hs.length+(ts.length+gnN ph)
def wpGn (P:Program) (l:List Oper) (Q:Exit→Act→World→Prop) (D:World→Prop) (sz:Nat):List (List Nat×List Nat)→Act→World→Prop
 | [],a,w=>Q .normal a w
 | (hs,ts)::ph,a,w=>a.tmps.size=sz∧∃ A:Act,(∀ W,D W→wpQuiet P l.toArray (fun w'=>w'=W) (fun a'=>a'=A) (pickL l hs) a) ∧
   wpListM P l.toArray Q D (fun a1 w1=>D w1∧wpGn P l Q D sz ph a1 w1) ts.length (pickL l ts) A w
theorem wpAnyD_gn {sz:Nat} (hsel:Region.noSelect l.toArray=true) (hQ:∀ c (a:Act) (d:Option Tmp) (v:Value) w,Q (.panic c) (a.put d v) w→Q (.panic c) a w) (hkeep:∀ w w',Below w.heap.size w w'→D w→D w') :
  ∀ (ph:List (List Nat×List Nat)) (L:Array Bool) (a:Act) (w:World),D w→Closed .any l.toArray L→gnB l sz ph L=true→wpGn P l Q D sz ph a w→wpAnyD P .any l.toArray D (fun _=>true) Q (gnN ph) L a w
 | [],L,a,w,_,_,hB,h=>by
  simp only [gnB,decide_eq_true_eq] at hB
  exact ⟨hB,h⟩
 | (hs,ts)::ph,L,a,w,hw,hc,hB,h=>by
  simp only [gnB,Bool.and_eq_true] at hB
  obtain ⟨⟨⟨hd,h1⟩,h2⟩,h3⟩:=hB
  obtain ⟨hsz,A,hq,ht⟩:=h
  have hc1:=closed_lexR hs _ hc h1
  have hc2:=closed_seqR ts _ hc1 h2
  refine wpAnyD_lexR (A:=A) (sz:=sz) (g:=ts.length+gnN ph) hsel hQ hkeep w hw hs L a hd hsz hc h1 hq ?_
  refine wpAnyD_seqR ts _ A w h2 (wpListM_mono ?_ _ _ _ _ ht)
  rintro a1 w1 ⟨hx,hr⟩
  exact wpAnyD_gn hsel hQ hkeep ph _ a1 w1 hx hc2 h3 hr
/-- **A region: reads, a chain, and again.** -/
theorem region_gn {id:Nat} {a:Act} {w:World} (ph:List (List Nat×List Nat)) (sz B:Nat) (hQ:∀ c (a:Act) (d:Option Tmp) (v:Value) w,Q (.panic c) (a.put d v) w→Q (.panic c) a w)
  (hb:B≤w.heap.size) (hm:P.follows .mixedOrders=true) (hB:(Region.noSelect l.toArray&&decide (gnN ph=l.length)&&gnB l sz ph (Array.replicate l.length false))=true)
  (h:wpGn P l Q (fun w'=>∃ x:Wd B w,w'=x.w) sz ph a w.drew):(Code.region id l.toArray true).wp P Q a w:=by
 simp only [Bool.and_eq_true,decide_eq_true_eq] at hB
 obtain ⟨⟨hsel,hlen⟩,h1⟩:=hB
 refine wp_region_any hm ?_
 have key:=wpAnyD_gn (P:=P) (D:=fun w'=>∃ x:Wd B w,w'=x.w) hsel hQ (fun w1 w2 hk hx=>by
  obtain ⟨x,rfl⟩:=hx
  exact ⟨⟨w2,x.ok.trans (hk.mono (Nat.le_trans hb x.ok.size))⟩,rfl⟩) ph (Array.replicate l.length false) a w.drew ⟨⟨_,(Below.refl _ _).drew⟩,rfl⟩ (fun j oj _ hl=>(by rw [getD_replicate_false] at hl; cases hl)) h1 h
 have key2:=wpAny_of_D _ _ _ _ key
 rw [hlen] at key2
 have hz:l.toArray.size=l.length:=by simp
 rw [hz]
 exact key2
end
end Go.Proofs.YtjbggogbnckllaaDoor
