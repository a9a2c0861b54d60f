/-
  A plan with one rule more: what chapter 9 tells of it (plain), and its rules in memory.
  The variables of a law that puts one rule more: the plan's copy, the rule.
-/
import Derived.Test.YtjbggogbnckllaaDoorAz
import Derived.Test.YtjbggogbnckllaaDoorAl
import Derived.Test.YtjbggogbnckllaaDoorAj
import Derived.Deep.Slices
import Derived.Test.YtjbggogbnckllaaDoorBa
import Derived.Test.YtjbggogbnckllaaDoorAi
section
set_option maxRecDepth 100000
namespace Go.Proofs.YtjbggogbnckllaaDoor
open Go.RowKit Go.Deep
set_option linter.unusedVariables false
set_option linter.unusedSimpArgs false
namespace Q
open Pl (Plan Prod)
def grow (p:Plan) (x:Prod):Plan:=⟨p.terms,p.vars,p.rules++[x],p.levels,p.assocs,p.acts++[Rd.E]⟩
theorem grow_ok {p:Plan} (h:OK p) (x:Prod) (hr:p.rules.length≤41) (h1:p.terms.length≤x.left∧x.left≤p.terms.length+p.vars.length) (h2:∀ y ∈ x.right,0≤y∧y < ((p.terms.length+p.vars.length:Nat):Int)) (h3:x.right.length≤1000):OK (grow p x):=by
 refine ⟨h.n,h.nb,h.m,?_,fun r hr=>?_,fun r hr=>?_,fun r hr=>?_⟩
 ·show (p.rules++[x]).length≤1000
  simp; omega
 ·rcases List.mem_append.1 (show r ∈ p.rules++[x] from hr) with hr | hr
  ·exact h.left r hr
  ·rw [List.mem_singleton.1 hr]; exact h1
 ·rcases List.mem_append.1 (show r ∈ p.rules++[x] from hr) with hr | hr
  ·exact h.right r hr
  ·rw [List.mem_singleton.1 hr]; exact h2
 ·rcases List.mem_append.1 (show r ∈ p.rules++[x] from hr) with hr | hr
  ·exact h.rl r hr
  ·rw [List.mem_singleton.1 hr]; exact h3
theorem grow_cnt (p:Plan) (x:Prod):cnt (grow p x)=cnt p:=rfl
theorem grow_lens {p:Plan} {x:Prod} (hq:OK (grow p x)) (i:Nat) (hi:0≤(lens p).long i):0≤(lens (grow p x)).long i∧(lens (grow p x)).long i≤(lens p).long i :=
 lens_le hq (sim_more (p:=p) (q:=grow p x) rfl (fun r hr=>List.mem_append_left _ hr)) i trivial hi
theorem grow_come {p:Plan} {x:Prod} (h:OK p) (hq:OK (grow p x)) {i:Nat} (hc:come p i=true):come (grow p x) i=true :=
 (come_rch hq i).2 (rch_mono (p:=p) (q:=grow p x) rfl (fun r hr=>List.mem_append_left _ hr) ((come_rch h i).1 hc))
/-- What else a small grammar's plan is. -/
theorem plan_more {s:Pl.Sm} (hf:Pl.few s 20 8=true):1≤(Pl.plan s).vars.length∧(Pl.plan s).levels.length=(Pl.plan s).terms.length∧1≤(Pl.plan s).rules.length∧(Pl.plan s).acts.length=(Pl.plan s).rules.length:=by
 obtain ⟨F,_⟩:=ofF (Pl.plan_of s hf)
 refine ⟨List.length_pos_of_mem F.start,?_,by have:=F.len; omega,?_⟩
 ·rw [F.levels,F.terms]; simp
 ·rw [F.acts,F.len]; simp
end Q
theorem pdC_len:∀ (l:List Pl.Prod) (ns:List Value),ns.length=l.length→(pdC l ns).length=l.length*3
 | [],_,_=>by simp [pdC]
 | _::_,[],h=>by simp at h
 | m::l,n::ns,h=>by
  have e:pdC (m::l) (n::ns)=.int .i64 (m.left:Nat)::n::.int .i64 (m.level:Nat)::pdC l ns:=by simp [pdC]
  rw [e]
  simp only [List.length_cons]
  rw [pdC_len l ns (by simpa using h)]
  omega
/-- The rows of a plan's rules, cell by cell. -/
theorem ruV_cells {w:World} {ra:Option Addr} {l:List Pl.Prod} (h:RuV w ra l) (hk:RuK w ra l) (h0:0 < l.length):∃ b off ns,ra=some ⟨b,off,none⟩∧ns.length=l.length∧(∀ j u,(pdC l ns)[j]?=some u→w.cell? ⟨b,off+j,none⟩=some u)∧∀ i (h:i < l.length) (h':i < ns.length),∃ na nc,ns[i]=.slice na l[i].right.length nc∧Ints w na l[i].right∧l[i].right.length≤nc:=by
 obtain ⟨b,off,_,_,rfl,_⟩:=h 0 h0
 obtain ⟨f,hf⟩:=choose_lt (n:=l.length) (p:=fun i (v:Value)=>∀ (hi:i < l.length),w.cell? ⟨b,off+i*3,none⟩=some (.int .i64 (l[i].left:Nat))∧w.cell? ⟨b,off+i*3+1,none⟩=some v∧w.cell? ⟨b,off+i*3+2,none⟩=some (.int .i64 (l[i].level:Nat))∧∃ na nc,v=.slice na l[i].right.length nc∧Ints w na l[i].right∧l[i].right.length≤nc) (fun i hi=>by
  obtain ⟨b',off',na,nc,e,h1,h2,h3,h4⟩:=h i hi
  cases e
  exact ⟨_,fun _=>⟨h1,h2,h3,na,nc,rfl,h4,hk i hi b off na nc rfl h2⟩⟩)
 refine ⟨b,off,(List.range l.length).map f,rfl,by simp,fun j u hj=>?_,fun i hi hi'=>?_⟩
 ·have hjl:j < l.length*3:=by
   have:=(List.getElem?_eq_some_iff.1 hj).1
   rwa [pdC_len _ _ (by simp)] at this
  have hi:j / 3 < l.length:=by omega
  obtain ⟨e0,e1,e2⟩:=pdC_at l ((List.range l.length).map f) (j / 3) hi (by simpa using hi)
  obtain ⟨h1,h2,h3,_⟩:=hf (j / 3) hi hi
  have hr:j=j / 3*3∨j=j / 3*3+1∨j=j / 3*3+2:=by omega
  simp only [List.getElem_map,List.getElem_range] at e1
  generalize j / 3=i at *
  rcases hr with rfl | rfl | rfl
  ·rw [e0] at hj; cases hj; exact h1
  ·rw [e1] at hj; cases hj; exact h2
  ·rw [e2] at hj; cases hj; exact h3
 ·obtain ⟨_,_,_,h4⟩:=hf i hi hi
  simpa using h4
theorem ruV_back {w:World} {b off:Nat} {l:List Pl.Prod} {ns:List Value} (hn:ns.length=l.length) (hc:∀ j u,(pdC l ns)[j]?=some u→w.cell? ⟨b,off+j,none⟩=some u) (hi:∀ i (h:i < l.length) (h':i < ns.length),∃ na nc,ns[i]=.slice na l[i].right.length nc∧Ints w na l[i].right):RuV w (some ⟨b,off,none⟩) l:=by
 intro i h
 obtain ⟨e0,e1,e2⟩:=pdC_at l ns i h (by omega)
 obtain ⟨na,nc,en,hx⟩:=hi i h (by omega)
 rw [en] at e1
 exact ⟨b,off,na,nc,rfl,hc _ _ e0,hc _ _ e1,hc _ _ e2,hx⟩
theorem pdC_one {l:List Pl.Prod} {ns:List Value} (hn:ns.length=l.length) (hi:∀ i (h:i < l.length) (h':i < ns.length),∃ na nc w,ns[i]=.slice na l[i].right.length nc∧Ints w na l[i].right):∀ u ∈ pdC l ns,u.oneCell'=true:=by
 intro u hu
 obtain ⟨q,hq,hu⟩:=List.mem_flatMap.1 hu
 obtain ⟨i,hz,e⟩:=List.getElem_of_mem hq
 have hil:i < l.length:=by simp at hz; omega
 obtain ⟨na,nc,_,en,_⟩:=hi i hil (by omega)
 rw [List.getElem_zip] at e
 rw [← e] at hu
 simp only [List.mem_cons,List.not_mem_nil,or_false] at hu
 rcases hu with rfl | rfl | rfl
 ·rfl
 ·rw [en]; rfl
 ·rfl
theorem ruK_back {w:World} {b off:Nat} {l:List Pl.Prod} {ns:List Value} (hn:ns.length=l.length) (hc:∀ j u,(pdC l ns)[j]?=some u→w.cell? ⟨b,off+j,none⟩=some u) (hi:∀ i (h:i < l.length) (h':i < ns.length),∃ na nc,ns[i]=.slice na l[i].right.length nc∧l[i].right.length≤nc):RuK w (some ⟨b,off,none⟩) l:=by
 intro i h b' off' na nc ea hcell
 cases ea
 obtain ⟨_,e1,_⟩:=pdC_at l ns i h (by omega)
 obtain ⟨na',nc',en,hx⟩:=hi i h (by omega)
 rw [en] at e1
 have:=(hc _ _ e1).symm.trans hcell
 cases this
 exact hx
theorem owns_setB {w:World} {b B i size n:Nat} {e:TypeId} {v:Value} {xs:List Value} (ho:w.ownsRow B e size v n xs) (hb:b < B) (u:Value):(w.setCell ⟨b,i,none⟩ u).ownsRow B e size v n xs:=by
 obtain ⟨h1,h2⟩:=ho
 refine ⟨h1,?_⟩
 rcases h2 with h2 | ⟨g,cap,cur,hv,hbg,hg,h3⟩
 ·exact .inl h2
 ·exact .inr ⟨g,cap,cur,hv,hbg,(Below.heap_setCell _ _ _ _ (by show g≠b; omega)).trans hg,h3⟩
theorem row_setB {w:World} {b b' i:Nat} {o:Obj} (h:w.heap[b]?=some o) (hb:b≠b') (u:Value):(w.setCell ⟨b',i,none⟩ u).heap[b]?=some o :=
 (Below.heap_setCell _ _ _ _ (by show b≠b'; exact hb)).trans h
theorem below_setB {w w':World} {B b i:Nat} (h:Below B w w') (hb:B≤b) (u:Value):Below B w (w'.setCell ⟨b,i,none⟩ u):=h.setCell hb _
end Go.Proofs.YtjbggogbnckllaaDoor
end
section
set_option maxRecDepth 100000
namespace Go.Proofs.YtjbggogbnckllaaDoor
open Go.RowKit
set_option linter.unusedVariables false
set_option linter.unusedSimpArgs false
/-- The plan's copy lies where V ends, the rule at xb. -/
structure GX (V W:World) (xb:Nat) (q x:Array Value):Prop where
 low:Below V.heap.size V W
 hq:W.heap[V.heap.size]?=some (.cells q 32 (0,0))
 hx:W.heap[xb]?=some (.cells x 46 (0,0))
 ne:V.heap.size < xb
section
variable {V W W':World} {xb:Nat} {q x:Array Value}
theorem GX.lt (h:GX V W xb q x):xb < W.heap.size:=lt_of_block h.hx
theorem GX.belowB (h:GX V W xb q x) {B:Nat} (k:Below B W W') (hB:xb < B):GX V W' xb q x :=
 ⟨h.low.trans (k.mono (by have:=h.ne; omega)),(k.block _ (by have:=h.ne; omega)).trans h.hq,(k.block _ hB).trans h.hx,h.ne⟩
theorem GX.below (h:GX V W xb q x) (k:Below W.heap.size W W'):GX V W' xb q x:=h.belowB k h.lt
theorem GX.setX (h:GX V W xb q x) (i:Nat) (u:Value):GX V (W.setCell ⟨xb,i,none⟩ u) xb q (x.setIfInBounds i u) :=
 ⟨h.low.setCell (by show V.heap.size≤xb; have:=h.ne; omega) _,row_setB h.hq (by have:=h.ne; omega) _,heap_setCell_same _ _ _ _ _ _ h.hx,h.ne⟩
theorem GX.setQ (h:GX V W xb q x) (i:Nat) (u:Value):GX V (W.setCell ⟨V.heap.size,i,none⟩ u) xb (q.setIfInBounds i u) x :=
 ⟨h.low.setCell (Nat.le_refl _) _,heap_setCell_same _ _ _ _ _ _ h.hq,row_setB h.hx (by have:=h.ne; omega) _,h.ne⟩
theorem GX.cx (h:GX V W xb q x) (i:Nat):W.cell? ⟨xb,i,none⟩=x[i]?:=cell_of_row _ _ _ _ _ _ h.hx
theorem GX.cq (h:GX V W xb q x) (i:Nat):W.cell? ⟨V.heap.size,i,none⟩=q[i]?:=cell_of_row _ _ _ _ _ _ h.hq
theorem GX.fx (h:GX V W xb q x) (i:Nat):W.frozen? ⟨xb,i,none⟩=false:=frozen_of_row _ _ _ _ _ h.hx
theorem GX.fq (h:GX V W xb q x) (i:Nat):W.frozen? ⟨V.heap.size,i,none⟩=false:=frozen_of_row _ _ _ _ _ h.hq
end
/-- And the copy's rules, in a row of their own; the new rule's right side. -/
structure GY (V W:World) (xb:Nat) (q x:Array Value) (B base g n cap:Nat) (xs:List Value) (xa:Option Addr) (rr:List Int):Prop where
 gx:GX V W xb q x
 own:W.ownsRow base 46 3 (.slice (some ⟨g,0,none⟩) n cap) n xs
 gB:g < B∧V.heap.size < g
 ints:Ints W xa rr
 iB:∀ a o s,xa=some ⟨a,o,s⟩→a < B∧V.heap.size < a
 xB:xb < B
section
variable {V W W':World} {xb:Nat} {q x:Array Value} {B base g n cap:Nat} {xs:List Value} {xa:Option Addr} {rr:List Int}
theorem owns_keptG {e:TypeId} {size:Nat} (h:W.ownsRow base e size (.slice (some ⟨g,0,none⟩) n cap) n xs) (k:W'.heap[g]?=W.heap[g]?):W'.ownsRow base e size (.slice (some ⟨g,0,none⟩) n cap) n xs:=by
 obtain ⟨h1,h2⟩:=h
 refine ⟨h1,?_⟩
 rcases h2 with ⟨e,_⟩ | ⟨g',cap',cur,hv,hbg,hg,h3⟩
 ·cases e
 ·cases hv
  exact .inr ⟨g,cap,cur,rfl,hbg,k.trans hg,h3⟩
theorem ints_keptG (h:Ints W xa rr) (k:∀ a o s,xa=some ⟨a,o,s⟩→W'.heap[a]?=W.heap[a]?):Ints W' xa rr:=by
 intro i hi
 obtain ⟨b,off,rfl,hc⟩:=h i hi
 exact ⟨b,off,rfl,(World.cell?_of_block (w:=W) (a:=⟨b,off+i,none⟩) (k b off none rfl)).trans hc⟩
theorem GY.belowB (h:GY V W xb q x B base g n cap xs xa rr) (k:Below B W W'):GY V W' xb q x B base g n cap xs xa rr :=
 ⟨h.gx.belowB k h.xB,owns_keptG h.own (k.block _ h.gB.1),h.gB,ints_keptG h.ints (fun a o s e=>k.block _ (h.iB a o s e).1),h.iB,h.xB⟩
theorem GY.setQ (h:GY V W xb q x B base g n cap xs xa rr) (i:Nat) (u:Value):GY V (W.setCell ⟨V.heap.size,i,none⟩ u) xb (q.setIfInBounds i u) x B base g n cap xs xa rr :=
 ⟨h.gx.setQ i u,owns_keptG h.own (Below.heap_setCell _ _ _ _ (by show g≠V.heap.size; have:=h.gB.2; omega)),h.gB,ints_keptG h.ints (fun a o s e=>Below.heap_setCell _ _ _ _ (by show a≠V.heap.size; have:=(h.iB a o s e).2; omega)),h.iB,h.xB⟩
end
theorem prod_size:(Tryd.prog.info? 46).map (·.size)=some 3:=by kernel_rfl
theorem prod_zero:(Tryd.prog.info? 46).map (·.zero)=some (some (.agg #[.int .i64 0,.slice none 0 0,.int .i64 0])):=by kernel_rfl
/-- The rules, and one more. -/
theorem ruV_more {w':World} {g m cap B:Nat} {l:List Pl.Prod} {ns:List Value} {x:Pl.Prod} {v:Value} {na:Option Addr} {nc:Nat} (hn:ns.length=l.length) (hm:m=l.length) (ho:w'.ownsRow B 46 3 (.slice (some ⟨g,0,none⟩) (m+1) cap) (m+1) (pdC l ns++[.int .i64 (x.left:Nat),v,.int .i64 (x.level:Nat)]))
  (hi:∀ i (h:i < l.length) (h':i < ns.length),∃ na nc,ns[i]=.slice na l[i].right.length nc∧Ints w' na l[i].right∧l[i].right.length≤nc) (hv:v=.slice na x.right.length nc) (hx:Ints w' na x.right) (hxk:x.right.length≤nc):RuV w' (some ⟨g,0,none⟩) (l++[x])∧RuK w' (some ⟨g,0,none⟩) (l++[x]):=by
 rw [← pdC_snoc _ _ _ _ hn] at ho
 have hcells:∀ j u,(pdC (l++[x]) (ns++[v]))[j]?=some u→w'.cell? ⟨g,0+j,none⟩=some u:=fun j u hj=>by
  have:=ho.cells (g:=g) rfl j u hj
  rw [addr_add] at this
  simpa using this
 have hall:∀ i (h:i < (l++[x]).length) (h':i < (ns++[v]).length),∃ na nc,(ns++[v])[i]=.slice na (l++[x])[i].right.length nc∧Ints w' na (l++[x])[i].right∧(l++[x])[i].right.length≤nc:=fun i h h'=>by
  by_cases e:i < l.length
  ·rw [List.getElem_append_left (by omega),List.getElem_append_left e]
   exact hi i e (by omega)
  ·obtain rfl:i=l.length:=by simp at h; omega
   refine ⟨na,nc,?_,?_,?_⟩
   ·simp [← hn,hv]
   ·simpa using hx
   ·simpa using hxk
 exact ⟨ruV_back (by simp [hn]) hcells (fun i h h'=>by obtain ⟨a,b,c,d,_⟩:=hall i h h'; exact ⟨a,b,c,d⟩),ruK_back (by simp [hn]) hcells (fun i h h'=>by obtain ⟨a,b,c,_,d⟩:=hall i h h'; exact ⟨a,b,c,d⟩)⟩
end Go.Proofs.YtjbggogbnckllaaDoor
end
