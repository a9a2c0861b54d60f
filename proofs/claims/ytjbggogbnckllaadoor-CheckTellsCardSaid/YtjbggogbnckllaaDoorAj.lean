/-
  RwL of one's own that lie apart: a list of them, an append to one of them.
  What the plan of a grammar is made of, where it can be made (plain).
  A plan under construction in memory.
-/
import Derived.Test.YtjbggogbnckllaaDoorAi
import Derived.Test.YtjbggogbnckllaaDoorAb
section
set_option maxRecDepth 100000
namespace Go.Proofs.YtjbggogbnckllaaDoor
open Go.RowKit
set_option linter.unusedVariables false
set_option linter.unusedSimpArgs false
structure Rw where
 e:TypeId
 size:Nat
 v:Value
 n:Nat
 xs:List Value
def Rw.own (r:Rw) (w:World) (B:Nat):Prop:=w.ownsRow B r.e r.size r.v r.n r.xs
def Rw.apart (r s:Rw):Prop:=∀ g,r.v.ownBlock=some g→s.v.ownBlock≠some g
theorem Rw.apart_symm {r s:Rw} (h:Rw.apart r s):Rw.apart s r:=fun g h1 h2=>h g h2 h1
/-- The rows lie apart, and in none of the blocks 'no'. -/
structure RwL (w:World) (B:Nat) (no:List Nat) (l:List Rw):Prop where
 own:∀ r ∈ l,r.own w B
 no:∀ r ∈ l,∀ g,r.v.ownBlock=some g→g ∉ no
 ap:l.Pairwise Rw.apart
section
variable {w w':World} {B:Nat} {no:List Nat} {l l1 l2:List Rw} {r r':Rw}
theorem RwL.nil:RwL w B no []:=⟨nofun,nofun,.nil⟩
theorem RwL.perm (h:RwL w B no l) (p:l.Perm l1):RwL w B no l1 :=
 ⟨fun r hr=>h.own r (p.mem_iff.2 hr),fun r hr=>h.no r (p.mem_iff.2 hr),(p.pairwise_iff (fun {a b} hab=>Rw.apart_symm hab)).1 h.ap⟩
theorem RwL.below (h:RwL w B no l) (k:Below w.heap.size w w'):RwL w' B no l:=⟨fun r hr=>owns_below (h.own r hr) k,h.no,h.ap⟩
theorem RwL.alloc (h:RwL w B no l) (o:Obj):RwL (w.alloc o) B no l:=h.below ((Below.refl _ _).alloc (Nat.le_refl _) o)
theorem own_upd {b:Nat} (h:r.own w B) (k:Upd b w w') (hb:∀ g,r.v.ownBlock=some g→g≠b):r.own w' B:=by
 obtain ⟨h1,h2⟩:=h
 refine ⟨h1,?_⟩
 rcases h2 with h2 | ⟨g,cap,cur,hv,hbg,hg,h3⟩
 ·exact .inl h2
 ·exact .inr ⟨g,cap,cur,hv,hbg,(k.block _ (Array.getElem?_eq_some_iff.1 hg).1 (hb g (by rw [hv]; rfl))).trans hg,h3⟩
theorem RwL.upd {b:Nat} (h:RwL w B no l) (k:Upd b w w') (hb:b ∈ no):RwL w' B no l :=
 ⟨fun r hr=>own_upd (h.own r hr) k (fun g hg e=>h.no r hr g hg (e▸hb)),h.no,h.ap⟩
theorem RwL.more (h:RwL w B no l):RwL w B (w.heap.size::no) l :=
 ⟨h.own,fun r hr g hg=>by
  have:=(owns_lt (h.own r hr) g hg).2
  simp only [List.mem_cons,not_or]
  exact ⟨by omega,h.no r hr g hg⟩,h.ap⟩
theorem RwL.sub {no':List Nat} (h:RwL w B no l) (hs:∀ b ∈ no',b ∈ no):RwL w B no' l:=⟨h.own,fun r hr g hg hb=>h.no r hr g hg (hs g hb),h.ap⟩
theorem RwL.tail (h:RwL w B no (r::l)):RwL w B no l:=⟨fun x hx=>h.own x (List.mem_cons_of_mem _ hx),fun x hx=>h.no x (List.mem_cons_of_mem _ hx),(List.pairwise_cons.1 h.ap).2⟩
/-- An empty row more. -/
theorem RwL.zero (h:RwL w B no l) (e:TypeId) (size:Nat):RwL w B no (⟨e,size,.slice none 0 0,0,[]⟩::l):=by
 refine ⟨?_,?_,?_⟩
 ·intro x hx
  rcases List.mem_cons.1 hx with rfl | hx
  ·exact World.ownsRow_nil _ _ _ _
  ·exact h.own x hx
 ·intro x hx
  rcases List.mem_cons.1 hx with rfl | hx
  ·intro g hg; cases hg
  ·exact h.no x hx
 ·exact List.pairwise_cons.2 ⟨(fun s _ g hg=>nomatch hg),h.ap⟩
/-- A row that was made just now. -/
theorem own_new (w:World) (B:Nat) (hB:B≤w.heap.size) (e:TypeId) (size n:Nat) (cs:Array Value) (hs:cs.size=n*size) (hn:n≤maxLen) :
  (w.alloc (.cells cs e)).ownsRow B e size (.slice (some ⟨w.heap.size,0,none⟩) n n) n cs.toList:=by
 refine ⟨(by simpa using hs),.inr ⟨w.heap.size,n,cs,rfl,hB,heap_alloc_new w _,Nat.le_refl _,hn,hs,?_⟩⟩
 rw [← hs,show cs.size=cs.toList.length by simp,List.take_length]
theorem RwL.made (h:RwL w B no l) (hB:B≤w.heap.size) (hno:∀ b ∈ no,b < w.heap.size) (e:TypeId) (size n:Nat) (cs:Array Value) (hs:cs.size=n*size) (hn:n≤maxLen) :
  RwL (w.alloc (.cells cs e)) B no (⟨e,size,.slice (some ⟨w.heap.size,0,none⟩) n n,n,cs.toList⟩::l):=by
 have ha:=h.alloc (.cells cs e)
 refine ⟨?_,?_,?_⟩
 ·intro x hx
  rcases List.mem_cons.1 hx with rfl | hx
  ·exact own_new w B hB e size n cs hs hn
  ·exact ha.own x hx
 ·intro x hx
  rcases List.mem_cons.1 hx with rfl | hx
  ·intro g hg hm
   have:g=w.heap.size:=by simpa [Value.ownBlock] using hg.symm
   have:=hno g hm
   omega
  ·exact ha.no x hx
 ·refine List.pairwise_cons.2 ⟨fun s hs' g hg hg'=>?_,ha.ap⟩
  have h1:g=w.heap.size:=by simpa [Value.ownBlock] using hg.symm
  have h2:=(owns_lt (h.own s hs') g hg').2
  omega
/-- An append to one of them. -/
theorem RwL.app {g:Nat} (h:RwL w B no (l1++r::l2)) (hno:∀ b ∈ no,b < w.heap.size) (hg:w.grownBy w' r.v.ownBlock) (ho:r'.own w' B) (hv:r'.v.ownBlock=some g) (hat:r.v.ownBlock=some g∨g=w.heap.size):RwL w' B no (l1++r'::l2):=by
 have hp:(l1++r::l2).Perm (r::(l1++l2)):=List.perm_middle
 have hp':(r'::(l1++l2)).Perm (l1++r'::l2):=List.perm_middle.symm
 refine RwL.perm ?_ hp'
 have hq:=h.perm hp
 generalize l1++l2=l at hq
 have hqa:=List.pairwise_cons.1 hq.ap
 have hr:r ∈ r::l:=List.mem_cons_self
 refine ⟨?_,?_,?_⟩
 ·intro x hx
  rcases List.mem_cons.1 hx with rfl | hx
  ·exact ho
  ·obtain ⟨h1,h2⟩:=hq.own x (List.mem_cons_of_mem _ hx)
   refine ⟨h1,?_⟩
   rcases h2 with h2 | ⟨g',cap,cur,hxv,hbg,hgg,h3⟩
   ·exact .inl h2
   ·refine .inr ⟨g',cap,cur,hxv,hbg,(hg.block _ (Array.getElem?_eq_some_iff.1 hgg).1 (fun e=>?_)).trans hgg,h3⟩
    exact hqa.1 x hx g' e.symm (by rw [hxv]; rfl)
 ·intro x hx
  rcases List.mem_cons.1 hx with rfl | hx
  ·intro g' hg' hm
   rw [hv] at hg'
   cases hg'
   rcases hat with hat | rfl
   ·exact hq.no r hr g hat hm
   ·have:=hno _ hm; omega
  ·exact hq.no x (List.mem_cons_of_mem _ hx)
 ·refine List.pairwise_cons.2 ⟨fun s hs g' hg' hs'=>?_,hqa.2⟩
  rw [hv] at hg'
  cases hg'
  rcases hat with hat | rfl
  ·exact hqa.1 s hs g hat hs'
  ·have:=(owns_lt (hq.own s (List.mem_cons_of_mem _ hs)) _ hs').2
   omega
/-- What lies outside is not changed. -/
theorem RwL.grown_block (h:RwL w B no (l1++r::l2)) (hg:w.grownBy w' r.v.ownBlock) {b:Nat} (hb:b ∈ no) (hl:b < w.heap.size):w'.heap[b]?=w.heap[b]? :=
 hg.block b hl (fun e=>h.no r (by simp) b e.symm hb)
end
def intV (l:List Int):List Value:=l.map (Value.int .i64)
def natV (l:List Nat):List Value:=l.map fun k=>Value.int .i64 (k:Nat)
theorem intV_snoc (l:List Int) (x:Int):intV (l++[x])=intV l++[.int .i64 x]:=by simp [intV]
theorem natV_snoc (l:List Nat) (x:Nat):natV (l++[x])=natV l++[.int .i64 (x:Nat)]:=by simp [natV]
theorem Ints.of_owns {w:World} {B n m cap:Nat} {a:Option Addr} {l:List Int} (h:w.ownsRow B 3 1 (.slice a m cap) n (intV l)):Ints w a l:=by
 intro i hi
 rcases h.2 with ⟨_,rfl⟩ | ⟨g,cap',cur,hv,hbg,hg,h3⟩
 ·have:=h.1
  simp only [intV,List.length_map] at this
  omega
 ·cases hv
  refine ⟨g,0,rfl,?_⟩
  have hx:(intV l)[i]?=some (.int .i64 l[i]):=by simp [intV,hi]
  have:=h.cells (g:=g) rfl i _ hx
  rwa [show (⟨g,0,none⟩:Addr).add i=⟨g,0+i,none⟩ by unfold Addr.add; split<;>simp_all] at this
end Go.Proofs.YtjbggogbnckllaaDoor
end
section
set_option maxRecDepth 100000
namespace Go.Proofs.YtjbggogbnckllaaDoor
open Go.RowKit
set_option linter.unusedVariables false
set_option linter.unusedSimpArgs false
theorem place_iff {l:List ByteArray} {s:ByteArray}:(Pl.place l s).isSome=true↔s ∈ l:=by
 rcases placeI_range l s with ⟨h1,h2⟩ | ⟨k,hk,h1,h2,h3⟩
 ·rw [h2]
  refine ⟨(fun h=>nomatch h),fun hm=>?_⟩
  obtain ⟨k,hk,e⟩:=List.getElem_of_mem hm
  have hex:Pl.placeI l s≠-1:=by
   rcases placeI_range l s with ⟨h3,h4⟩ | ⟨k,hk,h3,h4,_⟩
   ·exfalso
    have:∀ j (h:j < l.length),l[j]≠s:=by
     intro j hj ej
     have hmin:∃ k,∃ h:k < l.length,l[k]=s∧∀ i,i < k→∀ (hi:i < l.length),l[i]≠s:=by
      clear hk e hm
      induction j using Nat.strongRecOn with
      | _ j ih =>
       by_cases hx:∃ i,i < j∧∃ hi:i < l.length,l[i]=s
       ·obtain ⟨i,hij,hi,ei⟩:=hx
        exact ih i hij hi ei
       ·exact ⟨j,hj,ej,fun i hij hi ei=>hx ⟨i,hij,hi,ei⟩⟩
     obtain ⟨k,hk,ek,hlt⟩:=hmin
     have:=placeI_at hk (fun i hi hik=>hlt i hik hi) ek
     omega
    exact this k hk e
   ·omega
  exact absurd h1 hex
 ·rw [h2]
  exact ⟨fun _=>List.mem_of_getElem? h3,fun _=>rfl⟩
theorem placeI_neg {l:List ByteArray} {s:ByteArray} (h:s ∉ l):Pl.placeI l s=-1:=by
 rcases placeI_range l s with ⟨h1,_⟩ | ⟨k,hk,h1,h2,h3⟩
 ·exact h1
 ·exact absurd (List.mem_of_getElem? h3) h
theorem placeI_pos {l:List ByteArray} {s:ByteArray} (h:s ∈ l):∃ k,k < l.length∧Pl.placeI l s=(k:Nat)∧Pl.place l s=some k:=by
 rcases placeI_range l s with ⟨_,h2⟩ | ⟨k,hk,h1,h2,h3⟩
 ·have:=place_iff.2 h; rw [h2] at this; cases this
 ·exact ⟨k,hk,h1,h2⟩
theorem sym_range (tm vs:List ByteArray) (s:ByteArray):Pl.sym tm vs s=-1∨∃ k,k < tm.length+vs.length∧Pl.sym tm vs s=(k:Nat):=by
 unfold Pl.sym
 rcases placeI_range tm s with ⟨_,h2⟩ | ⟨k,hk,_,h2,_⟩
 ·rw [h2]
  rcases placeI_range vs s with ⟨_,h3⟩ | ⟨k,hk,_,h3,_⟩
  ·rw [h3]; exact .inl rfl
  ·rw [h3]; exact .inr ⟨tm.length+k,by omega,rfl⟩
 ·rw [h2]; exact .inr ⟨k,by omega,rfl⟩
theorem sym_var {tm vs:List ByteArray} {s:ByteArray} (h:s ∈ vs):∃ k,k < tm.length+vs.length∧Pl.sym tm vs s=(k:Nat):=by
 rcases sym_range tm vs s with h1 | h1
 ·exfalso
  obtain ⟨k,hk,_,hp⟩:=placeI_pos h
  unfold Pl.sym at h1
  cases ht:Pl.place tm s with
  | none=>rw [ht,hp] at h1; simp only at h1; omega
  | some i=>rw [ht] at h1; simp only at h1; omega
 ·exact h1
theorem vars_snoc (rs:List Rd.Rul) (k:Nat) (h:k < rs.length):Pl.vars (rs.take (k+1))=Pl.addVar (Pl.vars (rs.take k)) rs[k]:=by
 unfold Pl.vars
 rw [List.take_succ_eq_append_getElem h,List.foldl_append]
 rfl
theorem addVar_mem {v:List ByteArray} {r:Rd.Rul} {s:ByteArray}:s ∈ Pl.addVar v r↔s ∈ v∨s=r.left:=by
 unfold Pl.addVar
 by_cases h:r.left ∈ v
 ·rw [if_pos (place_iff.2 h)]
  exact ⟨.inl,fun h'=>h'.elim id (fun e=>e▸h)⟩
 ·rw [if_neg (fun h'=>h (place_iff.1 h'))]
  simp
theorem vars_mem (rs:List Rd.Rul) (r:Rd.Rul) (h:r ∈ rs):r.left ∈ Pl.vars rs:=by
 unfold Pl.vars
 have:∀ (rs:List Rd.Rul) (v:List ByteArray) (s:ByteArray),(s ∈ v∨∃ r ∈ rs,s=r.left)→s ∈ rs.foldl Pl.addVar v:=by
  intro rs
  induction rs with
  | nil=>intro v s h; exact h.elim id (fun ⟨r,hr,_⟩=>absurd hr (by simp))
  | cons x rs ih =>
   intro v s h
   refine ih _ _ ?_
   rcases h with h | ⟨r,hr,e⟩
   ·exact .inl (addVar_mem.2 (.inl h))
   ·rcases List.mem_cons.1 hr with rfl | hr
    ·exact .inl (addVar_mem.2 (.inr e))
    ·exact .inr ⟨r,hr,e⟩
 exact this rs [] _ (.inr ⟨r,h,rfl⟩)
theorem addVar_len (v:List ByteArray) (r:Rd.Rul):(Pl.addVar v r).length≤v.length+1:=by
 unfold Pl.addVar; split<;>simp
theorem vars_len (rs:List Rd.Rul):∀ k,k≤rs.length→(Pl.vars (rs.take k)).length≤k
 | 0,_=>by simp [Pl.vars]
 | k+1,h=>by
  rw [vars_snoc rs k (by omega)]
  have:=vars_len rs k (by omega)
  have:=addVar_len (Pl.vars (rs.take k)) rs[k]
  omega
/-- The tokens. -/
theorem toks_ok {ls:List Rd.Lev} {vs:List ByteArray}:∀ {ts:List Rd.Tok} {tm:List ByteArray} {lv:List Nat} {q:List ByteArray×List Nat},Pl.toks ls vs ts tm lv=.ok q →
  (∀ t ∈ ts,t.name ∉ vs)∧q=(tm++ts.map (·.name),lv++ts.map (fun t=>Pl.level ls t.name))
 | [],tm,lv,q,h=>by
  rw [Pl.toks] at h
  cases h
  exact ⟨by simp,by simp⟩
 | t::ts,tm,lv,q,h=>by
  rw [Pl.toks] at h
  split at h
  ·cases h
  ·rename_i hn
   obtain ⟨h1,h2⟩:=toks_ok h
   refine ⟨?_,by rw [h2]; simp⟩
   intro x hx
   rcases List.mem_cons.1 hx with rfl | hx
   ·exact fun hm=>hn (place_iff.2 hm)
   ·exact h1 x hx
theorem rt_ok {tm vs:List ByteArray} {lv:List Nat} {s:ByteArray} {r:List ByteArray} {l:List Int} {k:Nat} {R:List Int×Nat} (h:Pl.rt tm vs lv (s::r) l k=.ok R) :
  ∃ y,y < tm.length+vs.length∧Pl.sym tm vs s=(y:Nat)∧Pl.rt tm vs lv r (l++[((y:Nat):Int)]) (if y < tm.length then lv.getD y 0 else k)=.ok R:=by
 rw [Pl.rt] at h
 rcases sym_range tm vs s with h1 | ⟨y,hy,h1⟩
 ·rw [h1] at h
  simp at h
 ·refine ⟨y,hy,h1,?_⟩
  rw [h1,if_neg (by omega)] at h
  rw [← h]
  congr 1
  simp
theorem rt_len {tm vs:List ByteArray} {lv:List Nat}:∀ {r:List ByteArray} {l:List Int} {k:Nat} {R:List Int×Nat},Pl.rt tm vs lv r l k=.ok R→R.1.length=l.length+r.length∧((∀ x ∈ l,0≤x∧x < ((tm.length+vs.length:Nat):Int))→∀ x ∈ R.1,0≤x∧x < ((tm.length+vs.length:Nat):Int))
 | [],l,k,R,h=>by rw [Pl.rt] at h; cases h; exact ⟨rfl,id⟩
 | s::r,l,k,R,h=>by
  obtain ⟨y,hy,_,h2⟩:=rt_ok h
  obtain ⟨h3,h4⟩:=rt_len h2
  refine ⟨by rw [h3]; simp; omega,fun hl=>h4 ?_⟩
  intro x hx
  rcases List.mem_append.1 hx with hx | hx
  ·exact hl x hx
  ·have:x=((y:Nat):Int):=by simpa using hx
   omega
theorem prod_ok {ls:List Rd.Lev} {tm vs:List ByteArray} {lv:List Nat} {r:Rd.Rul} {x:Pl.Prod} (h:Pl.prod ls tm vs lv r=.ok x) :
  ∃ k,Pl.rt tm vs lv r.right [] 0=.ok (x.right,k)∧x.left=(Pl.sym tm vs r.left).toNat ∧
   ((r.prec.size == 0)=true∧x.level=k∨(r.prec.size == 0)=false∧Pl.level ls r.prec≠0∧x.level=Pl.level ls r.prec):=by
 unfold Pl.prod at h
 split at h
 ·cases h
 ·rename_i l k hr
  split at h
  ·rename_i h0
   cases h
   exact ⟨k,hr,rfl,.inl ⟨h0,rfl⟩⟩
  ·rename_i h0
   split at h
   ·cases h
   ·rename_i h1
    cases h
    exact ⟨k,hr,rfl,.inr ⟨by simpa using h0,by simpa using h1,rfl⟩⟩
theorem prods_ok {ls:List Rd.Lev} {tm vs:List ByteArray} {lv:List Nat}:∀ {rs:List Rd.Rul} {out:List Pl.Prod} {q:List Pl.Prod},Pl.prods ls tm vs lv rs out=.ok q →
  q.length=out.length+rs.length∧(∀ i,i < out.length→q[i]?=out[i]?)∧∀ i (hi:i < rs.length),∃ x,Pl.prod ls tm vs lv rs[i]=.ok x∧q[out.length+i]?=some x
 | [],out,q,h=>by rw [Pl.prods] at h; cases h; exact ⟨rfl,fun _ _=>rfl,fun i hi=>absurd hi (Nat.not_lt_zero _)⟩
 | r::rs,out,q,h=>by
  rw [Pl.prods] at h
  split at h
  ·cases h
  ·rename_i x hx
   obtain ⟨h1,h2,h3⟩:=prods_ok h
   have hl:(out++[x]).length=out.length+1:=by simp
   refine ⟨by rw [h1]; simp; omega,fun i hi=>?_,fun i hi=>?_⟩
   ·rw [h2 i (by omega),List.getElem?_append_left hi]
   ·cases i with
    | zero =>
     refine ⟨x,hx,?_⟩
     rw [Nat.add_zero,h2 _ (by omega)]
     simp
    | succ i =>
     obtain ⟨y,hy,hq⟩:=h3 i (by simpa using hi)
     refine ⟨y,hy,?_⟩
     rw [← hq,hl]
     congr 1
     omega
/-- What the plan of a grammar is made of. -/
structure OfF (g:Rd.Gr) (p:Pl.Plan):Prop where
 right:Pl.right g=true
 notv:∀ t ∈ g.toks,t.name ∉ Pl.vars g.rules
 terms:p.terms=Pl.endS::g.toks.map (·.name)
 levels:p.levels=0::g.toks.map (fun t=>Pl.level g.levs t.name)
 vars:p.vars=Pl.vars g.rules
 assocs:p.assocs=0::g.levs.map (·.assoc)
 acts:p.acts=Rd.E::g.rules.map (·.action)
 start:g.start ∈ p.vars
 len:p.rules.length=g.rules.length+1
 r0:p.rules[0]?=some ⟨p.terms.length+p.vars.length,[Pl.sym p.terms p.vars g.start],0⟩
 r:∀ i (hi:i < g.rules.length),∃ x,Pl.prod g.levs p.terms p.vars p.levels g.rules[i]=.ok x∧p.rules[i+1]?=some x
theorem ofF {g:Rd.Gr} {p:Pl.Plan} {s:ByteArray} (h:Pl.of g=(p,0,s)):OfF g p∧s=Rd.E:=by
 unfold Pl.of at h
 split at h
 ·cases h
 ·rename_i hr
  have hr':Pl.right g=true:=by simpa using hr
  simp only at h
  split at h
  ·cases h
  ·rename_i tm lv ht
   split at h
   ·cases h
   ·rename_i rs hp
    split at h
    ·rename_i hs
     cases h
     obtain ⟨h1,h2⟩:=toks_ok ht
     obtain ⟨h3,h4,h5⟩:=prods_ok hp
     cases h2
     refine ⟨⟨hr',h1,rfl,rfl,rfl,rfl,rfl,place_iff.1 hs,by rw [h3]; simp; omega,h4 0 (by simp),fun i hi=>?_⟩,rfl⟩
     obtain ⟨x,hx,hq⟩:=h5 i hi
     exact ⟨x,hx,by rw [← hq]; congr 1; simp; omega⟩
    ·cases h
end Go.Proofs.YtjbggogbnckllaaDoor
end
section
set_option maxRecDepth 100000
namespace Go.Proofs.YtjbggogbnckllaaDoor
open Go.RowKit
set_option linter.unusedVariables false
set_option linter.unusedSimpArgs false
theorem elt_int:Elt Tryd.prog 30 3 1 8 where
 ht:=Tryd.underlying30
 hi:=by
  have h:(Tryd.prog.info? 3).map (fun i=>(i.zero.map (fun z=>z.cells.size),i.size,i.bytes))=some (some 1,1,8):=by kernel_rfl
  cases hi:Tryd.prog.info? 3 with
  | none=>simp [hi] at h
  | some i =>
   simp [hi] at h
   obtain ⟨⟨z,hz,hz1⟩,h2,h3⟩:=h
   exact ⟨i,z,rfl,hz,h2,h3,hz1⟩
 hsz:=by decide
theorem elt_prod:Elt Tryd.prog 29 46 3 40 where
 ht:=Tryd.underlying29
 hi:=by
  have h:(Tryd.prog.info? 46).map (fun i=>(i.zero.map (fun z=>z.cells.size),i.size,i.bytes))=some (some 3,3,40):=by kernel_rfl
  cases hi:Tryd.prog.info? 46 with
  | none=>simp [hi] at h
  | some i =>
   simp [hi] at h
   obtain ⟨⟨z,hz,hz1⟩,h2,h3⟩:=h
   exact ⟨i,z,rfl,hz,h2,h3,hz1⟩
 hsz:=by decide
def pdC (rs:List Pl.Prod) (ns:List Value):List Value:=(rs.zip ns).flatMap fun q=>[.int .i64 (q.1.left:Nat),q.2,.int .i64 (q.1.level:Nat)]
theorem pdC_snoc (rs:List Pl.Prod) (ns:List Value) (x:Pl.Prod) (v:Value) (h:ns.length=rs.length):pdC (rs++[x]) (ns++[v])=pdC rs ns++[.int .i64 (x.left:Nat),v,.int .i64 (x.level:Nat)]:=by simp [pdC,List.zip_append h.symm]
theorem pdC_at:∀ (l:List Pl.Prod) (ns:List Value) (i:Nat) (h:i < l.length) (h':i < ns.length),(pdC l ns)[i*3]?=some (.int .i64 (l[i].left:Nat))∧(pdC l ns)[i*3+1]?=some ns[i]∧(pdC l ns)[i*3+2]?=some (.int .i64 (l[i].level:Nat))
 | [],_,i,h,_=>absurd h (Nat.not_lt_zero _)
 | _::_,[],i,_,h=>absurd h (Nat.not_lt_zero _)
 | m::l,n::ns,0,_,_=>by refine ⟨rfl,rfl,rfl⟩
 | m::l,n::ns,i+1,h,h'=>by
  have ih:=pdC_at l ns i (by simpa using h) (by simpa using h')
  have e:pdC (m::l) (n::ns)=.int .i64 (m.left:Nat)::n::.int .i64 (m.level:Nat)::pdC l ns:=by simp [pdC]
  rw [e,show (i+1)*3=i*3+1+1+1 by omega]
  simp only [List.getElem?_cons_succ,List.getElem_cons_succ]
  exact ih
def rS (v:Value) (n:Nat) (l:List ByteArray):Rw:=⟨9,1,v,n,strV l⟩
def rI (v:Value) (n:Nat) (l:List Int):Rw:=⟨3,1,v,n,intV l⟩
def rN (v:Value) (n:Nat) (l:List Nat):Rw:=⟨3,1,v,n,natV l⟩
def rP (v:Value) (n:Nat) (l:List Pl.Prod) (ns:List Value):Rw:=⟨46,3,v,n,pdC l ns⟩
/-- The rows of the rules' right sides. -/
def rX (l:List Pl.Prod) (ns:List Value):List Rw:=(l.zip ns).map fun q=>rI q.2 q.1.right.length q.1.right
theorem rX_snoc (rs:List Pl.Prod) (ns:List Value) (x:Pl.Prod) (v:Value) (h:ns.length=rs.length):rX (rs++[x]) (ns++[v])=rX rs ns++[rI v x.right.length x.right]:=by simp [rX,List.zip_append h.symm]
/-- A plan that is made, in a world that is else as U was. -/
structure OI (U W:World) (pb:Nat) (cs:Array Value) (no:List Nat) (l:List Rw):Prop where
 low:Below U.heap.size U W
 ge:U.heap.size≤pb
 lt:pb < W.heap.size
 pl:W.heap[pb]?=some (.cells cs 32 (0,0))
 rows:RwL W U.heap.size (pb::no) l
 nol:∀ b ∈ no,U.heap.size≤b∧b < W.heap.size
section
variable {U W W':World} {pb:Nat} {cs:Array Value} {no:List Nat} {l l1 l2:List Rw} {r r':Rw}
theorem OI.below (h:OI U W pb cs no l) (k:Below W.heap.size W W'):OI U W' pb cs no l :=
 ⟨h.low.trans (k.mono h.low.size),h.ge,Nat.lt_of_lt_of_le h.lt k.size,(k.block _ h.lt).trans h.pl,h.rows.below k,fun b hb=>⟨(h.nol b hb).1,Nat.lt_of_lt_of_le (h.nol b hb).2 k.size⟩⟩
theorem OI.alloc (h:OI U W pb cs no l) (o:Obj):OI U (W.alloc o) pb cs no l:=h.below ((Below.refl _ _).alloc (Nat.le_refl _) o)
theorem OI.nos (h:OI U W pb cs no l):∀ b ∈ pb::no,b < W.heap.size:=by
 intro b hb
 rcases List.mem_cons.1 hb with rfl | hb
 ·exact h.lt
 ·exact (h.nol b hb).2
theorem OI.app {g:Nat} (h:OI U W pb cs no (l1++r::l2)) (hg:W.grownBy W' r.v.ownBlock) (ho:r'.own W' U.heap.size) (hv:r'.v.ownBlock=some g) (hat:r.v.ownBlock=some g∨g=W.heap.size):OI U W' pb cs no (l1++r'::l2):=by
 have hr:r ∈ l1++r::l2:=by simp
 refine ⟨h.low.trans (below_own (h.rows.own r hr) h.low.size hg),h.ge,Nat.lt_of_lt_of_le h.lt hg.size,(h.rows.grown_block hg List.mem_cons_self h.lt).trans h.pl,h.rows.app h.nos hg ho hv hat,fun b hb=>⟨(h.nol b hb).1,Nat.lt_of_lt_of_le (h.nol b hb).2 hg.size⟩⟩
theorem OI.more (h:OI U W pb cs no l) (o:Obj):OI U (W.alloc o) pb cs (W.heap.size::no) l:=by
 have ha:=h.alloc o
 have hm:=h.rows.more
 refine ⟨ha.low,ha.ge,ha.lt,ha.pl,?_,?_⟩
 ·refine (hm.alloc o).sub ?_
  intro b hb
  simp only [List.mem_cons] at hb ⊢
  rcases hb with h1 | h1 | h1
  ·exact .inr (.inl h1)
  ·exact .inl h1
  ·exact .inr (.inr h1)
 ·intro b hb
  rcases List.mem_cons.1 hb with rfl | hb
  ·exact ⟨h.low.size,by simp⟩
  ·exact ha.nol b hb
theorem OI.sub {no':List Nat} (h:OI U W pb cs no l) (hs:∀ b ∈ no',b ∈ no):OI U W pb cs no' l :=
 ⟨h.low,h.ge,h.lt,h.pl,h.rows.sub (fun b hb=>by
  rcases List.mem_cons.1 hb with rfl | hb
  ·exact List.mem_cons_self
  ·exact List.mem_cons_of_mem _ (hs b hb)),fun b hb=>h.nol b (hs b hb)⟩
theorem OI.setP (h:OI U W pb cs no l) (j:Nat) (v:Value):OI U (W.setCell ⟨pb,j,none⟩ v) pb (cs.setIfInBounds j v) no l:=by
 have k:=(Upd.refl pb W).setCell ⟨pb,j,none⟩ rfl v
 exact ⟨h.low.trans (k.below h.ge h.low.size),h.ge,Nat.lt_of_lt_of_le h.lt k.size,heap_setCell_same _ _ _ _ _ _ h.pl,h.rows.upd k List.mem_cons_self,fun b hb=>⟨(h.nol b hb).1,Nat.lt_of_lt_of_le (h.nol b hb).2 k.size⟩⟩
theorem OI.setO (h:OI U W pb cs no l) {b:Nat} (hb:b ∈ no) (hne:b≠pb) (j:Nat) (v:Value):OI U (W.setCell ⟨b,j,none⟩ v) pb cs no l:=by
 have k:=(Upd.refl b W).setCell ⟨b,j,none⟩ rfl v
 exact ⟨h.low.trans (k.below (h.nol b hb).1 h.low.size),h.ge,Nat.lt_of_lt_of_le h.lt k.size,(k.block _ h.lt (Ne.symm hne)).trans h.pl,h.rows.upd k (List.mem_cons_of_mem _ hb),fun c hc=>⟨(h.nol c hc).1,Nat.lt_of_lt_of_le (h.nol c hc).2 k.size⟩⟩
theorem OI.perm (h:OI U W pb cs no l) (p:l.Perm l1):OI U W pb cs no l1:=⟨h.low,h.ge,h.lt,h.pl,h.rows.perm p,h.nol⟩
theorem OI.zero (h:OI U W pb cs no l) (e:TypeId) (size:Nat):OI U W pb cs no (⟨e,size,.slice none 0 0,0,[]⟩::l):=⟨h.low,h.ge,h.lt,h.pl,h.rows.zero e size,h.nol⟩
theorem OI.made (h:OI U W pb cs no l) (e:TypeId) (size n:Nat) (c:Array Value) (hs:c.size=n*size) (hn:n≤maxLen):OI U (W.alloc (.cells c e)) pb cs no (⟨e,size,.slice (some ⟨W.heap.size,0,none⟩) n n,n,c.toList⟩::l) :=
 ⟨(h.alloc _).low,h.ge,(h.alloc _).lt,(h.alloc _).pl,h.rows.made h.low.size h.nos e size n c hs hn,(h.alloc _).nol⟩
theorem OI.own (h:OI U W pb cs no l) (hr:r ∈ l):W.ownsRow U.heap.size r.e r.size r.v r.n r.xs:=h.rows.own r hr
theorem OI.blk {b:Nat} (h:OI U W pb cs no l) (hb:b < U.heap.size):W.heap[b]?=U.heap[b]?:=h.low.block b hb
end
theorem OI.c {U W:World} {pb:Nat} {a b c d e f:Value} {no:List Nat} {l:List Rw} (h:OI U W pb #[a,b,c,d,e,f] no l) :
  W.cell? ⟨pb,0,none⟩=some a∧W.cell? ⟨pb,1,none⟩=some b∧W.cell? ⟨pb,2,none⟩=some c∧W.cell? ⟨pb,3,none⟩=some d∧W.cell? ⟨pb,4,none⟩=some e∧W.cell? ⟨pb,5,none⟩=some f∧∀ j,W.frozen? ⟨pb,j,none⟩=false:=by
 refine ⟨?_,?_,?_,?_,?_,?_,fun j=>frozen_of_row _ _ _ _ _ h.pl⟩
 all_goals (rw [cell_of_row _ _ _ _ _ _ h.pl]; rfl)
/-- One is appended to a row of the plan. -/
theorem list_app_oi {P:Program} {w:World} {ops:Array Oper} {rest:List Oper} {o:Oper} {a:Act} {Q:Exit→Act→World→Prop} (hgd:o.guard=none) (s x:Operand) (t:TypeId)
  (ho:o.op=.call { callee:=.builtin .append,args:=#[s,x],argTypes:=#[t,t] }) (bytes:Nat) {U:World} {pb:Nat} {cs:Array Value} {no:List Nat} (l1:List Rw) (r:Rw) (l2:List Rw) (E:Elt P t r.e r.size bytes) (hs:a.eval s=r.v)
  (h:OI U w pb cs no (l1++r::l2)) (g0 c0:Nat) (hx:a.eval x=.slice (some ⟨g0,0,none⟩) 1 c0) (news:Array Value) (hn:w.heap[g0]?=some (.cells news r.e (0,0))) (hl:news.size=r.size) (h1:∀ u ∈ news.toList,u.oneCell'=true)
  (h63:r.n≤100000) (hb:bytes≤100)
  (hK:∀ g cap w',OI U w' pb cs no (l1++(⟨r.e,r.size,.slice (some ⟨g,0,none⟩) (r.n+1) cap,r.n+1,r.xs++news.toList⟩:Rw)::l2)→(∀ b ∈ no,w'.heap[b]?=w.heap[b]?)→wpList P ops Q rest (a.put o.dst (.slice (some ⟨g,0,none⟩) (r.n+1) cap)) w') :
  wpList P ops Q (o::rest) a w:=by
 have hr:r ∈ l1++r::l2:=by simp
 refine list_append_one hgd s x t ho r.e U.heap.size r.size bytes E r.v r.n r.xs hs (h.own hr) ⟨g0,0,none⟩ c0 news.toList hx (by simpa using hl) (World.news_of_block hn) h1 (by unfold maxLen; omega) ?_ h.low.size fun g cap w' h2 h3 h4 h5 h6=>hK g cap w' (h.app h3 h2 rfl h6) fun b hb=>h.rows.grown_block h3 (List.mem_cons_of_mem _ hb) (h.nol b hb).2
 have h2:(r.n+r.n / 4+512)*bytes≤200000*100:=Nat.mul_le_mul (by omega) hb
 omega
theorem strV_snoc' (l:List ByteArray) (y:ByteArray):strV l++(#[Value.string y]:Array Value).toList=strV (l++[y]):=(strV_snoc l y).symm
theorem intV_snoc' (l:List Int) (y:Int):intV l++(#[Value.int .i64 y]:Array Value).toList=intV (l++[y]):=(intV_snoc l y).symm
theorem natV_snoc' (l:List Nat) (y:Nat):natV l++(#[Value.int .i64 (y:Nat)]:Array Value).toList=natV (l++[y]):=(natV_snoc l y).symm
theorem OI.p0 {U W:World} {pb:Nat} {a b c d e f:Value} {no:List Nat} {l:List Rw} (h:OI U W pb #[a,b,c,d,e,f] no l) (v:Value):OI U (W.setCell ⟨pb,0,none⟩ v) pb #[v,b,c,d,e,f] no l:=h.setP 0 v
theorem OI.p1 {U W:World} {pb:Nat} {a b c d e f:Value} {no:List Nat} {l:List Rw} (h:OI U W pb #[a,b,c,d,e,f] no l) (v:Value):OI U (W.setCell ⟨pb,1,none⟩ v) pb #[a,v,c,d,e,f] no l:=h.setP 1 v
theorem OI.p2 {U W:World} {pb:Nat} {a b c d e f:Value} {no:List Nat} {l:List Rw} (h:OI U W pb #[a,b,c,d,e,f] no l) (v:Value):OI U (W.setCell ⟨pb,2,none⟩ v) pb #[a,b,v,d,e,f] no l:=h.setP 2 v
theorem OI.p3 {U W:World} {pb:Nat} {a b c d e f:Value} {no:List Nat} {l:List Rw} (h:OI U W pb #[a,b,c,d,e,f] no l) (v:Value):OI U (W.setCell ⟨pb,3,none⟩ v) pb #[a,b,c,v,e,f] no l:=h.setP 3 v
theorem OI.p4 {U W:World} {pb:Nat} {a b c d e f:Value} {no:List Nat} {l:List Rw} (h:OI U W pb #[a,b,c,d,e,f] no l) (v:Value):OI U (W.setCell ⟨pb,4,none⟩ v) pb #[a,b,c,d,v,f] no l:=h.setP 4 v
theorem OI.p5 {U W:World} {pb:Nat} {a b c d e f:Value} {no:List Nat} {l:List Rw} (h:OI U W pb #[a,b,c,d,e,f] no l) (v:Value):OI U (W.setCell ⟨pb,5,none⟩ v) pb #[a,b,c,d,e,v] no l:=h.setP 5 v
/-- One text, one number is appended. -/
theorem list_app_S {P:Program} {w:World} {ops:Array Oper} {rest:List Oper} {o:Oper} {a:Act} {Q:Exit→Act→World→Prop} (hgd:o.guard=none) (s x:Operand) (t:TypeId)
  (ho:o.op=.call { callee:=.builtin .append,args:=#[s,x],argTypes:=#[t,t] }) {U:World} {pb:Nat} {cs:Array Value} {no:List Nat} (l1:List Rw) (v:Value) (n:Nat) (l:List ByteArray) (l2:List Rw) (E:Elt P t 9 1 16) (hs:a.eval s=v)
  (h:OI U w pb cs no (l1++rS v n l::l2)) (g0 c0:Nat) (hx:a.eval x=.slice (some ⟨g0,0,none⟩) 1 c0) (y:ByteArray) (hn:w.heap[g0]?=some (.cells #[.string y] 9 (0,0))) (h63:n≤100000)
  (hK:∀ g cap w',OI U w' pb cs no (l1++rS (.slice (some ⟨g,0,none⟩) (n+1) cap) (n+1) (l++[y])::l2)→(∀ b ∈ no,w'.heap[b]?=w.heap[b]?)→wpList P ops Q rest (a.put o.dst (.slice (some ⟨g,0,none⟩) (n+1) cap)) w') :
  wpList P ops Q (o::rest) a w :=
 list_app_oi hgd s x t ho 16 l1 (rS v n l) l2 E hs h g0 c0 hx #[.string y] hn rfl (by simp [Value.oneCell']) h63 (by omega) fun g cap w' h1 h2=>hK g cap w' (by
  have e:(⟨(rS v n l).e,(rS v n l).size,.slice (some ⟨g,0,none⟩) ((rS v n l).n+1) cap,(rS v n l).n+1,(rS v n l).xs++(#[Value.string y]:Array Value).toList⟩:Rw)=rS (.slice (some ⟨g,0,none⟩) (n+1) cap) (n+1) (l++[y]):=by
   show (⟨9,1,_,_,strV l++(#[Value.string y]:Array Value).toList⟩:Rw)=_
   rw [strV_snoc']; rfl
  rw [e] at h1; exact h1) h2
theorem list_app_I {P:Program} {w:World} {ops:Array Oper} {rest:List Oper} {o:Oper} {a:Act} {Q:Exit→Act→World→Prop} (hgd:o.guard=none) (s x:Operand) (t:TypeId)
  (ho:o.op=.call { callee:=.builtin .append,args:=#[s,x],argTypes:=#[t,t] }) {U:World} {pb:Nat} {cs:Array Value} {no:List Nat} (l1:List Rw) (v:Value) (n:Nat) (l:List Int) (l2:List Rw) (E:Elt P t 3 1 8) (hs:a.eval s=v)
  (h:OI U w pb cs no (l1++rI v n l::l2)) (g0 c0:Nat) (hx:a.eval x=.slice (some ⟨g0,0,none⟩) 1 c0) (y:Int) (hn:w.heap[g0]?=some (.cells #[.int .i64 y] 3 (0,0))) (h63:n≤100000)
  (hK:∀ g cap w',OI U w' pb cs no (l1++rI (.slice (some ⟨g,0,none⟩) (n+1) cap) (n+1) (l++[y])::l2)→(∀ b ∈ no,w'.heap[b]?=w.heap[b]?)→wpList P ops Q rest (a.put o.dst (.slice (some ⟨g,0,none⟩) (n+1) cap)) w') :
  wpList P ops Q (o::rest) a w :=
 list_app_oi hgd s x t ho 8 l1 (rI v n l) l2 E hs h g0 c0 hx #[.int .i64 y] hn rfl (by simp [Value.oneCell']) h63 (by omega) fun g cap w' h1 h2=>hK g cap w' (by
  have e:(⟨(rI v n l).e,(rI v n l).size,.slice (some ⟨g,0,none⟩) ((rI v n l).n+1) cap,(rI v n l).n+1,(rI v n l).xs++(#[Value.int .i64 y]:Array Value).toList⟩:Rw)=rI (.slice (some ⟨g,0,none⟩) (n+1) cap) (n+1) (l++[y]):=by
   show (⟨3,1,_,_,intV l++(#[Value.int .i64 y]:Array Value).toList⟩:Rw)=_
   rw [intV_snoc']; rfl
  rw [e] at h1; exact h1) h2
theorem list_app_N {P:Program} {w:World} {ops:Array Oper} {rest:List Oper} {o:Oper} {a:Act} {Q:Exit→Act→World→Prop} (hgd:o.guard=none) (s x:Operand) (t:TypeId)
  (ho:o.op=.call { callee:=.builtin .append,args:=#[s,x],argTypes:=#[t,t] }) {U:World} {pb:Nat} {cs:Array Value} {no:List Nat} (l1:List Rw) (v:Value) (n:Nat) (l:List Nat) (l2:List Rw) (E:Elt P t 3 1 8) (hs:a.eval s=v)
  (h:OI U w pb cs no (l1++rN v n l::l2)) (g0 c0:Nat) (hx:a.eval x=.slice (some ⟨g0,0,none⟩) 1 c0) (y:Nat) (hn:w.heap[g0]?=some (.cells #[.int .i64 (y:Nat)] 3 (0,0))) (h63:n≤100000)
  (hK:∀ g cap w',OI U w' pb cs no (l1++rN (.slice (some ⟨g,0,none⟩) (n+1) cap) (n+1) (l++[y])::l2)→(∀ b ∈ no,w'.heap[b]?=w.heap[b]?)→wpList P ops Q rest (a.put o.dst (.slice (some ⟨g,0,none⟩) (n+1) cap)) w') :
  wpList P ops Q (o::rest) a w :=
 list_app_oi hgd s x t ho 8 l1 (rN v n l) l2 E hs h g0 c0 hx #[.int .i64 (y:Nat)] hn rfl (by simp [Value.oneCell']) h63 (by omega) fun g cap w' h1 h2=>hK g cap w' (by
  have e:(⟨(rN v n l).e,(rN v n l).size,.slice (some ⟨g,0,none⟩) ((rN v n l).n+1) cap,(rN v n l).n+1,(rN v n l).xs++(#[Value.int .i64 (y:Nat)]:Array Value).toList⟩:Rw)=rN (.slice (some ⟨g,0,none⟩) (n+1) cap) (n+1) (l++[y]):=by
   show (⟨3,1,_,_,natV l++(#[Value.int .i64 (y:Nat)]:Array Value).toList⟩:Rw)=_
   rw [natV_snoc']; rfl
  rw [e] at h1; exact h1) h2
/-- The plan is begun. -/
theorem oi_start (U:World):OI U (((((U.alloc (.cells #[.string ⟨#[36,101,110,100]⟩] 9)).alloc (.cells #[.int .i64 0] 3)).alloc (.cells #[.int .i64 0] 3)).alloc (.cells #[.string ⟨#[]⟩] 9)).alloc
   (.cells #[.slice (some ⟨U.heap.size,0,none⟩) 1 1,.slice none 0 0,.slice none 0 0,.slice (some ⟨U.heap.size+1,0,none⟩) 1 1,.slice (some ⟨U.heap.size+2,0,none⟩) 1 1,.slice (some ⟨U.heap.size+3,0,none⟩) 1 1] 32)) (U.heap.size+4)
  #[.slice (some ⟨U.heap.size,0,none⟩) 1 1,.slice none 0 0,.slice none 0 0,.slice (some ⟨U.heap.size+1,0,none⟩) 1 1,.slice (some ⟨U.heap.size+2,0,none⟩) 1 1,.slice (some ⟨U.heap.size+3,0,none⟩) 1 1] []
  [rS (.slice (some ⟨U.heap.size,0,none⟩) 1 1) 1 [Pl.endS],rS (.slice none 0 0) 0 [],rP (.slice none 0 0) 0 [] [],rN (.slice (some ⟨U.heap.size+1,0,none⟩) 1 1) 1 [0],rI (.slice (some ⟨U.heap.size+2,0,none⟩) 1 1) 1 [0],rS (.slice (some ⟨U.heap.size+3,0,none⟩) 1 1) 1 [Rd.E]]:=by
 have m1:(1:Nat)≤maxLen:=by unfold maxLen; omega
 have r1:=(RwL.nil (w:=U) (B:=U.heap.size) (no:=[])).made (Nat.le_refl _) (by simp) 9 1 1 #[.string ⟨#[36,101,110,100]⟩] rfl m1
 have r2:=r1.made (by simp) (by simp) 3 1 1 #[.int .i64 0] rfl m1
 have r3:=r2.made (by simp; omega) (by simp) 3 1 1 #[.int .i64 0] rfl m1
 have r4:=r3.made (by simp; omega) (by simp) 9 1 1 #[.string ⟨#[]⟩] rfl m1
 simp only [World.size_alloc] at r2 r3 r4
 generalize hV:(((U.alloc (.cells #[.string ⟨#[36,101,110,100]⟩] 9)).alloc (.cells #[.int .i64 0] 3)).alloc (.cells #[.int .i64 0] 3)).alloc (.cells #[.string ⟨#[]⟩] 9)=V at r4 ⊢
 have hs:V.heap.size=U.heap.size+4:=by rw [← hV]; simp
 have hlow:Below U.heap.size U V:=by rw [← hV]; exact ((((Below.refl _ _).alloc (Nat.le_refl _) _).alloc (by simp) _).alloc (by simp; omega) _).alloc (by simp; omega) _
 have r5:=(((r4.zero 46 3).zero 9 1)).more
 rw [hs] at r5
 have hp:=heap_alloc_new V (.cells #[.slice (some ⟨U.heap.size,0,none⟩) 1 1,.slice none 0 0,.slice none 0 0,.slice (some ⟨U.heap.size+1,0,none⟩) 1 1,.slice (some ⟨U.heap.size+2,0,none⟩) 1 1,.slice (some ⟨U.heap.size+3,0,none⟩) 1 1] 32)
 rw [hs] at hp
 refine ⟨hlow.alloc (by omega) _,by omega,by simp; omega,hp,?_,by simp⟩
 refine (r5.alloc _).perm ?_
 show List.Perm [rS (.slice none 0 0) 0 [],rP (.slice none 0 0) 0 [] [],rS (.slice (some ⟨U.heap.size+3,0,none⟩) 1 1) 1 [Rd.E],rI (.slice (some ⟨U.heap.size+2,0,none⟩) 1 1) 1 [0],rN (.slice (some ⟨U.heap.size+1,0,none⟩) 1 1) 1 [0],rS (.slice (some ⟨U.heap.size,0,none⟩) 1 1) 1 [Pl.endS]] _
 generalize rS (.slice none 0 0) 0 []=a
 generalize rP (.slice none 0 0) 0 [] []=b
 generalize rS (.slice (some ⟨U.heap.size+3,0,none⟩) 1 1) 1 [Rd.E]=c
 generalize rI (.slice (some ⟨U.heap.size+2,0,none⟩) 1 1) 1 [0]=d
 generalize rN (.slice (some ⟨U.heap.size+1,0,none⟩) 1 1) 1 [0]=e
 generalize rS (.slice (some ⟨U.heap.size,0,none⟩) 1 1) 1 [Pl.endS]=f
 -- [a, b, c, d, e, f] ~ [f, a, b, e, d, c]
 refine List.Perm.trans (l₂:=f::[a,b,c,d,e]) ?_ ?_
 ·exact (List.perm_middle (a:=f) (l₁:=[a,b,c,d,e]) (l₂:=[]))
 ·refine List.Perm.cons f (List.Perm.cons a (List.Perm.cons b ?_))
  exact (List.reverse_perm [e,d,c]).symm.symm
theorem perm_last {α:Type} (a:α) (l:List α):List.Perm (a::l) (l++[a]):=by
 have:=List.perm_middle (a:=a) (l₁:=l) (l₂:=[])
 rw [List.append_nil] at this
 exact this.symm
theorem own_one {w:World} {B n size:Nat} {e:TypeId} {v:Value} {xs:List Value} (h:w.ownsRow B e size v n xs):v.oneCell'=true:=by
 rcases h.2 with ⟨rfl,_⟩ | ⟨g,cap,cur,rfl,_⟩
 ·rfl
 ·rfl
theorem list_app_P {P:Program} {w:World} {ops:Array Oper} {rest:List Oper} {o:Oper} {a:Act} {Q:Exit→Act→World→Prop} (hgd:o.guard=none) (s x:Operand) (t:TypeId)
  (ho:o.op=.call { callee:=.builtin .append,args:=#[s,x],argTypes:=#[t,t] }) {U:World} {pb:Nat} {cs:Array Value} {no:List Nat} (l1:List Rw) (v:Value) (n:Nat) (l:List Pl.Prod) (ns:List Value) (l2:List Rw) (hnl:ns.length=l.length) (E:Elt P t 46 3 40) (hs:a.eval s=v)
  (h:OI U w pb cs no (l1++rP v n l ns::l2)) (g0 c0:Nat) (hx:a.eval x=.slice (some ⟨g0,0,none⟩) 1 c0) (y:Pl.Prod) (yv:Value) (hy:yv.oneCell'=true) (hn:w.heap[g0]?=some (.cells #[.int .i64 (y.left:Nat),yv,.int .i64 (y.level:Nat)] 46 (0,0))) (h63:n≤100000)
  (hK:∀ g cap w',OI U w' pb cs no (l1++rP (.slice (some ⟨g,0,none⟩) (n+1) cap) (n+1) (l++[y]) (ns++[yv])::l2)→(∀ b ∈ no,w'.heap[b]?=w.heap[b]?)→wpList P ops Q rest (a.put o.dst (.slice (some ⟨g,0,none⟩) (n+1) cap)) w') :
  wpList P ops Q (o::rest) a w :=
 list_app_oi hgd s x t ho 40 l1 (rP v n l ns) l2 E hs h g0 c0 hx #[.int .i64 (y.left:Nat),yv,.int .i64 (y.level:Nat)] hn rfl (by simp [hy]; simp [Value.oneCell']) h63 (by omega) fun g cap w' h1 h2=>hK g cap w' (by
  have e:(⟨(rP v n l ns).e,(rP v n l ns).size,.slice (some ⟨g,0,none⟩) ((rP v n l ns).n+1) cap,(rP v n l ns).n+1,(rP v n l ns).xs++(#[Value.int .i64 (y.left:Nat),yv,.int .i64 (y.level:Nat)]:Array Value).toList⟩:Rw)=rP (.slice (some ⟨g,0,none⟩) (n+1) cap) (n+1) (l++[y]) (ns++[yv]):=by
   unfold rP
   rw [pdC_snoc _ _ _ _ hnl]
  rw [e] at h1; exact h1) h2
theorem natcell {w:World} {B lb c n:Nat} {l:List Nat} {j:Nat} (h:w.ownsRow B 3 1 (.slice (some ⟨lb,0,none⟩) n c) n (natV l)) (hj:j < l.length):w.cell? ⟨lb,j,none⟩=some (.int .i64 (l.getD j 0:Nat)):=by
 have hx:(natV l)[j]?=some (.int .i64 (l.getD j 0:Nat)):=by simp [natV,hj]
 have:=h.cells (g:=lb) rfl j _ hx
 rwa [show (⟨lb,0,none⟩:Addr).add j=⟨lb,j,none⟩ by unfold Addr.add; split<;>simp_all] at this
theorem OI.drop {U W:World} {pb:Nat} {cs:Array Value} {no:List Nat} {r:Rw} {l:List Rw} (h:OI U W pb cs no (r::l)):OI U W pb cs no l:=⟨h.low,h.ge,h.lt,h.pl,h.rows.tail,h.nol⟩
/-- The first rule. -/
theorem oi_rule0 {U W:World} {pb:Nat} {T V L A C:Value} {a b d e f:Rw} (left y:Nat) (h:OI U W pb #[T,V,.slice none 0 0,L,A,C] [] [a,b,rP (.slice none 0 0) 0 [] [],d,e,f]) :
  OI U (((W.alloc (.cells #[.int .i64 (y:Nat)] 3)).alloc (.cells #[.int .i64 (left:Nat),.slice (some ⟨W.heap.size,0,none⟩) 1 1,.int .i64 0] 46)).setCell ⟨pb,2,none⟩ (.slice (some ⟨W.heap.size+1,0,none⟩) 1 1)) pb
   #[T,V,.slice (some ⟨W.heap.size+1,0,none⟩) 1 1,L,A,C] []
   ([a,b,rP (.slice (some ⟨W.heap.size+1,0,none⟩) 1 1) 1 [⟨left,[((y:Nat):Int)],0⟩] [.slice (some ⟨W.heap.size,0,none⟩) 1 1],d,e,f]++rX [⟨left,[((y:Nat):Int)],0⟩] [.slice (some ⟨W.heap.size,0,none⟩) 1 1]):=by
 have m1:(1:Nat)≤maxLen:=by unfold maxLen; omega
 have h1:=h.made 3 1 1 #[.int .i64 (y:Nat)] rfl m1
 have h2:=h1.made 46 3 1 #[.int .i64 (left:Nat),.slice (some ⟨W.heap.size,0,none⟩) 1 1,.int .i64 0] rfl m1
 simp only [World.size_alloc] at h2
 have h3:=h2.p2 (.slice (some ⟨W.heap.size+1,0,none⟩) 1 1)
 refine OI.drop (r:=rP (.slice none 0 0) 0 [] []) (h3.perm ?_)
 show List.Perm [rP (.slice (some ⟨W.heap.size+1,0,none⟩) 1 1) 1 [⟨left,[((y:Nat):Int)],0⟩] [.slice (some ⟨W.heap.size,0,none⟩) 1 1],rI (.slice (some ⟨W.heap.size,0,none⟩) 1 1) 1 [((y:Nat):Int)],a,b,rP (.slice none 0 0) 0 [] [],d,e,f] [rP (.slice none 0 0) 0 [] [],a,b,rP (.slice (some ⟨W.heap.size+1,0,none⟩) 1 1) 1 [⟨left,[((y:Nat):Int)],0⟩] [.slice (some ⟨W.heap.size,0,none⟩) 1 1],d,e,f,rI (.slice (some ⟨W.heap.size,0,none⟩) 1 1) 1 [((y:Nat):Int)]]
 generalize rP (.slice (some ⟨W.heap.size+1,0,none⟩) 1 1) 1 [⟨left,[((y:Nat):Int)],0⟩] [.slice (some ⟨W.heap.size,0,none⟩) 1 1]=p
 generalize rI (.slice (some ⟨W.heap.size,0,none⟩) 1 1) 1 [((y:Nat):Int)]=q
 generalize rP (.slice none 0 0) 0 [] []=z
 -- [p, q, a, b, z, d, e, f] ~ [z, a, b, p, d, e, f, q]
 have s1:List.Perm [p,q,a,b,z,d,e,f] (z::[p,q,a,b,d,e,f]):=List.perm_middle (a:=z) (l₁:=[p,q,a,b]) (l₂:=[d,e,f])
 have s2:List.Perm (p::[q,a,b,d,e,f]) (p::[a,b,d,e,f,q]):=List.Perm.cons p (List.perm_middle (a:=q) (l₁:=[a,b,d,e,f]) (l₂:=[])).symm
 have s3:List.Perm (p::[a,b,d,e,f,q]) [a,b,p,d,e,f,q]:=(List.perm_middle (a:=p) (l₁:=[a,b]) (l₂:=[d,e,f,q])).symm
 exact s1.trans (List.Perm.cons z (s2.trans s3))
/-- Rules in memory, as they are read. -/
def RuV (w:World) (a:Option Addr) (l:List Pl.Prod):Prop:=∀ i (h:i < l.length),∃ b off na nc,a=some ⟨b,off,none⟩∧w.cell? ⟨b,off+i*3,none⟩=some (.int .i64 (l[i].left:Nat)) ∧
 w.cell? ⟨b,off+i*3+1,none⟩=some (.slice na l[i].right.length nc)∧w.cell? ⟨b,off+i*3+2,none⟩=some (.int .i64 (l[i].level:Nat))∧Ints w na l[i].right
theorem RuV.below {w w':World} {a:Option Addr} {l:List Pl.Prod} (h:RuV w a l) (k:Below w.heap.size w w'):RuV w' a l:=by
 intro i hi
 obtain ⟨b,off,na,nc,rfl,h0,h1,h2,h3⟩:=h i hi
 have hb:b < w.heap.size:=World.block_lt_of_cell? w _ h0
 exact ⟨b,off,na,nc,rfl,((bcell k).1 _ _ hb).trans h0,((bcell k).1 _ _ hb).trans h1,((bcell k).1 _ _ hb).trans h2,h3.below k⟩
def natI' (l:List Nat):List Int:=l.map fun k=>((k:Nat):Int)
theorem natV_eq (l:List Nat):natV l=intV (natI' l):=by simp [natV,intV,natI']
/-- No right side is longer than its room. -/
def RuK (w:World) (a:Option Addr) (l:List Pl.Prod):Prop:=∀ i (h:i < l.length),∀ b off na nc,a=some ⟨b,off,none⟩→w.cell? ⟨b,off+i*3+1,none⟩=some (.slice na l[i].right.length nc)→l[i].right.length≤nc
theorem RuK.below {w w':World} {a:Option Addr} {l:List Pl.Prod} (h:RuK w a l) (hv:RuV w a l) (k:Below w.heap.size w w'):RuK w' a l:=by
 intro i hi b off na nc e hc
 obtain ⟨b',off',_,_,e',h0,_⟩:=hv i hi
 rw [e] at e'
 cases e'
 exact h i hi b off na nc e (((bcell k).1 _ _ (World.block_lt_of_cell? w _ h0)).symm.trans hc)
/-- A plan's value. -/
structure PnA (w:World) (p:Pl.Plan) (ta va ra la aa ca:Option Addr):Prop where
 t:Strs w ta p.terms
 v:Strs w va p.vars
 r:RuV w ra p.rules
 l:Ints w la (natI' p.levels)
 a:Ints w aa p.assocs
 c:Strs w ca p.acts
 k:RuK w ra p.rules
theorem PnA.below {w w':World} {p:Pl.Plan} {ta va ra la aa ca:Option Addr} (h:PnA w p ta va ra la aa ca) (k:Below w.heap.size w w'):PnA w' p ta va ra la aa ca :=
 ⟨h.t.below k,h.v.below k,h.r.below k,h.l.below k,h.a.below k,h.c.below k,h.k.below h.r k⟩
def PnV (w:World) (v:Value) (p:Pl.Plan):Prop:=∃ ta tc va vc ra rc la lc aa ac ca cc,
 v=.agg #[.slice ta p.terms.length tc,.slice va p.vars.length vc,.slice ra p.rules.length rc,.slice la p.levels.length lc,.slice aa p.assocs.length ac,.slice ca p.acts.length cc]∧PnA w p ta va ra la aa ca
theorem PnV.below {w w':World} {v:Value} {p:Pl.Plan} (h:PnV w v p) (k:Below w.heap.size w w'):PnV w' v p:=by
 obtain ⟨ta,tc,va,vc,ra,rc,la,lc,aa,ac,ca,cc,e,h⟩:=h
 exact ⟨ta,tc,va,vc,ra,rc,la,lc,aa,ac,ca,cc,e,h.below k⟩
theorem slice_eq {a b:Option Addr} {n m c d:Nat} (h:Value.slice a n c=.slice b m d):a=b∧n=m∧c=d:=by injection h with h1 h2 h3; exact ⟨h1,h2,h3⟩
theorem strs_of {w:World} {B n:Nat} {v:Value} {l:List ByteArray} (h:(rS v n l).own w B) (hn:l.length=n):∃ a c,v=.slice a l.length c∧Strs w a l:=by
 obtain ⟨a,c,e,_⟩:=RowV.of_owns h
 have e':v=.slice a n c:=e
 subst e' hn
 exact ⟨a,c,rfl,Strs.of_owns h rfl⟩
theorem ints_of {w:World} {B n:Nat} {v:Value} {l:List Int} (h:(rI v n l).own w B) (hn:l.length=n):∃ a c,v=.slice a l.length c∧Ints w a l:=by
 obtain ⟨a,c,e,_⟩:=RowV.of_owns h
 have e':v=.slice a n c:=e
 subst e' hn
 exact ⟨a,c,rfl,Ints.of_owns h⟩
theorem nats_of {w:World} {B n:Nat} {v:Value} {l:List Nat} (h:(rN v n l).own w B) (hn:l.length=n):∃ a c,v=.slice a l.length c∧Ints w a (natI' l):=by
 have h':(rI v n (natI' l)).own w B:=by
  have:rN v n l=rI v n (natI' l):=by unfold rN rI; rw [natV_eq]
  rwa [this] at h
 obtain ⟨a,c,e,hi⟩:=ints_of h' (by simpa [natI'] using hn)
 exact ⟨a,c,by rw [e]; simp [natI'],hi⟩
theorem rI_cap {w:World} {B m n nc:Nat} {na:Option Addr} {l:List Int} (h:(rI (.slice na m nc) n l).own w B):m≤nc:=by
 rcases h.2 with ⟨e,_⟩ | ⟨g,cap,cur,e,_,_,hc,_⟩
 ·have e':Value.slice na m nc=.slice none 0 0:=e
  cases e'
  exact Nat.le_refl _
 ·have e':Value.slice na m nc=.slice (some ⟨g,0,none⟩) n cap:=e
  cases e'
  exact hc
theorem ruV_of {w:World} {B n:Nat} {v:Value} {l:List Pl.Prod} {ns:List Value} (h:(rP v n l ns).own w B) (hn:l.length=n) (hns:ns.length=l.length) (hx:∀ r ∈ rX l ns,r.own w B):∃ a c,v=.slice a l.length c∧RuV w a l∧RuK w a l:=by
 obtain ⟨a,c,e,hr⟩:=RowV.of_owns h
 have e':v=.slice a n c:=e
 subst e' hn
 refine ⟨a,c,rfl,fun i hi=>?_,fun i hi b off na nc ea hcell=>?_⟩
 rotate_left
 ·obtain ⟨b',off',e',hb,hc⟩:=hr i hi
  rw [ea] at e'
  cases e'
  obtain ⟨e0,e1,e2⟩:=pdC_at l ns i hi (by omega)
  have hz:i < (l.zip ns).length:=by simp; omega
  have hm:rI ns[i] l[i].right.length l[i].right ∈ rX l ns:=by
   unfold rX
   exact List.mem_map.2 ⟨(l.zip ns)[i],List.getElem_mem hz,by simp⟩
  have hw:=hx _ hm
  have e9:ns[i]=.slice na l[i].right.length nc:=Option.some.inj (((hc 1 (show 1 < 3 by decide)).trans e1).symm.trans hcell)
  rw [e9] at hw
  exact rI_cap hw
 obtain ⟨b,off,rfl,hb,hc⟩:=hr i hi
 obtain ⟨e0,e1,e2⟩:=pdC_at l ns i hi (by omega)
 have hz:i < (l.zip ns).length:=by simp; omega
 have hm:rI ns[i] l[i].right.length l[i].right ∈ rX l ns:=by
  unfold rX
  exact List.mem_map.2 ⟨(l.zip ns)[i],List.getElem_mem hz,by simp⟩
 obtain ⟨a9,c9,e9,h9⟩:=ints_of (hx _ hm) rfl
 exact ⟨b,off,a9,c9,rfl,(hc 0 (show 0 < 3 by decide)).trans e0,(hc 1 (show 1 < 3 by decide)).trans (e1.trans (by rw [e9])),(hc 2 (show 2 < 3 by decide)).trans e2,h9⟩
theorem pnV_of {w:World} {B:Nat} {T V R L A C:Value} {n1 n2 n3 n4 n5 n6:Nat} {ns:List Value} {p:Pl.Plan} (h:∀ r ∈ ([rS T n1 p.terms,rS V n2 p.vars,rP R n3 p.rules ns,rN L n4 p.levels,rI A n5 p.assocs,rS C n6 p.acts]++rX p.rules ns),r.own w B)
  (h1:p.terms.length=n1) (h2:p.vars.length=n2) (h3:p.rules.length=n3) (h4:p.levels.length=n4) (h5:p.assocs.length=n5) (h6:p.acts.length=n6) (hns:ns.length=p.rules.length):PnV w (.agg #[T,V,R,L,A,C]) p:=by
 obtain ⟨ta,tc,rfl,g1⟩:=strs_of (h (rS T n1 p.terms) (by simp)) h1
 obtain ⟨va,vc,rfl,g2⟩:=strs_of (h (rS V n2 p.vars) (by simp)) h2
 obtain ⟨ra,rc,rfl,g3,g7⟩:=ruV_of (h (rP R n3 p.rules ns) (by simp)) h3 hns (fun r hr=>h r (by simp [hr]))
 obtain ⟨la,lc,rfl,g4⟩:=nats_of (h (rN L n4 p.levels) (by simp)) h4
 obtain ⟨aa,ac,rfl,g5⟩:=ints_of (h (rI A n5 p.assocs) (by simp)) h5
 obtain ⟨ca,cc,rfl,g6⟩:=strs_of (h (rS C n6 p.acts) (by simp)) h6
 exact ⟨ta,tc,va,vc,ra,rc,la,lc,aa,ac,ca,cc,rfl,g1,g2,g3,g4,g5,g6,g7⟩
theorem plan_size:(Tryd.prog.info? 32).map (·.size)=some 6:=by kernel_rfl
/-- Three results: a variable of a struct's type, and two slots. -/
theorem results_row_two {P:Program} {fn:Func} {p p1 p2:Tmp} {ty:TypeId} (h:fn.results=#[.cell p ty,.tmp p1,.tmp p2]) (tmps:Array Value) (w:World) (v1 v2:Value) (g:Nat) (t:TypeId) (cs:Array Value) (fr:Nat×Nat) (d:TypeDesc)
  (hp:tmps.getD p undef=.pointer (some ⟨g,0,none⟩)) (hv1:tmps.getD p1 undef=v1) (hv2:tmps.getD p2 undef=v2) (hg:w.heap[g]?=some (.cells cs t fr))
  (hu:P.underlying ty=some d) (hd:(match d with | .struct _ | .array _ _=>true | _=>false)=true) (hi:(P.info? ty).map (·.size)=some cs.size) :
  (results fn tmps).run P w=.ok (.tuple #[.agg cs,v1,v2]) w:=by
 have hp':tmps[p]?.getD undef=.pointer (some ⟨g,0,none⟩):=by simpa using hp
 have hv1':tmps[p1]?.getD undef=v1:=by simpa using hv1
 have hv2':tmps[p2]?.getD undef=v2:=by simpa using hv2
 simp [results,h,hp',hv1',hv2',asAddr,run_loadVar_row w g t ty cs fr d hg hu hd hi]
end Go.Proofs.YtjbggogbnckllaaDoor
end
