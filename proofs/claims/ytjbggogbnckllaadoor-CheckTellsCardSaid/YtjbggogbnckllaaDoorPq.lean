/-
  The patterns of a grammar that is read are short (plain).
-/
import Derived.Test.YtjbggogbnckllaaDoorAh
import Derived.Test.YtjbggogbnckllaaDoorAi
import Derived.Test.YtjbggogbnckllaaDoorLy
namespace Go.Proofs.YtjbggogbnckllaaDoor
open Go.RowKit
set_option linter.unusedVariables false
set_option linter.unusedSimpArgs false
namespace Sh
open Lx (S)
open Rd (St)
theorem cut_len (s:S) (a b:Nat):(Lx.cut s a b).size≤s.size:=by
 unfold Lx.cut
 rw [ByteArray.size_extract]
 omega
def SF (F:Lx.Found):Prop:=F.text.size≤100000
theorem sf_ite {c:Prop} [Decidable c] {a b:Lx.Found} (h1:c→SF a) (h2:¬ c→SF b):SF (if c then a else b):=by
 by_cases h:c
 ·rw [if_pos h]; exact h1 h
 ·rw [if_neg h]; exact h2 h
theorem sf_bad (c:Int) (i:Nat):SF (Lx.bad c i):=by show (0:Nat)≤100000; omega
theorem sf_E (k:Int) (e:Nat):SF ⟨k,ByteArray.empty,e,0,0⟩:=by show (0:Nat)≤100000; omega
theorem text_sh (s:S) (frm:Nat):∀ (f:Nat) (out:S) (i:Nat),SF (Lx.text s frm f out i):=by
 intro f
 induction f with
 | zero=>intro out i; exact sf_bad _ _
 | succ f ih =>
  intro out i
  rw [Lx.text]
  refine sf_ite (fun _=>sf_bad _ _) fun _=>sf_ite (fun _=>sf_bad _ _) fun _=>sf_ite (fun _=>sf_ite (fun _=>sf_bad _ _) fun _=>sf_ite (fun _=>sf_bad _ _) fun h=>?_) fun _=>sf_ite (fun _=>sf_ite (fun _=>ih _ _) fun _=>sf_bad _ _) fun _=>ih _ _
  show out.size≤100000
  omega
theorem cls_sh (s:S) (frm:Nat):∀ (f:Nat) (has:Int→Bool) (any:Bool) (single:Int) (i:Nat),SF (Lx.cls s frm f has any single i):=by
 intro f
 induction f with
 | zero=>intro has any single i; exact sf_bad _ _
 | succ f ih =>
  intro has any single i
  rw [Lx.cls]
  refine sf_ite (fun _=>sf_bad _ _) fun _=>sf_ite (fun _=>sf_bad _ _) fun _=>sf_ite (fun _=>sf_ite (fun _=>?_) fun _=>sf_bad _ _) fun _=>sf_ite (fun _=>sf_bad _ _) fun _=>sf_ite (fun _=>sf_bad _ _) fun _=>sf_ite (fun _=>sf_bad _ _) fun _=>sf_ite (fun _=>sf_bad _ _) fun _=>sf_ite (fun _=>sf_bad _ _) fun _=>sf_ite (fun _=>ih _ _ _ _) fun _=>ih _ _ _ _
  have:=outOf_len has 256
  show (Lx.outOf has 256).size≤100000
  omega
theorem action_sh (s:S) (hs:s.size≤4000) (frm:Nat):∀ (f o i:Nat),SF (Lx.action s frm f o i):=by
 intro f
 induction f with
 | zero=>intro o i; exact sf_bad _ _
 | succ f ih =>
  intro o i
  rw [Lx.action]
  refine sf_ite (fun _=>sf_bad _ _) fun _=>sf_ite (fun _=>sf_bad _ _) fun _=>sf_ite (fun _=>sf_ite (fun _=>sf_bad _ _) fun _=>?_) fun _=>ih _ _
  have:=cut_len s (frm+1) i
  show (Lx.cut s (frm+1) i).size≤100000
  omega
theorem word_sh (s:S) (hs:s.size≤4000) (frm:Nat):SF (Lx.word s frm):=by
 have h:=cut_len s (frm+1) (Lx.run s Lx.lower s.size (frm+1))
 have ht:(if frm+1 < s.size∧Lx.at_ s (frm+1)=37 then (⟨#[37]⟩:S) else Lx.cut s (frm+1) (Lx.run s Lx.lower s.size (frm+1))).size≤100000:=by
  by_cases hc:frm+1 < s.size∧Lx.at_ s (frm+1)=37
  ·rw [if_pos hc]; show (1:Nat)≤100000; omega
  ·rw [if_neg hc]; omega
 unfold Lx.word
 exact sf_ite (fun _=>ht) fun _=>sf_bad _ _
theorem next_sh (s:S) (hs:s.size≤4000) (i:Nat):SF (Lx.next s i):=by
 have h5:=cut_len s i (Lx.run s (fun c=>Lx.letter c||Lx.digit c) s.size i)
 unfold Lx.next
 refine sf_ite (fun _=>sf_E _ _) fun _=>sf_ite (fun _=>sf_E _ _) fun _=>sf_ite (fun _=>sf_ite (fun _=>sf_bad _ _) fun _=>?_) fun _=>sf_ite (fun _=>word_sh s hs i) fun _=>sf_ite (fun _=>text_sh _ _ _ _ _) fun _=>sf_ite (fun _=>cls_sh _ _ _ _ _ _ _) fun _=>sf_ite (fun _=>action_sh s hs _ _ _ _) fun _=>sf_ite (fun _=>sf_E _ _) fun _=>sf_ite (fun _=>sf_E _ _) fun _=>sf_ite (fun _=>sf_E _ _) fun _=>sf_ite (fun _=>sf_E _ _) fun _=>sf_bad _ _
 show (Lx.cut s i _).size≤100000
 omega
theorem lexF_sh (s:S) (hs:s.size≤4000):∀ (f:Nat) (out:List Lx.Mark) (i:Nat),(∀ m ∈ out,m.text.size≤100000)→∀ m ∈ (Lx.lexF s f out i).1,m.text.size≤100000:=by
 intro f
 induction f with
 | zero =>
  intro out i h m hm
  rw [Lx.lexF] at hm
  rcases List.mem_append.1 hm with hm | hm
  ·exact h m hm
  ·rw [List.mem_singleton.1 hm]; simp
 | succ f ih =>
  intro out i h m hm
  rw [Lx.lexF] at hm
  split at hm
  ·rcases List.mem_append.1 hm with hm | hm
   ·exact h m hm
   ·rw [List.mem_singleton.1 hm]; simp
  ·simp only at hm
   split at hm
   ·cases hm
   ·refine ih _ _ ?_ m hm
    intro m' hm'
    split at hm'
    ·rcases List.mem_append.1 hm' with hm' | hm'
     ·exact h m' hm'
     ·rw [List.mem_singleton.1 hm']; exact next_sh s hs i
    ·exact h m' hm'
section
variable {l:List Lx.Mark} (hl:∀ m ∈ l,m.text.size≤100000)
def PS (r:St):Prop:=(∀ x ∈ r.g.toks,x.pat.s.size≤100000)∧∀ x ∈ r.g.skips,x.s.size≤100000
theorem PS.of {r r':St} (h:PS r) (e1:r'.g.toks=r.g.toks) (e2:r'.g.skips=r.g.skips):PS r':=by unfold PS; rw [e1,e2]; exact h
include hl in
theorem now_sh (r:St):(Rd.now l r).text.size≤100000:=by
 unfold Rd.now
 split
 ·exact hl _ (List.getElem_mem _)
 ·show (0:Nat)≤100000; omega
theorem take_m (r:St) (k:Int):(Rd.take l r k).1=Rd.now l r:=by unfold Rd.take; simp only; split<;>rfl
include hl in
theorem pattern_sh (r:St):(Rd.pattern l r).1.s.size≤100000:=by
 unfold Rd.pattern
 simp only
 split
 ·show (0:Nat)≤100000; omega
 ·show ((Rd.take l r 4).1.text).size≤100000
  rw [take_m]; exact now_sh hl r
theorem names_gr:∀ (f:Nat) (r:St) (x:Rd.Lev),(Rd.names l f r x).1.g=r.g:=by
 intro f
 induction f with
 | zero=>intro r x; rfl
 | succ f ih =>
  intro r x
  rw [Rd.names]
  split
  ·simp only
   rw [ih]
   split
   ·rw [fail_g,take_g]
   ·rw [take_g]
  ·rfl
theorem rights_gr:∀ (f:Nat) (r:St) (x:List S) (q:St×List S),Rd.rights l f r x=some q→q.1.g=r.g:=by
 intro f
 induction f with
 | zero=>intro r x q h; rw [Rd.rights] at h; cases h; rfl
 | succ f ih =>
  intro r x q h
  rw [Rd.rights] at h
  split at h
  ·split at h
   ·cases h
   ·rw [ih _ _ _ h]
  ·cases h; rfl
theorem rightsEnd_gr:∀ (f:Nat) (r:St) (x:List S),(Rd.rightsEnd l f r x).g=r.g:=by
 intro f
 induction f with
 | zero=>intro r x; rfl
 | succ f ih =>
  intro r x
  rw [Rd.rightsEnd]
  split
  ·split
   ·rw [fail_g]
   ·rw [ih]
  ·rfl
theorem ps_ite {c:Prop} [Decidable c] {a b:St} (h1:PS a) (h2:PS b):PS (if c then a else b):=by
 by_cases h:c
 ·rw [if_pos h]; exact h1
 ·rw [if_neg h]; exact h2
theorem ps_fail {r:St} (c:Int) (p:Lx.Pos) (h:PS r):PS (Rd.fail r c p):=by unfold PS; rw [fail_g]; exact h
theorem ps_take {r:St} (k:Int) (h:PS r):PS (Rd.take l r k).2:=by unfold PS; rw [take_g]; exact h
theorem ps_pattern {r:St} (h:PS r):PS (Rd.pattern l r).2:=by unfold PS; rw [pattern_g]; exact h
theorem ps_names {r:St} (f:Nat) (x:Rd.Lev) (h:PS r):PS (Rd.names l f r x).1:=by unfold PS; rw [names_gr]; exact h
theorem ps_tok {r:St} (x:Rd.Tok) (hx:x.pat.s.size≤100000) (h:PS r):PS { r with g:={ r.g with toks:=r.g.toks++[x] } } :=
 ⟨fun y hy=>by
  rcases List.mem_append.1 hy with hy | hy
  ·exact h.1 y hy
  ·rw [List.mem_singleton.1 hy]; exact hx,h.2⟩
theorem ps_skip {r:St} (x:Rd.Pat) (hx:x.s.size≤100000) (h:PS r):PS { r with g:={ r.g with skips:=r.g.skips++[x] } } :=
 ⟨h.1,fun y hy=>by
  rcases List.mem_append.1 hy with hy | hy
  ·exact h.2 y hy
  ·rw [List.mem_singleton.1 hy]; exact hx⟩
include hl in
theorem declaration_ps {r:St} (w:Lx.Mark) (h:PS r):PS (Rd.declaration l r w):=by
 unfold Rd.declaration
 refine ps_ite ?_ (ps_ite ?_ (ps_ite ?_ (ps_ite ?_ (ps_fail _ _ h))))
 ·refine ps_ite ?_ (ps_tok _ (pattern_sh hl _) (ps_pattern ?_))
  ·exact ps_ite (ps_fail _ _ (ps_ite (ps_fail _ _ (ps_take _ h)) (ps_take _ h))) (ps_ite (ps_fail _ _ (ps_take _ h)) (ps_take _ h))
  ·exact ps_ite (ps_fail _ _ (ps_ite (ps_fail _ _ (ps_take _ h)) (ps_take _ h))) (ps_ite (ps_fail _ _ (ps_take _ h)) (ps_take _ h))
 ·exact ps_ite (ps_fail _ _ h) (ps_skip _ (pattern_sh hl _) (ps_pattern h))
 ·refine ps_ite (ps_fail _ _ h) ?_
  exact PS.of (ps_names _ _ h) rfl rfl
 ·refine ps_ite (ps_fail _ _ h) ?_
  exact PS.of (ps_take (l:=l) 1 (r:={ r with start:=true }) (PS.of h rfl rfl)) rfl rfl
theorem alternative_ps {r:St} (left:S) (h:PS r):PS (Rd.alternative l r left):=by
 unfold Rd.alternative
 refine ps_ite (ps_fail _ _ h) ?_
 cases hr:Rd.rights l (l.length+1) r [] with
 | none=>unfold PS; simp only; rw [rightsEnd_gr]; exact h
 | some q =>
  obtain ⟨r1,x⟩:=q
  have hg:r1.g=r.g:=rights_gr _ _ _ _ hr
  have h1:PS r1:=by unfold PS; rw [hg]; exact h
  simp only
  have h2:PS (if ((Rd.now l r1).kind == 2&&Lx.eqS (Rd.now l r1).text Rd.wPrec)=true then ((Rd.take l { r1 with i:=r1.i+1 } 1).1.text,(Rd.take l { r1 with i:=r1.i+1 } 1).2) else (Rd.E,r1)).2:=by
   split
   ·exact ps_take _ (PS.of h1 rfl rfl)
   ·exact h1
  generalize (if ((Rd.now l r1).kind == 2&&Lx.eqS (Rd.now l r1).text Rd.wPrec)=true then ((Rd.take l { r1 with i:=r1.i+1 } 1).1.text,(Rd.take l { r1 with i:=r1.i+1 } 1).2) else (Rd.E,r1))=pr at *
  have h3:PS (if (Rd.ok pr.2&&(Rd.now l pr.2).kind == 9)=true then ((Rd.now l pr.2).text,{ pr.2 with i:=pr.2.i+1 }) else (Rd.E,pr.2)).2:=by
   split
   ·exact PS.of h2 rfl rfl
   ·exact h2
  exact PS.of h3 rfl rfl
include hl in
theorem heads_ps:∀ (f:Nat) (r:St),PS r→PS (Rd.heads l f r):=by
 intro f
 induction f with
 | zero=>intro r h; exact h
 | succ f ih =>
  intro r h
  rw [Rd.heads]
  refine ps_ite (ps_ite (ps_fail _ _ h) (ps_ite (PS.of h rfl rfl) (ih _ (declaration_ps hl _ (PS.of h rfl rfl))))) h
theorem alts_ps (left:S):∀ (f:Nat) (r:St),PS r→PS (Rd.alts l left f r):=by
 intro f
 induction f with
 | zero=>intro r h; exact h
 | succ f ih =>
  intro r h
  rw [Rd.alts]
  refine ps_ite (ps_ite (ps_take _ (alternative_ps left h)) (ih _ (PS.of (alternative_ps (l:=l) left h) rfl rfl))) h
theorem rules_ps:∀ (f:Nat) (r:St),PS r→PS (Rd.rules l f r):=by
 intro f
 induction f with
 | zero=>intro r h; exact h
 | succ f ih =>
  intro r h
  rw [Rd.rules]
  exact ps_ite (ih _ (alts_ps _ _ _ (ps_take _ (ps_take _ h)))) h
include hl in
theorem marks_ps:(∀ x ∈ (Rd.marks l).1.toks,x.pat.s.size≤100000)∧∀ x ∈ (Rd.marks l).1.skips,x.s.size≤100000:=by
 have h0:PS ⟨0,Rd.gr0,false,⟨0,0,0⟩⟩:=⟨fun x hx=>(by cases hx),fun x hx=>(by cases hx)⟩
 have h:=rules_ps (l:=l) (l.length+2) _ (heads_ps hl (l.length+2) _ h0)
 unfold Rd.marks
 simp only
 generalize Rd.rules l (l.length+2) (Rd.heads l (l.length+2) ⟨0,Rd.gr0,false,⟨0,0,0⟩⟩)=r at *
 split
 ·exact h0
 ·split
  ·exact h
  ·exact h
end
end Sh
theorem read_sz (s:ByteArray) (hs:s.size≤4000) (ho:GrOk (Rd.read s).1):GrSz (Rd.read s).1:=by
 have h:(∀ x ∈ (Rd.read s).1.toks,x.pat.s.size≤100000)∧∀ x ∈ (Rd.read s).1.skips,x.s.size≤100000:=by
  unfold Rd.read
  simp only
  split
  ·exact ⟨fun x hx=>(by cases hx),fun x hx=>(by cases hx)⟩
  ·refine Sh.marks_ps ?_
   unfold Lx.lex
   rw [if_neg (by omega)]
   exact Sh.lexF_sh s hs _ _ _ (fun m hm=>by cases hm)
 exact ⟨h.1,h.2,ho.ln⟩
end Go.Proofs.YtjbggogbnckllaaDoor
