/-
  What the references of chapters 7 and 8 compute, in plain words: is a grammar right; its plan; a small grammar.
-/
import Derived.Test.YtjbggogbnckllaaDoorRd
namespace Go.Proofs.YtjbggogbnckllaaDoor
namespace Pl
open Lx (S)
open Rd (Gr Tok Pat Lev Rul E)
/-- All numbers below n are so. -/
def allN (n:Nat) (p:Nat→Bool):Bool:=(List.range n).all p
theorem allN_true {n:Nat} {p:Nat→Bool}:allN n p=true↔∀ i,i < n→p i=true:=by
 unfold allN
 rw [List.all_eq_true]
 exact ⟨fun h i hi=>h i (List.mem_range.2 hi),fun h i hi=>h i (List.mem_range.1 hi)⟩
theorem allN_false {n i:Nat} {p:Nat→Bool} (hi:i < n) (h:p i=false):allN n p=false:=by
 rw [Bool.eq_false_iff]
 intro hh
 rw [allN_true.1 hh i hi] at h
 cases h
def nm (s:S):Bool:=allN s.size (fun i=>Lx.letter (Lx.at_ s i)||(i != 0&&Lx.digit (Lx.at_ s i)))&&s.size != 0
def name (s:S):Bool:=decide (s.size≤32)&&nm s
def okPat (p:Pat):Bool :=
 if p.t.size != 0 then decide (p.t.size≤32)&&p.s.size == 0&&!p.m
 else allN p.s.size (fun i=>i == 0||decide (Lx.at_ p.s (i - 1) < Lx.at_ p.s i))&&p.s.size != 0
def actF (s:S):Nat→Nat→Nat→Bool
 | 0,o,_=>o == 1
 | f+1,o,i =>
  if s.size≤i then o == 1
  else
   let o1:=if Lx.at_ s i == 123 then o+1 else o
   let o2:=if Lx.at_ s i == 125 then o1 - 1 else o1
   if decide (4 < o2)||o2 == 0 then false else actF s f o2 (i+1)
def action (s:S):Bool:=decide (s.size≤200)&&actF s s.size 1 0
def nth (l:List S) (i:Nat):S:=l.getD i E
def once (l:List S):Bool:=allN l.length (fun i=>name (nth l i)&&allN i (fun k=>!Lx.eqS (nth l k) (nth l i)))
def okRule (r:Rul):Bool:=name r.left&&decide (r.right.length≤8)&&(r.prec.size == 0||name r.prec)&&action r.action&&allN r.right.length (fun k=>name (nth r.right k))
def okLev (l:Lev):Bool:=decide (1≤l.assoc)&&decide (l.assoc≤3)&&l.names.length != 0
def right (g:Gr):Bool :=
 decide (g.toks.length≤20)&&decide (g.skips.length≤4)&&decide (g.levs.length≤10)&&decide (1≤g.rules.length)&&decide (g.rules.length≤40)&&name g.start &&
 g.toks.all (fun t=>okPat t.pat)&&g.skips.all okPat&&g.levs.all okLev&&g.rules.all okRule&&once (g.toks.map (·.name))&&once (g.levs.flatMap (·.names))
structure Prod where
 left:Nat
 right:List Int
 level:Nat
structure Plan where
 terms:List S
 vars:List S
 rules:List Prod
 levels:List Nat
 assocs:List Int
 acts:List S
def plan0:Plan:=⟨[],[],[],[],[],[]⟩
/-- A text's place in a list. -/
def placeF (l:List S) (s:S):Nat→Option Nat
 | 0=>none
 | n+1=>match placeF l s n with
  | some i=>some i
  | none=>if Lx.eqS (nth l n) s then some n else none
def place (l:List S) (s:S):Option Nat:=placeF l s l.length
def placeI (l:List S) (s:S):Int:=match place l s with | some i=>i | none=>-1
def levelF (ls:List Lev) (s:S):Nat→Nat
 | 0=>0
 | n+1=>if levelF ls s n != 0 then levelF ls s n else if (place (ls.getD n ⟨0,[]⟩).names s).isSome then n+1 else 0
def level (ls:List Lev) (s:S):Nat:=levelF ls s ls.length
def sym (tm vs:List S) (s:S):Int:=match place tm s with
 | some i=>i
 | none=>match place vs s with | some k=>((tm.length+k:Nat):Int) | none=>-1
def addVar (v:List S) (r:Rul):List S:=if (place v r.left).isSome then v else v++[r.left]
def vars (rs:List Rul):List S:=rs.foldl addVar []
inductive Res (α:Type) where
 | ok:α→Res α
 | bad:S→Res α
def rt (tm vs:List S) (lv:List Nat):List S→List Int→Nat→Res (List Int×Nat)
 | [],l,k=>.ok (l,k)
 | s::r,l,k =>
  if sym tm vs s < 0 then .bad s
  else rt tm vs lv r (l++[sym tm vs s]) (if sym tm vs s < tm.length then lv.getD (sym tm vs s).toNat 0 else k)
def prod (ls:List Lev) (tm vs:List S) (lv:List Nat) (r:Rul):Res Prod :=
 match rt tm vs lv r.right [] 0 with
 | .bad s=>.bad s
 | .ok (l,k) =>
  if r.prec.size == 0 then .ok ⟨(sym tm vs r.left).toNat,l,k⟩
  else if level ls r.prec == 0 then .bad r.prec else .ok ⟨(sym tm vs r.left).toNat,l,level ls r.prec⟩
def prods (ls:List Lev) (tm vs:List S) (lv:List Nat):List Rul→List Prod→Res (List Prod)
 | [],out=>.ok out
 | r::rs,out=>match prod ls tm vs lv r with
  | .bad s=>.bad s
  | .ok x=>prods ls tm vs lv rs (out++[x])
/-- The tokens: their names, their levels; a name that is a variable's. -/
def toks (ls:List Lev) (vs:List S):List Tok→List S→List Nat→Res (List S×List Nat)
 | [],tm,lv=>.ok (tm,lv)
 | t::ts,tm,lv=>if (place vs t.name).isSome then .bad t.name else toks ls vs ts (tm++[t.name]) (lv++[level ls t.name])
def endS:S:=⟨#[36,101,110,100]⟩
def of (g:Gr):Plan×Int×S :=
 if !right g then (plan0,1,E)
 else
  let vs:=vars g.rules
  match toks g.levs vs g.toks [endS] [0] with
  | .bad s=>(plan0,15,s)
  | .ok (tm,lv) =>
   match prods g.levs tm vs lv g.rules [⟨tm.length+vs.length,[sym tm vs g.start],0⟩] with
   | .bad s=>(plan0,16,s)
   | .ok rs=>if (place vs g.start).isSome then (⟨tm,vs,rs,lv,0::g.levs.map (·.assoc),E::g.rules.map (·.action)⟩,0,E) else (plan0,16,g.start)
/-- A small grammar's numbers. -/
structure Sm where
 tokens:Nat
 vars:Nat
 lefts:List Nat
 rights:List (List Nat)
 precs:List Nat
 assocs:List Nat
 levels:List Nat
def few (s:Sm) (rules right:Nat):Bool:=decide (s.lefts.length≤rules)&&decide (s.assocs.length≤5)&&s.rights.all fun r=>decide (r.length≤right)
def ch (c:Nat):S:=⟨#[UInt8.ofNat c]⟩
def tokS (i:Nat):S:=ch (97+i)
def varS (i:Nat):S:=ch ((#[83,84,85,86]:Array Nat).getD i 0)
def levS (i:Nat):S:=ch (112+i)
def nTok (s:Sm):Nat:=s.tokens % 5+1
def nVar (s:Sm):Nat:=s.vars % 4+1
/-- A name is put to a level. -/
def putLev (ls:List Lev) (k:Nat) (nm:S):List Lev:=if k=0 then ls else ls.modify (k - 1) fun l=>⟨l.assoc,l.names++[nm]⟩
def smLevs0 (s:Sm):List Lev:=(List.range s.assocs.length).map fun i=>⟨((s.assocs.getD i 0 % 3+1:Nat):Int),[levS i]⟩
def smLevs (s:Sm):Nat→List Lev
 | 0=>smLevs0 s
 | i+1=>if i < s.levels.length then putLev (smLevs s i) (s.levels.getD i 0 % (s.assocs.length+1)) (tokS i) else smLevs s i
def smName (s:Sm) (x:Nat):S:=let n:=x % (nTok s+nVar s); if nTok s≤n then varS (n - nTok s) else tokS (n % 5)
def smRule (s:Sm) (i:Nat):Rul :=
 ⟨varS (s.lefts.getD i 0 % nVar s),(s.rights.getD i []).map (smName s),
  (if i < s.precs.length∧s.precs.getD i 0 % (s.assocs.length+1)≠0 then levS (s.precs.getD i 0 % (s.assocs.length+1) - 1) else E),E⟩
def smRules0 (s:Sm):List Rul:=(List.range s.lefts.length).map (smRule s)
def addRule (rs:List Rul) (v:Nat):List Rul:=if rs.any (fun r=>Lx.eqS r.left (varS v)) then rs else rs++[⟨varS v,[],E,E⟩]
def smRules (s:Sm):Nat→List Rul
 | 0=>smRules0 s
 | v+1=>addRule (smRules s v) v
def grammar (s:Sm):Gr:=⟨(List.range (nTok s)).map fun i=>⟨tokS i,⟨tokS i,E,false⟩⟩,[],smLevs s (nTok s),ch 83,smRules s (nVar s)⟩
def plan (s:Sm):Plan:=(of (grammar s)).1
end Pl
end Go.Proofs.YtjbggogbnckllaaDoor
