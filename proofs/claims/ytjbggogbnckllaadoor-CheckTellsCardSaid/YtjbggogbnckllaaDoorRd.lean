/-
  What the reference's reader computes, in plain words: the same tests in the same order, over a list of marks.
-/
import Derived.Test.YtjbggogbnckllaaDoorLx
namespace Go.Proofs.YtjbggogbnckllaaDoor
namespace Rd
open Lx (S Mark Diag Pos)
/-- A pattern: its text, its set, whether there are many. -/
structure Pat where
 t:S
 s:S
 m:Bool
structure Tok where
 name:S
 pat:Pat
structure Lev where
 assoc:Int
 names:List S
structure Rul where
 left:S
 right:List S
 prec:S
 action:S
structure Gr where
 toks:List Tok
 skips:List Pat
 levs:List Lev
 start:S
 rules:List Rul
def E:S:=⟨#[]⟩
def gr0:Gr:=⟨[],[],[],E,[]⟩
def mark0:Mark:=⟨0,E,⟨0,0⟩⟩
/-- The reader, but for its marks. -/
structure St where
 i:Nat
 g:Gr
 start:Bool
 bad:Diag
def now (l:List Mark) (r:St):Mark:=if h:r.i < l.length then l[r.i] else mark0
def fail (r:St) (code:Int) (p:Pos):St:=if r.bad.code == 0 then { r with bad:=⟨code,p.line,p.col⟩ } else r
def ok (r:St):Bool:=r.bad.code == 0
def take (l:List Mark) (r:St) (kind:Int):Mark×St :=
 let m:=now l r
 if m.kind != kind then (m,fail r 14 m.pos) else (m,{ r with i:=r.i+1 })
def pattern (l:List Mark) (r:St):Pat×St :=
 let m:=now l r
 if m.kind == 3 then (⟨m.text,E,false⟩,{ r with i:=r.i+1 })
 else
  let c:=(take l r 4).1
  let r:=(take l r 4).2
  let many:=(now l r).kind == 5&&ok r
  (⟨E,c.text,many⟩,if many then { r with i:=r.i+1 } else r)
def declared (g:Gr) (name:S):Bool:=g.toks.any fun t=>Lx.eqS t.name name
def level (ls:List Lev) (name:S):Bool:=ls.any fun l=>Lx.isIn name l.names
def wToken:S:=⟨#[116,111,107,101,110]⟩
def wSkip:S:=⟨#[115,107,105,112]⟩
def wLeft:S:=⟨#[108,101,102,116]⟩
def wRight:S:=⟨#[114,105,103,104,116]⟩
def wNon:S:=⟨#[110,111,110,97,115,115,111,99]⟩
def wStart:S:=⟨#[115,116,97,114,116]⟩
def wPrec:S:=⟨#[112,114,101,99]⟩
def wPer:S:=⟨#[37]⟩
/-- The names of a level. -/
def names (l:List Mark):Nat→St→Lev→St×Lev
 | 0,r,x=>(r,x)
 | f+1,r,x =>
  if ok r&&(x.names.length == 0||(now l r).kind == 1) then
   let m:=(take l r 1).1
   let r:=(take l r 1).2
   let r:=if ok r&&(level r.g.levs m.text||level [x] m.text) then fail r 15 m.pos else r
   names l f r { x with names:=x.names++[m.text] }
  else (r,x)
def declaration (l:List Mark) (r:St) (w:Mark):St :=
 if Lx.eqS w.text wToken then
  let m:=(take l r 1).1
  let r:=(take l r 1).2
  let r:=if ok r&&declared r.g m.text then fail r 15 m.pos else r
  let r:=if r.g.toks.length == 20 then fail r 3 m.pos else r
  if !ok r then r
  else
   let p:=(pattern l r).1
   let r:=(pattern l r).2
   { r with g:={ r.g with toks:=r.g.toks++[⟨m.text,p⟩] } }
 else if Lx.eqS w.text wSkip then
  if r.g.skips.length == 4 then fail r 3 w.pos
  else
   let p:=(pattern l r).1
   let r:=(pattern l r).2
   { r with g:={ r.g with skips:=r.g.skips++[p] } }
 else if Lx.eqS w.text wLeft||Lx.eqS w.text wRight||Lx.eqS w.text wNon then
  if r.g.levs.length == 10 then fail r 3 w.pos
  else
   let a:Int:=if Lx.eqS w.text wNon then 3 else if Lx.eqS w.text wRight then 2 else 1
   let q:=names l (l.length+2) r ⟨a,[]⟩
   { q.1 with g:={ q.1.g with levs:=q.1.g.levs++[q.2] } }
 else if Lx.eqS w.text wStart then
  if r.start then fail r 15 w.pos
  else
   let r:={ r with start:=true }
   let m:=(take l r 1).1
   let r:=(take l r 1).2
   { r with g:={ r.g with start:=m.text } }
 else fail r 14 w.pos
/-- A rule's Right; none: it is too long. -/
def rights (l:List Mark):Nat→St→List S→Option (St×List S)
 | 0,r,x=>some (r,x)
 | f+1,r,x =>
  if (now l r).kind == 1 then
   if x.length == 8 then none
   else rights l f { r with i:=r.i+1 } (x++[(now l r).text])
  else some (r,x)
def rightsEnd (l:List Mark):Nat→St→List S→St
 | 0,r,_=>r
 | f+1,r,x =>
  if (now l r).kind == 1 then
   if x.length == 8 then fail r 3 (now l r).pos
   else rightsEnd l f { r with i:=r.i+1 } (x++[(now l r).text])
  else r
def alternative (l:List Mark) (r:St) (left:S):St :=
 if r.g.rules.length == 40 then fail r 3 (now l r).pos
 else
  match rights l (l.length+1) r [] with
  | none=>rightsEnd l (l.length+1) r []
  | some (r,right) =>
   let pr:S×St:=if (now l r).kind == 2&&Lx.eqS (now l r).text wPrec then
     let r:={ r with i:=r.i+1 }
     ((take l r 1).1.text,(take l r 1).2)
    else (E,r)
   let r:=pr.2
   let ac:S×St:=if ok r&&(now l r).kind == 9 then ((now l r).text,{ r with i:=r.i+1 }) else (E,r)
   let r:=ac.2
   { r with g:={ r.g with rules:=r.g.rules++[⟨left,right,pr.1,ac.1⟩] } }
/-- The declarations. -/
def heads (l:List Mark):Nat→St→St
 | 0,r=>r
 | f+1,r =>
  if ok r then
   let w:=now l r
   if w.kind != 2 then fail r 14 w.pos
   else
    let r:={ r with i:=r.i+1 }
    if Lx.eqS w.text wPer then r else heads l f (declaration l r w)
  else r
def alts (l:List Mark) (left:S):Nat→St→St
 | 0,r=>r
 | f+1,r =>
  if ok r then
   let r:=alternative l r left
   if (now l r).kind != 7 then (take l r 8).2 else alts l left f { r with i:=r.i+1 }
  else r
def rules (l:List Mark):Nat→St→St
 | 0,r=>r
 | f+1,r =>
  if ok r&&(r.g.rules.length == 0||(now l r).kind != 0) then
   let left:=(take l r 1).1.text
   let r:=(take l r 1).2
   let r:=(take l r 6).2
   rules l f (alts l left (l.length+1) r)
  else r
def marks (l:List Mark):Gr×Diag :=
 let r:=rules l (l.length+2) (heads l (l.length+2) ⟨0,gr0,false,⟨0,0,0⟩⟩)
 if !ok r then (gr0,r.bad)
 else if !r.start then ({ r.g with start:=(r.g.rules.headD ⟨E,[],E,E⟩).left },⟨0,0,0⟩) else (r.g,⟨0,0,0⟩)
def read (s:S):Gr×Diag :=
 let q:=Lx.lex s
 if q.2.code != 0 then (gr0,q.2) else marks q.1
end Rd
end Go.Proofs.YtjbggogbnckllaaDoor
