/-
  What the reference's lexer computes, in plain words: the same tests in the same order, over a text's bytes.
-/
namespace Go.Proofs.YtjbggogbnckllaaDoor
namespace Lx
abbrev S:=ByteArray
/-- The byte at a place. -/
def at_ (s:S) (i:Nat):Int:=if h:i < s.size then ((s[i].toNat:Nat):Int) else 0
theorem at_of {s:S} {i:Nat} (h:i < s.size):at_ s i=((s[i].toNat:Nat):Int):=by simp [at_,h]
def one (c:Int):S:=⟨#[UInt8.ofNat c.toNat]⟩
def cut (s:S) (i j:Nat):S:=s.extract i j
def letter (c:Int):Bool:=c == 95||(decide (97≤c)&&decide (c≤122))||(decide (65≤c)&&decide (c≤90))
def digit (c:Int):Bool:=decide (48≤c)&&decide (c≤57)
/-- A place: its line, its column. -/
structure Pos where
 line:Nat
 col:Nat
deriving DecidableEq
def posF (s:S):Nat→Pos
 | 0=>⟨1,1⟩
 | n+1=>if at_ s n=10 then ⟨(posF s n).line+1,1⟩ else ⟨(posF s n).line,(posF s n).col+1⟩
structure Found where
 kind:Int
 text:S
 to:Nat
 code:Int
 bad:Nat
def bad (code:Int) (i:Nat):Found:=⟨0,ByteArray.empty,0,code,i⟩
/-- What stands behind a backslash. -/
def told (s:S) (i:Nat) (cls:Bool):Int×Bool :=
 if s.size≤i+1 then (0,false)
 else
  let c:=at_ s (i+1)
  if c == 110 then (10,true) else if c == 116 then (9,true)
  else if c == 92||(c == 34&&!cls)||((c == 93||c == 45)&&cls) then (c,true) else (0,false)
def text (s:S) (frm:Nat):Nat→S→Nat→Found
 | 0,_,_=>bad 11 frm
 | f+1,out,i =>
  if s.size≤i then bad 11 frm
  else if at_ s i == 10 then bad 11 frm
  else if at_ s i == 34 then
   if out.size=0 then bad 10 frm else if 32 < out.size then bad 12 frm else ⟨3,out,i+1,0,0⟩
  else if at_ s i == 92 then
   if (told s i false).2 then text s frm f (out++one (told s i false).1) (i+2) else bad 10 i
  else text s frm f (out++cut s i (i+1)) (i+1)
/-- The bytes of a class, in their order. -/
def outOf (has:Int→Bool):Nat→S
 | 0=>ByteArray.empty
 | c+1=>if has c then outOf has c++one c else outOf has c
def cls (s:S) (frm:Nat):Nat→(Int→Bool)→Bool→Int→Nat→Found
 | 0,_,_,_,_=>bad 11 frm
 | f+1,has,any,single,i =>
  if s.size≤i then bad 11 frm
  else if at_ s i == 10 then bad 11 frm
  else if at_ s i == 93 then (if any then ⟨4,outOf has 256,i+1,0,0⟩ else bad 10 frm)
  else
   let ranges:=at_ s i == 45
   if ranges&&decide (single < 0) then bad 10 i
   else
    let j:=if ranges then i+1 else i
    if ranges&&(decide (s.size≤j)||at_ s j == 10) then bad 11 frm
    else if ranges&&at_ s j == 93 then bad 10 i
    else
     let esc:=at_ s j == 92
     if esc&&!(told s j true).2 then bad 10 j
     else
      let c:=if esc then (told s j true).1 else at_ s j
      let next:=if esc then j+2 else j+1
      if ranges&&decide (c < single) then bad 10 i
      else if ranges then cls s frm f (fun k=>has k||(decide (single≤k)&&decide (k≤c))) any (-1) next
      else cls s frm f (fun k=>has k||k == c) true c next
def action (s:S) (frm:Nat):Nat→Nat→Nat→Found
 | 0,_,_=>bad 11 frm
 | f+1,open_,i =>
  if s.size≤i then bad 11 frm
  else
   let o:=if at_ s i == 123 then open_+1 else open_
   if 4 < o then bad 13 i
   else
    let o:=if at_ s i == 125 then o - 1 else o
    if o=0 then (if frm+1+200 < i then bad 12 frm else ⟨9,cut s (frm+1) i,i+1,0,0⟩)
    else action s frm f o (i+1)
def run (s:S) (p:Int→Bool):Nat→Nat→Nat
 | 0,i=>i
 | f+1,i=>if i < s.size∧p (at_ s i)=true then run s p f (i+1) else i
/-- Are two texts one? Is a text among others? -/
def eqS (a b:S):Bool:=a.data.toList == b.data.toList
theorem eqS_iff {a b:S}:eqS a b=true↔a=b:=by
 unfold eqS
 rw [beq_iff_eq]
 constructor
 ·intro h; apply ByteArray.ext; exact Array.toList_inj.1 h
 ·rintro rfl; rfl
def isIn (t:S) (l:List S):Bool:=l.any (eqS t)
theorem isIn_iff {t:S} {l:List S}:isIn t l=true↔t ∈ l:=by
 unfold isIn
 rw [List.any_eq_true]
 constructor
 ·rintro ⟨x,hx,h⟩; rw [eqS_iff.1 h]; exact hx
 ·intro h; exact ⟨t,h,eqS_iff.2 rfl⟩
def words:List S:=[⟨#[116,111,107,101,110]⟩,⟨#[115,107,105,112]⟩,⟨#[108,101,102,116]⟩,⟨#[114,105,103,104,116]⟩,⟨#[110,111,110,97,115,115,111,99]⟩,⟨#[115,116,97,114,116]⟩,⟨#[112,114,101,99]⟩,⟨#[37]⟩]
def lower (c:Int):Bool:=decide (97≤c)&&decide (c≤122)
def word (s:S) (frm:Nat):Found :=
 let t:=if frm+1 < s.size∧at_ s (frm+1)=37 then (⟨#[37]⟩:S) else cut s (frm+1) (run s lower s.size (frm+1))
 if isIn t words then ⟨2,t,frm+1+t.size,0,0⟩ else bad 10 frm
def next (s:S) (i:Nat):Found :=
 let c:=at_ s i
 if c == 32||c == 9||c == 10||c == 13 then ⟨-1,ByteArray.empty,i+1,0,0⟩
 else if c == 35 then ⟨-1,ByteArray.empty,run s (fun c=>c != 10) s.size i,0,0⟩
 else if letter c then
  let to:=run s (fun c=>letter c||digit c) s.size i
  if i+32 < to then bad 12 i else ⟨1,cut s i to,to,0,0⟩
 else if c == 37 then word s i
 else if c == 34 then text s i s.size ByteArray.empty (i+1)
 else if c == 91 then cls s i s.size (fun _=>false) false (-1) (i+1)
 else if c == 123 then action s i s.size 0 i
 else if c == 43 then ⟨5,ByteArray.empty,i+1,0,0⟩
 else if c == 58 then ⟨6,ByteArray.empty,i+1,0,0⟩
 else if c == 124 then ⟨7,ByteArray.empty,i+1,0,0⟩
 else if c == 59 then ⟨8,ByteArray.empty,i+1,0,0⟩
 else bad 10 i
/-- A mark. -/
structure Mark where
 kind:Int
 text:S
 pos:Pos
/-- What is wrong, and where. -/
structure Diag where
 code:Int
 line:Nat
 col:Nat
deriving DecidableEq
def lexF (s:S):Nat→List Mark→Nat→List Mark×Diag
 | 0,out,_=>(out++[⟨0,ByteArray.empty,posF s s.size⟩],⟨0,0,0⟩)
 | f+1,out,i =>
  if s.size≤i then (out++[⟨0,ByteArray.empty,posF s s.size⟩],⟨0,0,0⟩)
  else
   let n:=next s i
   if n.code≠0 then ([],⟨n.code,(posF s n.bad).line,(posF s n.bad).col⟩)
   else lexF s f (if 0≤n.kind then out++[⟨n.kind,n.text,posF s i⟩] else out) n.to
def lex (s:S):List Mark×Diag:=if 4000 < s.size then ([],⟨12,1,1⟩) else lexF s s.size [] 0
end Lx
end Go.Proofs.YtjbggogbnckllaaDoor
