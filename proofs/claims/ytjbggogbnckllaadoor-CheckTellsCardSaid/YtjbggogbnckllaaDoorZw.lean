/-
  What the laws of chapters 9 and 10 want of the size of a small grammar's plan (plain).
  The fixed text of chapter 10: its plan (by the kernel).
  An argument that is a small grammar, opened; an argument that is a slice of bytes, or of numbers; the table that the row lists.
-/
import Derived.Test.YtjbggogbnckllaaDoorBa
import Derived.Test.YtjbggogbnckllaaDoorAk
import Derived.KernelRfl
import Derived.Test.YtjbggogbnckllaaDoorZz
import Derived.Test.YtjbggogbnckllaaDoorBsT
import Derived.ChangeSlices
import Derived.LaidMore
import Derived.LaidLaws
import Derived.LaidHandle
import Derived.MakeChecks
import Derived.OpenShut
import Derived.Lib.SmallJoins
import Derived.Deep.Slices
section
set_option maxRecDepth 100000
namespace Go.Proofs.YtjbggogbnckllaaDoor
open Go.RowKit
set_option linter.unusedVariables false
set_option linter.unusedSimpArgs false
namespace Q
theorem cnt_of {g:Rd.Gr} {p:Pl.Plan} {s:ByteArray} (h:Pl.of g=(p,0,s)):cnt p≤62:=by
 obtain ⟨F,_⟩:=ofF h
 obtain ⟨b1,b2,b3,b4⟩:=right_bounds F.right
 have hv:p.vars.length≤40:=by
  have:=vars_len g.rules g.rules.length (Nat.le_refl _)
  rw [List.take_length] at this
  rw [F.vars]; omega
 have ht:p.terms.length=g.toks.length+1:=by rw [F.terms]; simp
 unfold cnt; omega
theorem rules_of {g:Rd.Gr} {p:Pl.Plan} {s:ByteArray} (h:Pl.of g=(p,0,s)):p.rules.length≤41∧∀ r ∈ p.rules,r.right.length≤8:=by
 obtain ⟨F,_⟩:=ofF h
 obtain ⟨b1,b2,b3,b4⟩:=right_bounds F.right
 refine ⟨by have:=F.len; omega,fun r hr=>?_⟩
 obtain ⟨j,hj,e⟩:=List.getElem_of_mem hr
 cases j with
 | zero =>
  have h0:=F.r0
  rw [List.getElem?_eq_getElem hj] at h0
  rw [← e,Option.some.inj h0]
  simp
 | succ i =>
  have hi:i < g.rules.length:=by have:=F.len; omega
  obtain ⟨x,hx,hx2⟩:=F.r i hi
  rw [List.getElem?_eq_getElem hj] at hx2
  have ex:x=r:=by rw [← e]; exact (Option.some.inj hx2).symm
  subst ex
  obtain ⟨_,e1,_,_⟩:=prod_ok hx
  have h1:=(rt_len e1).1
  have h2:=(b4 _ (List.getElem_mem hi)).1
  simp at h1
  omega
theorem plan_ok {s:Pl.Sm} (hf:Pl.few s 20 8=true):OK (Pl.plan s)∧cnt (Pl.plan s)≤62∧(Pl.plan s).rules.length≤41∧∀ r ∈ (Pl.plan s).rules,r.right.length≤8 :=
 ⟨ok_of (Pl.plan_of s hf),cnt_of (Pl.plan_of s hf),(rules_of (Pl.plan_of s hf)).1,(rules_of (Pl.plan_of s hf)).2⟩
end Q
end Go.Proofs.YtjbggogbnckllaaDoor
end
section
set_option maxRecDepth 100000
namespace Go.Proofs.YtjbggogbnckllaaDoor
open Go.RowKit
set_option linter.unusedVariables false
set_option linter.unusedSimpArgs false
/-- A text that has a plan, and no set in it. -/
structure TxOK (s:ByteArray) (p:Pl.Plan):Prop where
 sz:s.size≤4000
 cls:∀ i,i < s.size→Lx.at_ s i=91→ClassOK s i
 d:(Rd.read s).2.code=0
 of:∃ st,Pl.of (Rd.read s).1=(p,0,st)
 gz:GrSz (Rd.read s).1
 ok:Q.OK p
 cnt:Q.cnt p≤1000
def grB (g:Rd.Gr):Bool:=(g.toks.all fun x=>decide (x.pat.s.size≤100000))&&(g.skips.all fun x=>decide (x.s.size≤100000))&&(g.levs.all fun x=>decide (x.names.length≤5002))
theorem txOK_of {s:ByteArray} (h1:decide (s.size≤4000)=true) (h2:Pl.allN s.size (fun i=>Lx.at_ s i != 91)=true) (h3:(Rd.read s).2.code=0) (h4:(Pl.of (Rd.read s).1).2.1=0) (h5:grB (Rd.read s).1=true) (h6:decide (Q.cnt (Pl.of (Rd.read s).1).1≤1000)=true):TxOK s (Pl.of (Rd.read s).1).1:=by
 have hof:Pl.of (Rd.read s).1=((Pl.of (Rd.read s).1).1,0,(Pl.of (Rd.read s).1).2.2):=by
  rw [← h4]
 refine ⟨of_decide_eq_true h1,fun i hi h=>?_,h3,⟨_,hof⟩,?_,Q.ok_of hof,of_decide_eq_true h6⟩
 ·have:=Pl.allN_true.1 h2 i hi
  rw [h] at this
  cases this
 ·unfold grB at h5
  simp only [Bool.and_eq_true,List.all_eq_true,decide_eq_true_eq] at h5
  exact ⟨h5.1.1,h5.1.2,h5.2⟩
namespace Aw
set_option maxRecDepth 100000
end Aw
end Go.Proofs.YtjbggogbnckllaaDoor
end
section
set_option maxRecDepth 100000
namespace Go.Proofs.YtjbggogbnckllaaDoor
open Go.RowKit Go.ChangeShapes Go.WideShapes Go.Deep Go.Joins
set_option linter.unusedVariables false
theorem spot_none {W:World} {a:Addr} {v:Value} (h0:W.cell? (a.add 0)=some v):a.spot=none:=by
 have this:=h0
 clear h0
 simp [Addr.add] at this
 unfold World.cell? at this
 split at this
 ·split at this
  ·simp at this
  ·rename_i h; simpa using h
 ·simp at this
theorem byts_open {H:Type} {enc:TypeId×Value→H} {W:World} {fuel:Nat} {cs:List Value} {x:DataW H×List MemPlace}
  (h:DataW.trod enc Tryd.prog W 0 (fun _=>true) true fuel 22 cs=some x):∃ a l cap,cs=[.slice a l.length cap]∧Byts W a l∧l.length≤maxLen:=by
 rcases open_slice Tryd.underlying22 h with ⟨rfl,rfl⟩ | ⟨a,len,cap,m,n,D,PL,rfl,hb,hl,hm,hmm,rfl,hx⟩
 ·exact ⟨none,[],0,rfl,fun i hi=>absurd hi (by simp),by simp⟩
 have hc:Tryd.prog.cellsOf 5=1:=by kernel_rfl
 simp only [if_true] at hmm
 obtain ⟨f,hf⟩:=choose_lt (n:=len) (p:=fun i (k:Nat)=>W.cell? (a.add i)=some (.int .u8 (k:Nat))∧k < 256) (fun i hi=>by
  obtain ⟨cs',h1,h2⟩:=hx i (by omega)
  rw [hc,Nat.mul_one] at h1
  obtain ⟨_,hlen,hcell⟩:=World.cells?_some h1
  obtain ⟨k,e1,_,hw⟩:=DataW.trod_int Tryd.underlying5 h2
  have hc0:=hcell 0 (by omega)
  simp only [e1,add_add,Nat.add_zero] at hc0
  have hw':0≤k∧k < 256:=by
   simp [Lit.wf] at hw
   have m0:IntKind.u8.min=0:=by decide
   have m1:IntKind.u8.max=255:=by decide
   omega
  refine ⟨k.toNat,?_,by omega⟩
  rw [hc0]
  simp [Int.toNat_of_nonneg hw'.1])
 refine ⟨some a,(List.range len).map f,cap,by simp,fun i hi=>?_,by simp; omega⟩
 have hi':i < len:=by simpa using hi
 have hs:=spot_none (W:=W) (a:=a) (hf 0 (by omega)).1
 obtain ⟨b,off,sp⟩:=a
 simp only at hs
 subst hs
 obtain ⟨h1,h2⟩:=hf i hi'
 rw [Addr.add_lit] at h1
 refine ⟨b,off,rfl,?_,?_⟩
 ·simpa using h1
 ·simpa using h2
theorem rts_open {H:Type} {enc:TypeId×Value→H} {W:World} {fuel:Nat} {cs:List Value} {x:DataW H×List MemPlace}
  (h:DataW.trod enc Tryd.prog W 0 (fun _=>true) true fuel 23 cs=some x):∃ a l cap,cs=[.slice a l.length cap]∧Rts W a l∧l.length≤maxLen∧∀ x ∈ l,x.length≤maxLen:=by
 rcases open_slice Tryd.underlying23 h with ⟨rfl,rfl⟩ | ⟨a,len,cap,m,n,D,PL,rfl,hb,hl,hm,hmm,rfl,hx⟩
 ·exact ⟨none,[],0,rfl,fun i hi=>absurd hi (by simp),by simp,fun x hx=>by cases hx⟩
 have hc:Tryd.prog.cellsOf 22=1:=by kernel_rfl
 simp only [if_true] at hmm
 obtain ⟨f,hf⟩:=choose_lt (n:=len) (p:=fun i (k:List Nat)=>(∃ na nc,W.cell? (a.add i)=some (.slice na k.length nc)∧Byts W na k)∧k.length≤maxLen) (fun i hi=>by
  obtain ⟨cs',h1,h2⟩:=hx i (by omega)
  rw [hc,Nat.mul_one] at h1
  obtain ⟨_,hlen,hcell⟩:=World.cells?_some h1
  obtain ⟨na,k,nc,e1,hk,hkl⟩:=byts_open h2
  have hc0:=hcell 0 (by omega)
  simp only [e1,add_add,Nat.add_zero] at hc0
  exact ⟨k,⟨na,nc,by rw [hc0]; rfl,hk⟩,hkl⟩)
 refine ⟨some a,(List.range len).map f,cap,by simp,fun i hi=>?_,by simp; omega,fun x hx=>?_⟩
 ·have hi':i < len:=by simpa using hi
  obtain ⟨⟨_,_,hf0,_⟩,_⟩:=hf 0 (by omega)
  have hs:=spot_none (W:=W) (a:=a) hf0
  obtain ⟨b,off,sp⟩:=a
  simp only at hs
  subst hs
  obtain ⟨⟨na,nc,h1,h2⟩,_⟩:=hf i hi'
  rw [Addr.add_lit] at h1
  simp only [List.getElem_map,List.getElem_range]
  exact ⟨b,off,na,nc,rfl,h1,h2⟩
 ·obtain ⟨i,hi,rfl⟩:=List.mem_map.1 hx
  exact (hf i (List.mem_range.1 hi)).2
theorem array7 {α:Type} {cs:Array α} (h:cs.size=7):∃ c0 c1 c2 c3 c4 c5 c6,cs=#[c0,c1,c2,c3,c4,c5,c6]:=by
 obtain ⟨l⟩:=cs
 match l,h with
 | [c0,c1,c2,c3,c4,c5,c6],_=>exact ⟨c0,c1,c2,c3,c4,c5,c6,rfl⟩
set_option maxRecDepth 100000 in
set_option linter.constructorNameAsVariable false in
theorem small_open {H:Type} {enc:TypeId×Value→H} {W:World} {b0:Nat} {v:Value} {d:DataW H} {p:List MemPlace}
  (hv:Value.okWide Tryd.prog W .any b0 25 v) (h:DataW.Trod enc Tryd.prog W 0 (fun _=>true) true 25 v d p):∃ s,SmV W v s∧SmSz s:=by
 obtain ⟨fs,hs⟩:∃ fs,Tryd.prog.underlying 25=some (.struct fs):=⟨_,Tryd.underlying25⟩
 clear hs fs
 obtain ⟨cs,rfl,hsz⟩:=okWide_struct Tryd.underlying25 hv
 have hC:Tryd.prog.cellsOf 25=7:=by kernel_rfl
 obtain ⟨c0,c1,c2,c3,c4,c5,c6,rfl⟩:=array7 (hsz.trans hC)
 obtain ⟨fuel,hf⟩:=h
 obtain ⟨xs,n,_,hx,hl,hlen,hfl⟩:=DataW.trod_struct Tryd.underlying25 hf
 have k5:Tryd.prog.cellsOf 5=1:=by kernel_rfl
 have k22:Tryd.prog.cellsOf 22=1:=by kernel_rfl
 have k23:Tryd.prog.cellsOf 23=1:=by kernel_rfl
 have f0:DataW.trod enc Tryd.prog W 0 (fun _=>true) true n 5 [c0]=xs[0]?:=by
  have:=hfl 0 _ rfl
  simpa [Value.cells,k5] using this
 have f1:DataW.trod enc Tryd.prog W 0 (fun _=>true) true n 5 [c1]=xs[1]?:=by
  have:=hfl 1 _ rfl
  simpa [Value.cells,k5] using this
 have f2:DataW.trod enc Tryd.prog W 0 (fun _=>true) true n 22 [c2]=xs[2]?:=by
  have:=hfl 2 _ rfl
  simpa [Value.cells,k22] using this
 have f3:DataW.trod enc Tryd.prog W 0 (fun _=>true) true n 23 [c3]=xs[3]?:=by
  have:=hfl 3 _ rfl
  simpa [Value.cells,k23] using this
 have f4:DataW.trod enc Tryd.prog W 0 (fun _=>true) true n 22 [c4]=xs[4]?:=by
  have:=hfl 4 _ rfl
  simpa [Value.cells,k22] using this
 have f5:DataW.trod enc Tryd.prog W 0 (fun _=>true) true n 22 [c5]=xs[5]?:=by
  have:=hfl 5 _ rfl
  simpa [Value.cells,k22] using this
 have f6:DataW.trod enc Tryd.prog W 0 (fun _=>true) true n 22 [c6]=xs[6]?:=by
  have:=hfl 6 _ rfl
  simpa [Value.cells,k22] using this
 have hlen7:xs.length=7:=hlen
 rw [List.getElem?_eq_getElem (by omega:0 < xs.length)] at f0
 rw [List.getElem?_eq_getElem (by omega:1 < xs.length)] at f1
 rw [List.getElem?_eq_getElem (by omega:2 < xs.length)] at f2
 rw [List.getElem?_eq_getElem (by omega:3 < xs.length)] at f3
 rw [List.getElem?_eq_getElem (by omega:4 < xs.length)] at f4
 rw [List.getElem?_eq_getElem (by omega:5 < xs.length)] at f5
 rw [List.getElem?_eq_getElem (by omega:6 < xs.length)] at f6
 obtain ⟨t,e0,_,w0⟩:=DataW.trod_int Tryd.underlying5 f0
 obtain ⟨u,e1,_,w1⟩:=DataW.trod_int Tryd.underlying5 f1
 obtain ⟨a2,l2,p2,e2,h2,n2⟩:=byts_open f2
 obtain ⟨a3,l3,p3,e3,h3,n3,m3⟩:=rts_open f3
 obtain ⟨a4,l4,p4,e4,h4,n4⟩:=byts_open f4
 obtain ⟨a5,l5,p5,e5,h5,n5⟩:=byts_open f5
 obtain ⟨a6,l6,p6,e6,h6,n6⟩:=byts_open f6
 simp only [List.cons.injEq,and_true] at e0 e1 e2 e3 e4 e5 e6
 subst e0 e1 e2 e3 e4 e5 e6
 have m0:IntKind.u8.min=0:=by decide
 have m1:IntKind.u8.max=255:=by decide
 simp [Lit.wf] at w0 w1
 obtain ⟨t,rfl⟩:∃ k:Nat,t=k:=⟨t.toNat,by omega⟩
 obtain ⟨u,rfl⟩:∃ k:Nat,u=k:=⟨u.toNat,by omega⟩
 unfold maxLen at n2 n3 n4 n5 n6 m3
 refine ⟨⟨t,u,l2,l3,l4,l5,l6⟩,⟨a2,a3,a4,a5,a6,p2,p3,p4,p5,p6,rfl,?_⟩,?_⟩
 ·exact ⟨by show t < 256; omega,by show u < 256; omega,h2,h3,h4,h5,h6⟩
 ·exact ⟨by show l2.length≤_; omega,by show l3.length≤_; omega,by show l4.length≤_; omega,by show l5.length≤_; omega,by show l6.length≤_; omega,fun x hx=>by have:=m3 x hx; omega⟩
theorem gTab : Tryd.prog.globalNamed "math/bits.deBruijn64tab" = some 0 := by kernel_rfl
theorem tTab:(Tryd.prog.globals[0]?).map (·.type)=some 160:=by kernel_rfl
abbrev laidAll : List (String × DataW Unit) := [("math/bits.deBruijn64tab", Rows.laid_math_bits_deBruijn64tab)]
set_option maxRecDepth 100000 in
theorem datum_eq:(Rows.laid_math_bits_deBruijn64tab:DataW Unit)=.agg (Lib.deBruijn64tab.map fun k=>.lit (.int .u8 (k:Nat))):=by rfl
set_option maxRecDepth 100000 in
/-- What the row's condition gives the walks. -/
theorem tab_of_laid {W:World} (h:laidMetH Tryd.prog laidAll W):Tab W:=by
 rw [MakeChecks.laidMetH_plain _ _ _ (by kernel_rfl)] at h
 obtain ⟨ps,⟨g,t,cs,f,p,q,hg,ht,hv,hd,_,_⟩,_⟩:=h
 obtain rfl:=Option.some.inj (gTab.symm.trans hg)
 obtain rfl:=Option.some.inj (tTab.symm.trans ht)
 obtain ⟨xs,m,rfl,hx,hlen,hn,hel⟩:=DataW.trod_array Tryd.underlying160 hd
 have c1:Tryd.prog.cellsOf 5=1:=by kernel_rfl
 have c64:Tryd.prog.cellsOf 160=64:=by kernel_rfl
 rw [c64] at hlen
 intro j hj
 have hj1:=hel j hj
 rw [c1,Nat.mul_one] at hj1
 have hdj:(cs.toList.drop j).take 1=[cs.toList[j]]:=by
  rw [List.drop_eq_getElem_cons (by omega)]
  rfl
 rw [hdj,List.getElem?_eq_getElem (by omega)] at hj1
 obtain ⟨k,e1,e2,_⟩:=DataW.trod_int Tryd.underlying5 hj1
 simp only [Prod.mk.injEq] at hx
 have hmap:=hx.1
 rw [datum_eq] at hmap
 injection hmap with hmap
 have hat:=congrArg (fun l=>l[j]?) hmap
 have h64:Lib.deBruijn64tab.length=64:=by decide
 simp only [List.getElem?_map] at hat
 rw [List.getElem?_eq_getElem (by omega:j < Lib.deBruijn64tab.length),List.getElem?_eq_getElem (by omega:j < xs.length)] at hat
 simp only [Option.map_some,Option.some.injEq] at hat
 rw [e2] at hat
 simp only [DataW.lit.injEq,Lit.int.injEq,true_and] at hat
 have hcell:=World.var?_cell hg hv j
 rw [hcell]
 have hc:cs[j]?=some cs.toList[j]:=by rw [← Array.getElem?_toList]; exact List.getElem?_eq_getElem _
 rw [hc]
 simp only [List.cons.injEq,and_true] at e1
 rw [e1,← hat,List.getD_eq_getElem?_getD,List.getElem?_eq_getElem (by omega:j < Lib.deBruijn64tab.length)]
 rfl
end Go.Proofs.YtjbggogbnckllaaDoor
end
namespace Go.Proofs.YtjbggogbnckllaaDoor
open Go.RowKit
/-- The zero small grammar. -/
theorem smV_zero (w:World):SmV w (.agg #[.int .u8 0,.int .u8 0,.slice none 0 0,.slice none 0 0,.slice none 0 0,.slice none 0 0,.slice none 0 0]) ⟨0,0,[],[],[],[],[]⟩ :=
 ⟨none,none,none,none,none,0,0,0,0,0,rfl,by decide,by decide,fun i h=>absurd h (Nat.not_lt_zero _),fun i h=>absurd h (Nat.not_lt_zero _),fun i h=>absurd h (Nat.not_lt_zero _),fun i h=>absurd h (Nat.not_lt_zero _),fun i h=>absurd h (Nat.not_lt_zero _)⟩
end Go.Proofs.YtjbggogbnckllaaDoor
