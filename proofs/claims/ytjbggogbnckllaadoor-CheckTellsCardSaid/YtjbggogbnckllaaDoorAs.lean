/-
  The fixed texts of chapter 9: their plans (by the kernel).
  The walk of chapter 9's awake: it is true.
  What the laws of chapters 9 and 10 want of a small grammar's plan (plain).
-/
import Derived.Test.YtjbggogbnckllaaDoorWu
import Derived.Test.YtjbggogbnckllaaDoorZy
import Derived.Test.YtjbggogbnckllaaDoorZw
import Derived.Test.YtjbggogbnckllaaDoorAp
import Derived.KernelRfl
import Derived.Test.YtjbggogbnckllaaDoorAo
section
set_option maxRecDepth 100000
namespace Go.Proofs.YtjbggogbnckllaaDoor
open Go.RowKit
set_option linter.unusedVariables false
set_option linter.unusedSimpArgs false
namespace Aw
def t1:ByteArray:=⟨#[37,116,111,107,101,110,32,97,32,34,97,34,32,37,116,111,107,101,110,32,98,32,34,98,34,32,37,37,32,83,32,58,32,97,32,84,32,59,32,84,32,58,32,84,32,98,32,59]⟩
def p1:Pl.Plan:=(Pl.of (Rd.read t1).1).1
def t2:ByteArray:=⟨#[37,116,111,107,101,110,32,97,32,34,97,34,32,37,116,111,107,101,110,32,98,32,34,98,34,32,37,37,32,83,32,58,32,97,32,59,32,84,32,58,32,98,32,59]⟩
def p2:Pl.Plan:=(Pl.of (Rd.read t2).1).1
def t3:ByteArray:=⟨#[37,116,111,107,101,110,32,97,32,34,97,34,32,37,116,111,107,101,110,32,98,32,34,98,34,32,37,37,32,83,32,58,32,97,32,83,32,98,32,124,32,59]⟩
def p3:Pl.Plan:=(Pl.of (Rd.read t3).1).1
set_option maxRecDepth 100000
theorem ok1:TxOK t1 p1:=txOK_of (by kernel_rfl) (by kernel_rfl) (by kernel_rfl) (by kernel_rfl) (by kernel_rfl) (by kernel_rfl)
theorem ok2:TxOK t2 p2:=txOK_of (by kernel_rfl) (by kernel_rfl) (by kernel_rfl) (by kernel_rfl) (by kernel_rfl) (by kernel_rfl)
theorem ok3:TxOK t3 p3:=txOK_of (by kernel_rfl) (by kernel_rfl) (by kernel_rfl) (by kernel_rfl) (by kernel_rfl) (by kernel_rfl)
theorem ch1:Q.check p1=(3,18):=by kernel_rfl
theorem ch2:Q.check p2=(4,17):=by kernel_rfl
theorem ch3:Q.check p3=(0,0):=by kernel_rfl
theorem cn3:Q.cnt p3=5:=by kernel_rfl
theorem ln3:(List.range 5).map (fun i=>(Q.lens p3).long i)=[1,1,1,0,0]:=by kernel_rfl
theorem sa3:Q.sent p3 3=[]:=by kernel_rfl
theorem sb3:Q.sent p3 1=[1]:=by kernel_rfl
end Aw
end Go.Proofs.YtjbggogbnckllaaDoor
end
section
set_option maxRecDepth 100000
namespace Go.Proofs.YtjbggogbnckllaaDoor
open Go.RowKit
set_option linter.unusedVariables false
set_option linter.unusedSimpArgs false
set_option maxRecDepth 100000 in
set_option maxHeartbeats 16000000 in
theorem awake09_any (w:World) (hT:Tab w):Calls Tryd.prog 29 #[] w fun e w'=>e=.returned (.bool true)∧Below w.heap.size w w':=by
 have HT0:=Lib.hid hT
 have HB0:=Lib.hid (Below.refl w.heap.size w)
 have H1:=fun W=>of09_plan (smV_zero W) Aw.ok1.sz Aw.ok1.cls Aw.ok1.d Aw.ok1.of.choose_spec
 have H2:=fun W=>of09_plan (smV_zero W) Aw.ok2.sz Aw.ok2.cls Aw.ok2.d Aw.ok2.of.choose_spec
 have H3:=fun W=>of09_plan (smV_zero W) Aw.ok3.sz Aw.ok3.cls Aw.ok3.d Aw.ok3.of.choose_spec
 clear hT
 go_enter Tryd.func29,Tryd.ntmps29
 go_wp2_with fail
 refine (H1 _).mono ?_
 rintro e w1 ⟨v,rfl,hv,k⟩
 obtain ⟨ta1,tc1,va1,vc1,ra1,rc1,la1,lc1,aa1,ac1,ca1,cc1,rfl,hv⟩:=hv
 have P1:=Lib.hid (PB.new (tc:=tc1) (vc:=vc1) (rc:=rc1) (lc:=lc1) (ac:=ac1) (cc:=cc1) hv)
 unfold pnC at P1
 have AL:=(Below.refl w1.heap.size w1).alloc (Nat.le_refl _) (.cells #[.slice ta1 Aw.p1.terms.length tc1,.slice va1 Aw.p1.vars.length vc1,.slice ra1 Aw.p1.rules.length rc1,.slice la1 Aw.p1.levels.length lc1,.slice aa1 Aw.p1.assocs.length ac1,.slice ca1 Aw.p1.acts.length cc1] 32)
 have HB1:=Lib.hid ((HB0.out.trans (k.mono HB0.out.size)).trans (AL.mono (by have:=HB0.out.size; have:=k.size; omega)))
 clear H1 k AL hv HB0
 go_wp2_with fail
 refine (H2 _).mono ?_
 rintro e w2 ⟨v,rfl,hv,k⟩
 obtain ⟨ta2,tc2,va2,vc2,ra2,rc2,la2,lc2,aa2,ac2,ca2,cc2,rfl,hv⟩:=hv
 have P2:=Lib.hid (PB.new (tc:=tc2) (vc:=vc2) (rc:=rc2) (lc:=lc2) (ac:=ac2) (cc:=cc2) hv)
 unfold pnC at P2
 have AL:=(Below.refl w2.heap.size w2).alloc (Nat.le_refl _) (.cells #[.slice ta2 Aw.p2.terms.length tc2,.slice va2 Aw.p2.vars.length vc2,.slice ra2 Aw.p2.rules.length rc2,.slice la2 Aw.p2.levels.length lc2,.slice aa2 Aw.p2.assocs.length ac2,.slice ca2 Aw.p2.acts.length cc2] 32)
 replace P1:=Lib.hid ((P1.out.below k).below AL)
 have HB2:=Lib.hid ((HB1.out.trans (k.mono HB1.out.size)).trans (AL.mono (by have:=HB1.out.size; have:=k.size; omega)))
 clear H2 k AL hv HB1
 go_wp2_with fail
 refine (H3 _).mono ?_
 rintro e w3 ⟨v,rfl,hv,k⟩
 obtain ⟨ta3,tc3,va3,vc3,ra3,rc3,la3,lc3,aa3,ac3,ca3,cc3,rfl,hv⟩:=hv
 have P3:=Lib.hid (PB.new (tc:=tc3) (vc:=vc3) (rc:=rc3) (lc:=lc3) (ac:=ac3) (cc:=cc3) hv)
 unfold pnC at P3
 have AL:=(Below.refl w3.heap.size w3).alloc (Nat.le_refl _) (.cells #[.slice ta3 Aw.p3.terms.length tc3,.slice va3 Aw.p3.vars.length vc3,.slice ra3 Aw.p3.rules.length rc3,.slice la3 Aw.p3.levels.length lc3,.slice aa3 Aw.p3.assocs.length ac3,.slice ca3 Aw.p3.acts.length cc3] 32)
 replace P1:=Lib.hid ((P1.out.below k).below AL)
 replace P2:=Lib.hid ((P2.out.below k).below AL)
 have HB3:=Lib.hid ((HB2.out.trans (k.mono HB2.out.size)).trans (AL.mono (by have:=HB2.out.size; have:=k.size; omega)))
 clear H3 k AL hv HB2
 have HT3:=Lib.hid (HT0.out.below HB3.out)
 have H4:=fun W (h:PnV W (.agg #[.slice ta1 Aw.p1.terms.length tc1,.slice va1 Aw.p1.vars.length vc1,.slice ra1 Aw.p1.rules.length rc1,.slice la1 Aw.p1.levels.length lc1,.slice aa1 Aw.p1.assocs.length ac1,.slice ca1 Aw.p1.acts.length cc1]) Aw.p1) (ht:Tab W)=>check_any h Aw.ok1.ok Aw.ok1.cnt ht
 have H5:=fun W (h:PnV W (.agg #[.slice ta2 Aw.p2.terms.length tc2,.slice va2 Aw.p2.vars.length vc2,.slice ra2 Aw.p2.rules.length rc2,.slice la2 Aw.p2.levels.length lc2,.slice aa2 Aw.p2.assocs.length ac2,.slice ca2 Aw.p2.acts.length cc2]) Aw.p2) (ht:Tab W)=>check_any h Aw.ok2.ok Aw.ok2.cnt ht
 have H6:=fun W (h:PnV W (.agg #[.slice ta3 Aw.p3.terms.length tc3,.slice va3 Aw.p3.vars.length vc3,.slice ra3 Aw.p3.rules.length rc3,.slice la3 Aw.p3.levels.length lc3,.slice aa3 Aw.p3.assocs.length ac3,.slice ca3 Aw.p3.acts.length cc3]) Aw.p3) (ht:Tab W)=>check_any h Aw.ok3.ok Aw.ok3.cnt ht
 rw [Aw.ch1] at H4
 rw [Aw.ch2] at H5
 rw [Aw.ch3] at H6
 have H7:=fun W (h:PnV W (.agg #[.slice ta3 Aw.p3.terms.length tc3,.slice va3 Aw.p3.vars.length vc3,.slice ra3 Aw.p3.rules.length rc3,.slice la3 Aw.p3.levels.length lc3,.slice aa3 Aw.p3.assocs.length ac3,.slice ca3 Aw.p3.acts.length cc3]) Aw.p3)=>shortest_any h Aw.ok3.ok
 rw [Aw.cn3] at H7
 have c10:=P1.out.c0
 have c11:=P1.out.c1
 have c12:=P1.out.c2
 have c13:=P1.out.c3
 have c14:=P1.out.c4
 have c15:=P1.out.c5
 go_wp2_with fail
 generalize w3.alloc (.cells #[.slice ta3 Aw.p3.terms.length tc3,.slice va3 Aw.p3.vars.length vc3,.slice ra3 Aw.p3.rules.length rc3,.slice la3 Aw.p3.levels.length lc3,.slice aa3 Aw.p3.assocs.length ac3,.slice ca3 Aw.p3.acts.length cc3] 32)=V at P1 P2 P3 HB3 HT3 c10 c11 c12 c13 c14 c15 ⊢
 refine (H4 _ ⟨ta1,tc1,va1,vc1,ra1,rc1,la1,lc1,aa1,ac1,ca1,cc1,rfl,P1.out.a⟩ HT3.out).mono ?_
 rintro e w4 ⟨rfl,k⟩
 replace P1:=Lib.hid (P1.out.below k)
 replace P2:=Lib.hid (P2.out.below k)
 replace P3:=Lib.hid (P3.out.below k)
 have HB4:=Lib.hid (HB3.out.trans (k.mono HB3.out.size))
 have HT4:=Lib.hid (HT3.out.below k)
 clear c10 c11 c12 c13 c14 c15 H4 k HB3 HT3
 have c20:=P2.out.c0
 have c21:=P2.out.c1
 have c22:=P2.out.c2
 have c23:=P2.out.c3
 have c24:=P2.out.c4
 have c25:=P2.out.c5
 go_wp2_with fail
 refine (H5 _ ⟨ta2,tc2,va2,vc2,ra2,rc2,la2,lc2,aa2,ac2,ca2,cc2,rfl,P2.out.a⟩ HT4.out).mono ?_
 rintro e w5 ⟨rfl,k⟩
 replace P2:=Lib.hid (P2.out.below k)
 replace P3:=Lib.hid (P3.out.below k)
 have HB5:=Lib.hid (HB4.out.trans (k.mono HB4.out.size))
 have HT5:=Lib.hid (HT4.out.below k)
 clear c20 c21 c22 c23 c24 c25 H5 k HB4 HT4
 have c30:=P3.out.c0
 have c31:=P3.out.c1
 have c32:=P3.out.c2
 have c33:=P3.out.c3
 have c34:=P3.out.c4
 have c35:=P3.out.c5
 go_wp2_with fail
 refine (H6 _ ⟨ta3,tc3,va3,vc3,ra3,rc3,la3,lc3,aa3,ac3,ca3,cc3,rfl,P3.out.a⟩ HT5.out).mono ?_
 rintro e w6 ⟨rfl,k⟩
 replace P3:=Lib.hid (P3.out.below k)
 have HB6:=Lib.hid (HB5.out.trans (k.mono HB5.out.size))
 have HT6:=Lib.hid (HT5.out.below k)
 clear c30 c31 c32 c33 c34 c35 H6 k HB5 HT5
 clear P1 P2
 have c30:=P3.out.c0
 have c31:=P3.out.c1
 have c32:=P3.out.c2
 have c33:=P3.out.c3
 have c34:=P3.out.c4
 have c35:=P3.out.c5
 go_wp2_with fail
 refine (H7 _ ⟨ta3,tc3,va3,vc3,ra3,rc3,la3,lc3,aa3,ac3,ca3,cc3,rfl,P3.out.a⟩).mono ?_
 rintro e w7 ⟨g1,rfl,ha,_,k⟩
 have hi:=ha.ints
 rw [Aw.ln3] at hi
 have AL:=(Below.refl w7.heap.size w7).alloc (Nat.le_refl _) (.cells #[.int .i64 1,.int .i64 1,.int .i64 1,.int .i64 0,.int .i64 0] 3)
 have hin:=ints_new w7 [1,1,1,0,0]
 have hint:=ints_any _ _ _ _ 5 5 _ (hi.below AL) hin (by decide) (by decide)
 change Calls _ _ #[.slice _ 5 5,.slice _ 5 5] (w7.alloc (.cells #[.int .i64 1,.int .i64 1,.int .i64 1,.int .i64 0,.int .i64 0] 3)) (fun e w'=>e=.returned (.bool true)∧_) at hint
 have k2:=(HB6.out.trans (k.mono HB6.out.size))
 have HB7:=Lib.hid (k2.trans (AL.mono k2.size))
 have P7:=Lib.hid ((P3.out.below k).below AL)
 clear c30 c31 c32 c33 c34 c35 H7 ha hi AL hin k k2 P3 HB6
 go_wp2_with fail
 refine hint.mono ?_
 rintro e w8 ⟨rfl,k⟩
 have P8:=Lib.hid (P7.out.below k)
 have HB8:=Lib.hid (HB7.out.trans (k.mono HB7.out.size))
 clear hint k P7 HB7
 have hs3:=sentence9_any 3 (show PnV w8 (.agg #[.slice ta3 Aw.p3.terms.length tc3,.slice va3 Aw.p3.vars.length vc3,.slice ra3 Aw.p3.rules.length rc3,.slice la3 Aw.p3.levels.length lc3,.slice aa3 Aw.p3.assocs.length ac3,.slice ca3 Aw.p3.acts.length cc3]) Aw.p3 from ⟨ta3,tc3,va3,vc3,ra3,rc3,la3,lc3,aa3,ac3,ca3,cc3,rfl,P8.out.a⟩) Aw.ok3.ok
 rw [Aw.sa3] at hs3
 have c30:=P8.out.c0
 have c31:=P8.out.c1
 have c32:=P8.out.c2
 have c33:=P8.out.c3
 have c34:=P8.out.c4
 have c35:=P8.out.c5
 go_wp2_with fail
 refine hs3.mono ?_
 rintro e w9 ⟨na,nc,rfl,_,k⟩
 simp only [List.length_nil]
 have P9:=Lib.hid (P8.out.below k)
 have HB9:=Lib.hid (HB8.out.trans (k.mono HB8.out.size))
 clear c30 c31 c32 c33 c34 c35 hs3 k P8 HB8
 have hs4:=sentence9_any 1 (show PnV w9 (.agg #[.slice ta3 Aw.p3.terms.length tc3,.slice va3 Aw.p3.vars.length vc3,.slice ra3 Aw.p3.rules.length rc3,.slice la3 Aw.p3.levels.length lc3,.slice aa3 Aw.p3.assocs.length ac3,.slice ca3 Aw.p3.acts.length cc3]) Aw.p3 from ⟨ta3,tc3,va3,vc3,ra3,rc3,la3,lc3,aa3,ac3,ca3,cc3,rfl,P9.out.a⟩) Aw.ok3.ok
 rw [Aw.sb3] at hs4
 have c30:=P9.out.c0
 have c31:=P9.out.c1
 have c32:=P9.out.c2
 have c33:=P9.out.c3
 have c34:=P9.out.c4
 have c35:=P9.out.c5
 go_wp2_with fail
 refine hs4.mono ?_
 rintro e w10 ⟨nb,nd,rfl,hi,k⟩
 simp only [List.length_singleton]
 have AL:=(Below.refl w10.heap.size w10).alloc (Nat.le_refl _) (.cells #[.int .i64 1] 3)
 have hin:=ints_new w10 [1]
 have hint:=ints_any _ _ _ _ nd 1 _ (hi.below AL) hin (by decide) (by decide)
 change Calls _ _ #[.slice _ 1 _,.slice _ 1 1] (w10.alloc (.cells #[.int .i64 1] 3)) (fun e w'=>e=.returned (.bool true)∧_) at hint
 have k2:=(HB9.out.trans (k.mono HB9.out.size))
 have HB10:=Lib.hid (k2.trans (AL.mono k2.size))
 clear c30 c31 c32 c33 c34 c35 hs4 k AL hin hi P9 HB9 k2
 go_wp2_with fail
 refine hint.mono ?_
 rintro e w11 ⟨rfl,k⟩
 have HB11:=Lib.hid (HB10.out.trans (k.mono HB10.out.size))
 clear hint k HB10
 go_wp2_with fail
 go_ret
 exact ⟨rfl,HB11.out⟩
end Go.Proofs.YtjbggogbnckllaaDoor
end
section
set_option maxRecDepth 100000
namespace Go.Proofs.YtjbggogbnckllaaDoor
open Go.RowKit
set_option linter.unusedVariables false
set_option linter.unusedSimpArgs false
namespace Q
end Q
end Go.Proofs.YtjbggogbnckllaaDoor
end
