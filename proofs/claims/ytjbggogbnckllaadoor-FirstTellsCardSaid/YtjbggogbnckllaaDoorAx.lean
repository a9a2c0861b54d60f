/-
  Small parts of the walks of the chapters' examples.
  The walk of chapter 10's awake: it is true.
  The laws of chapter 10: the variable of facts; what is in a set is in a greater one.
-/
import Derived.Test.YtjbggogbnckllaaDoorAk
import Derived.Test.YtjbggogbnckllaaDoorBa
import Derived.Test.YtjbggogbnckllaaDoorAb
import Derived.Test.YtjbggogbnckllaaDoorAw
import Derived.Test.YtjbggogbnckllaaDoorAz
import Derived.Test.YtjbggogbnckllaaDoorWb
section
set_option maxRecDepth 100000
namespace Go.Proofs.YtjbggogbnckllaaDoor
open Go.RowKit
set_option linter.unusedVariables false
set_option linter.unusedSimpArgs false
/-- The zero small grammar. -/
theorem smV_zero (w:World):SmV w (.agg #[.int .u8 0,.int .u8 0,.slice none 0 0,.slice none 0 0,.slice none 0 0,.slice none 0 0,.slice none 0 0]) ⟨0,0,[],[],[],[],[]⟩ :=
 ⟨none,none,none,none,none,0,0,0,0,0,rfl,by decide,by decide,fun i h=>absurd h (Nat.not_lt_zero _),fun i h=>absurd h (Nat.not_lt_zero _),fun i h=>absurd h (Nat.not_lt_zero _),fun i h=>absurd h (Nat.not_lt_zero _),fun i h=>absurd h (Nat.not_lt_zero _)⟩
/-- A made row of numbers. -/
theorem ints_new (w:World) (l:List Int):Ints (w.alloc (.cells (intV l).toArray 3)) (some ⟨w.heap.size,0,none⟩) l:=by
 intro i hi
 refine ⟨_,_,rfl,?_⟩
 rw [cell_of_row _ _ _ _ _ _ (heap_alloc_new w _),Nat.zero_add]
 simp [intV,hi]
end Go.Proofs.YtjbggogbnckllaaDoor
end
section
set_option maxRecDepth 100000
namespace Go.Proofs.YtjbggogbnckllaaDoor
open Go.RowKit
set_option linter.unusedVariables false
set_option linter.unusedSimpArgs false
set_option maxRecDepth 100000 in
set_option maxHeartbeats 16000000 in
theorem awake10_any (w:World) (hT:Tab w):Calls Tryd.prog 14 #[] w fun e w'=>e=.returned (.bool true)∧Below w.heap.size w w':=by
 have HT0:=Lib.hid hT
 have HB0:=Lib.hid (Below.refl w.heap.size w)
 have H1:=fun W=>of10_text (smV_zero W) Aw.ok4.sz Aw.ok4.cls Aw.ok4.d Aw.ok4.of.choose_spec Aw.ok4.gz
 have hnT:Fi.nT Aw.p4=3:=Aw.tm4
 have hnV:Fi.nV Aw.p4=3:=by unfold Fi.nV; rw [Aw.vr4]
 have HNT:=Lib.hid hnT
 have HNV:=Lib.hid hnV
 clear hnT hnV
 clear hT
 go_enter Tryd.func14,Tryd.ntmps14
 go_wp2_with fail
 refine (H1 _).mono ?_
 rintro e w1 ⟨v,rfl,hv,k⟩
 obtain ⟨ta,tc,va,vc,ra,rc,la,lc1,aa,ac,ca,cc,rfl,hv⟩:=hv
 have P1:=Lib.hid (PB.new (tc:=tc) (vc:=vc) (rc:=rc) (lc:=lc1) (ac:=ac) (cc:=cc) hv)
 unfold pnC at P1
 have AL:=(Below.refl w1.heap.size w1).alloc (Nat.le_refl _) (.cells #[.slice ta Aw.p4.terms.length tc,.slice va Aw.p4.vars.length vc,.slice ra Aw.p4.rules.length rc,.slice la Aw.p4.levels.length lc1,.slice aa Aw.p4.assocs.length ac,.slice ca Aw.p4.acts.length cc] 32)
 have HB1:=Lib.hid ((HB0.out.trans (k.mono HB0.out.size)).trans (AL.mono (by have:=HB0.out.size; have:=k.size; omega)))
 have H2:=facts_any (w:=w1.alloc (.cells #[.slice ta Aw.p4.terms.length tc,.slice va Aw.p4.vars.length vc,.slice ra Aw.p4.rules.length rc,.slice la Aw.p4.levels.length lc1,.slice aa Aw.p4.assocs.length ac,.slice ca Aw.p4.acts.length cc] 32)) (v:=.agg #[.slice ta Aw.p4.terms.length tc,.slice va Aw.p4.vars.length vc,.slice ra Aw.p4.rules.length rc,.slice la Aw.p4.levels.length lc1,.slice aa Aw.p4.assocs.length ac,.slice ca Aw.p4.acts.length cc]) ⟨ta,tc,va,vc,ra,rc,la,lc1,aa,ac,ca,cc,rfl,P1.out.a⟩ Aw.ok4.ok Aw.ok4.cnt (HT0.out.below HB1.out)
 have c0:=P1.out.c0
 have c1:=P1.out.c1
 have c2:=P1.out.c2
 have c3:=P1.out.c3
 have c4:=P1.out.c4
 have c5:=P1.out.c5
 clear H1 k AL hv HB0
 go_wp2_with fail
 refine H2.mono ?_
 rintro e w2 ⟨fv,rfl,hf,k⟩
 have hf0:=hf
 obtain ⟨nb,lb,lc,mb,mc,rfl,f1,f2,f3⟩:=hf
 have AL:=(Below.refl w2.heap.size w2).alloc (Nat.le_refl _) (.cells #[.slice (some ⟨nb,0,none⟩) (Fi.nV Aw.p4) (Fi.nV Aw.p4),.slice (some ⟨lb,0,none⟩) (Fi.nV Aw.p4) lc,.slice (some ⟨mb,0,none⟩) (Fi.nV Aw.p4) mc,.int .i64 ((Fi.fs Aw.p4).2:Nat)] 37)
 have hFB:=heap_alloc_new w2 (.cells #[.slice (some ⟨nb,0,none⟩) (Fi.nV Aw.p4) (Fi.nV Aw.p4),.slice (some ⟨lb,0,none⟩) (Fi.nV Aw.p4) lc,.slice (some ⟨mb,0,none⟩) (Fi.nV Aw.p4) mc,.int .i64 ((Fi.fs Aw.p4).2:Nat)] 37)
 have HFB:=Lib.hid hFB
 have HF:=Lib.hid (hf0.below AL)
 have P2:=Lib.hid ((P1.out.below k).below AL)
 have HB2:=Lib.hid ((HB1.out.trans (k.mono HB1.out.size)).trans (AL.mono (by have:=HB1.out.size; have:=k.size; omega)))
 have HNU:=Lib.hid (f1.below AL)
 have HFI:=Lib.hid (f2.below AL)
 have HFO:=Lib.hid (f3.below AL)
 clear c0 c1 c2 c3 c4 c5 H2 k AL hf0 f1 f2 f3 P1 HB1 hFB
 have c0:=P2.out.c0
 have c1:=P2.out.c1
 have c2:=P2.out.c2
 have c3:=P2.out.c3
 have c4:=P2.out.c4
 have c5:=P2.out.c5
 have H3:=whole10_any HF.out (show PnV _ (.agg #[.slice ta Aw.p4.terms.length tc,.slice va Aw.p4.vars.length vc,.slice ra Aw.p4.rules.length rc,.slice la Aw.p4.levels.length lc1,.slice aa Aw.p4.assocs.length ac,.slice ca Aw.p4.acts.length cc]) Aw.p4 from ⟨ta,tc,va,vc,ra,rc,la,lc1,aa,ac,ca,cc,rfl,P2.out.a⟩) (by rw [Aw.vr4]; omega)
 have g0:(w2.alloc (.cells #[.slice (some ⟨nb,0,none⟩) (Fi.nV Aw.p4) (Fi.nV Aw.p4),.slice (some ⟨lb,0,none⟩) (Fi.nV Aw.p4) lc,.slice (some ⟨mb,0,none⟩) (Fi.nV Aw.p4) mc,.int .i64 ((Fi.fs Aw.p4).2:Nat)] 37)).cell? ⟨w2.heap.size,0,none⟩=some (.slice (some ⟨nb,0,none⟩) (Fi.nV Aw.p4) (Fi.nV Aw.p4)):=by rw [cell_of_row _ _ _ _ _ _ HFB.out]; rfl
 have g1:(w2.alloc (.cells #[.slice (some ⟨nb,0,none⟩) (Fi.nV Aw.p4) (Fi.nV Aw.p4),.slice (some ⟨lb,0,none⟩) (Fi.nV Aw.p4) lc,.slice (some ⟨mb,0,none⟩) (Fi.nV Aw.p4) mc,.int .i64 ((Fi.fs Aw.p4).2:Nat)] 37)).cell? ⟨w2.heap.size,1,none⟩=some (.slice (some ⟨lb,0,none⟩) (Fi.nV Aw.p4) lc):=by rw [cell_of_row _ _ _ _ _ _ HFB.out]; rfl
 have g2:(w2.alloc (.cells #[.slice (some ⟨nb,0,none⟩) (Fi.nV Aw.p4) (Fi.nV Aw.p4),.slice (some ⟨lb,0,none⟩) (Fi.nV Aw.p4) lc,.slice (some ⟨mb,0,none⟩) (Fi.nV Aw.p4) mc,.int .i64 ((Fi.fs Aw.p4).2:Nat)] 37)).cell? ⟨w2.heap.size,2,none⟩=some (.slice (some ⟨mb,0,none⟩) (Fi.nV Aw.p4) mc):=by rw [cell_of_row _ _ _ _ _ _ HFB.out]; rfl
 have g3:(w2.alloc (.cells #[.slice (some ⟨nb,0,none⟩) (Fi.nV Aw.p4) (Fi.nV Aw.p4),.slice (some ⟨lb,0,none⟩) (Fi.nV Aw.p4) lc,.slice (some ⟨mb,0,none⟩) (Fi.nV Aw.p4) mc,.int .i64 ((Fi.fs Aw.p4).2:Nat)] 37)).cell? ⟨w2.heap.size,3,none⟩=some (.int .i64 ((Fi.fs Aw.p4).2:Nat)):=by rw [cell_of_row _ _ _ _ _ _ HFB.out]; rfl
 go_wp2_with fail
 generalize (w2.alloc (.cells #[.slice (some ⟨nb,0,none⟩) (Fi.nV Aw.p4) (Fi.nV Aw.p4),.slice (some ⟨lb,0,none⟩) (Fi.nV Aw.p4) lc,.slice (some ⟨mb,0,none⟩) (Fi.nV Aw.p4) mc,.int .i64 ((Fi.fs Aw.p4).2:Nat)] 37))=V at HFB HF P2 HB2 HNU HFI HFO c0 c1 c2 c3 c4 c5 g0 g1 g2 g3 H3 ⊢
 generalize w2.heap.size=fb at HFB g0 g1 g2 g3 ⊢
 refine H3.mono ?_
 rintro e w3 ⟨rfl,k⟩
 have hn3:=HNV.out
 have ht3:=HNT.out
 have HFB3:=(k.block _ (lt_of_block HFB.out)).trans HFB.out
 have HNU3:=HNU.out.below k
 have HFI3:=HFI.out.below k
 have HFO3:=HFO.out.below k
 have HB3:=Lib.hid (HB2.out.trans (k.mono HB2.out.size))
 generalize (Fi.fs Aw.p4).2=rd at HFB3
 rw [hn3] at HFB3 HNU3 HFI3 HFO3 ⊢
 rw [ht3] at HFI3 HFO3
 have nl:=Aw.nl4
 simp [List.range,List.range.loop] at nl
 have n0:=HNU3.cell (i:=0) (by omega)
 have n1:=HNU3.cell (i:=1) (by omega)
 rw [nl.1] at n0
 rw [nl.2.1] at n1
 obtain ⟨a1,d1,e1,i1⟩:=HFI3 0 (by omega)
 obtain ⟨a2,d2,e2,i2⟩:=HFI3 1 (by omega)
 obtain ⟨a3,d3,e3,i3⟩:=HFO3 0 (by omega)
 obtain ⟨a4,d4,e4,i4⟩:=HFO3 1 (by omega)
 simp only [Aw.fa4] at e1 i1
 simp only [Aw.fb4] at e2 i2
 simp only [Aw.oa4] at e3 i3
 simp only [Aw.ob4] at e4 i4
 have I1:Hid (Ints w3 a1 [1,2]):=Lib.hid i1
 have I2:Hid (Ints w3 a2 [2]):=Lib.hid i2
 have I3:Hid (Ints w3 a3 [0]):=Lib.hid i3
 have I4:Hid (Ints w3 a4 [1]):=Lib.hid i4
 have E1:Hid (w3.cell? ⟨lb,0,none⟩=some (.slice a1 2 d1)):=Lib.hid e1
 have E2:Hid (w3.cell? ⟨lb,1,none⟩=some (.slice a2 1 d2)):=Lib.hid e2
 have E3:Hid (w3.cell? ⟨mb,0,none⟩=some (.slice a3 1 d3)):=Lib.hid e3
 have E4:Hid (w3.cell? ⟨mb,1,none⟩=some (.slice a4 1 d4)):=Lib.hid e4
 have HFB4:=Lib.hid HFB3
 have f0:w3.cell? ⟨fb,0,none⟩=some (.slice (some ⟨nb,0,none⟩) 3 3):=by rw [cell_of_row _ _ _ _ _ _ HFB3]; rfl
 have f1:w3.cell? ⟨fb,1,none⟩=some (.slice (some ⟨lb,0,none⟩) 3 lc):=by rw [cell_of_row _ _ _ _ _ _ HFB3]; rfl
 clear H3 k c0 c1 c2 c3 c4 c5 g0 g1 g2 g3 hn3 ht3 HFB3 HNU3 HFI3 HFO3 nl e1 e2 e3 e4 i1 i2 i3 i4 HFB HF P2 HB2 HNU HFI HFO
 have e1:=E1.out
 have AL:=(Below.refl w3.heap.size w3).alloc (Nat.le_refl _) (.cells #[.int .i64 1,.int .i64 2] 3)
 have hint:=ints_any _ _ _ _ d1 2 _ (I1.out.below AL) (ints_new w3 [1,2]) (by decide) (by decide)
 change Calls _ _ #[.slice _ 2 d1,.slice _ 2 2] (w3.alloc (.cells #[.int .i64 1,.int .i64 2] 3)) (fun e w'=>e=.returned (.bool true)∧_) at hint
 have HB4:=Lib.hid (HB3.out.trans (AL.mono HB3.out.size))
 have AL3:=Lib.hid AL
 clear AL
 go_wp2_with fail
 refine hint.mono ?_
 rintro e w4 ⟨rfl,k⟩
 have K4:=Lib.hid (AL3.out.trans (k.mono AL3.out.size))
 clear hint k AL3 e1 f0 f1 n0 n1 HB4
 have f1:w4.cell? ⟨fb,1,none⟩=some (.slice (some ⟨lb,0,none⟩) 3 lc):=by rw [cell_of_row _ _ _ _ _ _ ((K4.out.block _ (lt_of_block HFB4.out)).trans HFB4.out)]; rfl
 have e1:=((bcell K4.out).1 _ _ (World.block_lt_of_cell? w3 _ E2.out)).trans E2.out
 have AL:=(Below.refl w4.heap.size w4).alloc (Nat.le_refl _) (.cells #[.int .i64 2] 3)
 have hint:=ints_any _ _ _ _ d2 1 _ ((I2.out.below K4.out).below AL) (ints_new w4 [2]) (by decide) (by decide)
 change Calls _ _ #[.slice _ 1 d2,.slice _ 1 1] (w4.alloc (.cells #[.int .i64 2] 3)) (fun e w'=>e=.returned (.bool true)∧_) at hint
 have AL3:=Lib.hid AL
 clear AL
 go_wp2_with fail
 refine hint.mono ?_
 rintro e w5 ⟨rfl,k⟩
 have K5:=Lib.hid (K4.out.trans ((AL3.out.trans (k.mono AL3.out.size)).mono K4.out.size))
 clear hint k AL3 e1 f1
 have f2:w5.cell? ⟨fb,2,none⟩=some (.slice (some ⟨mb,0,none⟩) 3 mc):=by rw [cell_of_row _ _ _ _ _ _ ((K5.out.block _ (lt_of_block HFB4.out)).trans HFB4.out)]; rfl
 have e1:=((bcell K5.out).1 _ _ (World.block_lt_of_cell? w3 _ E3.out)).trans E3.out
 have AL:=(Below.refl w5.heap.size w5).alloc (Nat.le_refl _) (.cells #[.int .i64 0] 3)
 have hint:=ints_any _ _ _ _ d3 1 _ ((I3.out.below K5.out).below AL) (ints_new w5 [0]) (by decide) (by decide)
 change Calls _ _ #[.slice _ 1 d3,.slice _ 1 1] (w5.alloc (.cells #[.int .i64 0] 3)) (fun e w'=>e=.returned (.bool true)∧_) at hint
 have AL3:=Lib.hid AL
 clear AL
 go_wp2_with fail
 refine hint.mono ?_
 rintro e w6 ⟨rfl,k⟩
 have K6:=Lib.hid (K5.out.trans ((AL3.out.trans (k.mono AL3.out.size)).mono K5.out.size))
 clear hint k AL3 e1 f2
 have f2:w6.cell? ⟨fb,2,none⟩=some (.slice (some ⟨mb,0,none⟩) 3 mc):=by rw [cell_of_row _ _ _ _ _ _ ((K6.out.block _ (lt_of_block HFB4.out)).trans HFB4.out)]; rfl
 have e1:=((bcell K6.out).1 _ _ (World.block_lt_of_cell? w3 _ E4.out)).trans E4.out
 have AL:=(Below.refl w6.heap.size w6).alloc (Nat.le_refl _) (.cells #[.int .i64 1] 3)
 have hint:=ints_any _ _ _ _ d4 1 _ ((I4.out.below K6.out).below AL) (ints_new w6 [1]) (by decide) (by decide)
 change Calls _ _ #[.slice _ 1 d4,.slice _ 1 1] (w6.alloc (.cells #[.int .i64 1] 3)) (fun e w'=>e=.returned (.bool true)∧_) at hint
 have AL3:=Lib.hid AL
 clear AL
 go_wp2_with fail
 refine hint.mono ?_
 rintro e w7 ⟨rfl,k⟩
 have K7:=Lib.hid (K6.out.trans ((AL3.out.trans (k.mono AL3.out.size)).mono K6.out.size))
 clear hint k AL3 e1 f2
 go_wp2_with fail
 go_ret
 exact ⟨rfl,HB3.out.trans (K7.out.mono HB3.out.size)⟩
end Go.Proofs.YtjbggogbnckllaaDoor
end
section
set_option maxRecDepth 100000
namespace Go.Proofs.YtjbggogbnckllaaDoor
open Go.RowKit
set_option linter.unusedVariables false
set_option linter.unusedSimpArgs false
def faC (p:Pl.Plan) (nb lb mb:Nat) (lc mc:Nat):Array Value:=#[.slice (some ⟨nb,0,none⟩) (Fi.nV p) (Fi.nV p),.slice (some ⟨lb,0,none⟩) (Fi.nV p) lc,.slice (some ⟨mb,0,none⟩) (Fi.nV p) mc,.int .i64 ((Fi.fs p).2:Nat)]
/-- A variable of facts. -/
structure FB (W:World) (b:Nat) (p:Pl.Plan) (nb lb mb lc mc:Nat):Prop where
 row:W.heap[b]?=some (.cells (faC p nb lb mb lc mc) 37 (0,0))
 n:Brr W nb (Fi.nV p) (Fi.fs p).1.null
 l:Lsts W lb (Fi.nV p) (fun i=>natI (Bs.lst (Fi.nT p) ((Fi.fs p).1.fst i)))
 m:Lsts W mb (Fi.nV p) (fun i=>natI (Bs.lst (Fi.nT p) (Fi.fol p i)))
section
variable {W W':World} {b nb lb mb lc mc:Nat} {p:Pl.Plan}
theorem FB.below (h:FB W b p nb lb mb lc mc) (k:Below W.heap.size W W'):FB W' b p nb lb mb lc mc:=⟨(k.block _ (lt_of_block h.row)).trans h.row,h.n.below k,h.l.below k,h.m.below k⟩
theorem FB.c0 (h:FB W b p nb lb mb lc mc):W.cell? ⟨b,0,none⟩=some (.slice (some ⟨nb,0,none⟩) (Fi.nV p) (Fi.nV p)):=by rw [cell_of_row _ _ _ _ _ _ h.row]; rfl
theorem FB.c1 (h:FB W b p nb lb mb lc mc):W.cell? ⟨b,1,none⟩=some (.slice (some ⟨lb,0,none⟩) (Fi.nV p) lc):=by rw [cell_of_row _ _ _ _ _ _ h.row]; rfl
theorem FB.c2 (h:FB W b p nb lb mb lc mc):W.cell? ⟨b,2,none⟩=some (.slice (some ⟨mb,0,none⟩) (Fi.nV p) mc):=by rw [cell_of_row _ _ _ _ _ _ h.row]; rfl
theorem FB.c3 (h:FB W b p nb lb mb lc mc):W.cell? ⟨b,3,none⟩=some (.int .i64 ((Fi.fs p).2:Nat)):=by rw [cell_of_row _ _ _ _ _ _ h.row]; rfl
theorem FB.v (h:FB W b p nb lb mb lc mc):FaV W (.agg #[.slice (some ⟨nb,0,none⟩) (Fi.nV p) (Fi.nV p),.slice (some ⟨lb,0,none⟩) (Fi.nV p) lc,.slice (some ⟨mb,0,none⟩) (Fi.nV p) mc,.int .i64 ((Fi.fs p).2:Nat)]) p:=⟨nb,lb,lc,mb,mc,rfl,h.n,h.l,h.m⟩
theorem FB.new (n:Brr W nb (Fi.nV p) (Fi.fs p).1.null) (l:Lsts W lb (Fi.nV p) (fun i=>natI (Bs.lst (Fi.nT p) ((Fi.fs p).1.fst i)))) (m:Lsts W mb (Fi.nV p) (fun i=>natI (Bs.lst (Fi.nT p) (Fi.fol p i)))) :
  FB (W.alloc (.cells (faC p nb lb mb lc mc) 37)) W.heap.size p nb lb mb lc mc:=by
 have k:=(Below.refl W.heap.size W).alloc (Nat.le_refl _) (.cells (faC p nb lb mb lc mc) 37)
 exact ⟨heap_alloc_new W _,n.below k,l.below k,m.below k⟩
/-- The lists' cells. -/
theorem FB.fst (h:FB W b p nb lb mb lc mc) {i:Nat} (hi:i < Fi.nV p):∃ a c,W.cell? ⟨lb,i,none⟩=some (.slice a (natI (Bs.lst (Fi.nT p) ((Fi.fs p).1.fst i))).length c)∧Ints W a (natI (Bs.lst (Fi.nT p) ((Fi.fs p).1.fst i))):=h.l i hi
theorem FB.fol (h:FB W b p nb lb mb lc mc) {i:Nat} (hi:i < Fi.nV p):∃ a c,W.cell? ⟨mb,i,none⟩=some (.slice a (natI (Bs.lst (Fi.nT p) (Fi.fol p i))).length c)∧Ints W a (natI (Bs.lst (Fi.nT p) (Fi.fol p i))):=h.m i hi
end
theorem lst_max {n X:Nat} (h:n≤1000):(natI (Bs.lst n X)).length≤maxLen:=by
 have:=Bs.lst_len n X
 simp only [natI,List.length_map]
 unfold maxLen; omega
theorem nT_le {p:Pl.Plan} (h:Q.OK p):Fi.nT p≤1000:=h.nb
end Go.Proofs.YtjbggogbnckllaaDoor
end
