/-
  Walks of the reference's reader: a level is declared.
-/
import Derived.Test.YtjbggogbnckllaaDoorRdI
namespace Go.Proofs.YtjbggogbnckllaaDoor
open Go.RowKit
set_option linter.unusedVariables false
set_option linter.unusedSimpArgs false
set_option maxRecDepth 100000 in
set_option maxHeartbeats 64000000 in
theorem decl_non {w:World} {rb:Nat} {la:Option Addr} {lc:Nat} {L:List Lx.Mark} {r:Rd.St} (m:Lx.Mark) (h:RS w rb la lc L r) (ht:Lx.eqS m.text Rd.wNon=true) :
  Calls Tryd.prog 86 #[.pointer (some ⟨rb,0,none⟩),.agg #[.int .i64 m.kind,.string m.text,.int .i64 m.pos.line,.int .i64 m.pos.col]] w fun e w'=>e=.returned (.tuple #[])∧RS w' rb la lc L (Rd.declaration L r m)∧Below rb w w':=by
 have hO:=Lib.hid h.ok
 obtain ⟨ta,tc,sa,sc,lva,lvc,ra,rc,h0⟩:=h.at1
 have hrb:=h0.lt
 have A0:=Lib.hid (h0.alloc (.cells #[.int .i64 m.kind,.string m.text,.int .i64 m.pos.line,.int .i64 m.pos.col] 140))
 have M0:=Lib.hid (MkB.new w m)
 have G0:=Lib.hid h0.G
 have hn_token:(m.text.toList == [116,111,107,101,110])=false:=by rw [← lit_token,← eqS_toList]; exact eqs_no ht (by decide)
 have hn_skip:(m.text.toList == [115,107,105,112])=false:=by rw [← lit_skip,← eqS_toList]; exact eqs_no ht (by decide)
 have hn_left:(m.text.toList == [108,101,102,116])=false:=by rw [← lit_left,← eqS_toList]; exact eqs_no ht (by decide)
 have hn_right:(m.text.toList == [114,105,103,104,116])=false:=by rw [← lit_right,← eqS_toList]; exact eqs_no ht (by decide)
 have he_non:(m.text.toList == [110,111,110,97,115,115,111,99])=true:=by rw [← lit_non,← eqS_toList]; exact ht
 have HT:Hid (LevW m.text 3):=Lib.hid (.inr (.inr ⟨ht,rfl⟩))
 obtain ⟨c1,c2,c3,c4,c5,c6,c7,c8,cf⟩:=A0.out.R.cells
 clear h h0 ht c1 c2 c3 c5 c6 c7 c8 cf
 cases h20:((r.g.levs.length:Int) == 10)
 case true =>
  have hv:Hid (Rd.declaration L r m=Rd.fail r 3 m.pos):=Lib.hid (dl1 HT.out (by rw [← beq10]; exact h20))
  go_enter Tryd.func86,Tryd.ntmps86
  go_wp2_with fail
  refine (fail_any 3 m.pos A0.out.R).mono ?_
  rintro e w1 ⟨rfl,hR,hu⟩
  have A1:=Lib.hid (A0.out.step hR hu (fail_g _ _ _))
  have hgf:=fail_g r 3 m.pos
  rw [← hgf] at hO
  have HGF:=Lib.hid hgf
  clear hR hu c4 hgf
  go_wp2_with fail
  refine bodyPost_ret (results_none rfl _ _ _) rfl ⟨rfl,?_⟩
  rw [hv.out]
  exact A1.out.rs hO.out hrb
 case false =>
  have hv0:=dl2 (L:=L) (r:=r) HT.out (by rw [← beq10]; exact h20)
  obtain ⟨R,hR⟩:∃ R,Rd.names L (L.length+2) r ⟨3,[]⟩=R:=⟨_,rfl⟩
  rw [hR] at hv0
  have hv:=Lib.hid hv0
  have HR:=Lib.hid hR
  have hbx:rb < w.heap.size+1:=by omega
  have AX:=Lib.hid (A0.out.alloc (.cells #[.int .i64 3,.slice none 0 0] 107))
  have X0:Hid (XB ((w.alloc (.cells #[.int .i64 m.kind,.string m.text,.int .i64 m.pos.line,.int .i64 m.pos.col] 140)).alloc (.cells #[.int .i64 3,.slice none 0 0] 107)) (w.heap.size+1) 3 (.slice none 0 0)):=Lib.hid (by unfold XB; exact (heap_alloc_new (w.alloc (.cells #[.int .i64 m.kind,.string m.text,.int .i64 m.pos.line,.int .i64 m.pos.col] 140)) _ |> fun h=>by simpa using h))
  clear hv0 hR
  go_enter Tryd.func86,Tryd.ntmps86
  go_wp2_with fail
  generalize (w.alloc (.cells #[.int .i64 m.kind,.string m.text,.int .i64 m.pos.line,.int .i64 m.pos.col] 140)).alloc (.cells #[.int .i64 3,.slice none 0 0] 107)=W0 at AX X0 ⊢
  clear c4
  have hN:=AX.out.ns
  go_loopg [] (L.length+2) (fun k wr=>∃ (r':Rd.St) (xl:List ByteArray) (na:Option Addr) (nc:Nat),Hid (Rd.names L k r' ⟨3,xl⟩=R)∧Hid (r'.g=r.g)∧Hid ((r'.bad.code == 0)=true→L.length+2≤r'.i+k∧xl.length≤r'.i)∧Hid (xl.length≤r'.i+1) ∧
   Hid (At1 w wr rb la lc L r' (.slice ta r.g.toks.length tc) (.slice sa r.g.skips.length sc) (.slice lva r.g.levs.length lvc) (.slice ra r.g.rules.length rc))∧Hid (XB wr (w.heap.size+1) 3 (.slice na xl.length nc))∧Hid (wr.ownsRow w.heap.size 9 1 (.slice na xl.length nc) xl.length (strV xl)))
  case atStart=>exact ⟨r,[],none,0,HR,Lib.hid rfl,Lib.hid (fun _=>⟨by omega,by simp⟩),Lib.hid (by simp),AX,X0,Lib.hid (World.ownsRow_nil _ _ _ _)⟩
  case round =>
   clear AX X0 HR
   obtain ⟨r',xl,na,nc,HRn,HG,HF,HL,HA,HX,HO⟩:=hrel
   obtain ⟨c1,c2,c3,c4,c5,c6,c7,c8,cf⟩:=HA.out.R.cells
   obtain ⟨x0,x1,xf⟩:=HX.out.cells
   clear c1 c2 c3 c4 c5 c6 c7 cf xf x0
   cases hb:(r'.bad.code == 0)
   case false =>
    have hRv:Hid (R=(r',⟨3,xl⟩)):=Lib.hid (HRn.out.symm.trans (names_stop hb))
    clear HRn
    have hrv1:=hRv.out
    have hlW:=HA.out.lt
    have hlx:=HX.out.lt
    have hO1:=hO.out.l
    have hgl:Hid (r'.g=r.g):=HG
    have hn10:r.g.levs.length < 10:=by
     have:r.g.levs.length≠10:=by intro h; rw [h] at h20; exact absurd h20 (by decide)
     omega
    have hxn:=HL.out
    have hri:=HA.out.ns
    have cc4:∀ z:Wd wr.heap.size wr,z.w.cell? ⟨rb,4,none⟩=some (.slice lva r.g.levs.length lvc):=fun z=>((bcell z.ok).1 _ _ hlW).trans HA.out.R.cells.2.2.2.1
    have xx0:∀ z:Wd wr.heap.size wr,z.w.cell? ⟨w.heap.size+1,0,none⟩=some (.int .i64 3):=fun z=>((bcell z.ok).1 _ _ hlx).trans HX.out.cells.1
    have xx1:∀ z:Wd wr.heap.size wr,z.w.cell? ⟨w.heap.size+1,1,none⟩=some (.slice na xl.length nc):=fun z=>((bcell z.ok).1 _ _ hlx).trans HX.out.cells.2.1
    clear hrv1
    go_wp2_with fail
    refine region_fx 7 wr.heap.size (fun c a d v w h=>by cases d<;>exact h) (Nat.le_refl _) (by kernel_rfl) (by kernel_rfl) ?_
    simp only [List.take_succ_cons,List.take_zero,List.drop_succ_cons,List.drop_zero]
    repeat (go_big_quiet_step (fail))
    refine wpQuiet_nil ?_
    intro z
    have A3:=Lib.hid (HA.out.below z.ok)
    have O3:=Lib.hid (owns_below HO.out z.ok)
    clear cc4 xx0 xx1
    have hrz:=A3.out.lt
    generalize z.w=Z at A3 O3 hrz ⊢
    have hGZ:=(A3.out.alloc (.cells #[.int .i64 3,.slice na xl.length nc] 107)).G
    have hNs:Hid (NsM (Z.alloc (.cells #[.int .i64 3,.slice na xl.length nc] 107)) (rb+1) (.slice na xl.length nc) xl):=Lib.hid (NsM.of_owns (owns_base (O3.out.alloc _) (by omega)) rfl)
    obtain ⟨ns,hns,hl1,hl2⟩:=hGZ.l
    rw [hgl.out] at hns hl1
    have hT:=Lib.hid hl1
    have HNS:=Lib.hid hns
    have HL2:=Lib.hid hl2
    clear hl1 hGZ hns hl2
    go_wp2_with (refine list_append_one rfl _ _ _ rfl 107 (rb+1) 2 32 elt_lev (.slice lva r.g.levs.length lvc) r.g.levs.length (lvC r.g.levs ns) rfl hT.out ⟨Z.heap.size,0,none⟩ 1 [.int .i64 3,.slice na xl.length nc] rfl rfl (World.news_of_block (cs:=#[.int .i64 3,.slice na xl.length nc]) (t:=107) (fr:=(0,0)) (heap_alloc_new Z _)) (by simp [Value.oneCell']) (by unfold maxLen; omega) (by omega) (by simp; omega) ?_; intro gg gcap w4 hown hgrow hbg hlt4 hat4; have hR4:=rdb_grown (A3.out.alloc (.cells #[.int .i64 3,.slice na xl.length nc] 107)).R hT.out hgrow; have q2:=hR4.cells.2.2.2.1; have qf:=hR4.cells.2.2.2.2.2.2.2.2 4; have HE:=Lib.hid (addLev_end ⟨3,xl⟩ (A3.out.alloc (.cells #[.int .i64 3,.slice na xl.length nc] 107)) hrb hgl.out hO.out hn10 (by simp only; omega) HNS.out hT.out HL2.out hNs.out hgrow hown); clear hR4 hown hgrow hat4)
    go_end0
    rw [hv.out,hRv.out]
    exact ⟨rfl,HE.out⟩
   case true =>
    have hff:=HF.out hb
    have hi':=HA.out.ns
    obtain ⟨f,rfl⟩:∃ f,gk=f+1:=⟨gk - 1,by omega⟩
    have HB:=Lib.hid hb
    cases hx0:((xl.length:Int) == 0)
    case true =>
     have hstep:Hid ((xl.length == 0)=true∨((Rd.now L r').kind == 1)=true):=Lib.hid (.inl (by rw [← beq0]; exact hx0))
     have htk:=take_any 1 (by decide) HA.out.R
     obtain ⟨m1,hm1⟩:∃ m1,m1=(Rd.take L r' 1).1:=⟨_,rfl⟩
     obtain ⟨r1,hr1⟩:∃ r1,r1=(Rd.take L r' 1).2:=⟨_,rfl⟩
     rw [← hm1,← hr1] at htk
     simp only [vMark] at htk
     have hg1:Hid (r1.g=r'.g):=Lib.hid (by rw [hr1,take_g])
     have HM1:=Lib.hid hm1
     have HR1:=Lib.hid hr1
     clear hm1 hr1
     go_wp2_with fail
     refine htk.mono ?_
     rintro e w2 ⟨rfl,hR,hu⟩
     have hbn:w.heap.size+1≠rb:=by omega
     have HA2:=Lib.hid ((HA.out.step hR hu hg1.out).alloc (.cells #[.int .i64 m1.kind,.string m1.text,.int .i64 m1.pos.line,.int .i64 m1.pos.col] 140))
     have HX2:=Lib.hid ((HX.out.upd hu hbn).below ((Below.refl _ _).alloc (Nat.le_refl _) (.cells #[.int .i64 m1.kind,.string m1.text,.int .i64 m1.pos.line,.int .i64 m1.pos.col] 140)))
     have HO2:=Lib.hid ((owns_upd HO.out hu hrb).alloc (.cells #[.int .i64 m1.kind,.string m1.text,.int .i64 m1.pos.line,.int .i64 m1.pos.col] 140))
     have HM2:=Lib.hid (MkB.new w2 m1)
     have hzu:=hu.size
     clear hR hu htk hx0 x1 c8
     go_wp2_with fail
     generalize hW3:w2.alloc (.cells #[.int .i64 m1.kind,.string m1.text,.int .i64 m1.pos.line,.int .i64 m1.pos.col] 140)=W3 at HA2 HX2 HO2 HM2 ⊢
     have hbm:w.heap.size≤w2.heap.size:=by have:=HA.out.K.size; have:=hzu; omega
     clear hW3
     have hlW:=HA2.out.lt
     have hlx:=HX2.out.lt
     have hlm:=HM2.out.lt
     have c8:∀ z:Wd W3.heap.size W3,z.w.cell? ⟨rb,8,none⟩=some (.int .i64 r1.bad.code):=fun z=>((bcell z.ok).1 _ _ hlW).trans HA2.out.R.cells.2.2.2.2.2.2.2.1
     have c4:∀ z:Wd W3.heap.size W3,z.w.cell? ⟨rb,4,none⟩=some (.slice lva r.g.levs.length lvc):=fun z=>((bcell z.ok).1 _ _ hlW).trans HA2.out.R.cells.2.2.2.1
     have d1:∀ z:Wd W3.heap.size W3,z.w.cell? ⟨w2.heap.size,1,none⟩=some (.string m1.text):=fun z=>((bcell z.ok).1 _ _ hlm).trans HM2.out.cells.2.1
     have xx0:∀ z:Wd W3.heap.size W3,z.w.cell? ⟨w.heap.size+1,0,none⟩=some (.int .i64 3):=fun z=>((bcell z.ok).1 _ _ hlx).trans HX2.out.cells.1
     have xx1:∀ z:Wd W3.heap.size W3,z.w.cell? ⟨w.heap.size+1,1,none⟩=some (.slice na xl.length nc):=fun z=>((bcell z.ok).1 _ _ hlx).trans HX2.out.cells.2.1
     cases hb1:(r1.bad.code == 0)
     case false =>
      have hst:=Lib.hid (names_step (k:=f) HB.out hstep.out HM1.out HR1.out (r2:=r1) (xl:=xl) (a:=3) (by rw [hb1]; rfl))
      have hg2:Hid (r1.g=r'.g):=hg1
      have hok2:Hid ((r1.bad.code == 0)=true→L.length+2≤r1.i+f∧xl.length+1≤r1.i):=Lib.hid (fun h=>by rw [hb1] at h; cases h)
      have hle2:Hid (xl.length+1≤r1.i+1):=Lib.hid (by have:=hff; have:=take_ge L r' 1; rw [← HR1.out] at this; omega)
      refine region_cls W3.heap.size (by kernel_rfl) (by kernel_rfl) ?_
      repeat (go_big_quiet_step (fail))
      refine wpQuiet_nil ?_
      intro z
      have HA4:=Lib.hid (HA2.out.below z.ok)
      have HX4:=Lib.hid (HX2.out.below z.ok)
      have HO4:=Lib.hid (owns_below HO2.out z.ok)
      have HM4:=Lib.hid (HM2.out.below z.ok)
      clear c8 c4 d1 xx0 xx1 hb1 HA2 HX2 HO2 HM2
      generalize z.w=W4 at HA4 HX4 HO4 HM4 ⊢
      obtain ⟨y0,y1,y2,y3⟩:=HM4.out.cells
      obtain ⟨q0,q1,qf⟩:=HX4.out.cells
      clear y0 y2 y3 q0
      have hni:=HA4.out.ns
      have hxl:=HL.out
      have hsn:Hid (strV (xl++[m1.text])=strV xl++[.string m1.text]):=Lib.hid (strV_snoc xl m1.text)
      have HOn:=Lib.hid (HO4.out.alloc (.cells #[.string m1.text] 9))
      have HAn:=Lib.hid (HA4.out.alloc (.cells #[.string m1.text] 9))
      have HXn:=Lib.hid (HX4.out.below ((Below.refl _ _).alloc (Nat.le_refl _) (.cells #[.string m1.text] 9)))
      have hzw:=HA4.out.K.size
      go_wp2_with (refine list_append_one rfl _ _ _ rfl 9 w.heap.size 1 16 elt_str (.slice na xl.length nc) xl.length (strV xl) rfl HOn.out ⟨W4.heap.size,0,none⟩ 1 [.string m1.text] rfl rfl (World.news_of_block (cs:=#[.string m1.text]) (t:=9) (fr:=(0,0)) (heap_alloc_new W4 _)) (by simp [Value.oneCell']) (by unfold maxLen; omega) (by omega) (by simp; omega) ?_; intro gg gcap w6 hown hgrow hbg hlt6 hat6; have HX6:=Lib.hid (HXn.out.grown HOn.out hgrow); have qx:=HX6.out.cells.2.1; have qxf:=HX6.out.cells.2.2 1; have HA6:=Lib.hid (HAn.out.app (by rw [hg2.out,HG.out]; exact G0.out) hrb HOn.out hgrow); have HO6:=Lib.hid hown; clear hown hgrow hat6)
      have HA7:=Lib.hid (HA6.out.set (by rw [hg2.out,HG.out]; exact G0.out) hrb ⟨w.heap.size+1,1,none⟩ (by simp) (.slice (some ⟨gg,0,none⟩) (xl.length+1) gcap))
      have HX7:=Lib.hid (HX6.out.set (.slice (some ⟨gg,0,none⟩) (xl.length+1) gcap))
      have HO7:=Lib.hid (owns_set HO6.out HX6.out (.slice (some ⟨gg,0,none⟩) (xl.length+1) gcap))
      clear HA6 HX6 HO6 qx qxf
      go_roundg f
      case measure=>omega
      case rel =>
       have hln:(xl++[m1.text]).length=xl.length+1:=by simp
       exact ⟨r1,xl++[m1.text],some ⟨gg,0,none⟩,gcap,Lib.hid (by rw [← hst.out]; exact HRn.out),Lib.hid (hg2.out.trans HG.out),by rw [hln]; exact hok2,by rw [hln]; exact hle2,HA7,by rw [hln]; exact HX7,by rw [hln,hsn.out]; exact HO7⟩
     case true =>
      have hgr:r1.g=r.g:=hg1.out.trans HG.out
      have hLv:=HA2.out.G.levV
      have hlb:∀ i (hi:i < r1.g.levs.length),r1.g.levs[i].names.length≤100000:=fun i hi=>by have:=hO.out.ln (r1.g.levs[i]) (by rw [← hgr]; exact List.getElem_mem _); omega
      have hln:r1.g.levs.length≤5000:=by rw [hgr]; have:=hO.out.l; omega
      have hlq:r1.g.levs.length=r.g.levs.length:=by rw [hgr]
      cases hl1:Rd.level r1.g.levs m1.text
      case true =>
       have hst:=Lib.hid (names_step (k:=f) HB.out hstep.out HM1.out HR1.out (r2:=Rd.fail r1 15 m1.pos) (xl:=xl) (a:=3) (by rw [hb1,hl1]; rfl))
       have hlev:∀ z:Wd W3.heap.size W3,Calls Tryd.prog 105 #[.slice lva r.g.levs.length lvc,.string m1.text] z.w fun e w'=>e=.returned (.bool true)∧z.w=w':=fun z=>by
        have:=level_any (cap:=lvc) m1.text (hLv.below z.ok) hln hlb
        rw [hl1,hlq] at this
        exact this
       refine region_cls W3.heap.size (by kernel_rfl) (by kernel_rfl) ?_
       repeat (go_big_quiet_step (first | (go_at_call 105; exact calls_cls_same _ (hlev _))))
       refine wpQuiet_nil ?_
       intro z
       have HA4:=Lib.hid (HA2.out.below z.ok)
       have HX4:=Lib.hid (HX2.out.below z.ok)
       have HO4:=Lib.hid (owns_below HO2.out z.ok)
       have HM4:=Lib.hid (HM2.out.below z.ok)
       clear c8 c4 d1 xx0 xx1 HA2 HX2 HO2 HM2 hlev hLv hlb hln hlq hgr hl1
       generalize z.w=W4 at HA4 HX4 HO4 HM4 ⊢
       obtain ⟨y0,y1,y2,y3⟩:=HM4.out.cells
       clear y0 y1
       have hfa:=fail_any 15 m1.pos HA4.out.R
       go_wp2_with fail
       refine hfa.mono ?_
       rintro e w5 ⟨rfl,hR,hu⟩
       have hbn2:w2.heap.size≠rb:=by omega
       have HA5:=Lib.hid (HA4.out.step hR hu (fail_g _ _ _))
       have HX5:=Lib.hid (HX4.out.upd hu hbn)
       have HO5:=Lib.hid (owns_upd HO4.out hu hrb)
       have HM5:=Lib.hid (HM4.out.upd hu hbn2)
       have hfg:=Lib.hid (fail_g r1 15 m1.pos)
       have hfi:=Lib.hid (fail_i r1 15 m1.pos)
       have hfb:=Lib.hid (fail_bad r1 15 m1.pos hb1)
       obtain ⟨r2,hr2⟩:∃ r2,r2=Rd.fail r1 15 m1.pos:=⟨_,rfl⟩
       rw [← hr2] at HA5 hst hfg hfi hfb
       have hg2:Hid (r2.g=r'.g):=Lib.hid (hfg.out.trans hg1.out)
       have hok2:Hid ((r2.bad.code == 0)=true→L.length+2≤r2.i+f∧xl.length+1≤r2.i):=Lib.hid (fun h=>by rw [hfb.out] at h; cases h)
       have hle2:Hid (xl.length+1≤r2.i+1):=Lib.hid (by have:=hff; have:=take_ge L r' 1; rw [← HR1.out] at this; rw [hfi.out]; omega)
       clear hR hu hfa hr2 y2 y3 HA4 HX4 HO4 HM4 hb1
       obtain ⟨y0,y1,y2,y3⟩:=HM5.out.cells
       obtain ⟨q0,q1,qf⟩:=HX5.out.cells
       clear y0 y2 y3 q0
       have hni:=HA5.out.ns
       have hxl:=HL.out
       have hsn:Hid (strV (xl++[m1.text])=strV xl++[.string m1.text]):=Lib.hid (strV_snoc xl m1.text)
       have HOn:=Lib.hid (HO5.out.alloc (.cells #[.string m1.text] 9))
       have HAn:=Lib.hid (HA5.out.alloc (.cells #[.string m1.text] 9))
       have HXn:=Lib.hid (HX5.out.below ((Below.refl _ _).alloc (Nat.le_refl _) (.cells #[.string m1.text] 9)))
       have hzw:=HA5.out.K.size
       go_wp2_with (refine list_append_one rfl _ _ _ rfl 9 w.heap.size 1 16 elt_str (.slice na xl.length nc) xl.length (strV xl) rfl HOn.out ⟨w5.heap.size,0,none⟩ 1 [.string m1.text] rfl rfl (World.news_of_block (cs:=#[.string m1.text]) (t:=9) (fr:=(0,0)) (heap_alloc_new w5 _)) (by simp [Value.oneCell']) (by unfold maxLen; omega) (by omega) (by simp; omega) ?_; intro gg gcap w6 hown hgrow hbg hlt6 hat6; have HX6:=Lib.hid (HXn.out.grown HOn.out hgrow); have qx:=HX6.out.cells.2.1; have qxf:=HX6.out.cells.2.2 1; have HA6:=Lib.hid (HAn.out.app (by rw [hg2.out,HG.out]; exact G0.out) hrb HOn.out hgrow); have HO6:=Lib.hid hown; clear hown hgrow hat6)
       have HA7:=Lib.hid (HA6.out.set (by rw [hg2.out,HG.out]; exact G0.out) hrb ⟨w.heap.size+1,1,none⟩ (by simp) (.slice (some ⟨gg,0,none⟩) (xl.length+1) gcap))
       have HX7:=Lib.hid (HX6.out.set (.slice (some ⟨gg,0,none⟩) (xl.length+1) gcap))
       have HO7:=Lib.hid (owns_set HO6.out HX6.out (.slice (some ⟨gg,0,none⟩) (xl.length+1) gcap))
       clear HA6 HX6 HO6 qx qxf
       go_roundg f
       case measure=>omega
       case rel =>
        have hln:(xl++[m1.text]).length=xl.length+1:=by simp
        exact ⟨r2,xl++[m1.text],some ⟨gg,0,none⟩,gcap,Lib.hid (by rw [← hst.out]; exact HRn.out),Lib.hid (hg2.out.trans HG.out),by rw [hln]; exact hok2,by rw [hln]; exact hle2,HA7,by rw [hln]; exact HX7,by rw [hln,hsn.out]; exact HO7⟩
      case false =>
       have hNs0:NsM W3 (rb+1) (.slice na xl.length nc) xl:=NsM.of_owns (owns_base HO2.out (by omega)) rfl
       obtain ⟨na',nc',ena,hstr⟩:=hNs0.strs
       simp at ena
       obtain ⟨rfl,rfl⟩:=ena
       have e8:W3.cell? ⟨rb,8,none⟩=some (.int .i64 r1.bad.code):=HA2.out.R.cells.2.2.2.2.2.2.2.1
       have e4:W3.cell? ⟨rb,4,none⟩=some (.slice lva r.g.levs.length lvc):=HA2.out.R.cells.2.2.2.1
       have e1:W3.cell? ⟨w2.heap.size,1,none⟩=some (.string m1.text):=HM2.out.cells.2.1
       have ex0:W3.cell? ⟨w.heap.size+1,0,none⟩=some (.int .i64 3):=HX2.out.cells.1
       have ex1:W3.cell? ⟨w.heap.size+1,1,none⟩=some (.slice na xl.length nc):=HX2.out.cells.2.1
       have hlevZ0:∀ z:Wd W3.heap.size W3,Calls Tryd.prog 105 #[.slice lva r.g.levs.length lvc,.string m1.text] z.w fun e w'=>e=.returned (.bool false)∧z.w=w':=fun z=>by
        have:=level_any (cap:=lvc) m1.text (hLv.below z.ok) hln hlb
        rw [hl1,hlq] at this
        exact this
       have hbW:=((Below.refl W3.heap.size W3).alloc (Nat.le_refl _) (.cells #[.int .i64 3,.slice na xl.length nc] 107)).drew
       have hnb:=heap_alloc_new W3 (.cells #[.int .i64 3,.slice na xl.length nc] 107)
       have hLvB:LvV (W3.alloc (.cells #[.int .i64 3,.slice na xl.length nc] 107)).drew (some ⟨W3.heap.size,0,none⟩) [⟨3,xl⟩]:=by
        intro i hi
        obtain rfl:i=0:=by simpa using hi
        exact ⟨W3.heap.size,0,na,nc,rfl,by rw [Nat.zero_mul,Nat.zero_add]; exact (cell_of_row _ _ _ _ _ _ hnb).trans rfl,by rw [Nat.zero_mul,Nat.zero_add]; exact (cell_of_row _ _ _ _ _ _ hnb).trans rfl,hstr.below hbW⟩
       have hxl0:=HL.out
       have hxl1:=HA.out.ns
       have hlevB:=level_any (cap:=1) m1.text hLvB (by simp) (fun i hi=>by
        obtain rfl:i=0:=by simpa using hi
        simp only [List.getElem_cons_zero]; omega)
       cases hl2:Rd.level [⟨3,xl⟩] m1.text
       case true =>
        have hst:=Lib.hid (names_step (k:=f) HB.out hstep.out HM1.out HR1.out (r2:=Rd.fail r1 15 m1.pos) (xl:=xl) (a:=3) (by rw [hb1,hl1,hl2]; rfl))
        rw [hl2] at hlevB
        simp only [List.length_singleton] at hlevB
        clear hLvB hnb hNs0 hstr hLv hlb hln hlq hgr hl1 hl2
        have HBW:=Lib.hid hbW
        clear hbW
        have hlevZ:∀ z:Wd W3.heap.size W3,Calls Tryd.prog 105 #[.slice lva r.g.levs.length lvc,.string m1.text] z.w fun e w'=>e=.returned (.bool false)∧z.w=w':=hlevZ0
        clear e8 e4 e1 ex0 ex1 hlevZ0
        refine region_gb [0,1,2,3,4,5,6,7,8,9,10,11,12,13,14,15,16,18,19] [17,20,21,22] 208 W3.heap.size ?_ (fun c a d v w h=>by cases d<;>exact h) (Nat.le_refl _) (by kernel_rfl) (by kernel_rfl) (by rfl) ?_ ?_
        rotate_left
        ·intro z
         simp only [pickL,List.getElem?_cons_zero,List.getElem?_cons_succ]
         repeat (first | go_big_quiet_step (fail) | (go_big_quiet_want; go_big_quiet_op; apply Exists.intro; refine ⟨?_,?_⟩; (· (go_at_call 105; exact calls_eq (hlevZ z))); go_big_quiet_on))
         refine wpQuiet_nil ?_
         exact rfl
        simp only [pickL,List.getElem?_cons_zero,List.getElem?_cons_succ]
        clear c8 c4 d1 xx0 xx1 hlevZ
        go_wp2_with fail
        refine hlevB.mono ?_
        rintro e w' ⟨rfl,rfl⟩
        have HA4:=Lib.hid (HA2.out.below HBW.out)
        have HX4:=Lib.hid (HX2.out.below HBW.out)
        have HO4:=Lib.hid (owns_below HO2.out HBW.out)
        have HM4:=Lib.hid (HM2.out.below HBW.out)
        clear HA2 HX2 HO2 HM2 hlevB HBW
        generalize (W3.alloc (.cells #[.int .i64 3,.slice na xl.length nc] 107)).drew=W4 at HA4 HX4 HO4 HM4 ⊢
        obtain ⟨y0,y1,y2,y3⟩:=HM4.out.cells
        clear y0 y1
        have hfa:=fail_any 15 m1.pos HA4.out.R
        go_wp2_with fail
        refine hfa.mono ?_
        rintro e w5 ⟨rfl,hR,hu⟩
        have hbn2:w2.heap.size≠rb:=by omega
        have HA5:=Lib.hid (HA4.out.step hR hu (fail_g _ _ _))
        have HX5:=Lib.hid (HX4.out.upd hu hbn)
        have HO5:=Lib.hid (owns_upd HO4.out hu hrb)
        have HM5:=Lib.hid (HM4.out.upd hu hbn2)
        have hfg:=Lib.hid (fail_g r1 15 m1.pos)
        have hfi:=Lib.hid (fail_i r1 15 m1.pos)
        have hfb:=Lib.hid (fail_bad r1 15 m1.pos hb1)
        obtain ⟨r2,hr2⟩:∃ r2,r2=Rd.fail r1 15 m1.pos:=⟨_,rfl⟩
        rw [← hr2] at HA5 hst hfg hfi hfb
        have hg2:Hid (r2.g=r'.g):=Lib.hid (hfg.out.trans hg1.out)
        have hok2:Hid ((r2.bad.code == 0)=true→L.length+2≤r2.i+f∧xl.length+1≤r2.i):=Lib.hid (fun h=>by rw [hfb.out] at h; cases h)
        have hle2:Hid (xl.length+1≤r2.i+1):=Lib.hid (by have:=hff; have:=take_ge L r' 1; rw [← HR1.out] at this; rw [hfi.out]; omega)
        clear hR hu hfa hr2 y2 y3 HA4 HX4 HO4 HM4 hb1
        obtain ⟨y0,y1,y2,y3⟩:=HM5.out.cells
        obtain ⟨q0,q1,qf⟩:=HX5.out.cells
        clear y0 y2 y3 q0
        have hni:=HA5.out.ns
        have hxl:=HL.out
        have hsn:Hid (strV (xl++[m1.text])=strV xl++[.string m1.text]):=Lib.hid (strV_snoc xl m1.text)
        have HOn:=Lib.hid (HO5.out.alloc (.cells #[.string m1.text] 9))
        have HAn:=Lib.hid (HA5.out.alloc (.cells #[.string m1.text] 9))
        have HXn:=Lib.hid (HX5.out.below ((Below.refl _ _).alloc (Nat.le_refl _) (.cells #[.string m1.text] 9)))
        have hzw:=HA5.out.K.size
        go_wp2_with (refine list_append_one rfl _ _ _ rfl 9 w.heap.size 1 16 elt_str (.slice na xl.length nc) xl.length (strV xl) rfl HOn.out ⟨w5.heap.size,0,none⟩ 1 [.string m1.text] rfl rfl (World.news_of_block (cs:=#[.string m1.text]) (t:=9) (fr:=(0,0)) (heap_alloc_new w5 _)) (by simp [Value.oneCell']) (by unfold maxLen; omega) (by omega) (by simp; omega) ?_; intro gg gcap w6 hown hgrow hbg hlt6 hat6; have HX6:=Lib.hid (HXn.out.grown HOn.out hgrow); have qx:=HX6.out.cells.2.1; have qxf:=HX6.out.cells.2.2 1; have HA6:=Lib.hid (HAn.out.app (by rw [hg2.out,HG.out]; exact G0.out) hrb HOn.out hgrow); have HO6:=Lib.hid hown; clear hown hgrow hat6)
        have HA7:=Lib.hid (HA6.out.set (by rw [hg2.out,HG.out]; exact G0.out) hrb ⟨w.heap.size+1,1,none⟩ (by simp) (.slice (some ⟨gg,0,none⟩) (xl.length+1) gcap))
        have HX7:=Lib.hid (HX6.out.set (.slice (some ⟨gg,0,none⟩) (xl.length+1) gcap))
        have HO7:=Lib.hid (owns_set HO6.out HX6.out (.slice (some ⟨gg,0,none⟩) (xl.length+1) gcap))
        clear HA6 HX6 HO6 qx qxf
        go_roundg f
        case measure=>omega
        case rel =>
         have hln:(xl++[m1.text]).length=xl.length+1:=by simp
         exact ⟨r2,xl++[m1.text],some ⟨gg,0,none⟩,gcap,Lib.hid (by rw [← hst.out]; exact HRn.out),Lib.hid (hg2.out.trans HG.out),by rw [hln]; exact hok2,by rw [hln]; exact hle2,HA7,by rw [hln]; exact HX7,by rw [hln,hsn.out]; exact HO7⟩
       case false =>
        have hst:=Lib.hid (names_step (k:=f) HB.out hstep.out HM1.out HR1.out (r2:=r1) (xl:=xl) (a:=3) (by rw [hb1,hl1,hl2]; rfl))
        rw [hl2] at hlevB
        simp only [List.length_singleton] at hlevB
        have hg2:Hid (r1.g=r'.g):=hg1
        have hti:=take_ok (k:=1) (by rw [← HR1.out]; exact hb1) HB.out
        rw [← HR1.out] at hti
        have hok2:Hid ((r1.bad.code == 0)=true→L.length+2≤r1.i+f∧xl.length+1≤r1.i):=Lib.hid (fun h=>by have:=hff; omega)
        have hle2:Hid (xl.length+1≤r1.i+1):=Lib.hid (by have:=hff; omega)
        clear hLvB hnb hNs0 hstr hLv hlb hln hlq hgr hl1 hl2 hti
        have HBW:=Lib.hid hbW
        clear hbW
        have hlevZ:∀ z:Wd W3.heap.size W3,Calls Tryd.prog 105 #[.slice lva r.g.levs.length lvc,.string m1.text] z.w fun e w'=>e=.returned (.bool false)∧z.w=w':=hlevZ0
        clear e8 e4 e1 ex0 ex1 hlevZ0
        refine region_gb [0,1,2,3,4,5,6,7,8,9,10,11,12,13,14,15,16,18,19] [17,20,21,22] 208 W3.heap.size ?_ (fun c a d v w h=>by cases d<;>exact h) (Nat.le_refl _) (by kernel_rfl) (by kernel_rfl) (by rfl) ?_ ?_
        rotate_left
        ·intro z
         simp only [pickL,List.getElem?_cons_zero,List.getElem?_cons_succ]
         repeat (first | go_big_quiet_step (fail) | (go_big_quiet_want; go_big_quiet_op; apply Exists.intro; refine ⟨?_,?_⟩; (· (go_at_call 105; exact calls_eq (hlevZ z))); go_big_quiet_on))
         refine wpQuiet_nil ?_
         exact rfl
        simp only [pickL,List.getElem?_cons_zero,List.getElem?_cons_succ]
        clear c8 c4 d1 xx0 xx1 hlevZ
        go_wp2_with fail
        refine hlevB.mono ?_
        rintro e w' ⟨rfl,rfl⟩
        have HA4:=Lib.hid (HA2.out.below HBW.out)
        have HX4:=Lib.hid (HX2.out.below HBW.out)
        have HO4:=Lib.hid (owns_below HO2.out HBW.out)
        have HM4:=Lib.hid (HM2.out.below HBW.out)
        clear HA2 HX2 HO2 HM2 hlevB HBW hb1
        generalize (W3.alloc (.cells #[.int .i64 3,.slice na xl.length nc] 107)).drew=W4 at HA4 HX4 HO4 HM4 ⊢
        obtain ⟨y0,y1,y2,y3⟩:=HM4.out.cells
        obtain ⟨q0,q1,qf⟩:=HX4.out.cells
        clear y0 y2 y3 q0
        have hni:=HA4.out.ns
        have hxl:=HL.out
        have hsn:Hid (strV (xl++[m1.text])=strV xl++[.string m1.text]):=Lib.hid (strV_snoc xl m1.text)
        have HOn:=Lib.hid (HO4.out.alloc (.cells #[.string m1.text] 9))
        have HAn:=Lib.hid (HA4.out.alloc (.cells #[.string m1.text] 9))
        have HXn:=Lib.hid (HX4.out.below ((Below.refl _ _).alloc (Nat.le_refl _) (.cells #[.string m1.text] 9)))
        have hzw:=HA4.out.K.size
        go_wp2_with (refine list_append_one rfl _ _ _ rfl 9 w.heap.size 1 16 elt_str (.slice na xl.length nc) xl.length (strV xl) rfl HOn.out ⟨W4.heap.size,0,none⟩ 1 [.string m1.text] rfl rfl (World.news_of_block (cs:=#[.string m1.text]) (t:=9) (fr:=(0,0)) (heap_alloc_new W4 _)) (by simp [Value.oneCell']) (by unfold maxLen; omega) (by omega) (by simp; omega) ?_; intro gg gcap w6 hown hgrow hbg hlt6 hat6; have HX6:=Lib.hid (HXn.out.grown HOn.out hgrow); have qx:=HX6.out.cells.2.1; have qxf:=HX6.out.cells.2.2 1; have HA6:=Lib.hid (HAn.out.app (by rw [hg2.out,HG.out]; exact G0.out) hrb HOn.out hgrow); have HO6:=Lib.hid hown; clear hown hgrow hat6)
        have HA7:=Lib.hid (HA6.out.set (by rw [hg2.out,HG.out]; exact G0.out) hrb ⟨w.heap.size+1,1,none⟩ (by simp) (.slice (some ⟨gg,0,none⟩) (xl.length+1) gcap))
        have HX7:=Lib.hid (HX6.out.set (.slice (some ⟨gg,0,none⟩) (xl.length+1) gcap))
        have HO7:=Lib.hid (owns_set HO6.out HX6.out (.slice (some ⟨gg,0,none⟩) (xl.length+1) gcap))
        clear HA6 HX6 HO6 qx qxf
        go_roundg f
        case measure=>omega
        case rel =>
         have hln:(xl++[m1.text]).length=xl.length+1:=by simp
         exact ⟨r1,xl++[m1.text],some ⟨gg,0,none⟩,gcap,Lib.hid (by rw [← hst.out]; exact HRn.out),Lib.hid (hg2.out.trans HG.out),by rw [hln]; exact hok2,by rw [hln]; exact hle2,HA7,by rw [hln]; exact HX7,by rw [hln,hsn.out]; exact HO7⟩
    case false =>
     obtain ⟨m0,hm0⟩:∃ m0,m0=Rd.now L r':=⟨_,rfl⟩
     have hnow:=now_any HA.out.R
     rw [← hm0] at hnow
     simp only [vMark] at hnow
     have hfl:=fld_mark0 m0.kind m0.text m0.pos.line m0.pos.col
     have HM0:=Lib.hid hm0
     clear hm0
     go_wp2_with fail
     refine hnow.mono ?_
     rintro e w1 ⟨rfl,hb1⟩
     have HA1:=Lib.hid (HA.out.below hb1)
     have HX1:=Lib.hid (HX.out.below hb1)
     have HO1:=Lib.hid (owns_below HO.out hb1)
     clear hb1 hnow c8 x1 HA HX HO
     cases hk:(m0.kind == 1)
     case false =>
      have hRv:Hid (R=(r',⟨3,xl⟩)):=Lib.hid (HRn.out.symm.trans (names_stop2 (by rw [← beq0]; exact hx0) (by rw [← HM0.out]; exact hk)))
      clear HRn
      have hrv1:=hRv.out
      have hlW:=HA1.out.lt
      have hlx:=HX1.out.lt
      have hO1:=hO.out.l
      have hgl:Hid (r'.g=r.g):=HG
      have hn10:r.g.levs.length < 10:=by
       have:r.g.levs.length≠10:=by intro h; rw [h] at h20; exact absurd h20 (by decide)
       omega
      have hxn:=HL.out
      have hri:=HA1.out.ns
      have cc4:∀ z:Wd w1.heap.size w1,z.w.cell? ⟨rb,4,none⟩=some (.slice lva r.g.levs.length lvc):=fun z=>((bcell z.ok).1 _ _ hlW).trans HA1.out.R.cells.2.2.2.1
      have xx0:∀ z:Wd w1.heap.size w1,z.w.cell? ⟨w.heap.size+1,0,none⟩=some (.int .i64 3):=fun z=>((bcell z.ok).1 _ _ hlx).trans HX1.out.cells.1
      have xx1:∀ z:Wd w1.heap.size w1,z.w.cell? ⟨w.heap.size+1,1,none⟩=some (.slice na xl.length nc):=fun z=>((bcell z.ok).1 _ _ hlx).trans HX1.out.cells.2.1
      clear hrv1
      go_wp2_with fail
      refine region_fx 7 w1.heap.size (fun c a d v w h=>by cases d<;>exact h) (Nat.le_refl _) (by kernel_rfl) (by kernel_rfl) ?_
      simp only [List.take_succ_cons,List.take_zero,List.drop_succ_cons,List.drop_zero]
      repeat (go_big_quiet_step (fail))
      refine wpQuiet_nil ?_
      intro z
      have A3:=Lib.hid (HA1.out.below z.ok)
      have O3:=Lib.hid (owns_below HO1.out z.ok)
      clear cc4 xx0 xx1
      have hrz:=A3.out.lt
      generalize z.w=Z at A3 O3 hrz ⊢
      have hGZ:=(A3.out.alloc (.cells #[.int .i64 3,.slice na xl.length nc] 107)).G
      have hNs:Hid (NsM (Z.alloc (.cells #[.int .i64 3,.slice na xl.length nc] 107)) (rb+1) (.slice na xl.length nc) xl):=Lib.hid (NsM.of_owns (owns_base (O3.out.alloc _) (by omega)) rfl)
      obtain ⟨ns,hns,hl1,hl2⟩:=hGZ.l
      rw [hgl.out] at hns hl1
      have hT:=Lib.hid hl1
      have HNS:=Lib.hid hns
      have HL2:=Lib.hid hl2
      clear hl1 hGZ hns hl2
      go_wp2_with (refine list_append_one rfl _ _ _ rfl 107 (rb+1) 2 32 elt_lev (.slice lva r.g.levs.length lvc) r.g.levs.length (lvC r.g.levs ns) rfl hT.out ⟨Z.heap.size,0,none⟩ 1 [.int .i64 3,.slice na xl.length nc] rfl rfl (World.news_of_block (cs:=#[.int .i64 3,.slice na xl.length nc]) (t:=107) (fr:=(0,0)) (heap_alloc_new Z _)) (by simp [Value.oneCell']) (by unfold maxLen; omega) (by omega) (by simp; omega) ?_; intro gg gcap w4 hown hgrow hbg hlt4 hat4; have hR4:=rdb_grown (A3.out.alloc (.cells #[.int .i64 3,.slice na xl.length nc] 107)).R hT.out hgrow; have q2:=hR4.cells.2.2.2.1; have qf:=hR4.cells.2.2.2.2.2.2.2.2 4; have HE:=Lib.hid (addLev_end ⟨3,xl⟩ (A3.out.alloc (.cells #[.int .i64 3,.slice na xl.length nc] 107)) hrb hgl.out hO.out hn10 (by simp only; omega) HNS.out hT.out HL2.out hNs.out hgrow hown); clear hR4 hown hgrow hat4)
      go_end0
      rw [hv.out,hRv.out]
      exact ⟨rfl,HE.out⟩
     case true =>
      have hstep:Hid ((xl.length == 0)=true∨((Rd.now L r').kind == 1)=true):=Lib.hid (.inr (by rw [← HM0.out]; exact hk))
      have htk:=take_any 1 (by decide) HA1.out.R
      obtain ⟨m1,hm1⟩:∃ m1,m1=(Rd.take L r' 1).1:=⟨_,rfl⟩
      obtain ⟨r1,hr1⟩:∃ r1,r1=(Rd.take L r' 1).2:=⟨_,rfl⟩
      rw [← hm1,← hr1] at htk
      simp only [vMark] at htk
      have hg1:Hid (r1.g=r'.g):=Lib.hid (by rw [hr1,take_g])
      have HM1:=Lib.hid hm1
      have HR1:=Lib.hid hr1
      clear hm1 hr1
      go_wp2_with fail
      refine htk.mono ?_
      rintro e w2 ⟨rfl,hR,hu⟩
      have hbn:w.heap.size+1≠rb:=by omega
      have HA2:=Lib.hid ((HA1.out.step hR hu hg1.out).alloc (.cells #[.int .i64 m1.kind,.string m1.text,.int .i64 m1.pos.line,.int .i64 m1.pos.col] 140))
      have HX2:=Lib.hid ((HX1.out.upd hu hbn).below ((Below.refl _ _).alloc (Nat.le_refl _) (.cells #[.int .i64 m1.kind,.string m1.text,.int .i64 m1.pos.line,.int .i64 m1.pos.col] 140)))
      have HO2:=Lib.hid ((owns_upd HO1.out hu hrb).alloc (.cells #[.int .i64 m1.kind,.string m1.text,.int .i64 m1.pos.line,.int .i64 m1.pos.col] 140))
      have HM2:=Lib.hid (MkB.new w2 m1)
      have hzu:=hu.size
      clear hR hu htk hx0 hfl hk
      go_wp2_with fail
      generalize hW3:w2.alloc (.cells #[.int .i64 m1.kind,.string m1.text,.int .i64 m1.pos.line,.int .i64 m1.pos.col] 140)=W3 at HA2 HX2 HO2 HM2 ⊢
      have hbm:w.heap.size≤w2.heap.size:=by have:=HA1.out.K.size; have:=hzu; omega
      clear hW3
      have hlW:=HA2.out.lt
      have hlx:=HX2.out.lt
      have hlm:=HM2.out.lt
      have c8:∀ z:Wd W3.heap.size W3,z.w.cell? ⟨rb,8,none⟩=some (.int .i64 r1.bad.code):=fun z=>((bcell z.ok).1 _ _ hlW).trans HA2.out.R.cells.2.2.2.2.2.2.2.1
      have c4:∀ z:Wd W3.heap.size W3,z.w.cell? ⟨rb,4,none⟩=some (.slice lva r.g.levs.length lvc):=fun z=>((bcell z.ok).1 _ _ hlW).trans HA2.out.R.cells.2.2.2.1
      have d1:∀ z:Wd W3.heap.size W3,z.w.cell? ⟨w2.heap.size,1,none⟩=some (.string m1.text):=fun z=>((bcell z.ok).1 _ _ hlm).trans HM2.out.cells.2.1
      have xx0:∀ z:Wd W3.heap.size W3,z.w.cell? ⟨w.heap.size+1,0,none⟩=some (.int .i64 3):=fun z=>((bcell z.ok).1 _ _ hlx).trans HX2.out.cells.1
      have xx1:∀ z:Wd W3.heap.size W3,z.w.cell? ⟨w.heap.size+1,1,none⟩=some (.slice na xl.length nc):=fun z=>((bcell z.ok).1 _ _ hlx).trans HX2.out.cells.2.1
      cases hb1:(r1.bad.code == 0)
      case false =>
       have hst:=Lib.hid (names_step (k:=f) HB.out hstep.out HM1.out HR1.out (r2:=r1) (xl:=xl) (a:=3) (by rw [hb1]; rfl))
       have hg2:Hid (r1.g=r'.g):=hg1
       have hok2:Hid ((r1.bad.code == 0)=true→L.length+2≤r1.i+f∧xl.length+1≤r1.i):=Lib.hid (fun h=>by rw [hb1] at h; cases h)
       have hle2:Hid (xl.length+1≤r1.i+1):=Lib.hid (by have:=hff; have:=take_ge L r' 1; rw [← HR1.out] at this; omega)
       refine region_cls W3.heap.size (by kernel_rfl) (by kernel_rfl) ?_
       repeat (go_big_quiet_step (fail))
       refine wpQuiet_nil ?_
       intro z
       have HA4:=Lib.hid (HA2.out.below z.ok)
       have HX4:=Lib.hid (HX2.out.below z.ok)
       have HO4:=Lib.hid (owns_below HO2.out z.ok)
       have HM4:=Lib.hid (HM2.out.below z.ok)
       clear c8 c4 d1 xx0 xx1 hb1 HA2 HX2 HO2 HM2
       generalize z.w=W4 at HA4 HX4 HO4 HM4 ⊢
       obtain ⟨y0,y1,y2,y3⟩:=HM4.out.cells
       obtain ⟨q0,q1,qf⟩:=HX4.out.cells
       clear y0 y2 y3 q0
       have hni:=HA4.out.ns
       have hxl:=HL.out
       have hsn:Hid (strV (xl++[m1.text])=strV xl++[.string m1.text]):=Lib.hid (strV_snoc xl m1.text)
       have HOn:=Lib.hid (HO4.out.alloc (.cells #[.string m1.text] 9))
       have HAn:=Lib.hid (HA4.out.alloc (.cells #[.string m1.text] 9))
       have HXn:=Lib.hid (HX4.out.below ((Below.refl _ _).alloc (Nat.le_refl _) (.cells #[.string m1.text] 9)))
       have hzw:=HA4.out.K.size
       go_wp2_with (refine list_append_one rfl _ _ _ rfl 9 w.heap.size 1 16 elt_str (.slice na xl.length nc) xl.length (strV xl) rfl HOn.out ⟨W4.heap.size,0,none⟩ 1 [.string m1.text] rfl rfl (World.news_of_block (cs:=#[.string m1.text]) (t:=9) (fr:=(0,0)) (heap_alloc_new W4 _)) (by simp [Value.oneCell']) (by unfold maxLen; omega) (by omega) (by simp; omega) ?_; intro gg gcap w6 hown hgrow hbg hlt6 hat6; have HX6:=Lib.hid (HXn.out.grown HOn.out hgrow); have qx:=HX6.out.cells.2.1; have qxf:=HX6.out.cells.2.2 1; have HA6:=Lib.hid (HAn.out.app (by rw [hg2.out,HG.out]; exact G0.out) hrb HOn.out hgrow); have HO6:=Lib.hid hown; clear hown hgrow hat6)
       have HA7:=Lib.hid (HA6.out.set (by rw [hg2.out,HG.out]; exact G0.out) hrb ⟨w.heap.size+1,1,none⟩ (by simp) (.slice (some ⟨gg,0,none⟩) (xl.length+1) gcap))
       have HX7:=Lib.hid (HX6.out.set (.slice (some ⟨gg,0,none⟩) (xl.length+1) gcap))
       have HO7:=Lib.hid (owns_set HO6.out HX6.out (.slice (some ⟨gg,0,none⟩) (xl.length+1) gcap))
       clear HA6 HX6 HO6 qx qxf
       go_roundg f
       case measure=>omega
       case rel =>
        have hln:(xl++[m1.text]).length=xl.length+1:=by simp
        exact ⟨r1,xl++[m1.text],some ⟨gg,0,none⟩,gcap,Lib.hid (by rw [← hst.out]; exact HRn.out),Lib.hid (hg2.out.trans HG.out),by rw [hln]; exact hok2,by rw [hln]; exact hle2,HA7,by rw [hln]; exact HX7,by rw [hln,hsn.out]; exact HO7⟩
      case true =>
       have hgr:r1.g=r.g:=hg1.out.trans HG.out
       have hLv:=HA2.out.G.levV
       have hlb:∀ i (hi:i < r1.g.levs.length),r1.g.levs[i].names.length≤100000:=fun i hi=>by have:=hO.out.ln (r1.g.levs[i]) (by rw [← hgr]; exact List.getElem_mem _); omega
       have hln:r1.g.levs.length≤5000:=by rw [hgr]; have:=hO.out.l; omega
       have hlq:r1.g.levs.length=r.g.levs.length:=by rw [hgr]
       cases hl1:Rd.level r1.g.levs m1.text
       case true =>
        have hst:=Lib.hid (names_step (k:=f) HB.out hstep.out HM1.out HR1.out (r2:=Rd.fail r1 15 m1.pos) (xl:=xl) (a:=3) (by rw [hb1,hl1]; rfl))
        have hlev:∀ z:Wd W3.heap.size W3,Calls Tryd.prog 105 #[.slice lva r.g.levs.length lvc,.string m1.text] z.w fun e w'=>e=.returned (.bool true)∧z.w=w':=fun z=>by
         have:=level_any (cap:=lvc) m1.text (hLv.below z.ok) hln hlb
         rw [hl1,hlq] at this
         exact this
        refine region_cls W3.heap.size (by kernel_rfl) (by kernel_rfl) ?_
        repeat (go_big_quiet_step (first | (go_at_call 105; exact calls_cls_same _ (hlev _))))
        refine wpQuiet_nil ?_
        intro z
        have HA4:=Lib.hid (HA2.out.below z.ok)
        have HX4:=Lib.hid (HX2.out.below z.ok)
        have HO4:=Lib.hid (owns_below HO2.out z.ok)
        have HM4:=Lib.hid (HM2.out.below z.ok)
        clear c8 c4 d1 xx0 xx1 HA2 HX2 HO2 HM2 hlev hLv hlb hln hlq hgr hl1
        generalize z.w=W4 at HA4 HX4 HO4 HM4 ⊢
        obtain ⟨y0,y1,y2,y3⟩:=HM4.out.cells
        clear y0 y1
        have hfa:=fail_any 15 m1.pos HA4.out.R
        go_wp2_with fail
        refine hfa.mono ?_
        rintro e w5 ⟨rfl,hR,hu⟩
        have hbn2:w2.heap.size≠rb:=by omega
        have HA5:=Lib.hid (HA4.out.step hR hu (fail_g _ _ _))
        have HX5:=Lib.hid (HX4.out.upd hu hbn)
        have HO5:=Lib.hid (owns_upd HO4.out hu hrb)
        have HM5:=Lib.hid (HM4.out.upd hu hbn2)
        have hfg:=Lib.hid (fail_g r1 15 m1.pos)
        have hfi:=Lib.hid (fail_i r1 15 m1.pos)
        have hfb:=Lib.hid (fail_bad r1 15 m1.pos hb1)
        obtain ⟨r2,hr2⟩:∃ r2,r2=Rd.fail r1 15 m1.pos:=⟨_,rfl⟩
        rw [← hr2] at HA5 hst hfg hfi hfb
        have hg2:Hid (r2.g=r'.g):=Lib.hid (hfg.out.trans hg1.out)
        have hok2:Hid ((r2.bad.code == 0)=true→L.length+2≤r2.i+f∧xl.length+1≤r2.i):=Lib.hid (fun h=>by rw [hfb.out] at h; cases h)
        have hle2:Hid (xl.length+1≤r2.i+1):=Lib.hid (by have:=hff; have:=take_ge L r' 1; rw [← HR1.out] at this; rw [hfi.out]; omega)
        clear hR hu hfa hr2 y2 y3 HA4 HX4 HO4 HM4 hb1
        obtain ⟨y0,y1,y2,y3⟩:=HM5.out.cells
        obtain ⟨q0,q1,qf⟩:=HX5.out.cells
        clear y0 y2 y3 q0
        have hni:=HA5.out.ns
        have hxl:=HL.out
        have hsn:Hid (strV (xl++[m1.text])=strV xl++[.string m1.text]):=Lib.hid (strV_snoc xl m1.text)
        have HOn:=Lib.hid (HO5.out.alloc (.cells #[.string m1.text] 9))
        have HAn:=Lib.hid (HA5.out.alloc (.cells #[.string m1.text] 9))
        have HXn:=Lib.hid (HX5.out.below ((Below.refl _ _).alloc (Nat.le_refl _) (.cells #[.string m1.text] 9)))
        have hzw:=HA5.out.K.size
        go_wp2_with (refine list_append_one rfl _ _ _ rfl 9 w.heap.size 1 16 elt_str (.slice na xl.length nc) xl.length (strV xl) rfl HOn.out ⟨w5.heap.size,0,none⟩ 1 [.string m1.text] rfl rfl (World.news_of_block (cs:=#[.string m1.text]) (t:=9) (fr:=(0,0)) (heap_alloc_new w5 _)) (by simp [Value.oneCell']) (by unfold maxLen; omega) (by omega) (by simp; omega) ?_; intro gg gcap w6 hown hgrow hbg hlt6 hat6; have HX6:=Lib.hid (HXn.out.grown HOn.out hgrow); have qx:=HX6.out.cells.2.1; have qxf:=HX6.out.cells.2.2 1; have HA6:=Lib.hid (HAn.out.app (by rw [hg2.out,HG.out]; exact G0.out) hrb HOn.out hgrow); have HO6:=Lib.hid hown; clear hown hgrow hat6)
        have HA7:=Lib.hid (HA6.out.set (by rw [hg2.out,HG.out]; exact G0.out) hrb ⟨w.heap.size+1,1,none⟩ (by simp) (.slice (some ⟨gg,0,none⟩) (xl.length+1) gcap))
        have HX7:=Lib.hid (HX6.out.set (.slice (some ⟨gg,0,none⟩) (xl.length+1) gcap))
        have HO7:=Lib.hid (owns_set HO6.out HX6.out (.slice (some ⟨gg,0,none⟩) (xl.length+1) gcap))
        clear HA6 HX6 HO6 qx qxf
        go_roundg f
        case measure=>omega
        case rel =>
         have hln:(xl++[m1.text]).length=xl.length+1:=by simp
         exact ⟨r2,xl++[m1.text],some ⟨gg,0,none⟩,gcap,Lib.hid (by rw [← hst.out]; exact HRn.out),Lib.hid (hg2.out.trans HG.out),by rw [hln]; exact hok2,by rw [hln]; exact hle2,HA7,by rw [hln]; exact HX7,by rw [hln,hsn.out]; exact HO7⟩
       case false =>
        have hNs0:NsM W3 (rb+1) (.slice na xl.length nc) xl:=NsM.of_owns (owns_base HO2.out (by omega)) rfl
        obtain ⟨na',nc',ena,hstr⟩:=hNs0.strs
        simp at ena
        obtain ⟨rfl,rfl⟩:=ena
        have e8:W3.cell? ⟨rb,8,none⟩=some (.int .i64 r1.bad.code):=HA2.out.R.cells.2.2.2.2.2.2.2.1
        have e4:W3.cell? ⟨rb,4,none⟩=some (.slice lva r.g.levs.length lvc):=HA2.out.R.cells.2.2.2.1
        have e1:W3.cell? ⟨w2.heap.size,1,none⟩=some (.string m1.text):=HM2.out.cells.2.1
        have ex0:W3.cell? ⟨w.heap.size+1,0,none⟩=some (.int .i64 3):=HX2.out.cells.1
        have ex1:W3.cell? ⟨w.heap.size+1,1,none⟩=some (.slice na xl.length nc):=HX2.out.cells.2.1
        have hlevZ0:∀ z:Wd W3.heap.size W3,Calls Tryd.prog 105 #[.slice lva r.g.levs.length lvc,.string m1.text] z.w fun e w'=>e=.returned (.bool false)∧z.w=w':=fun z=>by
         have:=level_any (cap:=lvc) m1.text (hLv.below z.ok) hln hlb
         rw [hl1,hlq] at this
         exact this
        have hbW:=((Below.refl W3.heap.size W3).alloc (Nat.le_refl _) (.cells #[.int .i64 3,.slice na xl.length nc] 107)).drew
        have hnb:=heap_alloc_new W3 (.cells #[.int .i64 3,.slice na xl.length nc] 107)
        have hLvB:LvV (W3.alloc (.cells #[.int .i64 3,.slice na xl.length nc] 107)).drew (some ⟨W3.heap.size,0,none⟩) [⟨3,xl⟩]:=by
         intro i hi
         obtain rfl:i=0:=by simpa using hi
         exact ⟨W3.heap.size,0,na,nc,rfl,by rw [Nat.zero_mul,Nat.zero_add]; exact (cell_of_row _ _ _ _ _ _ hnb).trans rfl,by rw [Nat.zero_mul,Nat.zero_add]; exact (cell_of_row _ _ _ _ _ _ hnb).trans rfl,hstr.below hbW⟩
        have hxl0:=HL.out
        have hxl1:=HA1.out.ns
        have hlevB:=level_any (cap:=1) m1.text hLvB (by simp) (fun i hi=>by
         obtain rfl:i=0:=by simpa using hi
         simp only [List.getElem_cons_zero]; omega)
        cases hl2:Rd.level [⟨3,xl⟩] m1.text
        case true =>
         have hst:=Lib.hid (names_step (k:=f) HB.out hstep.out HM1.out HR1.out (r2:=Rd.fail r1 15 m1.pos) (xl:=xl) (a:=3) (by rw [hb1,hl1,hl2]; rfl))
         rw [hl2] at hlevB
         simp only [List.length_singleton] at hlevB
         clear hLvB hnb hNs0 hstr hLv hlb hln hlq hgr hl1 hl2
         have HBW:=Lib.hid hbW
         clear hbW
         have hlevZ:∀ z:Wd W3.heap.size W3,Calls Tryd.prog 105 #[.slice lva r.g.levs.length lvc,.string m1.text] z.w fun e w'=>e=.returned (.bool false)∧z.w=w':=hlevZ0
         clear e8 e4 e1 ex0 ex1 hlevZ0
         refine region_gb [0,1,2,3,4,5,6,7,8,9,10,11,12,13,14,15,16,18,19] [17,20,21,22] 208 W3.heap.size ?_ (fun c a d v w h=>by cases d<;>exact h) (Nat.le_refl _) (by kernel_rfl) (by kernel_rfl) (by rfl) ?_ ?_
         rotate_left
         ·intro z
          simp only [pickL,List.getElem?_cons_zero,List.getElem?_cons_succ]
          repeat (first | go_big_quiet_step (fail) | (go_big_quiet_want; go_big_quiet_op; apply Exists.intro; refine ⟨?_,?_⟩; (· (go_at_call 105; exact calls_eq (hlevZ z))); go_big_quiet_on))
          refine wpQuiet_nil ?_
          exact rfl
         simp only [pickL,List.getElem?_cons_zero,List.getElem?_cons_succ]
         clear c8 c4 d1 xx0 xx1 hlevZ
         go_wp2_with fail
         refine hlevB.mono ?_
         rintro e w' ⟨rfl,rfl⟩
         have HA4:=Lib.hid (HA2.out.below HBW.out)
         have HX4:=Lib.hid (HX2.out.below HBW.out)
         have HO4:=Lib.hid (owns_below HO2.out HBW.out)
         have HM4:=Lib.hid (HM2.out.below HBW.out)
         clear HA2 HX2 HO2 HM2 hlevB HBW
         generalize (W3.alloc (.cells #[.int .i64 3,.slice na xl.length nc] 107)).drew=W4 at HA4 HX4 HO4 HM4 ⊢
         obtain ⟨y0,y1,y2,y3⟩:=HM4.out.cells
         clear y0 y1
         have hfa:=fail_any 15 m1.pos HA4.out.R
         go_wp2_with fail
         refine hfa.mono ?_
         rintro e w5 ⟨rfl,hR,hu⟩
         have hbn2:w2.heap.size≠rb:=by omega
         have HA5:=Lib.hid (HA4.out.step hR hu (fail_g _ _ _))
         have HX5:=Lib.hid (HX4.out.upd hu hbn)
         have HO5:=Lib.hid (owns_upd HO4.out hu hrb)
         have HM5:=Lib.hid (HM4.out.upd hu hbn2)
         have hfg:=Lib.hid (fail_g r1 15 m1.pos)
         have hfi:=Lib.hid (fail_i r1 15 m1.pos)
         have hfb:=Lib.hid (fail_bad r1 15 m1.pos hb1)
         obtain ⟨r2,hr2⟩:∃ r2,r2=Rd.fail r1 15 m1.pos:=⟨_,rfl⟩
         rw [← hr2] at HA5 hst hfg hfi hfb
         have hg2:Hid (r2.g=r'.g):=Lib.hid (hfg.out.trans hg1.out)
         have hok2:Hid ((r2.bad.code == 0)=true→L.length+2≤r2.i+f∧xl.length+1≤r2.i):=Lib.hid (fun h=>by rw [hfb.out] at h; cases h)
         have hle2:Hid (xl.length+1≤r2.i+1):=Lib.hid (by have:=hff; have:=take_ge L r' 1; rw [← HR1.out] at this; rw [hfi.out]; omega)
         clear hR hu hfa hr2 y2 y3 HA4 HX4 HO4 HM4 hb1
         obtain ⟨y0,y1,y2,y3⟩:=HM5.out.cells
         obtain ⟨q0,q1,qf⟩:=HX5.out.cells
         clear y0 y2 y3 q0
         have hni:=HA5.out.ns
         have hxl:=HL.out
         have hsn:Hid (strV (xl++[m1.text])=strV xl++[.string m1.text]):=Lib.hid (strV_snoc xl m1.text)
         have HOn:=Lib.hid (HO5.out.alloc (.cells #[.string m1.text] 9))
         have HAn:=Lib.hid (HA5.out.alloc (.cells #[.string m1.text] 9))
         have HXn:=Lib.hid (HX5.out.below ((Below.refl _ _).alloc (Nat.le_refl _) (.cells #[.string m1.text] 9)))
         have hzw:=HA5.out.K.size
         go_wp2_with (refine list_append_one rfl _ _ _ rfl 9 w.heap.size 1 16 elt_str (.slice na xl.length nc) xl.length (strV xl) rfl HOn.out ⟨w5.heap.size,0,none⟩ 1 [.string m1.text] rfl rfl (World.news_of_block (cs:=#[.string m1.text]) (t:=9) (fr:=(0,0)) (heap_alloc_new w5 _)) (by simp [Value.oneCell']) (by unfold maxLen; omega) (by omega) (by simp; omega) ?_; intro gg gcap w6 hown hgrow hbg hlt6 hat6; have HX6:=Lib.hid (HXn.out.grown HOn.out hgrow); have qx:=HX6.out.cells.2.1; have qxf:=HX6.out.cells.2.2 1; have HA6:=Lib.hid (HAn.out.app (by rw [hg2.out,HG.out]; exact G0.out) hrb HOn.out hgrow); have HO6:=Lib.hid hown; clear hown hgrow hat6)
         have HA7:=Lib.hid (HA6.out.set (by rw [hg2.out,HG.out]; exact G0.out) hrb ⟨w.heap.size+1,1,none⟩ (by simp) (.slice (some ⟨gg,0,none⟩) (xl.length+1) gcap))
         have HX7:=Lib.hid (HX6.out.set (.slice (some ⟨gg,0,none⟩) (xl.length+1) gcap))
         have HO7:=Lib.hid (owns_set HO6.out HX6.out (.slice (some ⟨gg,0,none⟩) (xl.length+1) gcap))
         clear HA6 HX6 HO6 qx qxf
         go_roundg f
         case measure=>omega
         case rel =>
          have hln:(xl++[m1.text]).length=xl.length+1:=by simp
          exact ⟨r2,xl++[m1.text],some ⟨gg,0,none⟩,gcap,Lib.hid (by rw [← hst.out]; exact HRn.out),Lib.hid (hg2.out.trans HG.out),by rw [hln]; exact hok2,by rw [hln]; exact hle2,HA7,by rw [hln]; exact HX7,by rw [hln,hsn.out]; exact HO7⟩
        case false =>
         have hst:=Lib.hid (names_step (k:=f) HB.out hstep.out HM1.out HR1.out (r2:=r1) (xl:=xl) (a:=3) (by rw [hb1,hl1,hl2]; rfl))
         rw [hl2] at hlevB
         simp only [List.length_singleton] at hlevB
         have hg2:Hid (r1.g=r'.g):=hg1
         have hti:=take_ok (k:=1) (by rw [← HR1.out]; exact hb1) HB.out
         rw [← HR1.out] at hti
         have hok2:Hid ((r1.bad.code == 0)=true→L.length+2≤r1.i+f∧xl.length+1≤r1.i):=Lib.hid (fun h=>by have:=hff; omega)
         have hle2:Hid (xl.length+1≤r1.i+1):=Lib.hid (by have:=hff; omega)
         clear hLvB hnb hNs0 hstr hLv hlb hln hlq hgr hl1 hl2 hti
         have HBW:=Lib.hid hbW
         clear hbW
         have hlevZ:∀ z:Wd W3.heap.size W3,Calls Tryd.prog 105 #[.slice lva r.g.levs.length lvc,.string m1.text] z.w fun e w'=>e=.returned (.bool false)∧z.w=w':=hlevZ0
         clear e8 e4 e1 ex0 ex1 hlevZ0
         refine region_gb [0,1,2,3,4,5,6,7,8,9,10,11,12,13,14,15,16,18,19] [17,20,21,22] 208 W3.heap.size ?_ (fun c a d v w h=>by cases d<;>exact h) (Nat.le_refl _) (by kernel_rfl) (by kernel_rfl) (by rfl) ?_ ?_
         rotate_left
         ·intro z
          simp only [pickL,List.getElem?_cons_zero,List.getElem?_cons_succ]
          repeat (first | go_big_quiet_step (fail) | (go_big_quiet_want; go_big_quiet_op; apply Exists.intro; refine ⟨?_,?_⟩; (· (go_at_call 105; exact calls_eq (hlevZ z))); go_big_quiet_on))
          refine wpQuiet_nil ?_
          exact rfl
         simp only [pickL,List.getElem?_cons_zero,List.getElem?_cons_succ]
         clear c8 c4 d1 xx0 xx1 hlevZ
         go_wp2_with fail
         refine hlevB.mono ?_
         rintro e w' ⟨rfl,rfl⟩
         have HA4:=Lib.hid (HA2.out.below HBW.out)
         have HX4:=Lib.hid (HX2.out.below HBW.out)
         have HO4:=Lib.hid (owns_below HO2.out HBW.out)
         have HM4:=Lib.hid (HM2.out.below HBW.out)
         clear HA2 HX2 HO2 HM2 hlevB HBW hb1
         generalize (W3.alloc (.cells #[.int .i64 3,.slice na xl.length nc] 107)).drew=W4 at HA4 HX4 HO4 HM4 ⊢
         obtain ⟨y0,y1,y2,y3⟩:=HM4.out.cells
         obtain ⟨q0,q1,qf⟩:=HX4.out.cells
         clear y0 y2 y3 q0
         have hni:=HA4.out.ns
         have hxl:=HL.out
         have hsn:Hid (strV (xl++[m1.text])=strV xl++[.string m1.text]):=Lib.hid (strV_snoc xl m1.text)
         have HOn:=Lib.hid (HO4.out.alloc (.cells #[.string m1.text] 9))
         have HAn:=Lib.hid (HA4.out.alloc (.cells #[.string m1.text] 9))
         have HXn:=Lib.hid (HX4.out.below ((Below.refl _ _).alloc (Nat.le_refl _) (.cells #[.string m1.text] 9)))
         have hzw:=HA4.out.K.size
         go_wp2_with (refine list_append_one rfl _ _ _ rfl 9 w.heap.size 1 16 elt_str (.slice na xl.length nc) xl.length (strV xl) rfl HOn.out ⟨W4.heap.size,0,none⟩ 1 [.string m1.text] rfl rfl (World.news_of_block (cs:=#[.string m1.text]) (t:=9) (fr:=(0,0)) (heap_alloc_new W4 _)) (by simp [Value.oneCell']) (by unfold maxLen; omega) (by omega) (by simp; omega) ?_; intro gg gcap w6 hown hgrow hbg hlt6 hat6; have HX6:=Lib.hid (HXn.out.grown HOn.out hgrow); have qx:=HX6.out.cells.2.1; have qxf:=HX6.out.cells.2.2 1; have HA6:=Lib.hid (HAn.out.app (by rw [hg2.out,HG.out]; exact G0.out) hrb HOn.out hgrow); have HO6:=Lib.hid hown; clear hown hgrow hat6)
         have HA7:=Lib.hid (HA6.out.set (by rw [hg2.out,HG.out]; exact G0.out) hrb ⟨w.heap.size+1,1,none⟩ (by simp) (.slice (some ⟨gg,0,none⟩) (xl.length+1) gcap))
         have HX7:=Lib.hid (HX6.out.set (.slice (some ⟨gg,0,none⟩) (xl.length+1) gcap))
         have HO7:=Lib.hid (owns_set HO6.out HX6.out (.slice (some ⟨gg,0,none⟩) (xl.length+1) gcap))
         clear HA6 HX6 HO6 qx qxf
         go_roundg f
         case measure=>omega
         case rel =>
          have hln:(xl++[m1.text]).length=xl.length+1:=by simp
          exact ⟨r1,xl++[m1.text],some ⟨gg,0,none⟩,gcap,Lib.hid (by rw [← hst.out]; exact HRn.out),Lib.hid (hg2.out.trans HG.out),by rw [hln]; exact hok2,by rw [hln]; exact hle2,HA7,by rw [hln]; exact HX7,by rw [hln,hsn.out]; exact HO7⟩
end Go.Proofs.YtjbggogbnckllaaDoor
