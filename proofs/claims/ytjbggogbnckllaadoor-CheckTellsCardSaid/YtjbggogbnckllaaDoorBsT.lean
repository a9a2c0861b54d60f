/-
  Walks of TrailingZeros64, Clone and Each.
-/
import Derived.Test.YtjbggogbnckllaaDoorAa
import Derived.Lib.TrailingZeros
import Derived.WalkSpells
import Derived.Lib.SliceRun
import Derived.Lib.Walk
namespace Go.Proofs.YtjbggogbnckllaaDoor
open Go.RowKit
set_option linter.unusedVariables false
/-- The table lies in its variable. -/
def Tab (w:World):Prop:=∀ j,j < 64→w.cell? ⟨0,j,none⟩=some (.int .u8 (Lib.deBruijn64tab.getD j 0:Nat))
theorem Tab.lt {w:World} (h:Tab w):0 < w.heap.size:=World.block_lt_of_cell? w _ (h 0 (by decide))
theorem Tab.below {w w':World} (h:Tab w) (k:Below w.heap.size w w'):Tab w':=fun j hj=>((bcell k).1 _ _ h.lt).trans (h j hj)
theorem Tab.kept {w w':World} (h:Tab w) (k:w'.heap[0]?=w.heap[0]?):Tab w':=fun j hj=>(World.cell?_of_block (w:=w) k).trans (h j hj)
theorem Tab.upd {w w':World} {b:Nat} (h:Tab w) (k:Upd b w w') (hb:0≠b):Tab w':=h.kept (k.block _ h.lt hb)
theorem tz_key (x a:Nat) (hx:x < 18446744073709551616) (hx0:x≠0) (hlow:x &&& (18446744073709551616 - x)=a) :
  IntKind.u64.wrap (bits BinOp.and IntKind.u64 (x:Int) (IntKind.u64.wrap (-(x:Int)))*285870213051353865) / 288230376151711744=((a*285870213051353865 % 18446744073709551616 / 288230376151711744:Nat):Int):=by
 have e1:IntKind.u64.wrap (-(x:Int))=((18446744073709551616 - x:Nat):Int):=by rw [IntKind.wrap_u64]; omega
 rw [e1,bits_and_u64_nat x _ hx (by omega),hlow,IntKind.wrap_u64]
 omega
set_option maxHeartbeats 1000000 in
theorem tz_core (x k idx:Nat) (w:World) (hx0:((x:Int) == 0)=false)
  (key:IntKind.u64.wrap (bits BinOp.and IntKind.u64 (x:Int) (IntKind.u64.wrap (-(x:Int)))*285870213051353865) / 288230376151711744=(idx:Int))
  (hi:idx < 64) (hk:k < 64) (hcell:w.cell? ⟨0,idx,none⟩=some (.int .u8 k)) :
  Calls Tryd.prog 92 #[.int .u64 x] w fun e w'=>e=.returned (.int .i64 k)∧w=w':=by
 go_enter Tryd.func92,Tryd.ntmps92
 go_wp2_with (simp only [key])
 go_ret
 exact ⟨rfl,rfl⟩
theorem tz_any (x:Nat) (w:World) (h0:x≠0) (hx:x < 18446744073709551616) (hT:Tab w) :
  Calls Tryd.prog 92 #[.int .u64 x] w fun e w'=>e=.returned (.int .i64 (Lib.ctz 64 x:Nat))∧w=w':=by
 obtain ⟨hlow,hk⟩:=Lib.lowest_bit 64 x h0 hx
 obtain ⟨hi,htab⟩:=Lib.deBruijn64_at _ hk
 refine tz_core x _ _ w (by simp; omega) (tz_key x _ hx h0 hlow) hi hk ?_
 rw [hT _ hi,htab]
/-- A row of words lies in block b. -/
def Row (w:World) (b:Nat) (f:Nat→Nat) (c:Nat):Prop:=∀ k,k < c→w.cell? ⟨b,k,none⟩=some (.int .u64 (f k:Nat))
/-- What Clone leaves. -/
def ClonePost (w:World) (f:Nat→Nat) (c:Nat) (e:Ending) (w':World):Prop :=
 ∃ b cap,e=.returned (.slice (some ⟨b,0,none⟩) c cap)∧w.heap.size≤b∧(∃ cs:Array Value,w'.heap[b]?=some (.cells cs 118 (0,0))∧c≤cs.size∧∀ k,k < c→cs[k]?=some (.int .u64 (f k:Nat)))∧Below w.heap.size w w'
set_option maxRecDepth 100000 in
set_option maxHeartbeats 1000000 in
theorem clone_any (b c cap:Nat) (f:Nat→Nat) (w:World) (h:Row w b f c) (hc:c≤16) :
  Calls Tryd.prog 90 #[.slice (some ⟨b,0,none⟩) c cap] w (ClonePost w f c):=by
 obtain ⟨i0,hi,hz0,hz1,hz2⟩:=info_parts info54
 have q52:∀ (w:World) (a:Option Addr) (n c n' c':Nat),(binOp .eql 119 (.slice a n c) (.slice none n' c')).run Tryd.prog w=.ok (.bool a.isNone) w:=fun w a n c n' c'=>Lib.run_eql_slice_nil w _ _ a n c n' c' Tryd.underlying119
 have H:=Lib.hid h
 clear h
 go_enter Tryd.func90,Tryd.ntmps90
 go_wp2_with (at_builtin; refine wpList_append_own _ rfl _ _ 119 rfl w.heap.size 118 i0 (.int .u64 0) 1 8 Tryd.underlying119 hi hz0 hz1 hz2 rfl (by decide) _ _ _ rfl (World.ownsRow_made w #[] 0 (Nat.le_refl _) (Nat.zero_le _) rfl) ⟨b,0,none⟩ c cap ((List.range c).map fun k=>.int .u64 (f k:Nat)) rfl ?qc1 ?qc2 ?qc3 ?qc4 ?qc5 ?qc6 ?_)
 case qc1=>simp
 case qc2 =>
  intro j u hj
  have hjn:j < c:=by have:=(List.getElem?_eq_some_iff.1 hj).1; simpa using this
  rw [Addr.add_lit]
  refine Lib.cell?_alloc_some _ ?_
  have:=H.out j hjn
  simp [hjn] at hj
  subst hj
  simpa using this
 case qc3=>intro u hu; obtain ⟨x,_,rfl⟩:=List.mem_map.1 hu; rfl
 case qc4=>unfold maxLen; omega
 case qc5=>omega
 case qc6=>simp
 intro v' w1 hown hgrow hnil
 have HO:=Lib.hid hown
 have HG:=Lib.hid hgrow
 have HN:=Lib.hid hnil
 clear hown hgrow hnil
 go_wp2
 go_ret
 have hown:=HO.out
 have hbel:Below w.heap.size w w1:=((Below.refl _ w).alloc (Nat.le_refl _) _).grown HG.out (by simp) (by intro k hk; simp [Value.ownBlock] at hk; omega)
 rcases hown.2 with ⟨hv,_⟩ | ⟨g,cp,cur,rfl,hg,hh,h1,h2,h3,h4⟩
 ·exact absurd hv HN.out
 ·refine ⟨g,cp,rfl,hg,⟨cur,hh,by omega,fun k hk=>?_⟩,hbel⟩
  rw [Nat.mul_one] at h4
  have:(cur.toList.take c)[k]?=some (.int .u64 (f k:Nat)):=by rw [h4]; simp [hk]
  rw [List.getElem?_take,if_pos hk] at this
  simpa using this
/-- What Each leaves: the words lie anew. -/
def EachPost (w:World) (n X:Nat) (e:Ending) (w':World):Prop :=
 ∃ g b,e=.returned (.func (.func 91) #[] #[.pointer (some ⟨g,0,none⟩)])∧w.heap.size≤g∧w.heap.size≤b∧(∃ cap,w'.heap[g]?=some (.cells #[.slice (some ⟨b,0,none⟩) (Bs.nw n:Nat) cap] 119 (0,0))) ∧
  (∃ cs:Array Value,w'.heap[b]?=some (.cells cs 118 (0,0))∧Bs.nw n≤cs.size∧∀ k,k < Bs.nw n→cs[k]?=some (.int .u64 (Bs.word X k:Nat)))∧Below w.heap.size w w'
set_option maxHeartbeats 1000000 in
theorem each_any (p b n X:Nat) (w:World) (h:SetAt w p b n X) :
  Calls Tryd.prog 74 #[.pointer (some ⟨p,0,none⟩)] w (EachPost w n X):=by
 obtain ⟨c0,⟨cap,c1⟩,c2,_⟩:=h.cells
 have hle:=Bs.nw_le h.le
 have R:=Lib.hid (show Row w b (Bs.word X) (Bs.nw n) from c2)
 clear h c2
 go_enter Tryd.func74,Tryd.ntmps74
 go_wp2_with fail
 refine (clone_any b _ cap _ w R.out hle).mono ?_
 rintro e w1 ⟨b1,cap1,rfl,hb,hr,hB⟩
 have R1:=Lib.hid hr
 have L1:=Lib.hid hB
 clear hr hB R
 go_wp2_with fail
 go_ret
 refine ⟨w1.heap.size,b1,rfl,L1.out.size,hb,⟨cap1,?_⟩,?_,?_⟩
 ·exact heap_alloc_new w1 _
 ·obtain ⟨cs,f,g⟩:=R1.out
  exact ⟨cs,(Below.heap_alloc _ _ _ (lt_of_block f)).trans f,g⟩
 ·exact L1.out.alloc L1.out.size _
end Go.Proofs.YtjbggogbnckllaaDoor
