/-
  Walks: a product with one; numbers that are repeated.
-/
import Derived.Test.YtjbggogbnckllaaDoorZz
import Derived.Test.YtjbggogbnckllaaDoorBa
import Derived.Laws.CopyOwn
namespace Go.Proofs.YtjbggogbnckllaaDoor
open Go.RowKit
set_option linter.unusedVariables false
set_option linter.unusedSimpArgs false
theorem mask_small (n:Nat) (h:n < 4294967296):bits .and .u64 (n:Int) 4294967295=(n:Int):=by
 have h1:=bits_and_u64_nat n 4294967295 (by omega) (by omega)
 have e:n &&& 4294967295=n % 4294967296:=Nat.and_two_pow_sub_one_eq_mod n 32
 rw [e,Nat.mod_eq_of_lt h] at h1
 exact h1
set_option maxHeartbeats 1000000 in
theorem mul64_one (n:Nat) (h:n < 1000000) (w:World):Calls Tryd.prog 107 #[.int .u64 1,.int .u64 (n:Nat)] w fun e w'=>e=.returned (.tuple #[.int .u64 0,.int .u64 (n:Nat)])∧w=w':=by
 have h1:bits .and .u64 1 4294967295=1:=mask_small 1 (by omega)
 have h2:=mask_small n (by omega)
 have h3:(n:Int) / 4294967296=0:=by omega
 have h4:bits .and .u64 0 4294967295=0:=mask_small 0 (by omega)
 go_enter Tryd.func107,Tryd.ntmps107
 go_wp2_with fail
 exact bodyPost_ret (v:=.tuple #[.int .u64 0,.int .u64 (n:Nat)]) (by simp [results,Tryd.results107,go_sem]) rfl ⟨rfl,rfl⟩
set_option maxHeartbeats 1000000 in
theorem mul_one_any (n:Nat) (h:n < 1000000) (w:World):Calls Tryd.prog 93 #[.int .u64 1,.int .u64 (n:Nat)] w fun e w'=>e=.returned (.tuple #[.int .u64 0,.int .u64 (n:Nat)])∧w=w':=by
 have hm:=mul64_one n h w
 go_enter Tryd.func93,Tryd.ntmps93
 go_wp2_with fail
 refine hm.mono ?_
 rintro e w' ⟨rfl,rfl⟩
 clear hm
 go_wp2_with fail
 exact bodyPost_ret (v:=.tuple #[.int .u64 0,.int .u64 (n:Nat)]) (by simp [results,Tryd.results93,go_sem]) rfl ⟨rfl,rfl⟩
theorem int_size:(Tryd.prog.info? 3).map (·.size)=some 1:=by kernel_rfl
/-- The row of a made slice of numbers. -/
theorem make_ints (n:Nat) (hn:n≤100000) (w:World) :
  (Instr.makeSlice 30 (.int .i64 (n:Nat)) (.int .i64 (n:Nat))).run Tryd.prog w=.ok (.slice (some ⟨w.heap.size,0,none⟩) n n) (w.alloc (.cells (madeCells #[.int .i64 0] n) 3)):=by
 obtain ⟨i0,hi,hz0,hz1,hz2⟩:=info_parts info3
 have hr:=run_make (P:=Tryd.prog) w 30 3 i0 (.int .i64 0) Tryd.underlying30 hi hz0 .i64 .i64 n n (by omega) (Int.le_refl _) (by rw [hz2]; omega) (by omega)
 rw [hr,hz1]
 simp [Value.cells]
theorem splice_get {α:Type} (L:List α) (off:Nat) (cs:List α) {i:Nat} (h:off≤L.length):(splice L off cs)[i]?=if i < off then L[i]? else if i < off+cs.length then cs[i - off]? else L[i]?:=by
 unfold splice
 by_cases h1:i < off
 ·rw [if_pos h1,List.getElem?_append_left (by simp; omega),List.getElem?_take_of_lt h1]
 ·rw [if_neg h1,List.getElem?_append_right (by simp; omega),List.length_take,Nat.min_eq_left h]
  by_cases h2:i < off+cs.length
  ·rw [if_pos h2,List.getElem?_append_left (by omega)]
  ·rw [if_neg h2,List.getElem?_append_right (by omega),List.getElem?_drop]
   congr 1
   omega
/-- The first m of n cells are v. -/
def Fill (w:World) (b n m:Nat) (v:Value):Prop:=∃ cur:List Value,w.heap[b]?=some (.cells cur.toArray 3 (0,0))∧cur.length=n∧∀ i,i < m→cur[i]?=some v
set_option maxRecDepth 100000 in
set_option maxHeartbeats 4000000 in
theorem repeat_any {w:World} {b c n:Nat} {x:Int} (hx:w.cell? ⟨b,0,none⟩=some (.int .i64 x)) (h1:1≤n) (hn:n≤100000) :
  Calls Tryd.prog 76 #[.slice (some ⟨b,0,none⟩) 1 c,.int .i64 (n:Nat)] w fun e w'=>∃ g,e=.returned (.slice (some ⟨g,0,none⟩) n n)∧w.heap.size≤g∧Arr w' g n (fun _=>x)∧Below w.heap.size w w':=by
 have hm:=mul_one_any n (by omega) w
 have hmk:=make_ints n hn w
 go_enter Tryd.func76,Tryd.ntmps76
 go_wp2_with fail
 refine hm.mono ?_
 rintro e w' ⟨rfl,rfl⟩
 clear hm
 have hk:=(Below.refl w.heap.size w).alloc (Nat.le_refl _) (.cells (madeCells #[.int .i64 0] n) 3)
 have hg0:(w.alloc (.cells (madeCells #[.int .i64 0] n) 3)).heap[w.heap.size]?=some (.cells (madeCells #[.int .i64 0] n).toList.toArray 3 (0,0)):=by simpa using heap_alloc_new w (.cells (madeCells #[.int .i64 0] n) 3)
 have hsz:((madeCells #[.int .i64 0] n).toList).length=n:=by simp [madeCells]
 have hcx:(w.alloc (.cells (madeCells #[.int .i64 0] n) 3)).cell? ⟨b,0,none⟩=some (.int .i64 x):=((bcell hk).1 _ _ (World.block_lt_of_cell? w _ hx)).trans hx
 have HK:=Lib.hid hk
 have HG:=Lib.hid hg0
 have HS:=Lib.hid hsz
 have HC:=Lib.hid hcx
 clear hk hg0 hsz hcx
 have hmin:([Value.int .i64 x]:List Value).length=Nat.min 1 n:=by show 1=min 1 n; omega
 have hpos:∀ j v,([Value.int .i64 x]:List Value)[j]?=some v→(w.alloc (.cells (madeCells #[.int .i64 0] n) 3)).cell? ((⟨b,0,none⟩:Addr).add j)=some v:=by
  intro j v hv
  have hj:j=0:=by have:=(List.getElem?_eq_some_iff.1 hv).1; simpa using this
  subst hj
  simp at hv
  subst hv
  exact HC.out
 have hfit:0+([Value.int .i64 x]:List Value).length≤(madeCells #[.int .i64 0] n).toList.length:=by rw [HS.out]; simp; omega
 have HP:=Lib.hid (And.intro hmin (And.intro hpos hfit))
 clear hmin hpos hfit
 go_wp2_with (refine wpList_copy_splice rfl _ _ _ _ rfl 3 Tryd.underlying30 int_size (some ⟨w.heap.size,0,none⟩) (some ⟨b,0,none⟩) n n 1 c rfl rfl w.heap.size 0 (madeCells #[.int .i64 0] n).toList 3 HG.out [.int .i64 x] HP.out.1 (fun _=>⟨rfl,_,rfl,HP.out.2.1⟩) HP.out.2.2 (by simp [Value.oneCell']) w.heap.size w HK.out (Nat.le_refl _) ?_; intro w1 hf1 hb1)
 have HPF:=HP.out.2.2
 have HF:Hid (Fill w1 w.heap.size n 1 (.int .i64 x)):=Lib.hid ⟨_,hf1.out,by rw [length_splice _ _ _ HPF]; exact HS.out,fun i hi=>by
  obtain rfl:i=0:=by omega
  rfl⟩
 have HB:=Lib.hid hb1
 clear HPF hf1 hb1 HP HC HG HK HS hmk
 generalize hgw:w.heap.size=g at HF HB ⊢
 have HGW:=Lib.hid hgw
 clear hgw
 go_loopg [8] n (fun gk i wr=>∃ m:Nat,i=.int .i64 m∧1≤m∧m≤n∧Hid (n≤gk+m)∧Hid (Fill wr g n m (.int .i64 x))∧Hid (Below g w wr))
 case atStart=>exact ⟨1,rfl,by omega,by omega,Lib.hid (by omega),HF,HB⟩
 case round =>
  clear HF HB
  obtain ⟨m,rfl,hm1,hmn,HGK,HF,HB⟩:=hrel
  by_cases hlt:m < n
  ·go_wp2_with fail
   refine region_gb [0,1,2,3,4,5,6] [7,8,9] 48 wr.heap.size ?_ (fun c a d v w h=>by cases d<;>exact h) (Nat.le_refl _) (by kernel_rfl) (by kernel_rfl) (by rfl) ?_ ?_
   rotate_left
   ·intro z
    simp only [pickL,List.getElem?_cons_zero,List.getElem?_cons_succ]
    repeat (go_big_quiet_step (fail))
    refine wpQuiet_nil ?_
    exact rfl
   simp only [pickL,List.getElem?_cons_zero,List.getElem?_cons_succ]
   obtain ⟨cur,hcur,hlen,hfill⟩:=HF.out
   have hk1:min m (n - m)≤m:=Nat.min_le_left _ _
   have hk2:min m (n - m)≤n - m:=Nat.min_le_right _ _
   have hk3:1≤min m (n - m):=by omega
   obtain ⟨k,hk⟩:∃ k,k=min m (n - m):=⟨_,rfl⟩
   rw [← hk] at hk1 hk2 hk3
   have hsrc:∀ j v,(List.replicate k (Value.int .i64 x))[j]?=some v→wr.drew.cell? ((⟨g,0,none⟩:Addr).add j)=some v:=by
    intro j v hv
    have hj:j < k:=by have:=(List.getElem?_eq_some_iff.1 hv).1; simpa using this
    rw [List.getElem?_replicate,if_pos hj] at hv
    rw [addr_add,cell_of_row wr.drew g j cur.toArray _ (0,0) hcur,← hv]
    simpa using hfill j (by omega)
   refine wpList_copy_splice (by rfl) _ _ _ _ (by rfl) 3 Tryd.underlying30 int_size (some ⟨g,m,none⟩) (some ⟨g,0,none⟩) (n - m) (n - m) m n (by rfl) (by rfl) g m cur 3 hcur (List.replicate k (Value.int .i64 x)) (by rw [List.length_replicate]; exact hk) (fun _=>⟨rfl,_,rfl,hsrc⟩) (by rw [List.length_replicate]; omega) (fun v hv=>by rw [List.eq_of_mem_replicate hv]; rfl) g w HB.out.drew (Nat.le_refl _) ?_
   intro w2 hf2 hb2
   have HF2:Hid (Fill w2 g n (m+k) (.int .i64 x)):=Lib.hid ⟨_,hf2.out,by rw [length_splice _ _ _ (by rw [List.length_replicate]; omega)]; exact hlen,fun i hi=>by
    rw [splice_get _ _ _ (by omega),List.length_replicate]
    by_cases him:i < m
    ·rw [if_pos him]; exact hfill i him
    ·rw [if_neg him,if_pos (by omega),List.getElem?_replicate,if_pos (by omega)]⟩
   have HB2:=Lib.hid hb2
   rw [List.length_replicate]
   clear hf2 hb2 hsrc hfill hcur hlen HF HB hk
   go_wp2_with fail
   go_roundg (n - (m+k))
   case measure=>have:=HGK.out; omega
   case rel=>exact ⟨m+k,by first | go_num | rfl,by omega,by omega,Lib.hid (by omega),HF2,HB2⟩
  ·obtain rfl:m=n:=by omega
   clear HGK hlt
   go_wp2_with fail
   go_ret
   refine ⟨g,rfl,by rw [HGW.out]; exact Nat.le_refl _,?_,by rw [HGW.out]; exact HB.out⟩
   obtain ⟨cur,hcur,hlen,hfill⟩:=HF.out
   exact ⟨_,hcur,by simp [hlen],fun i hi=>by simpa using hfill i hi⟩
end Go.Proofs.YtjbggogbnckllaaDoor
