/-
  The law BitsetPlays: two sets and their references; what is done by both.
-/
import Derived.Test.YtccmmilbnfiacaaDoorBsR2
import Derived.Test.YtccmmilbnfiacaaDoorBsN
namespace Go.Proofs.YtccmmilbnfiacaaDoor
open Go.RowKit
set_option linter.unusedVariables false

/-- Blocks b and c alone may be others. -/
structure Upd2 (b c : Nat) (w w' : World) : Prop where
  os : w'.os = w.os
  tape : w'.tape = w.tape
  output : w'.output = w.output
  size : w.heap.size ≤ w'.heap.size
  block : ∀ k, k < w.heap.size → k ≠ b → k ≠ c → w'.heap[k]? = w.heap[k]?
theorem Upd2.refl (b c : Nat) (w : World) : Upd2 b c w w := ⟨rfl, rfl, rfl, Nat.le_refl _, fun _ _ _ _ => rfl⟩
theorem Upd2.left {b c : Nat} {w w1 w2 : World} (h : Upd2 b c w w1) (k : Upd b w1 w2) : Upd2 b c w w2 :=
  ⟨k.os.trans h.os, k.tape.trans h.tape, k.output.trans h.output, Nat.le_trans h.size k.size, fun i hi h1 h2 => (k.block i (Nat.lt_of_lt_of_le hi h.size) h1).trans (h.block i hi h1 h2)⟩
theorem Upd2.right {b c : Nat} {w w1 w2 : World} (h : Upd2 b c w w1) (k : Upd c w1 w2) : Upd2 b c w w2 :=
  ⟨k.os.trans h.os, k.tape.trans h.tape, k.output.trans h.output, Nat.le_trans h.size k.size, fun i hi h1 h2 => (k.block i (Nat.lt_of_lt_of_le hi h.size) h2).trans (h.block i hi h1 h2)⟩
theorem Upd2.below {b c n : Nat} {w w' : World} (h : Upd2 b c w w') (hb : n ≤ b) (hc : n ≤ c) (hs : n ≤ w.heap.size) : Below n w w' := ⟨h.os, h.tape, h.output, h.size, fun k hk => h.block k (by omega) (by omega) (by omega)⟩
theorem ne_kind {w : World} {a b : Nat} {x y : Array Value} {T U : TypeId} {f g : Nat × Nat} (h1 : w.heap[a]? = some (.cells x T f)) (h2 : w.heap[b]? = some (.cells y U g)) (h : T ≠ U) : a ≠ b := by
  intro e
  subst e
  rw [h1] at h2
  cases h2
  exact h rfl

structure PI (w0 W : World) (ps bs pt bt pr br po bo N X M Y : Nat) : Prop where
  s : SetAt W ps bs N X
  t : SetAt W pt bt M Y
  r : RefAt W pr br N X
  o : RefAt W po bo M Y
  low : Below w0.heap.size w0 W
  tab : Tab W
  db : bs ≠ bt
  dr : br ≠ bo
  lo : w0.heap.size ≤ bs ∧ w0.heap.size ≤ bt ∧ w0.heap.size ≤ br ∧ w0.heap.size ≤ bo
  gt : 0 < w0.heap.size
variable {w0 W W' : World} {ps bs pt bt pr br po bo N X M Y : Nat}

structure PN (ps bs pt bt pr br po bo : Nat) : Prop where
  a : ps ≠ br ∧ pt ≠ bs ∧ pt ≠ br ∧ bt ≠ bs ∧ bt ≠ br ∧ po ≠ bs ∧ po ≠ br ∧ bo ≠ bs ∧ bo ≠ br ∧ bs ≠ br ∧ pr ≠ bs
theorem PI.ne (h : PI w0 W ps bs pt bt pr br po bo N X M Y) : PN ps bs pt bt pr br po bo := by
  obtain ⟨_, s1⟩ := h.s.box
  obtain ⟨_, s2, _⟩ := h.s.row
  obtain ⟨_, t1⟩ := h.t.box
  obtain ⟨_, t2, _⟩ := h.t.row
  obtain ⟨_, r1⟩ := h.r.box
  obtain ⟨_, r2, _⟩ := h.r.row
  obtain ⟨_, o1⟩ := h.o.box
  obtain ⟨_, o2, _⟩ := h.o.row
  exact ⟨ne_kind s1 r2 (by decide), ne_kind t1 s2 (by decide), ne_kind t1 r2 (by decide), Ne.symm h.db, ne_kind t2 r2 (by decide), ne_kind o1 s2 (by decide), ne_kind o1 r2 (by decide), ne_kind o2 s2 (by decide), Ne.symm h.dr, ne_kind s2 r2 (by decide), ne_kind r1 s2 (by decide)⟩
theorem PI.below (h : PI w0 W ps bs pt bt pr br po bo N X M Y) (k : Below W.heap.size W W') : PI w0 W' ps bs pt bt pr br po bo N X M Y :=
  ⟨h.s.below k, h.t.below k, h.r.below k, h.o.below k, h.low.trans (k.mono h.low.size), h.tab.below k, h.db, h.dr, h.lo, h.gt⟩
theorem PI.step {X' : Nat} (h : PI w0 W ps bs pt bt pr br po bo N X M Y) (hs : SetAt W' ps bs N X') (hr : RefAt W' pr br N X') (u : Upd2 bs br W W') : PI w0 W' ps bs pt bt pr br po bo N X' M Y := by
  obtain ⟨n1, n2, n3, n4, n5, n6, n7, n8, n9, n10, n11⟩ := h.ne.a
  obtain ⟨l1, l2, l3, l4⟩ := h.lo
  have hg := h.gt
  exact ⟨hs, h.t.kept (u.block _ h.t.plt n2 n3) (u.block _ h.t.blt n4 n5), hr, h.o.kept (u.block _ h.o.plt n6 n7) (u.block _ h.o.blt n8 n9),
    h.low.trans (u.below l1 l3 h.low.size), h.tab.kept (u.block _ h.tab.lt (by omega) (by omega)), h.db, h.dr, h.lo, h.gt⟩
theorem PI.swap (h : PI w0 W ps bs pt bt pr br po bo N X M Y) : PI w0 W pt bt ps bs po bo pr br M Y N X :=
  ⟨h.t, h.s, h.o, h.r, h.low, h.tab, Ne.symm h.db, Ne.symm h.dr, ⟨h.lo.2.1, h.lo.1, h.lo.2.2.2, h.lo.2.2.1⟩, h.gt⟩

/-- While both are at it: what the set, what the reference has. -/
structure DS (w1 : World) (ps bs pr br bx N : Nat) (k : Int) (A B : Nat) (W : World) : Prop where
  s : SetAt W ps bs N A
  r : RefAt W pr br N B
  u : Upd2 bs br w1 W
  c : W.cell? ⟨bx, 1, none⟩ = some (.int .i64 k)
  f : bx < W.heap.size
  n : ps ≠ br ∧ bs ≠ br ∧ pr ≠ bs ∧ bx ≠ bs ∧ bx ≠ br
theorem DS.drew {w1 : World} {bx A B : Nat} {k : Int} (h : DS w1 ps bs pr br bx N k A B W) : DS w1 ps bs pr br bx N k A B W.drew :=
  ⟨h.s.kept rfl rfl, h.r.kept rfl rfl, ⟨h.u.os, h.u.tape, h.u.output, h.u.size, h.u.block⟩, by rw [World.cell?_drew]; exact h.c, h.f, h.n⟩
theorem DS.left {w1 : World} {bx A A' B : Nat} {k : Int} (h : DS w1 ps bs pr br bx N k A B W) (hs : SetAt W' ps bs N A') (u : Upd bs W W') : DS w1 ps bs pr br bx N k A' B W' :=
  ⟨hs, h.r.upd u h.n.2.2.1 (Ne.symm h.n.2.1), h.u.left u, (World.cell?_of_block (w := W) (a := ⟨bx, 1, none⟩) (u.block bx h.f h.n.2.2.2.1)).trans h.c, Nat.lt_of_lt_of_le h.f u.size, h.n⟩
theorem DS.right {w1 : World} {bx A B B' : Nat} {k : Int} (h : DS w1 ps bs pr br bx N k A B W) (hs : RefAt W' pr br N B') (u : Upd br W W') : DS w1 ps bs pr br bx N k A B' W' :=
  ⟨h.s.upd u h.n.1 h.n.2.1, hs, h.u.right u, (World.cell?_of_block (w := W) (a := ⟨bx, 1, none⟩) (u.block bx h.f h.n.2.2.2.2)).trans h.c, Nat.lt_of_lt_of_le h.f u.size, h.n⟩

/-- What one step makes of a set. -/
def opX (d k : Int) (N X M Y : Nat) : Nat := if d = 1 then addX N X k else if d = 2 then dropX X k else if d = 4 then un N X M Y else X

def DonePost (w0 : World) (ps bs pt bt pr br po bo N X M Y : Nat) (e : Ending) (w' : World) : Prop := e = .returned (.bool true) ∧ PI w0 w' ps bs pt bt pr br po bo N X M Y

set_option maxRecDepth 100000 in
set_option maxHeartbeats 6400000 in
theorem done1 (k : Int) (h : PI w0 W ps bs pt bt pr br po bo N X M Y) :
    Calls Tryd.prog 28 #[.pointer (some ⟨ps, 0, none⟩), .pointer (some ⟨pr, 0, none⟩), .pointer (some ⟨pt, 0, none⟩), .pointer (some ⟨po, 0, none⟩), .agg #[.int .i64 1, .int .i64 k]] W
      (DonePost w0 ps bs pt bt pr br po bo N (addX N X k) M Y) := by
  have H := Lib.hid h
  have hB : Below W.heap.size W (W.alloc (.cells #[.int .i64 1, .int .i64 k] 47)) := (Below.refl _ _).alloc (Nat.le_refl _) _
  have H1 := Lib.hid (h.below hB)
  obtain ⟨n1, n2, n3, n4, n5, n6, n7, n8, n9, n10, n11⟩ := h.ne.a
  have hbs := h.s.blt
  have hbr := h.r.blt
  have k0 : DS (W.alloc (.cells #[.int .i64 1, .int .i64 k] 47)) ps bs pr br W.heap.size N k X X (W.alloc (.cells #[.int .i64 1, .int .i64 k] 47)) :=
    ⟨H1.out.s, H1.out.r, Upd2.refl _ _ _, by go_simp, by simp, n1, n10, n11, by omega, by omega⟩
  have k0d := k0.drew
  have addz : ∀ V B, DS (W.alloc (.cells #[.int .i64 1, .int .i64 k] 47)) ps bs pr br W.heap.size N k X B V → Calls Tryd.prog 13 #[.pointer (some ⟨ps, 0, none⟩), .int .i64 k] V fun e V' => e = .returned (.bool (addB N X k)) ∧ DS (W.alloc (.cells #[.int .i64 1, .int .i64 k] 47)) ps bs pr br W.heap.size N k (addX N X k) B V' :=
    fun V B hd => (add_any ps bs N X k V hd.s).mono fun e V' ⟨he, h1, h2⟩ => ⟨he, hd.left h1 h2⟩
  have putz : ∀ V A, DS (W.alloc (.cells #[.int .i64 1, .int .i64 k] 47)) ps bs pr br W.heap.size N k A X V → Calls Tryd.prog 33 #[.pointer (some ⟨pr, 0, none⟩), .int .i64 k, .bool true] V fun e V' => e = .returned (.bool (addB N X k)) ∧ DS (W.alloc (.cells #[.int .i64 1, .int .i64 k] 47)) ps bs pr br W.heap.size N k A (addX N X k) V' :=
    fun V A hd => (put_any pr br N X k true V hd.r).mono fun e V' ⟨he, h1, h2⟩ => ⟨he, hd.right h1 h2⟩
  clear h hB
  go_enter Tryd.func28, Tryd.ntmps28
  go_wp2_with fail
  go_region_with (first | (go_at_call 13; refine (addz _ _ (by assumption)).mono ?_; rintro e V ⟨rfl, kk⟩; have kkd := kk.drew; have kc := kk.c) | (go_at_call 33; refine (putz _ _ (by assumption)).mono ?_; rintro e V ⟨rfl, kk⟩; have kkd := kk.drew; have kc := kk.c))
  all_goals
    go_wp2_with fail
    go_ret
    exact ⟨rfl, H1.out.step kk.s kk.r kk.u⟩

set_option maxRecDepth 100000 in
set_option maxHeartbeats 6400000 in
theorem done2 (k : Int) (h : PI w0 W ps bs pt bt pr br po bo N X M Y) :
    Calls Tryd.prog 28 #[.pointer (some ⟨ps, 0, none⟩), .pointer (some ⟨pr, 0, none⟩), .pointer (some ⟨pt, 0, none⟩), .pointer (some ⟨po, 0, none⟩), .agg #[.int .i64 2, .int .i64 k]] W
      (DonePost w0 ps bs pt bt pr br po bo N (dropX X k) M Y) := by
  have H := Lib.hid h
  have hB : Below W.heap.size W (W.alloc (.cells #[.int .i64 2, .int .i64 k] 47)) := (Below.refl _ _).alloc (Nat.le_refl _) _
  have H1 := Lib.hid (h.below hB)
  obtain ⟨n1, n2, n3, n4, n5, n6, n7, n8, n9, n10, n11⟩ := h.ne.a
  have hbs := h.s.blt
  have hbr := h.r.blt
  have k0 : DS (W.alloc (.cells #[.int .i64 2, .int .i64 k] 47)) ps bs pr br W.heap.size N k X X (W.alloc (.cells #[.int .i64 2, .int .i64 k] 47)) :=
    ⟨H1.out.s, H1.out.r, Upd2.refl _ _ _, by go_simp, by simp, n1, n10, n11, by omega, by omega⟩
  have k0d := k0.drew
  have addz : ∀ V B, DS (W.alloc (.cells #[.int .i64 2, .int .i64 k] 47)) ps bs pr br W.heap.size N k X B V → Calls Tryd.prog 12 #[.pointer (some ⟨ps, 0, none⟩), .int .i64 k] V fun e V' => e = .returned (.bool (Bs.has X k)) ∧ DS (W.alloc (.cells #[.int .i64 2, .int .i64 k] 47)) ps bs pr br W.heap.size N k (dropX X k) B V' :=
    fun V B hd => (drop_any ps bs N X k V hd.s).mono fun e V' ⟨he, h1, h2⟩ => ⟨he, hd.left h1 h2⟩
  have putz : ∀ V A, DS (W.alloc (.cells #[.int .i64 2, .int .i64 k] 47)) ps bs pr br W.heap.size N k A X V → Calls Tryd.prog 33 #[.pointer (some ⟨pr, 0, none⟩), .int .i64 k, .bool false] V fun e V' => e = .returned (.bool (Bs.has X k)) ∧ DS (W.alloc (.cells #[.int .i64 2, .int .i64 k] 47)) ps bs pr br W.heap.size N k A (dropX X k) V' :=
    fun V A hd => (put_any pr br N X k false V hd.r).mono fun e V' ⟨he, h1, h2⟩ => ⟨he, hd.right h1 h2⟩
  clear h hB
  go_enter Tryd.func28, Tryd.ntmps28
  go_wp2_with fail
  go_region_with (first | (go_at_call 12; refine (addz _ _ (by assumption)).mono ?_; rintro e V ⟨rfl, kk⟩; have kkd := kk.drew; have kc := kk.c) | (go_at_call 33; refine (putz _ _ (by assumption)).mono ?_; rintro e V ⟨rfl, kk⟩; have kkd := kk.drew; have kc := kk.c))
  all_goals
    go_wp2_with fail
    go_ret
    exact ⟨rfl, H1.out.step kk.s kk.r kk.u⟩

set_option maxRecDepth 100000 in
set_option maxHeartbeats 6400000 in
theorem done3 (k : Int) (h : PI w0 W ps bs pt bt pr br po bo N X M Y) :
    Calls Tryd.prog 28 #[.pointer (some ⟨ps, 0, none⟩), .pointer (some ⟨pr, 0, none⟩), .pointer (some ⟨pt, 0, none⟩), .pointer (some ⟨po, 0, none⟩), .agg #[.int .i64 3, .int .i64 k]] W
      (DonePost w0 ps bs pt bt pr br po bo N X M Y) := by
  have H := Lib.hid h
  have hB : Below W.heap.size W (W.alloc (.cells #[.int .i64 3, .int .i64 k] 47)) := (Below.refl _ _).alloc (Nat.le_refl _) _
  have H1 := Lib.hid (h.below hB)
  have c1 : ∀ z : Wd (W.alloc (.cells #[.int .i64 3, .int .i64 k] 47)).heap.size (W.alloc (.cells #[.int .i64 3, .int .i64 k] 47)), z.w.cell? ⟨W.heap.size, 1, none⟩ = some (.int .i64 k) := fun z => ((bcell z.ok).1 _ _ (by simp)).trans (by go_simp)
  have g1 : ∀ z : Wd (W.alloc (.cells #[.int .i64 3, .int .i64 k] 47)).heap.size (W.alloc (.cells #[.int .i64 3, .int .i64 k] 47)), Calls Tryd.prog 20 #[.pointer (some ⟨ps, 0, none⟩), .int .i64 k] z.w fun e w' => e = .returned (.bool (Bs.has X k)) ∧ z.w = w' := fun z => has_any ps bs N X k z.w (H1.out.s.below z.ok)
  have g2 : ∀ z : Wd (W.alloc (.cells #[.int .i64 3, .int .i64 k] 47)).heap.size (W.alloc (.cells #[.int .i64 3, .int .i64 k] 47)), Calls Tryd.prog 37 #[.pointer (some ⟨pr, 0, none⟩), .int .i64 k] z.w fun e w' => e = .returned (.bool (Bs.has X k)) ∧ z.w = w' := fun z => rhas_any pr br N X k z.w (H1.out.r.below z.ok)
  clear h hB
  go_enter Tryd.func28, Tryd.ntmps28
  go_wp2_with fail
  refine region_cls (W.alloc (.cells #[.int .i64 3, .int .i64 k] 47)).heap.size (by kernel_rfl) (by kernel_rfl) ?_
  repeat (go_big_quiet_step (first | (go_at_call 20; exact calls_cls_same _ (g1 _)) | (go_at_call 37; exact calls_cls_same _ (g2 _))))
  refine wpQuiet_nil ?_
  intro z
  have PZ := Lib.hid (H1.out.below z.ok)
  clear c1 g1 g2
  go_wp2_with fail
  go_ret
  exact ⟨rfl, PZ.out⟩

set_option maxRecDepth 100000 in
set_option maxHeartbeats 6400000 in
theorem done4 (k : Int) (h : PI w0 W ps bs pt bt pr br po bo N X M Y) :
    Calls Tryd.prog 28 #[.pointer (some ⟨ps, 0, none⟩), .pointer (some ⟨pr, 0, none⟩), .pointer (some ⟨pt, 0, none⟩), .pointer (some ⟨po, 0, none⟩), .agg #[.int .i64 4, .int .i64 k]] W
      (DonePost w0 ps bs pt bt pr br po bo N (un N X M Y) M Y) := by
  have H := Lib.hid h
  have hB : Below W.heap.size W (W.alloc (.cells #[.int .i64 4, .int .i64 k] 47)) := (Below.refl _ _).alloc (Nat.le_refl _) _
  have H1 := Lib.hid (h.below hB)
  obtain ⟨n1, n2, n3, n4, n5, n6, n7, n8, n9, n10, n11⟩ := h.ne.a
  have hg : 0 ≠ bs := by have := h.gt; have := h.lo.1; omega
  have g1 := union_any ps bs N X pt bt M Y _ H1.out.s H1.out.t H1.out.tab hg
  clear h hB
  go_enter Tryd.func28, Tryd.ntmps28
  go_wp2_with fail
  refine g1.mono ?_
  rintro e V ⟨rfl, hs, hu⟩
  have S := Lib.hid hs
  have U := Lib.hid hu
  have g2 := runion_any pr br N X po bo M Y V (H1.out.r.upd hu n11 (Ne.symm n10)) (H1.out.o.upd hu n6 n8) n7 n9
  clear hs hu g1
  go_wp2_with fail
  refine g2.mono ?_
  rintro e V2 ⟨rfl, hs, hu⟩
  have PZ := Lib.hid (H1.out.step (S.out.upd hu n1 n10) hs (((Upd2.refl _ _ _).left U.out).right hu))
  clear hs hu g2 S U
  go_wp2_with fail
  go_ret
  exact ⟨rfl, PZ.out⟩

set_option maxRecDepth 100000 in
set_option maxHeartbeats 6400000 in
theorem done5 (k : Int) (h : PI w0 W ps bs pt bt pr br po bo N X M Y) :
    Calls Tryd.prog 28 #[.pointer (some ⟨ps, 0, none⟩), .pointer (some ⟨pr, 0, none⟩), .pointer (some ⟨pt, 0, none⟩), .pointer (some ⟨po, 0, none⟩), .agg #[.int .i64 5, .int .i64 k]] W
      (DonePost w0 ps bs pt bt pr br po bo N X M Y) := by
  have H := Lib.hid h
  have hB : Below W.heap.size W (W.alloc (.cells #[.int .i64 5, .int .i64 k] 47)) := (Below.refl _ _).alloc (Nat.le_refl _) _
  have H1 := Lib.hid (h.below hB)
  have g1 := meets_any ps bs N X pt bt M Y _ H1.out.s H1.out.t
  clear h hB
  go_enter Tryd.func28, Tryd.ntmps28
  go_wp2_with fail
  refine g1.mono ?_
  rintro e V ⟨rfl, hb⟩
  have PZ := Lib.hid (H1.out.below hb)
  have g2 := rmeets_any pr br N X po bo M Y V PZ.out.r PZ.out.o
  clear hb g1
  go_wp2_with fail
  refine g2.mono ?_
  rintro e V2 ⟨rfl, rfl⟩
  go_wp2_with fail
  go_ret
  exact ⟨rfl, PZ.out⟩

set_option maxRecDepth 100000 in
set_option maxHeartbeats 6400000 in
theorem done0 (d : Int) (h1 : d ≠ 1) (h2 : d ≠ 2) (h3 : d ≠ 3) (h4 : d ≠ 4) (h5 : d ≠ 5) (k : Int) (h : PI w0 W ps bs pt bt pr br po bo N X M Y) :
    Calls Tryd.prog 28 #[.pointer (some ⟨ps, 0, none⟩), .pointer (some ⟨pr, 0, none⟩), .pointer (some ⟨pt, 0, none⟩), .pointer (some ⟨po, 0, none⟩), .agg #[.int .i64 d, .int .i64 k]] W
      (DonePost w0 ps bs pt bt pr br po bo N X M Y) := by
  have H := Lib.hid h
  have hB : Below W.heap.size W (W.alloc (.cells #[.int .i64 d, .int .i64 k] 47)) := (Below.refl _ _).alloc (Nat.le_refl _) _
  have H1 := Lib.hid (h.below hB)
  have e1 : (d == 1) = false := by simpa using h1
  have e2 : (d == 2) = false := by simpa using h2
  have e3 : (d == 3) = false := by simpa using h3
  have e4 : (d == 4) = false := by simpa using h4
  have e5 : (d == 5) = false := by simpa using h5
  clear h hB h1 h2 h3 h4 h5
  go_enter Tryd.func28, Tryd.ntmps28
  go_wp2_with fail
  go_ret
  exact ⟨rfl, H1.out⟩

theorem done_any (d k : Int) (h : PI w0 W ps bs pt bt pr br po bo N X M Y) :
    Calls Tryd.prog 28 #[.pointer (some ⟨ps, 0, none⟩), .pointer (some ⟨pr, 0, none⟩), .pointer (some ⟨pt, 0, none⟩), .pointer (some ⟨po, 0, none⟩), .agg #[.int .i64 d, .int .i64 k]] W
      (DonePost w0 ps bs pt bt pr br po bo N (opX d k N X M Y) M Y) := by
  by_cases h1 : d = 1
  · subst h1; exact done1 k h
  by_cases h2 : d = 2
  · subst h2; exact done2 k h
  by_cases h3 : d = 3
  · subst h3; exact done3 k h
  by_cases h4 : d = 4
  · subst h4; exact done4 k h
  by_cases h5 : d = 5
  · subst h5; exact done5 k h
  have e : opX d k N X M Y = X := by simp [opX, h1, h2, h4]
  rw [e]
  exact done0 d h1 h2 h3 h4 h5 k h
end Go.Proofs.YtccmmilbnfiacaaDoor
