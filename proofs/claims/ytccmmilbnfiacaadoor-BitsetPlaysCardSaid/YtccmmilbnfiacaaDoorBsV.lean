/-
  The walk of Union.
-/
import Derived.Test.YtccmmilbnfiacaaDoorBsP
namespace Go.Proofs.YtccmmilbnfiacaaDoor
open Go.RowKit Go.Shelf
set_option linter.unusedVariables false
attribute [local go_sem] Oper.semAt_some

theorem cells_kept {W W' : World} {row : Option Nat} {k : Nat} {cs : Array Value} {t : TypeId} {f : Nat × Nat} (h : W.heap[k]? = some (.cells cs t f)) (hg : W.grownBy W' row) (hr : ∀ r, row = some r → ∃ o : Obj, W.heap[r]? = some o ∧ o.isCells = false) : W'.heap[k]? = W.heap[k]? :=
  hg.block k (lt_of_block h) (fun e => by
    obtain ⟨o, ho, hc⟩ := hr k e.symm
    rw [h] at ho; cases ho; cases hc)
theorem SetAt.grown {W W' : World} {row : Option Nat} {p b n X : Nat} (h : SetAt W p b n X) (hg : W.grownBy W' row) (hr : ∀ r, row = some r → ∃ o : Obj, W.heap[r]? = some o ∧ o.isCells = false) : SetAt W' p b n X := by
  obtain ⟨c, e⟩ := h.box
  obtain ⟨cs, f, g⟩ := h.row
  exact h.kept (cells_kept e hg hr) (cells_kept f hg hr)
theorem boxed_grown {W W' : World} {row : Option Nat} {B : Nat} {t : TypeId} {v : Value} (h : Boxed W B t v) (hg : W.grownBy W' row) (hr : ∀ r, row = some r → ∃ o : Obj, W.heap[r]? = some o ∧ o.isCells = false) : Boxed W' B t v :=
  (cells_kept h hg hr).trans h
theorem boxed_upd {W W' : World} {B b : Nat} {t : TypeId} {v : Value} (h : Boxed W B t v) (k : Upd b W W') (hb : B ≠ b) : Boxed W' B t v := (k.block B h.lt hb).trans h
theorem Upd.grown {w W W' : World} {row : Option Nat} {b : Nat} (h : Upd b w W) (hg : W.grownBy W' row) (hr : ∀ r, row = some r → w.heap.size ≤ r) : Upd b w W' :=
  ⟨hg.os.trans h.os, hg.tape.trans h.tape, hg.output.trans h.output, Nat.le_trans h.size hg.size, fun k hk hb => (hg.block k (Nat.lt_of_lt_of_le hk h.size) (fun e => by have := hr k e.symm; omega)).trans (h.block k hk hb)⟩
theorem KeepsOthers.upd {W W' : World} {b : Nat} {cs : Array Value} {t : TypeId} {f : Nat × Nat} (h : Upd b W W') (hb : W.heap[b]? = some (.cells cs t f)) : KeepsOthers W W' :=
  ⟨h.size, fun k o hk ho => (h.block k (lt_of_block hk) (fun e => by subst e; rw [hb] at hk; cases hk; cases ho)).trans hk⟩
theorem Keep.upd {W W' : World} {g c b : Nat} (h : Upd b W W') (hg : g < W.heap.size) (hc : c < W.heap.size) (ht : 0 < W.heap.size) (h1 : g ≠ b) (h2 : c ≠ b) (h3 : 0 ≠ b) : Keep g c W W' :=
  ⟨h.block _ hg h1, h.block _ hc h2, h.block _ ht h3⟩
theorem Upd.putObj {b : Nat} {w W : World} (h : Upd b w W) {l : Nat} (hl : w.heap.size ≤ l) (o' : Obj) : Upd b w (W.putObj l o') := h.grown (grownBy_putObj' W l o') (fun r e => by cases e; exact hl)
theorem SetAt.putObj {W : World} {p b n X l : Nat} {o : Obj} (h : SetAt W p b n X) (o' : Obj) (hl : W.heap[l]? = some o) (ho : o.isCells = false) : SetAt (W.putObj l o') p b n X := h.grown (grownBy_putObj' W l o') (fun r e => by cases e; exact ⟨o, hl, ho⟩)

/-- What holds between two rounds. -/
structure UI (w : World) (z p b n X : Nat) (pre : List Num) (W : World) : Prop where
  one : Boxed W w.heap.size 24 (.pointer (some ⟨p, 0, none⟩))
  two : Boxed W (w.heap.size + 1) 4 (.bool (gr n X (natI (vals pre))))
  set : SetAt W p b n (Bs.adds n X (natI (vals pre)))
  upd : Upd b w W
  big : z ≤ W.heap.size
theorem UI.own (w : World) (z p b n X B : Nat) (hB : w.heap.size ≤ B) : OwnFrom B (UI w z p b n X) :=
  fun s W W' row h hg hr => ⟨boxed_grown h.one hg (fun r e => (hr r e).2), boxed_grown h.two hg (fun r e => (hr r e).2), h.set.grown hg (fun r e => (hr r e).2), h.upd.grown hg (fun r e => Nat.le_trans hB (hr r e).1), Nat.le_trans h.big hg.size⟩

def UX (w : World) (z p b n X : Nat) (c : Code) (pre : List Num) (W : World) : Prop := c = .exit 0 ∧ ∃ l x, pre = l ++ [x] ∧ n ≤ x.1 ∧ UI w z p b n X l W
theorem UX.own (w : World) (z p b n X B : Nat) (hB : w.heap.size ≤ B) (c : Code) : OwnFrom B (UX w z p b n X c) :=
  fun s W W' row h hg hr => by obtain ⟨hc, l, x, e, hx, hu⟩ := h; exact ⟨hc, l, x, e, hx, UI.own w z p b n X B hB l W W' row hu hg hr⟩

theorem Upd.setNew {b : Nat} {w W : World} (h : Upd b w W) (a : Addr) (ha : w.heap.size ≤ a.block) (v : Value) : Upd b w (W.setCell a v) :=
  ⟨h.os, h.tape, h.output, Nat.le_trans h.size (by simp [World.setCell]), fun k hk hb => (Below.heap_setCell _ _ _ _ (by omega)).trans (h.block k hk hb)⟩
theorem UI.step {w W W2 : World} {z p b n X : Nat} {pre : List Num} {x : Num} {v : Bool} (h : UI w z p b n X pre W) (hp : p < w.heap.size) (hb : b < w.heap.size) (hv : v = gr n X (natI (vals pre) ++ [((x.1 : Nat) : Int)]))
    (hs : SetAt W2 p b n (addX n (Bs.adds n X (natI (vals pre))) (x.1 : Nat))) (hu : Upd b W W2) : UI w z p b n X (pre ++ [x]) (W2.setCell ⟨w.heap.size + 1, 0, none⟩ (.bool v)) := by
  have e : natI (vals (pre ++ [x])) = natI (vals pre) ++ [((x.1 : Nat) : Int)] := by rw [vals_snoc]; simp [natI]
  have b1 := boxed_upd h.one hu (by omega)
  have b2 := boxed_upd h.two hu (by omega)
  refine ⟨(Below.heap_setCell _ _ _ _ (by simp)).trans b1, by rw [e, ← hv]; exact b2.set _, ?_, (h.upd.trans hu).setNew _ (by simp) _, Nat.le_trans h.big (Nat.le_trans hu.size (by simp [World.setCell]))⟩
  rw [e, adds_app, ← addX_eq]
  exact hs.kept (Below.heap_setCell _ _ _ _ (by simp; omega)) (Below.heap_setCell _ _ _ _ (by simp; omega))
theorem UI.body {w W W2 : World} {z p b n X g c B : Nat} {pre : List Num} {x : Num} {v : Bool} {a : Act} (h : UI w z p b n X pre W) (hp : p < w.heap.size) (hb : b < w.heap.size) (ht : 0 < w.heap.size) (htb : 0 ≠ b)
    (hg : w.heap.size + 1 + 1 ≤ g) (hc : w.heap.size + 1 + 1 ≤ c) (hg' : g < z) (hc' : c < z) (hv : v = gr n X (natI (vals pre) ++ [((x.1 : Nat) : Int)]))
    (hs : SetAt W2 p b n (addX n (Bs.adds n X (natI (vals pre))) (x.1 : Nat))) (hu : Upd b W W2) : ownPostG B (Keep g c) (UI w z p b n X) (UX w z p b n X) (pre ++ [x]) W .normal a (W2.setCell ⟨w.heap.size + 1, 0, none⟩ (.bool v)) := by
  obtain ⟨cs, hrow, _⟩ := h.set.row
  have hz := h.big
  refine ⟨((KeepsOthers.upd hu hrow).trans (KeepsOthers.setCell _ _ _)).from _, (Keep.upd hu (by omega) (by omega) (by have := h.upd.size; omega) (by omega) (by omega) htb).trans ⟨Below.heap_setCell _ _ _ _ (by simp; omega), Below.heap_setCell _ _ _ _ (by simp; omega), Below.heap_setCell _ _ _ _ (fun e => by first | (simp at e; done) | (simp at e; omega))⟩, h.step hp hb hv hs hu⟩

def UnionPost (w : World) (p b n X m Y : Nat) (e : Ending) (w' : World) : Prop := e = .returned (.bool (unB n X m Y)) ∧ SetAt w' p b n (un n X m Y) ∧ Upd b w w'

set_option maxRecDepth 100000 in
set_option maxHeartbeats 8000000 in
theorem union_in (n' p b n X q c m Y : Nat) (hn : 3 ≤ n') (w : World) (hS : SetAt w p b n X) (hO : SetAt w q c m Y) (hT : Tab w) (hTb : 0 ≠ b) :
    CallsIn Fence.wide n' Tryd.prog 24 #[.pointer (some ⟨p, 0, none⟩), .pointer (some ⟨q, 0, none⟩)] w (UnionPost w p b n X m Y) := by
  have h1 : 1 ≤ n' := by omega
  have hp := hS.plt
  have hb := hS.blt
  have ht := hT.lt
  have HS := Lib.hid hS
  have HO := Lib.hid hO
  have HT := Lib.hid hT
  clear hS hO hT
  refine callsIn_of_wp_marks Tryd.func24 rfl trivial ?_ rfl
  simp only [Tryd.ntmps24, List.size_toArray, List.length_cons, List.length_nil, Nat.reduceAdd, Nat.reduceSub, Array.replicate_succ, Array.replicate_zero, List.push_toArray, List.append_toArray, List.nil_append, List.cons_append]
  have hB0 : Below w.heap.size w ((w.alloc (.cells #[.pointer (some ⟨p, 0, none⟩)] 24)).alloc (.cells #[.bool false] 4)) := ((Below.refl _ w).alloc (Nat.le_refl _) _).alloc (by simp) _
  have hea := each_any q c m Y _ (HO.out.below hB0)
  have HB0 := Lib.hid hB0
  clear hB0
  gi_wp2_with (refine ⟨trivial, ?_⟩; gi_at_call 11; refine (callsIn_wide.2 hea).mono ?_; rintro e w1 ⟨g, c1, rfl, hg, hc1, hh, hr, hB1⟩)
  simp only [World.size_alloc] at hg hc1
  have b1 : Boxed w1 w.heap.size 24 (.pointer (some ⟨p, 0, none⟩)) :=
    (hB1.block _ (by simp; omega)).trans ((Boxed.new w 24 (.pointer (some ⟨p, 0, none⟩))).alloc _)
  have b2 : Boxed w1 (w.heap.size + 1) 4 (.bool false) := by
    have := Boxed.new (w.alloc (.cells #[.pointer (some ⟨p, 0, none⟩)] 24)) 4 (.bool false)
    rw [World.size_alloc] at this
    exact (hB1.block _ (by simp)).trans this
  have hBw : Below w.heap.size w w1 := HB0.out.trans (hB1.mono (by simp; omega))
  have hT1 := HT.out.below hBw
  have hI1 : Its w1 g c1 m Y := ⟨hh, hr, hT1, HO.out.le, HO.out.lt⟩
  have hU0 : UI w w1.heap.size p b n X [] w1 := ⟨b1, by simpa [vals, natI, gr, Bs.adds] using b2, by simpa [vals, natI, Bs.adds] using HS.out.below hBw, .of hBw, Nat.le_refl _⟩
  have hgl : g < w1.heap.size := by obtain ⟨_, e⟩ := hh; exact lt_of_block e
  have hcl : c1 < w1.heap.size := by obtain ⟨_, e, _⟩ := hr; exact lt_of_block e
  have htl := hT1.lt
  have hsz := hBw.size
  clear b1 b2 hh hr hB1 hT1 hea
  refine wpIn_rangeFunc_ownG rfl h1 (gf := 30) (lb := #[.pointer (some ⟨g, 0, none⟩)]) rfl trivial (enters_of Tryd.func30 (by kernel_rfl) rfl)
    (each_stops (n' - 1) g c1 m Y (by omega) w1 hI1) (fun h k => Keep.trans h k) (keep_put hgl hcl htl) (Below.refl _ _) (fun _ => rfl)
    (UI w w1.heap.size p b n X) (UX w w1.heap.size p b n X) (UI.own _ _ _ _ _ _ _ hsz) (UX.own _ _ _ _ _ _ _ hsz) hU0
    (fun x => { tmps := #[.pointer (some ⟨p, 0, none⟩), .pointer (some ⟨q, 0, none⟩), .pointer (some ⟨w.heap.size, 0, none⟩), undef, .bool false, .pointer (some ⟨w.heap.size + 1, 0, none⟩), .int .i64 (x.1 : Nat), .pointer (some ⟨q, 0, none⟩), .func (.func 30) #[] #[.pointer (some ⟨g, 0, none⟩)], .int .i64 (x.1 : Nat), undef, undef, undef, undef, undef, undef, undef, undef, undef, undef, undef, undef, undef], defers := [] }) ?assign ?body ?done ?stop
  case assign =>
    intro l x W K hK
    gi_wp2
    exact hK
  case body =>
    intro l pre x W hU hlt
    have hdp : 1 ≤ n' - 1 - 1 := by omega
    have hc1' := hU.one.cell
    have hc2' := hU.two.cell
    have hf2' := hU.two.frozen
    obtain ⟨s0, _, _, _⟩ := hU.set.cells
    have HU := Lib.hid hU
    clear hU
    by_cases hx : x.1 < n
    · have hd : decide ((n : Int) ≤ ((x.1 : Nat) : Int)) = false := by simp; omega
      have hd2 : decide (n ≤ x.1) = false := by simp; omega
      have hadd := add_any p b n _ x.1 W HU.out.set
      have hgs := Lib.hid (gr_snoc n X (natI (vals pre)) (x.1 : Nat))
      cases hab : addB n (Bs.adds n X (natI (vals pre))) (x.1 : Nat) with
      | true =>
        rw [hab] at hadd
        have HV : Hid (true = gr n X (natI (vals pre) ++ [((x.1 : Nat) : Int)])) := Lib.hid (by rw [hgs.out, hab]; rfl)
        clear hab
        gi_wp2_with (refine ⟨trivial, ?_⟩; gi_at_call 13; refine (CallsIn.inRound l (callsIn_wide.2 hadd)).mono ?_; rintro e W2 ⟨rfl, hs2, hu2⟩; have hc3' := (boxed_upd HU.out.two hu2 (by omega)).cell; have hf3' := (boxed_upd HU.out.two hu2 (by omega)).frozen)
        exact HU.out.body hp hb ht hTb hg hc1 hgl hcl HV.out hs2 hu2
      | false =>
        rw [hab] at hadd
        have HV : Hid (gr n X (natI (vals pre)) = gr n X (natI (vals pre) ++ [((x.1 : Nat) : Int)])) := Lib.hid (by rw [hgs.out, hab]; rfl)
        clear hab
        gi_wp2_with (refine ⟨trivial, ?_⟩; gi_at_call 13; refine (CallsIn.inRound l (callsIn_wide.2 hadd)).mono ?_; rintro e W2 ⟨rfl, hs2, hu2⟩; have hc3' := (boxed_upd HU.out.two hu2 (by omega)).cell; have hf3' := (boxed_upd HU.out.two hu2 (by omega)).frozen)
        exact HU.out.body hp hb ht hTb hg hc1 hgl hcl HV.out hs2 hu2
    · have hd : decide ((n : Int) ≤ ((x.1 : Nat) : Int)) = true := by simp; omega
      have hd2 : decide (n ≤ x.1) = true := by simp; omega
      have hx' : n ≤ x.1 := by omega
      gi_wp2
      exact ⟨(KeepsOthers.refl _).from _, rfl, pre, x, rfl, hx', HU.out⟩
  case done =>
    intro D ys W hD hys hU hK
    have hc2' := hU.two.cell
    have key : Hid (UnionPost w p b n X m Y (.returned (.bool (gr n X (natI (vals ys))))) (W.putObj D (.deferred none))) :=
      Lib.hid ⟨ret_bool (by unfold unB; rw [← hys]), by unfold un; rw [← hys]; exact hU.set.putObj (.deferred none) hK rfl, hU.upd.putObj (by omega) _⟩
    clear hU hys
    gi_wp2
    refine ⟨by simp, .inl ⟨_, _, rfl, run_takeDeferred hK, ?_⟩⟩
    exact ⟨_, results_tmp rfl _ _ _, by exact key.out⟩
  case stop =>
    rintro D cc pre W hD hpre ⟨rfl, l, x, rfl, hx, hU⟩ hK
    have hc2' := hU.two.cell
    obtain ⟨r, hr⟩ := hpre
    rw [vals_snoc] at hr
    have he : Bs.adds n X (natI (Bs.lst m Y)) = Bs.adds n X (natI (vals l)) := adds_stop hr hx
    have key : Hid (UnionPost w p b n X m Y (.returned (.bool (gr n X (natI (vals l))))) (W.putObj D (.deferred none))) :=
      Lib.hid ⟨ret_bool (by unfold unB gr; rw [he]), by unfold un; rw [he]; exact hU.set.putObj (.deferred none) hK rfl, hU.upd.putObj (by omega) _⟩
    clear hU hr he
    gi_wp2
    refine ⟨by simp, .inl ⟨_, _, rfl, run_takeDeferred hK, ?_⟩⟩
    exact ⟨_, results_tmp rfl _ _ _, by exact key.out⟩

theorem union_any (p b n X q c m Y : Nat) (w : World) (hS : SetAt w p b n X) (hO : SetAt w q c m Y) (hT : Tab w) (hTb : 0 ≠ b) :
    Calls Tryd.prog 24 #[.pointer (some ⟨p, 0, none⟩), .pointer (some ⟨q, 0, none⟩)] w (UnionPost w p b n X m Y) :=
  (callsIn_wide (n := 3)).1 (union_in 3 p b n X q c m Y (by omega) w hS hO hT hTb)
end Go.Proofs.YtccmmilbnfiacaaDoor
