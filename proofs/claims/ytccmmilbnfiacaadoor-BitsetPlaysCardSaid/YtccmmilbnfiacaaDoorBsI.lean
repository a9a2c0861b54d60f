/-
  The iterator of a set: the contract of the function that Each makes.
-/
import Derived.Test.YtccmmilbnfiacaaDoorBsT
import Derived.RangeFuncNested
import Derived.RangeFuncBound
import Derived.RangeFuncCalls
import Derived.RangeFuncLeaves
import Derived.RangeFuncBox
import Derived.Shelf.Abstract
import Derived.Shelf.RegionOpen
import Derived.OwnWalkIn
import Derived.TacticsInMore
import Derived.LoopNIn
import Derived.LoopIn
namespace Go.Proofs.YtccmmilbnfiacaaDoor
open Go.RowKit Go.Shelf
set_option linter.unusedVariables false
attribute [local go_sem] Oper.semAt_some

/-- A number that a set of any width may have. -/
abbrev Num := { x : Nat // x < 1024 }
/-- What a round must keep for the iterator: its words, their header, the table. -/
def Keep (g b : Nat) (W W' : World) : Prop := W'.heap[g]? = W.heap[g]? ∧ W'.heap[b]? = W.heap[b]? ∧ W'.heap[0]? = W.heap[0]?
theorem Keep.refl (g b : Nat) (W : World) : Keep g b W W := ⟨rfl, rfl, rfl⟩
theorem Keep.trans {g b : Nat} {A B C : World} (h : Keep g b A B) (k : Keep g b B C) : Keep g b A C := ⟨k.1.trans h.1, k.2.1.trans h.2.1, k.2.2.trans h.2.2⟩

/-- What the iterator reads. -/
structure Its (W : World) (g b n X : Nat) : Prop where
  head : ∃ cap, W.heap[g]? = some (.cells #[.slice (some ⟨b, 0, none⟩) (Bs.nw n : Nat) cap] 52 (0, 0))
  row : ∃ cs : Array Value, W.heap[b]? = some (.cells cs 54 (0, 0)) ∧ Bs.nw n ≤ cs.size ∧ ∀ k, k < Bs.nw n → cs[k]? = some (.int .u64 (Bs.word X k : Nat))
  tab : Tab W
  le : n ≤ 1000
  lt : X < 2 ^ n
theorem Its.keep {W W' : World} {g b n X : Nat} (h : Its W g b n X) (k : Keep g b W W') : Its W' g b n X := by
  obtain ⟨c, e⟩ := h.head
  obtain ⟨cs, f, r⟩ := h.row
  exact ⟨⟨c, k.1.trans e⟩, ⟨cs, k.2.1.trans f, r⟩, h.tab.kept k.2.2, h.le, h.lt⟩
theorem Its.below {W W' : World} {g b n X : Nat} (h : Its W g b n X) (k : Below W.heap.size W W') : Its W' g b n X := by
  obtain ⟨c, e⟩ := h.head
  obtain ⟨cs, f, r⟩ := h.row
  exact h.keep ⟨k.block _ (lt_of_block e), k.block _ (lt_of_block f), k.block _ h.tab.lt⟩

def vals (l : List Num) : List Nat := l.map Subtype.val
theorem vals_snoc (l : List Num) (x : Num) : vals (l ++ [x]) = vals l ++ [x.1] := by simp [vals]

def Rel1 (n X : Nat) (J : List Num → World → Prop) (g b : Nat) (i : Value) (wr : World) : Prop :=
  ∃ (k : Nat) (pre : List Num), i = .int .i64 k ∧ k ≤ Bs.nw n ∧ vals pre ++ Bs.from_ n X k = Bs.lst n X ∧ J pre wr ∧ Its wr g b n X
def Rel2 (n X k : Nat) (J : List Num → World → Prop) (g b : Nat) (v : Value) (wr : World) : Prop :=
  ∃ (x : Nat) (pre : List Num), v = .int .u64 x ∧ x < 18446744073709551616 ∧ vals pre ++ ((Bs.bl x).map (64 * k + ·) ++ Bs.from_ n X (k + 1)) = Bs.lst n X ∧ J pre wr ∧ Its wr g b n X

theorem bits_short {n X : Nat} {pre : List Num} {r : List Nat} (h : vals pre ++ r = Bs.lst n X) (hn : n ≤ 1000) : pre.length < 1024 := by
  have h1 := congrArg List.length h
  have h2 := Bs.lst_len n X
  simp [vals] at h1
  omega

set_option maxRecDepth 100000 in
set_option maxHeartbeats 4000000 in
theorem each1_in (n' l g b n X : Nat) (hn : 1 ≤ n') (J Jx : List Num → World → Prop)
    (hY : ∀ pre x W, J pre W → pre.length < 1024 → YieldAt Fence.wide (n' - 1) Tryd.prog l #[.int .i64 ((x : Num).1 : Nat)] W fun e W' =>
      (e = .returned (.bool true) ∧ J (pre ++ [x]) W' ∧ Keep g b W W') ∨ (e = .returned (.bool false) ∧ Jx (pre ++ [x]) W'))
    (W : World) (hI : Its W g b n X) (h0 : J [] W) :
    CallsIn Fence.wide n' Tryd.prog 30 #[.func (.yield l) #[] #[], .pointer (some ⟨g, 0, none⟩)] W fun e W' => (∃ v, e = .returned v) ∧
      ((∃ ys, vals ys = Bs.lst n X ∧ J ys W') ∨ (∃ pre, vals pre <+: Bs.lst n X ∧ Jx pre W')) := by
  refine callsIn_of_wp Tryd.func30 rfl trivial ?_ rfl
  simp only [Tryd.ntmps30, List.size_toArray, List.length_cons, List.length_nil, Nat.reduceAdd, Nat.reduceSub, Array.replicate_succ, Array.replicate_zero, List.push_toArray, List.append_toArray, List.nil_append, List.cons_append]
  obtain ⟨cap, hg⟩ := hI.head
  have hc := cell_of_one hg
  have hle := Bs.nw_le hI.le
  have hlst := Lib.hid (Bs.lst_from hI.lt)
  have H := Lib.hid hI
  clear hg hI
  gi_wp2
  gi_loopw [7] (fun i wr => Rel1 n X J g b i wr) (fun i _ => Bs.nw n - (intOf i).toNat)
  case atStart => exact ⟨0, [], rfl, Nat.zero_le _, by simpa [vals] using hlst.out, h0, H.out⟩
  case round =>
    obtain ⟨k, pre, rfl, hk, hp, hJ, hi⟩ := hrel
    have HP := Lib.hid hp
    have HI := Lib.hid hi
    clear hp hi
    by_cases hlt : k < Bs.nw n
    · obtain ⟨cs, hrow, _, hcs⟩ := HI.out.row
      have hcx : wr.cell? ⟨b, k, none⟩ = some (.int .u64 (Bs.word X k : Nat)) := by simp [World.cell?, hrow, hcs k hlt]
      have hwl := Bs.word_lt X k
      clear hcs hrow
      obtain ⟨wo, rfl⟩ : ∃ wo : World, wo = wr := ⟨_, rfl⟩
      gi_wp2
      gi_loopw [4] (fun v wr => Rel2 n X k J g b v wr) (fun v _ => (intOf v).toNat)
      case atStart => exact ⟨_, pre, rfl, hwl, by rw [← Bs.from_step hlt]; exact HP.out, hJ, HI.out⟩
      case round =>
        clear hJ
        obtain ⟨x, pre2, rfl, hx, hp2, hJ, hi2⟩ := hrel
        have HP2 := Lib.hid hp2
        have HI2 := Lib.hid hi2
        clear hp2 hi2
        by_cases hx0 : x = 0
        · subst hx0
          gi_wp2
          go_roundw
          case rel => exact ⟨k + 1, pre2, by go_num, by omega, by simpa [Bs.bl_zero] using HP2.out, hJ, HI2.out⟩
          case measure => simp [intOf]; omega
        · obtain ⟨hk64, _, _, _⟩ := Bs.low_spec hx0 (by omega : x < 2 ^ 64)
          have hb := Lib.hid (Bs.bl_cons hx0 (by omega : x < 2 ^ 64))
          have hnx := Lib.hid (Bs.next_lt (by omega : x < 2 ^ 64))
          have htz := tz_any x wr hx0 hx HI2.out.tab
          have hne : ((x : Int) != 0) = true := by simp; omega
          have hx1 : 0 < x := by omega
          have hwr : IntKind.u64.wrap ((x : Int) - 1) = ((x - 1 : Nat) : Int) := by rw [IntKind.wrap_u64]; omega
          have hand := bits_and_u64_nat x (x - 1) hx (by omega)
          have hlen := Lib.hid (bits_short HP2.out HI2.out.le)
          obtain ⟨c, hcc⟩ : ∃ c, c = Lib.ctz 64 x := ⟨_, rfl⟩
          have hns : 64 * k + c < 1024 := by omega
          obtain ⟨fn, tmps, assign, body, hy, hR⟩ := hY pre2 ⟨64 * k + c, hns⟩ wr hJ hlen.out
          have ecast : ((64 * k + c : Nat) : Int) = ↑k * 64 + ↑c := by omega
          simp only [ecast] at hy
          rw [← hcc] at htz
          have Hy := Lib.hid hy
          clear hy hx0 ecast
          have Hc := Lib.hid hcc
          have Hwr := Lib.hid hwr
          have Hand := Lib.hid hand
          clear hcc hwr hand
          gi_wp2_with (refine ⟨trivial, ?_⟩; gi_at_call 31; refine (callsIn_wide.2 htz).mono ?_; rintro e w' ⟨rfl, rfl⟩; have hy := Hy.out)
          clear hy
          refine hR.mono ?_
          rintro e W3 (⟨rfl, hJ3, hk3⟩ | ⟨rfl, hJx3⟩)
          · have HI3 := Lib.hid (HI2.out.keep hk3)
            have HP3 : Hid (vals (pre2 ++ [⟨64 * k + c, hns⟩]) ++ ((Bs.bl (x &&& (x - 1))).map (64 * k + ·) ++ Bs.from_ n X (k + 1)) = Bs.lst n X) := by
              refine Lib.hid ?_
              rw [vals_snoc, ← HP2.out, hb.out, ← Hc.out]
              simp
            have hval' : Hid (bits BinOp.and IntKind.u64 (x : Int) ((x : Int) - 1) = ((x &&& (x - 1) : Nat) : Int)) := Lib.hid (by
              have := Hand.out
              rw [show ((x - 1 : Nat) : Int) = (x : Int) - 1 from by omega] at this
              exact this)
            have hdec : x &&& (x - 1) < x := Nat.lt_of_le_of_lt Nat.and_le_right (by omega)
            clear hk3 HI2 HP2 hR hJ
            gi_wp2
            go_roundw
            case rel => exact ⟨x &&& (x - 1), _, by rw [hval'.out], by omega, HP3.out, hJ3, HI3.out⟩
            case measure => simp [hval'.out]; simp only [intOf]; omega
          · clear hR hJ
            gi_wp2
            refine bodyPost_ret (results_none rfl _ _ _) rfl ?_
            refine ⟨⟨_, rfl⟩, .inr ⟨_, ?_, hJx3⟩⟩
            rw [vals_snoc, ← HP2.out, hb.out, ← Hc.out]
            exact ⟨(Bs.bl (x &&& (x - 1))).map (64 * k + ·) ++ Bs.from_ n X (k + 1), by simp⟩
    · obtain rfl : k = Bs.nw n := by omega
      gi_wp2
      go_end0
      refine ⟨⟨_, rfl⟩, .inl ⟨pre, ?_, hJ⟩⟩
      simpa [Bs.from_end] using HP.out

/-- The contract of a set's iterator. -/
theorem each_stops (n' g b n X : Nat) (hn : 1 ≤ n') (w : World) (hI : Its w g b n X) :
    SeqStopsK Fence.wide n' Tryd.prog 30 #[.pointer (some ⟨g, 0, none⟩)] (fun x : Num => #[Value.int .i64 (x.1 : Nat)]) (Keep g b) (fun ys => vals ys = Bs.lst n X) (fun pre => vals pre <+: Bs.lst n X) 1024 w :=
  fun l J Jx W hW _ _ hY h0 => each1_in n' l g b n X hn J Jx hY W (hI.below hW) h0

theorem keep_of_below {n₀ g b : Nat} {A B : World} (h : Below n₀ A B) (hg : g < n₀) (hb : b < n₀) (ht : 0 < n₀) : Keep g b A B := ⟨h.block _ hg, h.block _ hb, h.block _ ht⟩
theorem keep_put {w : World} {g b : Nat} (hg : g < w.heap.size) (hb : b < w.heap.size) (ht : 0 < w.heap.size) (W : World) (l : Nat) (o o' : Obj) (hl : w.heap.size ≤ l) (h : W.heap[l]? = some o) (h1 : o.isCells = false) (h2 : o.isWalk = false) : Keep g b W (W.putObj l o') :=
  keep_of_below (belowK_b (w := w) (Nat.le_refl _) W l o o' hl h h1 h2) hg hb ht
end Go.Proofs.YtccmmilbnfiacaaDoor
