/-
  Walks of the reference's sets: New, Put, Of, List.
-/
import Derived.Test.YtccmmilbnfiacaaDoorBsA
import Derived.Test.YtccmmilbnfiacaaDoorAppend
namespace Go.Proofs.YtccmmilbnfiacaaDoor
open Go.RowKit
set_option linter.unusedVariables false

/-- A reference's set lies at p: its bools in block b. -/
structure RefAt (w : World) (p b n X : Nat) : Prop where
  box : ∃ cap, w.heap[p]? = some (.cells #[.slice (some ⟨b, 0, none⟩) n cap] 50 (0, 0))
  row : ∃ cs : Array Value, w.heap[b]? = some (.cells cs 4 (0, 0)) ∧ n ≤ cs.size ∧ ∀ k, k < n → cs[k]? = some (.bool (X.testBit k))
  ne : p ≠ b
  le : n ≤ 1000
  lt : X < 2 ^ n
theorem RefAt.plt {w : World} {p b n X : Nat} (h : RefAt w p b n X) : p < w.heap.size := by obtain ⟨_, e⟩ := h.box; exact lt_of_block e
theorem RefAt.blt {w : World} {p b n X : Nat} (h : RefAt w p b n X) : b < w.heap.size := by obtain ⟨_, e, _⟩ := h.row; exact lt_of_block e
theorem RefAt.kept {w w' : World} {p b n X : Nat} (h : RefAt w p b n X) (h1 : w'.heap[p]? = w.heap[p]?) (h2 : w'.heap[b]? = w.heap[b]?) : RefAt w' p b n X := by
  obtain ⟨c, e⟩ := h.box
  obtain ⟨cs, f, g⟩ := h.row
  exact ⟨⟨c, h1.trans e⟩, ⟨cs, h2.trans f, g⟩, h.ne, h.le, h.lt⟩
theorem RefAt.below {w w' : World} {p b n X : Nat} (h : RefAt w p b n X) (k : Below w.heap.size w w') : RefAt w' p b n X := h.kept (k.block _ h.plt) (k.block _ h.blt)
theorem RefAt.upd {w w' : World} {p b n X c : Nat} (h : RefAt w p b n X) (k : Upd c w w') (h1 : p ≠ c) (h2 : b ≠ c) : RefAt w' p b n X := h.kept (k.block _ h.plt h1) (k.block _ h.blt h2)
theorem RefAt.cells {w : World} {p b n X : Nat} (h : RefAt w p b n X) : (∃ cap, w.cell? ⟨p, 0, none⟩ = some (.slice (some ⟨b, 0, none⟩) n cap)) ∧
    (∀ k, k < n → w.cell? ⟨b, k, none⟩ = some (.bool (X.testBit k))) ∧ ∀ k, w.frozen? ⟨b, k, none⟩ = false := by
  obtain ⟨c, e⟩ := h.box
  obtain ⟨cs, f, hn, g⟩ := h.row
  exact ⟨⟨c, by simp [World.cell?, e]⟩, fun k hk => by simp [World.cell?, f, g k hk], fun k => by simp [World.frozen?, f]⟩
theorem RefAt.put {w : World} {p b n X : Nat} (h : RefAt w p b n X) {i Y : Nat} (hi : i < n) (hY : Y < 2 ^ n) (hw : ∀ k, k ≠ i → Y.testBit k = X.testBit k) {v : Value} (hv : v = .bool (Y.testBit i)) :
    RefAt (w.setCell ⟨b, i, none⟩ v) p b n Y := by
  obtain ⟨c, e⟩ := h.box
  obtain ⟨cs, f, hn, g⟩ := h.row
  refine ⟨⟨c, (Below.heap_setCell _ _ _ _ h.ne).trans e⟩, ⟨_, heap_setCell_same _ _ _ _ _ _ f, by simpa using hn, ?_⟩, h.ne, h.le, hY⟩
  intro k hk
  subst hv
  rw [Array.getElem?_setIfInBounds]
  by_cases hki : i = k
  · subst hki; simp; omega
  · rw [if_neg hki, g k hk, hw k (by omega)]

theorem info4 : (Tryd.prog.info? 4).map (fun i => (i.zero, i.size, i.bytes)) = some (some (.bool false), 1, 1) := by kernel_rfl
def noBools (c : Nat) : Array Value := madeCells #[.bool false] c
theorem noBools_get {c k : Nat} (h : k < c) : (noBools c)[k]? = some (.bool false) := by
  unfold noBools madeCells
  simp [h, Nat.mod_one]
theorem noBools_size (c : Nat) : (noBools c).size = c := by simp [noBools, madeCells]
theorem make_bools (z : Int) (c : Nat) (hz : z = c) (hc : c ≤ 1000) (w : World) :
    (Instr.makeSlice 48 (.int .i64 z) (.int .i64 z)).run Tryd.prog w = .ok (.slice (some ⟨w.heap.size, 0, none⟩) c c) (w.alloc (.cells (noBools c) 4)) := by
  obtain ⟨i0, hi, hz0, hz1, hz2⟩ := info_parts info4
  have hr := run_make (P := Tryd.prog) w 48 4 i0 (.bool false) Tryd.underlying48 hi hz0 .i64 .i64 c c (by omega) (Int.le_refl _) (by rw [hz2]; omega) (by omega)
  subst hz
  rw [hr, hz1]
  simp [noBools, Value.cells]
theorem new_ref (w : World) (m : Nat) (hm : m ≤ 1000) :
    RefAt ((w.alloc (.cells (noBools m) 4)).alloc (.cells #[.slice (some ⟨w.heap.size, 0, none⟩) m m] 50)) (w.heap.size + 1) w.heap.size m 0 := by
  refine ⟨⟨m, ?_⟩, ⟨noBools m, ?_, by rw [noBools_size]; exact Nat.le_refl _, fun k hk => by rw [noBools_get hk]; simp⟩, by omega, hm, Nat.two_pow_pos m⟩
  · have := heap_alloc_new (w.alloc (.cells (noBools m) 4)) (.cells #[.slice (some ⟨w.heap.size, 0, none⟩) m m] 50)
    rw [World.size_alloc] at this
    exact this
  · exact (Below.heap_alloc _ _ _ (by simp)).trans (heap_alloc_new w _)

def RefPost (w : World) (n X : Nat) (e : Ending) (w' : World) : Prop :=
  ∃ p b, e = .returned (.pointer (some ⟨p, 0, none⟩)) ∧ w.heap.size ≤ p ∧ w.heap.size ≤ b ∧ RefAt w' p b n X ∧ Below w.heap.size w w'

set_option maxHeartbeats 1000000 in
theorem rnew_any (n : Int) (w : World) : Calls Tryd.prog 27 #[.int .i64 n] w (RefPost w (Bs.wid n) 0) := by
  have f : Hid (∀ e, e = .returned (.pointer (some ⟨w.heap.size + 1, 0, none⟩)) → RefPost w (Bs.wid n) 0 e ((w.alloc (.cells (noBools (Bs.wid n)) 4)).alloc (.cells #[.slice (some ⟨w.heap.size, 0, none⟩) (Bs.wid n) (Bs.wid n)] 50))) :=
    Lib.hid fun e he => ⟨_, _, he, by omega, Nat.le_refl _, new_ref w _ (Bs.wid_le n), ((Below.refl _ _).alloc (Nat.le_refl _) _).alloc (by simp) _⟩
  have hmk := make_bools (max 0 (min n 1000)) (Bs.wid n) (by unfold Bs.wid; omega) (Bs.wid_le n)
  go_enter Tryd.func27, Tryd.ntmps27
  go_wp2
  go_ret
  exact f.out _ rfl

/-- What Put leaves. -/
def putX (n X : Nat) (i : Int) (b : Bool) : Nat := if b then addX n X i else dropX X i
def putB (n X : Nat) (i : Int) (b : Bool) : Bool := if b then addB n X i else Bs.has X i

set_option maxHeartbeats 1000000 in
theorem put_out (p b n X : Nat) (i : Int) (v : Bool) (w : World) (h : RefAt w p b n X) (hi : Bs.is n i = false) :
    Calls Tryd.prog 33 #[.pointer (some ⟨p, 0, none⟩), .int .i64 i, .bool v] w fun e w' => e = .returned (.bool false) ∧ w = w' := by
  obtain ⟨⟨cap, c0⟩, _, _⟩ := h.cells
  have hle := h.le
  clear h
  by_cases h0 : i < 0
  · have hd : decide (i < 0) = true := by simpa using h0
    clear hi
    go_enter Tryd.func33, Tryd.ntmps33
    go_wp2
    go_ret
    exact ⟨rfl, rfl⟩
  · have hd : decide (i < 0) = false := by simpa using h0
    have hn : (n : Int) ≤ i := by simp [Bs.is] at hi; omega
    have hd2 : decide ((n : Int) ≤ i) = true := by simpa using hn
    clear hi
    go_enter Tryd.func33, Tryd.ntmps33
    go_wp2
    go_ret
    exact ⟨rfl, rfl⟩

set_option maxHeartbeats 1000000 in
theorem put_same (p b n X k : Nat) (v : Bool) (w : World) (h : RefAt w p b n X) (hk : k < n) (hv : X.testBit k = v) :
    Calls Tryd.prog 33 #[.pointer (some ⟨p, 0, none⟩), .int .i64 (k : Nat), .bool v] w fun e w' => e = .returned (.bool false) ∧ w = w' := by
  obtain ⟨⟨cap, c0⟩, c1, _⟩ := h.cells
  have hle := h.le
  have c2 := c1 k hk
  rw [hv] at c2
  have hd : decide ((n : Int) ≤ (k : Int)) = false := by simp; omega
  have hd2 : decide (n ≤ k) = false := by simp; omega
  have hb : (v == v) = true := by simp
  clear h c1 hv
  go_enter Tryd.func33, Tryd.ntmps33
  go_wp2
  go_ret
  exact ⟨rfl, rfl⟩

set_option maxHeartbeats 1000000 in
theorem put_new (p b n X Y k : Nat) (v : Bool) (w : World) (h : RefAt w p b n X) (hk : k < n) (hv : X.testBit k = !v) (hY : Y < 2 ^ n) (hw : ∀ j, j ≠ k → Y.testBit j = X.testBit j) (hy : Y.testBit k = v) :
    Calls Tryd.prog 33 #[.pointer (some ⟨p, 0, none⟩), .int .i64 (k : Nat), .bool v] w fun e w' => e = .returned (.bool true) ∧ RefAt w' p b n Y ∧ Upd b w w' := by
  obtain ⟨⟨cap, c0⟩, c1, c4⟩ := h.cells
  have hle := h.le
  have c2 := c1 k hk
  have c3 := c4 k
  rw [hv] at c2
  have hd : decide ((n : Int) ≤ (k : Int)) = false := by simp; omega
  have hd2 : decide (n ≤ k) = false := by simp; omega
  have hb : ((!v) == v) = false := by cases v <;> rfl
  have HP : Hid (RefAt (w.setCell ⟨b, k, none⟩ (.bool v)) p b n Y) := Lib.hid (h.put hk hY hw (by rw [hy]))
  clear h c1 hv hw hy c4
  go_enter Tryd.func33, Tryd.ntmps33
  go_wp2
  go_ret
  exact ⟨rfl, HP.out, (Upd.refl b w).setCell _ rfl _⟩

theorem put_any (p b n X : Nat) (i : Int) (v : Bool) (w : World) (h : RefAt w p b n X) :
    Calls Tryd.prog 33 #[.pointer (some ⟨p, 0, none⟩), .int .i64 i, .bool v] w fun e w' => e = .returned (.bool (putB n X i v)) ∧ RefAt w' p b n (putX n X i v) ∧ Upd b w w' := by
  cases hi : Bs.is n i with
  | false =>
    have hh := Bs.has_of_is h.lt hi
    refine (put_out p b n X i v w h hi).mono ?_
    rintro e w' ⟨rfl, rfl⟩
    refine ⟨ret_bool (by cases v <;> simp [putB, addB, hi, hh]), ?_, Upd.refl _ _⟩
    have : putX n X i v = X := by cases v <;> simp [putX, addX, dropX, hi, hh]
    rw [this]; exact h
  | true =>
    obtain ⟨k, rfl⟩ : ∃ k : Nat, i = k := by simp [Bs.is] at hi; exact ⟨i.toNat, by omega⟩
    have hk : k < n := by simp [Bs.is] at hi; omega
    have hhas : Bs.has X k = X.testBit k := by simp [Bs.has]
    by_cases hv : X.testBit k = v
    · refine (put_same p b n X k v w h hk hv).mono ?_
      rintro e w' ⟨rfl, rfl⟩
      refine ⟨ret_bool (by cases v <;> simp [putB, addB, hhas, hv]), ?_, Upd.refl _ _⟩
      have : putX n X k v = X := by
        cases v
        · simp [putX, dropX, hhas, hv]
        · simp [putX, addX, hi, Bs.add_same hv]
      rw [this]; exact h
    · have hv' : X.testBit k = !v := by cases hx : X.testBit k <;> cases v <;> simp_all
      refine (put_new p b n X (putX n X k v) k v w h hk hv' ?_ ?_ ?_).mono ?_
      · cases v
        · simp only [putX, dropX, hhas, hv']; exact Bs.drop_lt _ h.lt
        · simp only [putX, addX, hi]; exact Bs.add_lt h.lt hk
      · intro j hj
        cases v
        · simp [putX, dropX, hhas, hv', Bs.drop_bit]; intro _; omega
        · simp [putX, addX, hi, Bs.add_bit]; omega
      · cases v
        · simp [putX, dropX, hhas, hv', Bs.drop_bit]
        · simp [putX, addX, hi, Bs.add_bit]
      · rintro e w' ⟨rfl, h1, h2⟩
        exact ⟨ret_bool (by cases v <;> simp [putB, addB, hhas, hv', hi]), h1, h2⟩

set_option maxRecDepth 100000 in
set_option maxHeartbeats 1000000 in
theorem rof_any (n : Int) (a : Option Addr) (l : List Int) (c : Nat) (w : World) (hl : Ints w a l) (hn : l.length ≤ maxLen) :
    Calls Tryd.prog 14 #[.int .i64 n, .slice a l.length c] w (RefPost w (Bs.wid n) (Bs.of (Bs.wid n) l)) := by
  unfold maxLen at hn
  have Hl := Lib.hid hl
  clear hl
  go_enter Tryd.func14, Tryd.ntmps14
  go_wp2_with fail
  refine (rnew_any n w).mono ?_
  rintro e w1 ⟨p, b, rfl, hp, hb, hs, hB⟩
  have H1 := Lib.hid hs
  have L1 := Lib.hid hB
  clear hs hB
  go_wp2_with fail
  go_loopw [6] (fun i wr => ∃ k : Nat, i = .int .i64 k ∧ k ≤ l.length ∧ Hid (RefAt wr p b (Bs.wid n) (Bs.adds (Bs.wid n) 0 (l.take k))) ∧ Hid (Below w.heap.size w wr)) (fun i _ => l.length - (intOf i).toNat)
  case atStart => exact ⟨0, rfl, by omega, by simpa [Bs.adds] using H1, L1⟩
  case round =>
    obtain ⟨k, rfl, hk, S, L⟩ := hrel
    by_cases hlt : k < l.length
    · obtain ⟨g, off, rfl, hc⟩ := (Hl.out.below L.out) k hlt
      go_wp2_with fail
      refine (put_any p b _ _ l[k] true _ S.out).mono ?_
      rintro e w2 ⟨rfl, hs, hu⟩
      have L2 := Lib.hid (L.out.trans (hu.below hb L.out.size))
      have S2 : Hid (RefAt w2 p b (Bs.wid n) (Bs.adds (Bs.wid n) 0 (l.take (k + 1)))) := by
        refine Lib.hid ?_
        rw [List.take_succ_eq_append_getElem hlt, Bs.adds_snoc]
        exact hs
      clear hs hu S L hc
      go_wp2_with fail
      go_roundw
      case rel => exact ⟨k + 1, by go_num, by omega, S2, L2⟩
      case measure => simp [intOf]; omega
    · obtain rfl : k = l.length := by omega
      rw [List.take_length] at S
      clear hlt
      go_wp2_with fail
      go_ret
      exact ⟨p, b, rfl, hp, hb, S.out, L.out⟩

/-- The list of the numbers below k. -/
def upto (X k : Nat) : List Int := natI (Bs.lst k X)
theorem upto_yes {X k : Nat} (h : X.testBit k = true) : upto X (k + 1) = upto X k ++ [(k : Int)] := by
  simp [upto, natI, Bs.lst, List.range_succ, List.filter_append, h]
theorem upto_no {X k : Nat} (h : X.testBit k = false) : upto X (k + 1) = upto X k := by
  simp [upto, natI, Bs.lst, List.range_succ, List.filter_append, h]
theorem upto_len (X k : Nat) : (upto X k).length ≤ k := by simpa [upto, natI] using Bs.lst_len k X
theorem eltI : Elt Tryd.prog 22 3 1 8 :=
  ⟨Tryd.underlying22, by obtain ⟨i, h1, h2, h3, h4⟩ := info_parts info3; exact ⟨i, _, h1, h2, h3, h4, rfl⟩, by decide⟩
theorem ints_of_own2 {w : World} {base : Nat} {v : Value} {l : List Int} (h : w.ownsRow base 3 1 v l.length (l.map (Value.int .i64))) : ∃ a cap, v = .slice a l.length cap ∧ (l.length ≤ cap ∧ cap ≤ maxLen ∧ (a = none → cap = 0)) ∧ (∀ g o s, a = some ⟨g, o, s⟩ → base ≤ g ∧ g < w.heap.size) ∧ Ints w a l := by
  rcases h.2 with ⟨rfl, h0⟩ | ⟨g, cp, cur, rfl, hg, hh, h1, h2, h3, h4⟩
  · exact ⟨none, 0, by rw [h0], ⟨by omega, by decide, fun _ => rfl⟩, (fun _ _ _ e => by cases e), fun i hi => by omega⟩
  · refine ⟨_, cp, rfl, ⟨h1, h2, fun e => by cases e⟩, (fun _ _ _ e => by cases e; exact ⟨hg, lt_of_block hh⟩), fun i hi => ⟨g, 0, rfl, ?_⟩⟩
    rw [Nat.mul_one] at h4
    have : (cur.toList.take l.length)[i]? = some (.int .i64 l[i]) := by rw [h4]; simp [hi]
    rw [List.getElem?_take, if_pos hi] at this
    have e : cur[i]? = some (.int .i64 l[i]) := by simpa using this
    simp [World.cell?, hh, e]

theorem ints_of_own {w : World} {base : Nat} {v : Value} {l : List Int} (h : w.ownsRow base 3 1 v l.length (l.map (Value.int .i64))) : ∃ a cap, v = .slice a l.length cap ∧ (∀ g o s, a = some ⟨g, o, s⟩ → base ≤ g ∧ g < w.heap.size) ∧ Ints w a l := by
  obtain ⟨a, cap, h1, _, h2⟩ := ints_of_own2 h
  exact ⟨a, cap, h1, h2⟩

def ListPost2 (w : World) (l : List Nat) (e : Ending) (w' : World) : Prop :=
  ∃ a cap, e = .returned (.slice a (natI l).length cap) ∧ ((natI l).length ≤ cap ∧ cap ≤ maxLen ∧ (a = none → cap = 0)) ∧ (∀ g o s, a = some ⟨g, o, s⟩ → w.heap.size ≤ g ∧ g < w'.heap.size) ∧ Ints w' a (natI l) ∧ Below w.heap.size w w'

set_option maxRecDepth 100000 in
set_option maxHeartbeats 2000000 in
theorem rlist2_any (p b n X : Nat) (w : World) (h : RefAt w p b n X) :
    Calls Tryd.prog 15 #[.pointer (some ⟨p, 0, none⟩)] w (ListPost2 w (Bs.lst n X)) := by
  have H := Lib.hid h
  have hle := h.le
  clear h
  go_enter Tryd.func15, Tryd.ntmps15
  go_wp2_with fail
  go_loopw [3, 4] (fun v i wr => ∃ k : Nat, i = .int .i64 k ∧ k ≤ n ∧ Hid (wr.ownsRow w.heap.size 3 1 v (upto X k).length ((upto X k).map (Value.int .i64))) ∧ Hid (Below w.heap.size w wr)) (fun _ i _ => n - (intOf i).toNat)
  case atStart => exact ⟨0, rfl, by omega, Lib.hid (World.ownsRow_nil _ _ _ _), Lib.hid (Below.refl _ _)⟩
  case round =>
    obtain ⟨k, rfl, hk, O, L⟩ := hrel
    obtain ⟨⟨cap, c0⟩, c1, _⟩ := (H.out.below L.out).cells
    by_cases hlt : k < n
    · have c2 := c1 k hlt
      clear c1
      cases hx : X.testBit k with
      | false =>
        rw [hx] at c2
        have O2 : Hid (wr.ownsRow w.heap.size 3 1 _ (upto X (k + 1)).length ((upto X (k + 1)).map (Value.int .i64))) := Lib.hid (by rw [upto_no hx]; exact O.out)
        clear hx
        go_wp2_with fail
        go_roundw
        case rel => exact ⟨k + 1, by go_num, by omega, O2, L⟩
        case measure => simp [intOf]; omega
      | true =>
        rw [hx] at c2
        have hup := Lib.hid (upto_yes hx)
        have hul := upto_len X k
        have hL := L.out.size
        clear hx
        go_wp2_with (at_builtin; refine list_append_one rfl (.tmp 21) (.tmp 23) 22 rfl 3 w.heap.size 1 8 eltI _ _ _ rfl (O.out.alloc _) ⟨wr.heap.size, 0, none⟩ 1 [.int .i64 (k : Nat)] rfl rfl (cell_one_new _ _ _) (by simp [Value.oneCell']) (by unfold maxLen; omega) (by omega) (by simp; omega) ?_; intro g cp w1 hown hgrow _ _ _; have HO := Lib.hid hown; have HG := Lib.hid hgrow; clear hown hgrow)
        have O2 : Hid (w1.ownsRow w.heap.size 3 1 (.slice (some ⟨g, 0, none⟩) ((upto X k).length + 1) cp) (upto X (k + 1)).length ((upto X (k + 1)).map (Value.int .i64))) := Lib.hid (by rw [hup.out]; simpa using HO.out)
        have L2 : Hid (Below w.heap.size w w1) := Lib.hid ((L.out.alloc hL _).grown HG.out (by simp; omega) (fun j e => (World.ownsRow.lt O.out j e).1))
        clear HO HG O L
        go_roundw
        case rel => exact ⟨k + 1, by go_num, by omega, O2, L2⟩
        case measure => simp [intOf]; omega
    · obtain rfl : k = n := by omega
      go_wp2_with fail
      go_ret
      obtain ⟨a, cp, rfl, hcap, hge, hi⟩ := ints_of_own2 O.out
      exact ⟨a, cp, rfl, hcap, hge, hi, L.out⟩
theorem rlist_any (p b n X : Nat) (w : World) (h : RefAt w p b n X) :
    Calls Tryd.prog 15 #[.pointer (some ⟨p, 0, none⟩)] w (ListPost w (Bs.lst n X)) :=
  (rlist2_any p b n X w h).mono fun e w' ⟨a, cp, h1, _, h2⟩ => ⟨a, cp, h1, h2⟩
end Go.Proofs.YtccmmilbnfiacaaDoor
