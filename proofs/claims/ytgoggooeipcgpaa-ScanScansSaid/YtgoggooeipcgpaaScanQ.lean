/-
  Walks of chapter 17: Next.
-/
import Derived.Test.YtgoggooeipcgpaaScanP
namespace Go.Proofs.Ytgoggooeipcgpaa
open Go.RowKit
set_option linter.unusedVariables false

theorem ButTwo.refl (w : World) (p q : Nat) : ButTwo w w p q := ⟨rfl, rfl, rfl, Nat.le_refl _, fun _ _ _ _ => rfl⟩
theorem ButTwo.trans {a b c : World} {p q : Nat} (h : ButTwo a b p q) (k : ButTwo b c p q) : ButTwo a c p q :=
  ⟨k.os.trans h.os, k.tape.trans h.tape, k.output.trans h.output, Nat.le_trans h.size k.size, fun i hi h1 h2 => (k.block i (Nat.lt_of_lt_of_le hi h.size) h1 h2).trans (h.block i hi h1 h2)⟩
theorem ButTwo.of_below {w w' : World} (h : Below w.heap.size w w') (p q : Nat) : ButTwo w w' p q := ⟨h.os, h.tape, h.output, h.size, fun k hk _ _ => h.block k hk⟩
theorem ButTwo.setCell {a b : World} {p q : Nat} (h : ButTwo a b p q) {x : Addr} (hx : x.block = p ∨ x.block = q ∨ a.heap.size ≤ x.block) (v : Value) : ButTwo a (b.setCell x v) p q :=
  ⟨h.os, h.tape, h.output, by simp [World.setCell]; exact h.size, fun k hk h1 h2 => by rw [heap_setCell_other _ _ _ _ (by omega)]; exact h.block k hk h1 h2⟩
theorem ButTwo.drew {a b : World} {p q : Nat} (h : ButTwo a b p q) : ButTwo a b.drew p q := ⟨h.os, h.tape, h.output, h.size, h.block⟩

/-- Three cells of a block are written. -/
theorem three_set {u : World} {b : Nat} {t : TypeId} {o0 o1 o2 : Value} (h : u.heap[b]? = some (.cells #[o0, o1, o2] t (0, 0))) (a0 a1 a2 : Value) :
    (((u.setCell ⟨b, 0, none⟩ a0).setCell ⟨b, 1, none⟩ a1).setCell ⟨b, 2, none⟩ a2).heap[b]? = some (.cells #[a0, a1, a2] t (0, 0)) ∧
    ButTwo u (((u.setCell ⟨b, 0, none⟩ a0).setCell ⟨b, 1, none⟩ a1).setCell ⟨b, 2, none⟩ a2) b b := by
  refine ⟨?_, ((ButTwo.refl u b b).setCell (.inl rfl) _ |>.setCell (.inl rfl) _).setCell (.inl rfl) _⟩
  rw [heap_setCell_same _ _ _ _ _ _ (heap_setCell_same _ _ _ _ _ _ (heap_setCell_same _ _ _ _ _ _ h))]
  rfl

/-- The result's three cells. -/
theorem three_at {V : World} {b : Nat} {t : TypeId} {a0 a1 a2 : Value} (h : V.heap[b]? = some (.cells #[a0, a1, a2] t (0, 0))) :
    V.cell? ⟨b, 0, none⟩ = some a0 ∧ V.cell? ⟨b, 1, none⟩ = some a1 ∧ V.cell? ⟨b, 2, none⟩ = some a2 := by
  refine ⟨?_, ?_, ?_⟩ <;> (rw [cell_of_row _ _ _ _ _ _ h]; rfl)

/-- What Next answers. -/
def NextP (r : Pl.Tk × Nat × Nat × Nat) (g : Nat) (ta : Option Addr) (T : List Pl.Pt) (tc : Nat) (sa : Option Addr) (S : List Pl.Pt) (sc : Nat) (x : ByteArray) (w : World) (e : Ending) (w' : World) : Prop :=
  e = .returned (.tuple #[.agg #[.int .i64 (r.1.term : Nat), .int .i64 (r.1.fr : Nat), .int .i64 (r.1.to : Nat)], .int .i64 (r.2.1 : Nat)]) ∧ ScB w' g ta T tc sa S sc x r.2.2.1 r.2.2.2 ∧ ButTwo w w' g g

set_option maxRecDepth 100000 in
set_option maxHeartbeats 3200000 in
theorem next_any (g : Nat) (ta : Option Addr) (T : List Pl.Pt) (tc : Nat) (sa : Option Addr) (S : List Pl.Pt) (sc : Nat) (x : ByteArray) (i0 k0 : Nat) (w0 w : World) (hg : ScB w g ta T tc sa S sc x i0 k0) (hT : SlT w0 ta T) (hS : SlP w0 sa S) (hB0 : Below w0.heap.size w0 w) (hg0 : w0.heap.size ≤ g)
    (oT : OkP T) (oS : OkP S) (lT : T.length ≤ 9223372036854775806) (lS : S.length ≤ 9223372036854775806) (hx : x.size ≤ 200) (hi : i0 ≤ x.size) (hk : k0 ≤ i0) :
    Calls Try.prog 31 #[.pointer (some ⟨g, 0, none⟩)] w (NextP (Pl.next T S x.data.toList x.size i0 k0) g ta T tc sa S sc x w) := by
  have hxm : x.size ≤ maxLen := by unfold maxLen; omega
  have lg := hg.lt
  have hw0 : w0.heap.size ≤ w.heap.size := hB0.size
  have CL := Lib.hid (fun i k W hg hT hS => longest_any' g ta T tc sa S sc x i k W hg hT hS oT oS lT lS hxm)
  have hroomS := Lib.hid (fun i => Pl.step_room T S x.data.toList i)
  have HT := Lib.hid hT
  have HS := Lib.hid hS
  have H0 := Lib.hid hB0
  have HG := Lib.hid hg
  clear hT hS hB0 hg oT oS lT lS
  go_enter Try.func31, Try.ntmps31
  go_wp2_with fail
  have R0 : Hid ((w.alloc (.cells #[.int .i64 0, .int .i64 0, .int .i64 0] 48)).heap[w.heap.size]? = some (.cells #[.int .i64 0, .int .i64 0, .int .i64 0] 48 (0, 0))) := Lib.hid (heap_alloc_new _ _)
  have U0 : Hid (ButTwo w (w.alloc (.cells #[.int .i64 0, .int .i64 0, .int .i64 0] 48)) g g) := Lib.hid (ButTwo.of_below ((Below.refl _ _).alloc (Nat.le_refl _) _) g g)
  have G0 : Hid (ScB (w.alloc (.cells #[.int .i64 0, .int .i64 0, .int .i64 0] 48)) g ta T tc sa S sc x i0 k0) := Lib.hid ((Below.heap_alloc _ _ _ lg).trans HG.out)
  have hz0 : w.heap.size + 1 ≤ (w.alloc (.cells #[.int .i64 0, .int .i64 0, .int .i64 0] 48)).heap.size := by simp
  generalize (w.alloc (.cells #[.int .i64 0, .int .i64 0, .int .i64 0] 48)) = W at R0 U0 G0 hz0 ⊢
  go_loopw [5] (fun _ wr => ∃ i k f : Nat, i ≤ x.size ∧ x.size ≤ i + f ∧ k ≤ i ∧ Hid (Pl.next T S x.data.toList x.size i0 k0 = Pl.next T S x.data.toList f i k) ∧
      Hid (wr.heap[w.heap.size]? = some (.cells #[.int .i64 0, .int .i64 0, .int .i64 0] 48 (0, 0))) ∧ Hid (ScB wr g ta T tc sa S sc x i k) ∧ Hid (ButTwo w wr g g) ∧ w.heap.size + 1 ≤ wr.heap.size)
    (fun _ wr => x.size - (intOf ((wr.cell? ⟨g, 6, none⟩).getD undef)).toNat)
  case atStart => exact ⟨i0, k0, x.size, hi, by omega, hk, Lib.hid rfl, R0, G0, U0, hz0⟩
  case round =>
    clear R0 U0 G0 hz0
    obtain ⟨i, k, f, hi, hf, hk, HN, R0, G0, U0, hz0⟩ := hrel
    obtain ⟨c0, c1, c5, c6, c7, z6, z7⟩ := G0.out.cells
    have lg2 := G0.out.lt
    have f5 : ∀ z : Wd (w.heap.size + 1) wr, z.w.cell? ⟨g, 5, none⟩ = some (.string x) := fun z => by rw [(bcell z.ok).1 _ _ (by omega)]; exact c5
    have f6 : ∀ z : Wd (w.heap.size + 1) wr, z.w.cell? ⟨g, 6, none⟩ = some (.int .i64 (i : Nat)) := fun z => by rw [(bcell z.ok).1 _ _ (by omega)]; exact c6
    have Hm0 : Hid ((intOf ((wr.cell? ⟨g, 6, none⟩).getD undef)).toNat = i) := Lib.hid (by rw [c6]; simp [intOf])
    clear c0 c1 c5 c6 c7 z6 z7
    go_wp2_with fail
    refine region_cls (w.heap.size + 1) (by kernel_rfl) (by kernel_rfl) ?_
    repeat (go_big_quiet_step (fail))
    refine wpQuiet_nil ?_
    intro z
    obtain ⟨u, hu⟩ : ∃ u, u = z.w := ⟨_, rfl⟩
    have hzb := z.ok
    rw [← hu] at hzb ⊢
    clear hu f5 f6
    have R1 : Hid (u.heap[w.heap.size]? = some (.cells #[.int .i64 0, .int .i64 0, .int .i64 0] 48 (0, 0))) := Lib.hid ((hzb.block _ (by omega)).trans R0.out)
    have G1 : Hid (ScB u g ta T tc sa S sc x i k) := Lib.hid ((hzb.block _ (by omega)).trans G0.out)
    have U1 : Hid (ButTwo w u g g) := Lib.hid ⟨hzb.os.trans U0.out.os, hzb.tape.trans U0.out.tape, hzb.output.trans U0.out.output, Nat.le_trans U0.out.size hzb.size, fun n h1 h2 h3 => (hzb.block _ (by omega)).trans (U0.out.block n h1 h2 h3)⟩
    have hz1 : w.heap.size + 1 ≤ u.heap.size := Nat.le_trans hz0 hzb.size
    clear hzb R0 G0 U0
    have H1 : Hid (Below w0.heap.size w0 u) := Lib.hid (H0.out.trans (U1.out.below hg0 hg0 hw0))
    by_cases hlt : i < x.size
    · have hlt' : decide (i < x.size) = true := by simpa using hlt
      obtain ⟨f, rfl⟩ : ∃ f', f = f' + 1 := ⟨f - 1, by omega⟩
      have hltl : i < x.data.toList.length := hlt
      have HR := hroomS.out i (Nat.le_of_lt hlt)
      have hx8 : x.data.toList.length = x.size := rfl
      rw [hx8] at HR
      have HU : Pl.next T S x.data.toList (f + 1) i k = (if (Pl.step T S x.data.toList i).2 = 0 then (⟨0, i, i⟩, 21, i, k)
          else if (Pl.step T S x.data.toList i).1 = 0 then Pl.next T S x.data.toList f (i + (Pl.step T S x.data.toList i).2) (k + 1)
          else (⟨(Pl.step T S x.data.toList i).1, i, i + (Pl.step T S x.data.toList i).2⟩, 0, i + (Pl.step T S x.data.toList i).2, k)) := by
        rw [Pl.next, if_pos hltl]
      rw [HU] at HN
      have DS := Lib.hid (CL.out i k u G1.out (HT.out.below H1.out) (HS.out.below H1.out))
      generalize Pl.step T S x.data.toList i = st at HN HR DS
      obtain ⟨term, n⟩ := st
      simp only [] at HN HR DS
      clear HU hltl hx8
      go_wp2_with fail
      refine DS.out.mono ?_
      rintro e u2 ⟨rfl, hb⟩
      have R2 : Hid (u2.heap[w.heap.size]? = some (.cells #[.int .i64 0, .int .i64 0, .int .i64 0] 48 (0, 0))) := Lib.hid ((hb.block _ (by omega)).trans R1.out)
      have G2 : Hid (ScB u2 g ta T tc sa S sc x i k) := Lib.hid ((hb.block _ (by omega)).trans G1.out)
      have U2 : Hid (ButTwo w u2 g g) := Lib.hid ⟨hb.os.trans U1.out.os, hb.tape.trans U1.out.tape, hb.output.trans U1.out.output, Nat.le_trans U1.out.size hb.size, fun m h1 h2 h3 => (hb.block _ (by omega)).trans (U1.out.block m h1 h2 h3)⟩
      have hz2 : w.heap.size + 1 ≤ u2.heap.size := Nat.le_trans hz1 hb.size
      clear hb R1 G1 U1 DS H1
      obtain ⟨-, -, -, c6, c7, z6, z7⟩ := G2.out.cells
      have r0 : u2.cell? ⟨w.heap.size, 0, none⟩ = some (.int .i64 0) := by rw [cell_of_row _ _ _ _ _ _ R2.out]; rfl
      have r1 : u2.cell? ⟨w.heap.size, 1, none⟩ = some (.int .i64 0) := by rw [cell_of_row _ _ _ _ _ _ R2.out]; rfl
      have r2 : u2.cell? ⟨w.heap.size, 2, none⟩ = some (.int .i64 0) := by rw [cell_of_row _ _ _ _ _ _ R2.out]; rfl
      have y0 : u2.frozen? ⟨w.heap.size, 0, none⟩ = false := frozen_of_row _ _ _ _ _ R2.out
      have y1 : u2.frozen? ⟨w.heap.size, 1, none⟩ = false := frozen_of_row _ _ _ _ _ R2.out
      have y2 : u2.frozen? ⟨w.heap.size, 2, none⟩ = false := frozen_of_row _ _ _ _ _ R2.out
      have hgw : ¬ (g = w.heap.size) := by omega
      by_cases hn : n = 0
      · subst hn
        have HN2 : Hid (Pl.next T S x.data.toList x.size i0 k0 = (⟨0, i, i⟩, 21, i, k)) := Lib.hid HN.out
        clear HN
        go_wp2_with fail
        go_region
        go_wp2_with fail
        obtain ⟨s1, s2⟩ := three_set R2.out (.int .i64 (0)) (.int .i64 ((i : Nat))) (.int .i64 ((i : Nat)))
        obtain ⟨Vf, hV⟩ : ∃ V, V = ((((u2).setCell ⟨w.heap.size, 0, none⟩ (.int .i64 (0))).setCell ⟨w.heap.size, 1, none⟩ (.int .i64 ((i : Nat)))).setCell ⟨w.heap.size, 2, none⟩ (.int .i64 ((i : Nat)))).drew := ⟨_, rfl⟩
        have s3 : Vf.heap[w.heap.size]? = some (.cells #[.int .i64 (0), .int .i64 ((i : Nat)), .int .i64 ((i : Nat))] 48 (0, 0)) := by rw [hV]; exact s1
        have s4 : ButTwo (u2) Vf w.heap.size w.heap.size := by rw [hV]; exact s2.drew
        rw [← hV]
        clear hV s1 s2
        obtain ⟨v1, v2, v3⟩ := three_at s3
        have hU3 : ButTwo w Vf g g := ⟨s4.os.trans U2.out.os, s4.tape.trans U2.out.tape, s4.output.trans U2.out.output, Nat.le_trans U2.out.size s4.size, fun m h1 h2 h3 => (s4.block m (Nat.lt_of_lt_of_le h1 U2.out.size) (by omega) (by omega)).trans (U2.out.block m h1 h2 h3)⟩
        have hG3 : ScB Vf g ta T tc sa S sc x (i) (k) := (s4.block g (by have := (G2.out).lt; omega) (by omega) (by omega)).trans G2.out
        refine bodyPost_ret (v := .tuple #[.agg #[.int .i64 (0), .int .i64 ((i : Nat)), .int .i64 ((i : Nat))], .int .i64 21]) (by simp [results, Try.results31, go_sem, v1, v2, v3]) rfl ?_
        rw [HN2.out]
        exact ⟨rfl, hG3, hU3⟩
      · have hn' : ((n : Int) == 0) = false := by simp; omega
        have hsum : (i : Int) + (n : Int) = ((i + n : Nat) : Int) := by omega
        have hG3 : Hid (ScB (u2.setCell ⟨g, 6, none⟩ (.int .i64 ((i : Int) + (n : Int)))) g ta T tc sa S sc x (i + n) k) := by
          refine Lib.hid ?_
          have h := heap_setCell_same u2 g 6 _ _ (.int .i64 ((i : Int) + (n : Int))) G2.out
          unfold ScB
          rw [h, hsum]
          rfl
        have hR3 : Hid ((u2.setCell ⟨g, 6, none⟩ (.int .i64 ((i : Int) + (n : Int)))).heap[w.heap.size]? = some (.cells #[.int .i64 0, .int .i64 0, .int .i64 0] 48 (0, 0))) := Lib.hid ((heap_setCell_other _ _ _ _ (by simp; omega)).trans R2.out)
        have hU3 : Hid (ButTwo w (u2.setCell ⟨g, 6, none⟩ (.int .i64 ((i : Int) + (n : Int)))) g g) := Lib.hid (U2.out.setCell (.inl rfl) _)
        have hz3 : w.heap.size + 1 ≤ (u2.setCell ⟨g, 6, none⟩ (.int .i64 ((i : Int) + (n : Int)))).heap.size := by simp [World.setCell]; exact hz2
        by_cases ht : term = 0
        · subst ht
          have HN2 : Hid (Pl.next T S x.data.toList x.size i0 k0 = Pl.next T S x.data.toList f (i + n) (k + 1)) := Lib.hid (by have := HN.out; rw [if_neg hn] at this; exact this)
          have hG4 : Hid (ScB ((u2.setCell ⟨g, 6, none⟩ (.int .i64 ((i : Int) + (n : Int)))).setCell ⟨g, 7, none⟩ (.int .i64 ((k : Int) + 1))) g ta T tc sa S sc x (i + n) (k + 1)) := by
            refine Lib.hid ?_
            have h := heap_setCell_same _ g 7 _ _ (.int .i64 ((k : Int) + 1)) hG3.out
            unfold ScB
            rw [h]
            rfl
          have hR4 := Lib.hid ((heap_setCell_other _ ⟨g, 7, none⟩ _ (.int .i64 ((k : Int) + 1)) (show w.heap.size ≠ g from by omega)).trans hR3.out)
          have hU4 := Lib.hid (hU3.out.setCell (x := ⟨g, 7, none⟩) (.inl rfl) (.int .i64 ((k : Int) + 1)))
          have hz4 : w.heap.size + 1 ≤ ((u2.setCell ⟨g, 6, none⟩ (.int .i64 ((i : Int) + (n : Int)))).setCell ⟨g, 7, none⟩ (.int .i64 ((k : Int) + 1))).heap.size := by simp [World.setCell]; exact hz2
          have hm4 : Hid (((u2.setCell ⟨g, 6, none⟩ (.int .i64 ((i : Int) + (n : Int)))).setCell ⟨g, 7, none⟩ (.int .i64 ((k : Int) + 1))).cell? ⟨g, 6, none⟩ = some (.int .i64 ((i + n : Nat) : Int))) := Lib.hid hG4.out.cells.2.2.2.1
          clear HN hsum
          go_wp2_with fail
          go_roundw
          case rel => exact ⟨i + n, k + 1, f, by omega, by omega, by omega, HN2, hR4, hG4, hU4, hz4⟩
          case measure => rw [hm4.out, Hm0.out]; simp [intOf]; omega
        · have ht' : decide (0 < term) = true := by simp; omega
          have HN2 : Hid (Pl.next T S x.data.toList x.size i0 k0 = (⟨term, i, i + n⟩, 0, i + n, k)) := Lib.hid (by have := HN.out; rw [if_neg hn, if_neg ht] at this; exact this)
          clear HN hsum
          go_wp2_with fail
          obtain ⟨s1, s2⟩ := three_set hR3.out (.int .i64 ((term : Nat))) (.int .i64 ((i : Nat))) (.int .i64 ((i : Int) + (n : Int)))
          obtain ⟨Vf, hV⟩ : ∃ V, V = ((((u2.setCell ⟨g, 6, none⟩ (.int .i64 ((i : Int) + (n : Int)))).setCell ⟨w.heap.size, 0, none⟩ (.int .i64 ((term : Nat)))).setCell ⟨w.heap.size, 1, none⟩ (.int .i64 ((i : Nat)))).setCell ⟨w.heap.size, 2, none⟩ (.int .i64 ((i : Int) + (n : Int)))) := ⟨_, rfl⟩
          have s3 : Vf.heap[w.heap.size]? = some (.cells #[.int .i64 ((term : Nat)), .int .i64 ((i : Nat)), .int .i64 ((i : Int) + (n : Int))] 48 (0, 0)) := by rw [hV]; exact s1
          have s4 : ButTwo (u2.setCell ⟨g, 6, none⟩ (.int .i64 ((i : Int) + (n : Int)))) Vf w.heap.size w.heap.size := by rw [hV]; exact s2
          rw [← hV]
          clear hV s1 s2
          obtain ⟨v1, v2, v3⟩ := three_at s3
          have hU3 : ButTwo w Vf g g := ⟨s4.os.trans hU3.out.os, s4.tape.trans hU3.out.tape, s4.output.trans hU3.out.output, Nat.le_trans hU3.out.size s4.size, fun m h1 h2 h3 => (s4.block m (Nat.lt_of_lt_of_le h1 hU3.out.size) (by omega) (by omega)).trans (hU3.out.block m h1 h2 h3)⟩
          have hG3 : ScB Vf g ta T tc sa S sc x (i + n) (k) := (s4.block g (by have := (hG3.out).lt; omega) (by omega) (by omega)).trans hG3.out
          refine bodyPost_ret (v := .tuple #[.agg #[.int .i64 ((term : Nat)), .int .i64 ((i : Nat)), .int .i64 ((i : Int) + (n : Int))], .int .i64 0]) (by simp [results, Try.results31, go_sem, v1, v2, v3]) rfl ?_
          rw [HN2.out]
          exact ⟨rfl, hG3, hU3⟩
    · have hlt' : decide (i < x.size) = false := by simpa using hlt
      have HN2 : Hid (Pl.next T S x.data.toList x.size i0 k0 = (⟨0, i, i⟩, 0, i, k)) := Lib.hid (by have := HN.out; rw [Pl.next_end T S x.data.toList f i k (by show x.size ≤ i; omega)] at this; exact this)
      obtain ⟨-, -, -, c6, c7, z6, z7⟩ := G1.out.cells
      have r0 : u.cell? ⟨w.heap.size, 0, none⟩ = some (.int .i64 0) := by rw [cell_of_row _ _ _ _ _ _ R1.out]; rfl
      have r1 : u.cell? ⟨w.heap.size, 1, none⟩ = some (.int .i64 0) := by rw [cell_of_row _ _ _ _ _ _ R1.out]; rfl
      have r2 : u.cell? ⟨w.heap.size, 2, none⟩ = some (.int .i64 0) := by rw [cell_of_row _ _ _ _ _ _ R1.out]; rfl
      have y0 : u.frozen? ⟨w.heap.size, 0, none⟩ = false := frozen_of_row _ _ _ _ _ R1.out
      have y1 : u.frozen? ⟨w.heap.size, 1, none⟩ = false := frozen_of_row _ _ _ _ _ R1.out
      have y2 : u.frozen? ⟨w.heap.size, 2, none⟩ = false := frozen_of_row _ _ _ _ _ R1.out
      have hgw : ¬ (g = w.heap.size) := by omega
      clear HN H1
      go_wp2_with fail
      go_region
      go_wp2_with fail
      obtain ⟨s1, s2⟩ := three_set R1.out (.int .i64 (0)) (.int .i64 ((i : Nat))) (.int .i64 ((i : Nat)))
      obtain ⟨Vf, hV⟩ : ∃ V, V = ((((u).setCell ⟨w.heap.size, 0, none⟩ (.int .i64 (0))).setCell ⟨w.heap.size, 1, none⟩ (.int .i64 ((i : Nat)))).setCell ⟨w.heap.size, 2, none⟩ (.int .i64 ((i : Nat)))).drew := ⟨_, rfl⟩
      have s3 : Vf.heap[w.heap.size]? = some (.cells #[.int .i64 (0), .int .i64 ((i : Nat)), .int .i64 ((i : Nat))] 48 (0, 0)) := by rw [hV]; exact s1
      have s4 : ButTwo (u) Vf w.heap.size w.heap.size := by rw [hV]; exact s2.drew
      rw [← hV]
      clear hV s1 s2
      obtain ⟨v1, v2, v3⟩ := three_at s3
      have hU3 : ButTwo w Vf g g := ⟨s4.os.trans U1.out.os, s4.tape.trans U1.out.tape, s4.output.trans U1.out.output, Nat.le_trans U1.out.size s4.size, fun m h1 h2 h3 => (s4.block m (Nat.lt_of_lt_of_le h1 U1.out.size) (by omega) (by omega)).trans (U1.out.block m h1 h2 h3)⟩
      have hG3 : ScB Vf g ta T tc sa S sc x (i) (k) := (s4.block g (by have := (G1.out).lt; omega) (by omega) (by omega)).trans G1.out
      refine bodyPost_ret (v := .tuple #[.agg #[.int .i64 (0), .int .i64 ((i : Nat)), .int .i64 ((i : Nat))], .int .i64 0]) (by simp [results, Try.results31, go_sem, v1, v2, v3]) rfl ?_
      rw [HN2.out]
      exact ⟨rfl, hG3, hU3⟩
end Go.Proofs.Ytgoggooeipcgpaa
