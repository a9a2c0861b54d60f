/-
  Walks of chapter 17: the law's 'made'.
-/
import Derived.Test.YtgoggooeipcgpaaScanK
import Derived.Test.YtgoggooeipcgpaaAppend
import Derived.Deep.RegionLaw
namespace Go.Proofs.Ytgoggooeipcgpaa
open Go.RowKit
set_option linter.unusedVariables false

/-- The cells of a slice of tokens. -/
def tkCells (l : List Pl.Pt) : List Value := l.flatMap fun p => [.string ⟨#[116]⟩, .string p.t, .string p.s, .bool p.m]

theorem tkCells_snoc (l : List Pl.Pt) (p : Pl.Pt) : tkCells (l ++ [p]) = tkCells l ++ [.string ⟨#[116]⟩, .string p.t, .string p.s, .bool p.m] := by simp [tkCells]

theorem tkCells_at : ∀ (l : List Pl.Pt) (i : Nat) (h : i < l.length), (tkCells l)[i * 4]? = some (.string ⟨#[116]⟩) ∧ (tkCells l)[i * 4 + 1]? = some (.string l[i].t) ∧ (tkCells l)[i * 4 + 2]? = some (.string l[i].s) ∧ (tkCells l)[i * 4 + 3]? = some (.bool l[i].m)
  | p :: l, 0, _ => by simp [tkCells]
  | p :: l, i + 1, h => by
    have := tkCells_at l i (by simpa using h)
    have e : tkCells (p :: l) = [.string ⟨#[116]⟩, .string p.t, .string p.s, .bool p.m] ++ tkCells l := by simp [tkCells]
    rw [e]
    have k : ∀ j, ([.string ⟨#[116]⟩, .string p.t, .string p.s, .bool p.m] ++ tkCells l)[(i + 1) * 4 + j]? = (tkCells l)[i * 4 + j]? := by
      intro j
      rw [List.getElem?_append_right (by simp; omega)]
      congr 1
      simp; omega
    have k0 := k 0
    simp only [Nat.add_zero] at k0
    rw [k0, k 1, k 2, k 3]
    simpa using this

theorem elt_tok : Elt Try.prog 36 70 4 56 where
  ht := Try.underlying36
  hi := by
    have h : (Try.prog.info? 70).map (fun i => (i.zero.map (fun z => z.cells.size), i.size, i.bytes)) = some (some 4, 4, 56) := by kernel_rfl
    cases hi : Try.prog.info? 70 with
    | none => simp [hi] at h
    | some i =>
      simp [hi] at h
      obtain ⟨⟨z, hz, hz1⟩, h2, h3⟩ := h
      exact ⟨i, z, rfl, hz, h2, h3, hz1⟩
  hsz := by omega

theorem SlT.of_row {w : World} {base : Nat} {v : Value} {n : Nat} {l : List Pl.Pt} (h : w.ownsRow base 70 4 v n (tkCells l)) (hn : l.length = n) : ∃ a cap, v = .slice a n cap ∧ SlT w a l := by
  rcases h.2 with ⟨rfl, rfl⟩ | ⟨g, cap, cur, rfl, hbg, hg, hnc, hcm, hcs, htake⟩
  · exact ⟨none, 0, rfl, fun i hi => by omega⟩
  · refine ⟨_, _, rfl, fun i hi => ⟨g, 0, rfl, ?_⟩⟩
    obtain ⟨t0, t1, t2, t3⟩ := tkCells_at l i hi
    have k : ∀ j u, (tkCells l)[j]? = some u → w.cell? ⟨g, j, none⟩ = some u := by
      intro j u hu
      have := h.cells (g := g) rfl j u hu
      rwa [show (⟨g, 0, none⟩ : Addr).add j = ⟨g, j, none⟩ from by unfold Addr.add; split <;> simp_all] at this
    simp only [Nat.zero_add]
    exact ⟨k _ _ t0, k _ _ t1, k _ _ t2, k _ _ t3⟩

/-- What 'made' answers. -/
def MadeP (T S : List Pl.Pt) (sa : Option Addr) (sc : Nat) (w : World) (e : Ending) (w' : World) : Prop :=
  ∃ ga gc, e = .returned (.agg #[.slice ga T.length gc, .slice sa S.length sc, .slice none 0 0, .string ⟨#[]⟩, .slice none 0 0]) ∧ SlT w' ga T ∧ Below w.heap.size w w'

theorem owns_form {w : World} {base : Nat} {e : TypeId} {size : Nat} {v : Value} {n : Nat} {xs : List Value} (h : w.ownsRow base e size v n xs) : ∃ a cap, v = .slice a n cap ∧ (∀ g, v.ownBlock = some g → base ≤ g) := by
  rcases h.2 with ⟨rfl, rfl⟩ | ⟨g, cap, cur, rfl, hbg, _⟩
  · exact ⟨none, 0, rfl, fun g hg => by simp [Value.ownBlock] at hg⟩
  · exact ⟨_, _, rfl, fun k hk => by simp [Value.ownBlock] at hk; omega⟩

set_option maxRecDepth 100000 in
set_option maxHeartbeats 1600000 in
theorem made_any (T S : List Pl.Pt) (ta sa : Option Addr) (tc sc : Nat) (w : World) (hT : SlP w ta T) (lT : T.length * 40 ≤ 140737488355328) :
    Calls Try.prog 25 #[.slice ta T.length tc, .slice sa S.length sc] w (MadeP T S sa sc w) := by
  go_enter Try.func25, Try.ntmps25
  go_wp2_with fail
  obtain ⟨W, hW⟩ : ∃ W, W = (w.alloc (.cells #[.slice none 0 0, .slice none 0 0, .slice none 0 0, .string ⟨#[]⟩, .slice none 0 0] 40)).alloc (.cells #[.slice none 0 0, .slice sa S.length sc, .slice none 0 0, .string ⟨#[]⟩, .slice none 0 0] 40) := ⟨_, rfl⟩
  rw [← hW]
  have f0 : W.heap[w.heap.size]? = some (.cells #[.slice none 0 0, .slice none 0 0, .slice none 0 0, .string ⟨#[]⟩, .slice none 0 0] 40 (0, 0)) := by
    rw [hW, Below.heap_alloc _ _ _ (by simp)]; exact heap_alloc_new _ _
  have f1 : W.heap[w.heap.size + 1]? = some (.cells #[.slice none 0 0, .slice sa S.length sc, .slice none 0 0, .string ⟨#[]⟩, .slice none 0 0] 40 (0, 0)) := by
    rw [hW]; exact heap_alloc2_new _ _ _
  have fz : w.heap.size + 2 ≤ W.heap.size := by rw [hW]; simp
  have fB : Below w.heap.size w W := by rw [hW]; exact ((Below.refl _ _).alloc (Nat.le_refl _) _).alloc (by simp) _
  clear hW
  go_loopw [6] (fun i wr => ∃ (k : Nat) (a : Option Addr) (cap : Nat), i = .int .i64 k ∧ k ≤ T.length ∧ wr.heap[w.heap.size]? = some (.cells #[.slice none 0 0, .slice none 0 0, .slice none 0 0, .string ⟨#[]⟩, .slice none 0 0] 40 (0, 0)) ∧
      wr.heap[w.heap.size + 1]? = some (.cells #[.slice a k cap, .slice sa S.length sc, .slice none 0 0, .string ⟨#[]⟩, .slice none 0 0] 40 (0, 0)) ∧
      Hid (wr.ownsRow (w.heap.size + 2) 70 4 (.slice a k cap) k (tkCells (T.take k))) ∧ w.heap.size + 2 ≤ wr.heap.size ∧ Hid (Below w.heap.size w wr)) (fun i _ => T.length - (intOf i).toNat)
  case atStart => exact ⟨0, none, 0, rfl, by omega, f0, f1, Lib.hid (World.ownsRow_nil _ _ _ _), fz, Lib.hid fB⟩
  case round =>
    obtain ⟨k, a, cap, rfl, hk, g0, g1, Hown, hz, HB⟩ := hrel
    clear f0 f1 fz fB
    by_cases hlt : k < T.length
    · obtain ⟨b, off, hta, c0, c1, c2⟩ := hT k hlt
      have hbl : b < w.heap.size := World.block_lt_of_cell? w _ c0
      subst hta
      have e0 := (HB.out.cell (p := ⟨b, off + k * 3, none⟩) hbl).trans c0
      have e1 := (HB.out.cell (p := ⟨b, off + k * 3 + 1, none⟩) hbl).trans c1
      have e2 := (HB.out.cell (p := ⟨b, off + k * 3 + 2, none⟩) hbl).trans c2
      have e3 : wr.cell? ⟨w.heap.size + 1, 0, none⟩ = some (.slice a k cap) := by rw [cell_of_row _ _ _ _ _ _ g1]; rfl
      have e4 : wr.frozen? ⟨w.heap.size + 1, 0, none⟩ = false := frozen_of_row _ _ _ _ _ g1
      have hi0 : (0 : Int) ≤ (k : Int) := by omega
      have hi1 : (k : Int) < (T.length : Int) := by omega
      have hsum : IntKind.i64.wrap ((k : Int) + 1) = (k : Int) + 1 := IntWalk.i64_in _ (by omega)
      have k1 : w.heap.size + 1 < wr.heap.size := by omega
      have k2 : b < wr.heap.size := by omega
      obtain ⟨_, _, _, hob⟩ := owns_form Hown.out
      have n1 : (Value.slice a k cap).ownBlock ≠ some (w.heap.size + 1) := fun h => by have := hob _ h; omega
      have n2 : (Value.slice a k cap).ownBlock ≠ some b := fun h => by have := hob _ h; omega
      clear hob c0 c1 c2
      have HG0 := Lib.hid g0
      have HG1 := Lib.hid g1
      clear g0 g1
      go_wp2_with fail
      go_region_law ((refine step_append_one (by rfl) _ _ _ (by rfl) 70 (w.heap.size + 2) 4 56 elt_tok (.slice a k cap) k (tkCells (T.take k)) (by rfl) ((Hown.out.alloc _).drew) ⟨wr.heap.size, 0, none⟩ 1 [.string ⟨#[116]⟩, .string T[k].t, .string T[k].s, .bool T[k].m] (by rfl) (by rfl) (World.news_of_block (cs := #[.string ⟨#[116]⟩, .string T[k].t, .string T[k].s, .bool T[k].m]) (t := 70) (fr := (0, 0)) (heap_alloc_new wr _)) (by simp [Value.oneCell']) (by unfold maxLen; omega) (by omega) (by simp; omega) ?_; intro gg gcap w1 hown1 hgrow hbg hlt1 hat; have q1 : w1.cell? ⟨w.heap.size + 1, 0, none⟩ = some (.slice a k cap) := (hgrow.cell_far ⟨w.heap.size + 1, 0, none⟩ (by simp; omega) (Ne.symm n1)).trans ((World.cell?_alloc_past _ _ _ k1).trans e3); have q2 : w1.frozen? ⟨w.heap.size + 1, 0, none⟩ = false := (hgrow.frozen_far ⟨w.heap.size + 1, 0, none⟩ (by simp; omega) (Ne.symm n1)).trans ((World.frozen?_alloc_past _ _ _ k1).trans e4)))
      all_goals
        have hob : ∀ g, (Value.slice a k cap).ownBlock = some g → w.heap.size + 2 ≤ g := (owns_form Hown.out).elim fun _ h => h.elim fun _ h => h.2
        have r0 : w1.heap[w.heap.size]? = some (.cells #[.slice none 0 0, .slice none 0 0, .slice none 0 0, .string ⟨#[]⟩, .slice none 0 0] 40 (0, 0)) := by
          rw [hgrow.block _ (by simp; omega) (fun h => by have := hob _ h.symm; omega)]
          exact (Below.heap_alloc _ _ _ (by omega)).trans HG0.out
        have r1 : w1.heap[w.heap.size + 1]? = some (.cells #[.slice a k cap, .slice sa S.length sc, .slice none 0 0, .string ⟨#[]⟩, .slice none 0 0] 40 (0, 0)) := by
          rw [hgrow.block _ (by simp; omega) (fun h => by have := hob _ h.symm; omega)]
          exact (Below.heap_alloc _ _ _ (by omega)).trans HG1.out
        have rz : wr.heap.size + 1 ≤ w1.heap.size := by have := hgrow.size; simpa using this
        have R0 := Lib.hid r0
        have R1 := Lib.hid r1
        have RO := Lib.hid hown1
        have RB : Hid (Below w.heap.size w w1) := Lib.hid ((((HB.out.alloc (by omega) _).drew)).grown hgrow (by simp; omega) (fun g h => by have := hob g h; omega))
        clear r0 r1 hown1 hgrow hat hob q1 q2
        go_wp2_with fail
        go_roundw
        case rel =>
          refine ⟨k + 1, some ⟨gg, 0, none⟩, gcap, by go_num, by omega, ?_, ?_, ?_, ?_, ?_⟩
          · rw [heap_setCell_other _ _ _ _ (by simp)]; exact R0.out
          · rw [heap_setCell_same _ _ _ _ _ _ R1.out]; rfl
          · refine Lib.hid ?_
            rw [List.take_succ_eq_append_getElem hlt, tkCells_snoc]
            exact ownsRow_setCell_below RO.out (by simp) _
          · simp [World.setCell]; omega
          · exact Lib.hid (RB.out.setCell (by simp) _)
        case measure => simp [intOf]; omega
    · obtain rfl : k = T.length := by omega
      rw [List.take_length] at Hown
      obtain ⟨ga, gc, hv, hsl⟩ := SlT.of_row Hown.out rfl
      simp only [Value.slice.injEq, true_and] at hv
      obtain ⟨rfl, rfl⟩ := hv
      have HSl := Lib.hid hsl
      have hsz : (Try.prog.info? 40).map (·.size) = some 5 := by kernel_rfl
      clear hlt hsl
      go_wp2_with (first | (refine wpList_load_row rfl 40 _ rfl (w.heap.size + 1) rfl 40 _ (0, 0) _ g1 Try.underlying40 rfl hsz ?_) | (refine list_store_row rfl 40 _ _ rfl w.heap.size rfl _ rfl _ 40 g0 rfl hsz (by simp [Value.oneCell']) ?_))
      refine bodyPost_ret (results_cell_row rfl _ _ w.heap.size 40 _ (0, 0) _ rfl (setRow_heap _ _ _ _ _ _ g0) Try.underlying40 rfl hsz) rfl ⟨a, cap, rfl, ?_, ?_⟩
      · intro i hi
        obtain ⟨b, off, e, t0, t1, t2, t3⟩ := HSl.out i hi
        have hb : b ≠ w.heap.size := by
          obtain ⟨_, _, hvv, hbase⟩ := owns_form Hown.out
          have := hbase b (by rw [e]; rfl)
          omega
        exact ⟨b, off, e, (cell_setRow_other _ _ _ _ (by simpa using hb)).trans t0, (cell_setRow_other _ _ _ _ (by simpa using hb)).trans t1, (cell_setRow_other _ _ _ _ (by simpa using hb)).trans t2, (cell_setRow_other _ _ _ _ (by simpa using hb)).trans t3⟩
      · exact HB.out.trans ⟨rfl, rfl, rfl, by simp, fun i hi => setRow_other _ _ _ _ (by omega)⟩
end Go.Proofs.Ytgoggooeipcgpaa
