/-
  Walks of chapter 17: scan.All.
-/
import Derived.Test.YtgoggooeipcgpaaScanQ
namespace Go.Proofs.Ytgoggooeipcgpaa
open Go.RowKit
set_option linter.unusedVariables false

theorem next_on (T S : List Pl.Pt) (x : Pl.B) : ∀ (f i k : Nat), k ≤ i → (Pl.next T S x f i k).2.2.2 ≤ (Pl.next T S x f i k).2.2.1 ∧ ((Pl.next T S x f i k).1.term ≠ 0 → i < (Pl.next T S x f i k).2.2.1)
  | 0, i, k, h => by simp [Pl.next, h]
  | f + 1, i, k, h => by
    rw [Pl.next]
    split
    · split
      · simp [h]
      · rename_i h1 h2
        split
        · obtain ⟨g1, g2⟩ := next_on T S x f (i + (Pl.step T S x i).2) (k + 1) (by omega)
          exact ⟨g1, fun hh => by have := g2 hh; omega⟩
        · exact ⟨by simp only []; omega, fun _ => by simp only []; omega⟩
    · simp [h]

theorem owns_lt {w : World} {base : Nat} {e : TypeId} {size : Nat} {v : Value} {n : Nat} {xs : List Value} (h : w.ownsRow base e size v n xs) : ∀ g, v.ownBlock = some g → g < w.heap.size := by
  rcases h.2 with ⟨rfl, rfl⟩ | ⟨g, cap, cur, rfl, hbg, hg, _⟩
  · exact fun g hg => by simp [Value.ownBlock] at hg
  · exact fun k hk => by simp [Value.ownBlock] at hk; subst hk; exact (Array.getElem?_eq_some_iff.1 hg).1

/-- What scan.All answers. -/
def SAllP (T S : List Pl.Pt) (x : ByteArray) (w : World) (e : Ending) (w' : World) : Prop :=
  ∃ a cap, e = .returned (.tuple #[.slice a (Pl.cut T S x.data.toList x.size 0 0).1.length cap, .int .i64 ((Pl.cut T S x.data.toList x.size 0 0).2.1 : Nat)]) ∧
    SlK w' a (Pl.cut T S x.data.toList x.size 0 0).1 ∧ Below w.heap.size w w'

set_option maxRecDepth 100000 in
set_option maxHeartbeats 3200000 in
theorem sall_any (T S : List Pl.Pt) (ta sa : Option Addr) (tc sc : Nat) (x : ByteArray) (w : World) (hT : SlT w ta T) (hS : SlP w sa S) (oT : OkP T) (oS : OkP S) (lT : T.length ≤ 9223372036854775806) (lS : S.length ≤ 9223372036854775806) (hx : x.size ≤ 200) :
    Calls Try.prog 27 #[.agg #[.slice ta T.length tc, .slice sa S.length sc, .slice none 0 0, .string ⟨#[]⟩, .slice none 0 0], .string x] w (SAllP T S x w) := by
  have CN := Lib.hid (fun g i k W hg hB0 hg0 hi hk => next_any g ta T tc sa S sc x i k w W hg hT hS hB0 hg0 oT oS lT lS hx hi hk)
  clear oT oS lT lS hT hS
  go_enter Try.func27, Try.ntmps27
  go_wp2_with fail
  refine (new_any ta T tc sa S sc x _).mono ?_
  rintro e w1 ⟨g, rfl, hg, hgl, hb⟩
  simp only [World.size_alloc] at hgl
  have L1 : Hid (Below w.heap.size w w1) := Lib.hid (((Below.refl _ _).alloc (Nat.le_refl _) _).trans (hb.mono (by simp)))
  have G1 := Lib.hid hg
  have lg := hg.lt
  have hwz : w.heap.size ≤ w1.heap.size := L1.out.size
  clear hg hb
  go_wp2_with fail
  go_loopw [7] (fun o wr => ∃ (i k : Nat) (done : List Pl.Tk) (a : Option Addr) (cap : Nat), o = .slice a done.length cap ∧ i ≤ x.size ∧ k ≤ i ∧ done.length ≤ i ∧
      Hid (Pl.cut T S x.data.toList x.size 0 0 = (done ++ (Pl.cut T S x.data.toList x.size i k).1, (Pl.cut T S x.data.toList x.size i k).2)) ∧
      Hid (wr.ownsRow w1.heap.size 48 3 (.slice a done.length cap) done.length (kCells done)) ∧ Hid (ScB wr g ta T tc sa S sc x i k) ∧ Hid (Below w.heap.size w wr) ∧ w1.heap.size ≤ wr.heap.size)
    (fun _ wr => x.size - (intOf ((wr.cell? ⟨g, 6, none⟩).getD undef)).toNat)
  case atStart => exact ⟨0, 0, [], none, 0, rfl, by omega, by omega, by simp, Lib.hid rfl, Lib.hid (World.ownsRow_nil _ _ _ _), G1, L1, Nat.le_refl _⟩
  case round =>
    clear G1 L1
    obtain ⟨i, k, done, a, cap, rfl, hi, hk, hd, HC, Ho, G1, L1, hz1⟩ := hrel
    have Hm0 : Hid ((intOf ((wr.cell? ⟨g, 6, none⟩).getD undef)).toNat = i) := Lib.hid (by rw [G1.out.cells.2.2.2.1]; simp [intOf])
    obtain ⟨n1, n2, n3⟩ := Pl.cut_next T S x.data.toList x.size i k (by show x.size ≤ i + x.size; omega) hi
    obtain ⟨m1, m2⟩ := next_on T S x.data.toList x.size i k hk
    rw [n1] at HC
    have DN := Lib.hid (CN.out g i k wr G1.out L1.out (by omega) hi hk)
    have hx8 : x.data.toList.length = x.size := rfl
    rw [hx8] at n2
    generalize Pl.next T S x.data.toList x.size i k = r at HC DN n2 n3 m1 m2
    obtain ⟨⟨tm, fr, tt⟩, er, at', sk⟩ := r
    simp only [] at HC DN n2 n3 m1 m2
    have Hm2 := Lib.hid m2
    clear n1 hx8 m2
    go_wp2_with fail
    refine DN.out.mono ?_
    rintro e w2 ⟨rfl, hg, hb⟩
    have hz2 : w1.heap.size ≤ w2.heap.size := Nat.le_trans hz1 hb.size
    have L2 : Hid (Below w.heap.size w w2) := Lib.hid (L1.out.trans (hb.below (by omega) (by omega) (by have := L1.out.size; omega)))
    have hob : ∀ n, (Value.slice a done.length cap).ownBlock = some n → w1.heap.size ≤ n := (owns_form Ho.out).elim fun _ h => h.elim fun _ h => h.2
    have Ho2 : Hid (w2.ownsRow w1.heap.size 48 3 (.slice a done.length cap) done.length (kCells done)) := Lib.hid (Ho.out.kept (row := some g) ⟨hb.os, hb.tape, hb.output, hb.size, fun n h1 h2 => hb.block n h1 (fun e => h2 (by rw [e])) (fun e => h2 (by rw [e]))⟩ (by
        cases h : (Value.slice a done.length cap).ownBlock with
        | none => simp
        | some n => right; intro e; injection e with e; have := hob n h; omega))
    have G2 := Lib.hid hg
    have lg2 := hg.lt
    clear hg hb Ho G1 L1 DN hz1 hob
    by_cases he : er = 0
    · have he' : ((er : Int) != 0) = false := by simp; omega
      have he2 : ((er : Int) == 0) = true := by simp; omega
      by_cases ht : tm = 0
      · have ht' : ((tm : Int) == 0) = true := by simp; omega
        have HC2 : Hid (Pl.cut T S x.data.toList x.size 0 0 = (done ++ [⟨tm, fr, tt⟩], er, sk)) := Lib.hid (by have := HC.out; rw [if_pos (Or.inr ht)] at this; exact this)
        have Ht := Lib.hid ht
        have He := Lib.hid he
        clear HC ht he
        go_wp2_with (first | (at_builtin; refine list_append_one rfl _ _ 43 rfl 48 w1.heap.size 3 24 elt_tk _ _ _ rfl ((Ho2.out.alloc _).alloc _) ⟨w2.heap.size + 1, 0, none⟩ 1 [.int .i64 (tm : Nat), .int .i64 (fr : Nat), .int .i64 (tt : Nat)] rfl rfl (World.news_of_block (heap_alloc2_new _ _ _)) (by simp [Value.oneCell']) (by unfold maxLen; omega) (by omega) (by simp; omega) ?_; intro g9 gcap w9 hown9 hgrow9 hbg9 hlt9 hat9; have q8 : w9.cell? ⟨w2.heap.size, 0, none⟩ = some (.int .i64 (tm : Nat)) := (hgrow9.cell_far ⟨w2.heap.size, 0, none⟩ (by simp; omega) (fun h => by have := owns_lt Ho2.out _ h.symm; simp at this)).trans (by go_simp)))
        have hob : ∀ n, (Value.slice a done.length cap).ownBlock = some n → w1.heap.size ≤ n := (owns_form Ho2.out).elim fun _ h => h.elim fun _ h => h.2
        have hb3 : Below w1.heap.size w2 w9 := (((Below.refl _ _).alloc hz2 _).alloc (by simp; omega) _).grown hgrow9 (by simp; omega) (fun g h => hob g h)
        have G3 : Hid (ScB w9 g ta T tc sa S sc x at' sk) := Lib.hid ((hb3.block _ lg).trans G2.out)
        have L3 : Hid (Below w.heap.size w w9) := Lib.hid (L2.out.trans (hb3.mono (by have := hwz; omega)))
        have hz3 : w1.heap.size ≤ w9.heap.size := Nat.le_trans hz2 hb3.size
        have Ho3 : Hid (w9.ownsRow w1.heap.size 48 3 (.slice (some ⟨g9, 0, none⟩) (done ++ [(⟨tm, fr, tt⟩ : Pl.Tk)]).length gcap) (done ++ [(⟨tm, fr, tt⟩ : Pl.Tk)]).length (kCells (done ++ [⟨tm, fr, tt⟩]))) := by
          refine Lib.hid ?_
          rw [kCells_snoc, List.length_append]
          exact hown9
        have hs9 : Hid (SlK w9 (some ⟨g9, 0, none⟩) (done ++ [⟨tm, fr, tt⟩])) := Lib.hid (SlK.of_row Ho3.out (by simp))
        have Hlen := Lib.hid (show (done ++ [(⟨tm, fr, tt⟩ : Pl.Tk)]).length = done.length + 1 by simp)
        clear hown9 hgrow9 hat9 hob hb3 G2 L2 hz2 Ho2
        go_wp2_with fail
        go_ret2
        refine ⟨some ⟨g9, 0, none⟩, gcap, ?_, ?_, L3.out⟩
        · rw [HC2.out]; simp
        · rw [HC2.out]; exact hs9.out
      · have ht' : ((tm : Int) == 0) = false := by simp; omega
        have hm : i < at' := Hm2.out ht
        have HC2 : Hid (Pl.cut T S x.data.toList x.size 0 0 = ((done ++ [⟨tm, fr, tt⟩]) ++ (Pl.cut T S x.data.toList x.size at' sk).1, (Pl.cut T S x.data.toList x.size at' sk).2)) := Lib.hid (by have := HC.out; rw [if_neg (by simp [ht, he])] at this; rw [this]; simp)
        have Ht := Lib.hid ht
        have He := Lib.hid he
        clear HC ht he
        go_wp2_with (first | (at_builtin; refine list_append_one rfl _ _ 43 rfl 48 w1.heap.size 3 24 elt_tk _ _ _ rfl ((Ho2.out.alloc _).alloc _) ⟨w2.heap.size + 1, 0, none⟩ 1 [.int .i64 (tm : Nat), .int .i64 (fr : Nat), .int .i64 (tt : Nat)] rfl rfl (World.news_of_block (heap_alloc2_new _ _ _)) (by simp [Value.oneCell']) (by unfold maxLen; omega) (by omega) (by simp; omega) ?_; intro g9 gcap w9 hown9 hgrow9 hbg9 hlt9 hat9; have q8 : w9.cell? ⟨w2.heap.size, 0, none⟩ = some (.int .i64 (tm : Nat)) := (hgrow9.cell_far ⟨w2.heap.size, 0, none⟩ (by simp; omega) (fun h => by have := owns_lt Ho2.out _ h.symm; simp at this)).trans (by go_simp)))
        have hob : ∀ n, (Value.slice a done.length cap).ownBlock = some n → w1.heap.size ≤ n := (owns_form Ho2.out).elim fun _ h => h.elim fun _ h => h.2
        have hb3 : Below w1.heap.size w2 w9 := (((Below.refl _ _).alloc hz2 _).alloc (by simp; omega) _).grown hgrow9 (by simp; omega) (fun g h => hob g h)
        have G3 : Hid (ScB w9 g ta T tc sa S sc x at' sk) := Lib.hid ((hb3.block _ lg).trans G2.out)
        have L3 : Hid (Below w.heap.size w w9) := Lib.hid (L2.out.trans (hb3.mono (by have := hwz; omega)))
        have hz3 : w1.heap.size ≤ w9.heap.size := Nat.le_trans hz2 hb3.size
        have Ho3 : Hid (w9.ownsRow w1.heap.size 48 3 (.slice (some ⟨g9, 0, none⟩) (done ++ [(⟨tm, fr, tt⟩ : Pl.Tk)]).length gcap) (done ++ [(⟨tm, fr, tt⟩ : Pl.Tk)]).length (kCells (done ++ [⟨tm, fr, tt⟩]))) := by
          refine Lib.hid ?_
          rw [kCells_snoc, List.length_append]
          exact hown9
        have hs9 : Hid (SlK w9 (some ⟨g9, 0, none⟩) (done ++ [⟨tm, fr, tt⟩])) := Lib.hid (SlK.of_row Ho3.out (by simp))
        have Hlen := Lib.hid (show (done ++ [(⟨tm, fr, tt⟩ : Pl.Tk)]).length = done.length + 1 by simp)
        clear hown9 hgrow9 hat9 hob hb3 G2 L2 hz2 Ho2
        have Hm3 : Hid ((intOf ((w9.cell? ⟨g, 6, none⟩).getD undef)).toNat = at') := Lib.hid (by rw [G3.out.cells.2.2.2.1]; simp [intOf])
        go_wp2_with fail
        go_roundw
        case rel => exact ⟨at', sk, done ++ [⟨tm, fr, tt⟩], some ⟨g9, 0, none⟩, gcap, by rw [Hlen.out], by omega, by omega, by rw [Hlen.out]; omega, HC2, Ho3, G3, L3, hz3⟩
        case measure => rw [Hm3.out, Hm0.out]; omega
    · have he' : ((er : Int) != 0) = true := by simp; omega
      have he2 : ((er : Int) == 0) = false := by simp; omega
      have HC2 : Hid (Pl.cut T S x.data.toList x.size 0 0 = (done ++ [⟨tm, fr, tt⟩], er, sk)) := Lib.hid (by have := HC.out; rw [if_pos (Or.inl he)] at this; exact this)
      have He := Lib.hid he
      clear HC he
      go_wp2_with (first | (at_builtin; refine list_append_one rfl _ _ 43 rfl 48 w1.heap.size 3 24 elt_tk _ _ _ rfl ((Ho2.out.alloc _).alloc _) ⟨w2.heap.size + 1, 0, none⟩ 1 [.int .i64 (tm : Nat), .int .i64 (fr : Nat), .int .i64 (tt : Nat)] rfl rfl (World.news_of_block (heap_alloc2_new _ _ _)) (by simp [Value.oneCell']) (by unfold maxLen; omega) (by omega) (by simp; omega) ?_; intro g9 gcap w9 hown9 hgrow9 hbg9 hlt9 hat9; have q8 : w9.cell? ⟨w2.heap.size, 0, none⟩ = some (.int .i64 (tm : Nat)) := (hgrow9.cell_far ⟨w2.heap.size, 0, none⟩ (by simp; omega) (fun h => by have := owns_lt Ho2.out _ h.symm; simp at this)).trans (by go_simp)))
      have hob : ∀ n, (Value.slice a done.length cap).ownBlock = some n → w1.heap.size ≤ n := (owns_form Ho2.out).elim fun _ h => h.elim fun _ h => h.2
      have hb3 : Below w1.heap.size w2 w9 := (((Below.refl _ _).alloc hz2 _).alloc (by simp; omega) _).grown hgrow9 (by simp; omega) (fun g h => hob g h)
      have G3 : Hid (ScB w9 g ta T tc sa S sc x at' sk) := Lib.hid ((hb3.block _ lg).trans G2.out)
      have L3 : Hid (Below w.heap.size w w9) := Lib.hid (L2.out.trans (hb3.mono (by have := hwz; omega)))
      have hz3 : w1.heap.size ≤ w9.heap.size := Nat.le_trans hz2 hb3.size
      have Ho3 : Hid (w9.ownsRow w1.heap.size 48 3 (.slice (some ⟨g9, 0, none⟩) (done ++ [(⟨tm, fr, tt⟩ : Pl.Tk)]).length gcap) (done ++ [(⟨tm, fr, tt⟩ : Pl.Tk)]).length (kCells (done ++ [⟨tm, fr, tt⟩]))) := by
        refine Lib.hid ?_
        rw [kCells_snoc, List.length_append]
        exact hown9
      have hs9 : Hid (SlK w9 (some ⟨g9, 0, none⟩) (done ++ [⟨tm, fr, tt⟩])) := Lib.hid (SlK.of_row Ho3.out (by simp))
      have Hlen := Lib.hid (show (done ++ [(⟨tm, fr, tt⟩ : Pl.Tk)]).length = done.length + 1 by simp)
      clear hown9 hgrow9 hat9 hob hb3 G2 L2 hz2 Ho2
      go_wp2_with fail
      go_ret2
      refine ⟨some ⟨g9, 0, none⟩, gcap, ?_, ?_, L3.out⟩
      · rw [HC2.out]; simp
      · rw [HC2.out]; exact hs9.out
end Go.Proofs.Ytgoggooeipcgpaa
