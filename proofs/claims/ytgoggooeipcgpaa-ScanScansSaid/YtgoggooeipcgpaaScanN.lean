/-
  Walks of chapter 17: the reference's All.
-/
import Derived.Test.YtgoggooeipcgpaaScanM
namespace Go.Proofs.Ytgoggooeipcgpaa
open Go.RowKit
set_option linter.unusedVariables false

/-- A slice that reads as a list of tokens. -/
def SlK (w : World) (a : Option Addr) (l : List Pl.Tk) : Prop := ∀ i (h : i < l.length), ∃ b off, a = some ⟨b, off, none⟩ ∧
  w.cell? ⟨b, off + i * 3, none⟩ = some (.int .i64 (l[i].term : Nat)) ∧ w.cell? ⟨b, off + i * 3 + 1, none⟩ = some (.int .i64 (l[i].fr : Nat)) ∧ w.cell? ⟨b, off + i * 3 + 2, none⟩ = some (.int .i64 (l[i].to : Nat))

theorem SlK.below {w w1 : World} {a : Option Addr} {l : List Pl.Tk} (h : SlK w a l) (hb : Below w.heap.size w w1) : SlK w1 a l := by
  intro i hi
  obtain ⟨b, off, rfl, h1, h2, h3⟩ := h i hi
  have hlt : b < w.heap.size := World.block_lt_of_cell? w _ h1
  have q := (bcell hb).1
  exact ⟨b, off, rfl, (q _ _ hlt).trans h1, (q _ _ hlt).trans h2, (q _ _ hlt).trans h3⟩

/-- The cells of a slice of tokens that were cut. -/
def kCells (l : List Pl.Tk) : List Value := l.flatMap fun t => [.int .i64 (t.term : Nat), .int .i64 (t.fr : Nat), .int .i64 (t.to : Nat)]

theorem kCells_snoc (l : List Pl.Tk) (t : Pl.Tk) : kCells (l ++ [t]) = kCells l ++ [.int .i64 (t.term : Nat), .int .i64 (t.fr : Nat), .int .i64 (t.to : Nat)] := by simp [kCells]

theorem kCells_at : ∀ (l : List Pl.Tk) (i : Nat) (h : i < l.length), (kCells l)[i * 3]? = some (.int .i64 (l[i].term : Nat)) ∧ (kCells l)[i * 3 + 1]? = some (.int .i64 (l[i].fr : Nat)) ∧ (kCells l)[i * 3 + 2]? = some (.int .i64 (l[i].to : Nat))
  | p :: l, 0, _ => by simp [kCells]
  | p :: l, i + 1, h => by
    have := kCells_at l i (by simpa using h)
    have e : kCells (p :: l) = [.int .i64 (p.term : Nat), .int .i64 (p.fr : Nat), .int .i64 (p.to : Nat)] ++ kCells l := by simp [kCells]
    rw [e]
    have k : ∀ j, ([.int .i64 (p.term : Nat), .int .i64 (p.fr : Nat), .int .i64 (p.to : Nat)] ++ kCells l)[(i + 1) * 3 + j]? = (kCells l)[i * 3 + j]? := by
      intro j
      rw [List.getElem?_append_right (by simp; omega)]
      congr 1
      simp; omega
    have k0 := k 0
    simp only [Nat.add_zero] at k0
    rw [k0, k 1, k 2]
    simpa using this

theorem elt_tk : Elt Try.prog 43 48 3 24 where
  ht := Try.underlying43
  hi := by
    have h : (Try.prog.info? 48).map (fun i => (i.zero.map (fun z => z.cells.size), i.size, i.bytes)) = some (some 3, 3, 24) := by kernel_rfl
    cases hi : Try.prog.info? 48 with
    | none => simp [hi] at h
    | some i =>
      simp [hi] at h
      obtain ⟨⟨z, hz, hz1⟩, h2, h3⟩ := h
      exact ⟨i, z, rfl, hz, h2, h3, hz1⟩
  hsz := by omega

theorem SlK.of_row {w : World} {base : Nat} {a : Option Addr} {n cap : Nat} {l : List Pl.Tk} (h : w.ownsRow base 48 3 (.slice a n cap) n (kCells l)) (hn : l.length = n) : SlK w a l := by
  rcases h.2 with ⟨hv, rfl⟩ | ⟨g, cap', cur, hv, hbg, hg, hnc, hcm, hcs, htake⟩
  · exact fun i hi => by omega
  · simp only [Value.slice.injEq, true_and] at hv
    obtain ⟨rfl, rfl⟩ := hv
    refine fun i hi => ⟨g, 0, rfl, ?_⟩
    obtain ⟨t1, t2, t3⟩ := kCells_at l i hi
    have k : ∀ j u, (kCells l)[j]? = some u → w.cell? ⟨g, j, none⟩ = some u := by
      intro j u hu
      have := h.cells (g := g) rfl j u hu
      rwa [show (⟨g, 0, none⟩ : Addr).add j = ⟨g, j, none⟩ from by unfold Addr.add; split <;> simp_all] at this
    simp only [Nat.zero_add]
    exact ⟨k _ _ t1, k _ _ t2, k _ _ t3⟩

/-- What the reference's All answers. -/
def RAllP (T S : List Pl.Pt) (x : ByteArray) (w : World) (e : Ending) (w' : World) : Prop :=
  ∃ a cap, e = .returned (.tuple #[.slice a (Pl.cut T S x.data.toList x.size 0 0).1.length cap, .int .i64 ((Pl.cut T S x.data.toList x.size 0 0).2.1 : Nat), .int .i64 ((Pl.cut T S x.data.toList x.size 0 0).2.2 : Nat)]) ∧
    SlK w' a (Pl.cut T S x.data.toList x.size 0 0).1 ∧ Below w.heap.size w w'

set_option maxRecDepth 100000 in
set_option maxHeartbeats 3200000 in
theorem rall_any (T S : List Pl.Pt) (ta sa : Option Addr) (tc sc : Nat) (x : ByteArray) (w : World) (hT : SlT w ta T) (hS : SlP w sa S) (oT : OkP T) (oS : OkP S) (lT : T.length ≤ maxLen) (lS : S.length ≤ maxLen) (hx : x.size ≤ 200) :
    Calls Try.prog 29 #[.agg #[.slice ta T.length tc, .slice sa S.length sc, .slice none 0 0, .string ⟨#[]⟩, .slice none 0 0], .string x] w (RAllP T S x w) := by
  have hxm : x.size ≤ maxLen := by unfold maxLen; omega
  have CS := Lib.hid (fun i w hT hS => step_any T S ta sa tc sc x i w hT hS oT oS lT lS hxm)
  have hroomS := Lib.hid (fun i => Pl.step_room T S x.data.toList i)
  go_enter Try.func29, Try.ntmps29
  go_wp2_with fail
  have hB : Below w.heap.size w (w.alloc (.cells #[.slice ta T.length tc, .slice sa S.length sc, .slice none 0 0, .string ⟨#[]⟩, .slice none 0 0] 40)) := (Below.refl _ _).alloc (Nat.le_refl _) _
  have G0 : Hid ((w.alloc (.cells #[.slice ta T.length tc, .slice sa S.length sc, .slice none 0 0, .string ⟨#[]⟩, .slice none 0 0] 40)).heap[w.heap.size]? = some (.cells #[.slice ta T.length tc, .slice sa S.length sc, .slice none 0 0, .string ⟨#[]⟩, .slice none 0 0] 40 (0, 0))) := Lib.hid (heap_alloc_new _ _)
  have hz0 : w.heap.size + 1 ≤ (w.alloc (.cells #[.slice ta T.length tc, .slice sa S.length sc, .slice none 0 0, .string ⟨#[]⟩, .slice none 0 0] 40)).heap.size := by simp
  have L0 := Lib.hid hB
  have T0 := Lib.hid (hT.below hB)
  have S0 := Lib.hid (hS.below hB)
  generalize (w.alloc (.cells #[.slice ta T.length tc, .slice sa S.length sc, .slice none 0 0, .string ⟨#[]⟩, .slice none 0 0] 40)) = W at L0 G0 T0 S0 hz0 ⊢
  have HT0 := Lib.hid hT
  have HS0 := Lib.hid hS
  clear hT hS hB oT oS
  have h8 : x.data.toList.length = x.size := rfl
  go_loopw [7, 8, 9] (fun o p q wr => ∃ (i k f : Nat) (done : List Pl.Tk) (a : Option Addr) (cap : Nat), o = .slice a done.length cap ∧ p = .int .i64 i ∧ q = .int .i64 k ∧ i ≤ x.size ∧ x.size ≤ i + f ∧ k ≤ i ∧ done.length ≤ i ∧
      Hid (Pl.cut T S x.data.toList x.size 0 0 = (done ++ (Pl.cut T S x.data.toList f i k).1, (Pl.cut T S x.data.toList f i k).2)) ∧
      Hid (wr.ownsRow (w.heap.size + 1) 48 3 (.slice a done.length cap) done.length (kCells done)) ∧
      Hid (wr.heap[w.heap.size]? = some (.cells #[.slice ta T.length tc, .slice sa S.length sc, .slice none 0 0, .string ⟨#[]⟩, .slice none 0 0] 40 (0, 0))) ∧ Hid (SlT wr ta T) ∧ Hid (SlP wr sa S) ∧ Hid (Below w.heap.size w wr) ∧ w.heap.size + 1 ≤ wr.heap.size)
    (fun _ p _ _ => x.size - (intOf p).toNat)
  case atStart => exact ⟨0, 0, x.size, [], none, 0, rfl, rfl, rfl, by omega, by omega, by omega, by simp, Lib.hid rfl, Lib.hid (World.ownsRow_nil _ _ _ _), G0, T0, S0, L0, hz0⟩
  case round =>
    clear G0 T0 S0 L0 hz0 h8
    obtain ⟨i, k, f, done, a, cap, rfl, rfl, rfl, hi, hf, hk, hd, HC, Ho, G1, T1, S1, L1, hz1⟩ := hrel
    by_cases hlt : i < x.size
    · obtain ⟨f, rfl⟩ : ∃ f', f = f' + 1 := ⟨f - 1, by omega⟩
      have hltl : i < x.data.toList.length := hlt
      have HR := hroomS.out i (Nat.le_of_lt hlt)
      have hx8 : x.data.toList.length = x.size := rfl
      rw [hx8] at HR
      have HU : Pl.cut T S x.data.toList (f + 1) i k = (if (Pl.step T S x.data.toList i).2 = 0 then ([⟨0, i, i⟩], 21, k)
          else if (Pl.step T S x.data.toList i).1 = 0 then Pl.cut T S x.data.toList f (i + (Pl.step T S x.data.toList i).2) (k + 1)
          else ((⟨(Pl.step T S x.data.toList i).1, i, i + (Pl.step T S x.data.toList i).2⟩ :: (Pl.cut T S x.data.toList f (i + (Pl.step T S x.data.toList i).2) k).1), (Pl.cut T S x.data.toList f (i + (Pl.step T S x.data.toList i).2) k).2)) := by
        rw [Pl.cut, if_pos hltl]
      rw [HU] at HC
      have DS := Lib.hid (fun w hT hS => CS.out i w hT hS)
      generalize Pl.step T S x.data.toList i = st at HC HR DS
      obtain ⟨term, n⟩ := st
      simp only [] at HC HR DS
      clear HU hltl hx8
      have c0 : wr.cell? ⟨w.heap.size, 0, none⟩ = some (.slice ta T.length tc) := by rw [cell_of_row _ _ _ _ _ _ G1.out]; rfl
      have c1 : wr.cell? ⟨w.heap.size, 1, none⟩ = some (.slice sa S.length sc) := by rw [cell_of_row _ _ _ _ _ _ G1.out]; rfl
      have c2 : wr.cell? ⟨w.heap.size, 2, none⟩ = some (.slice none 0 0) := by rw [cell_of_row _ _ _ _ _ _ G1.out]; rfl
      have c3 : wr.cell? ⟨w.heap.size, 3, none⟩ = some (.string ⟨#[]⟩) := by rw [cell_of_row _ _ _ _ _ _ G1.out]; rfl
      have c4 : wr.cell? ⟨w.heap.size, 4, none⟩ = some (.slice none 0 0) := by rw [cell_of_row _ _ _ _ _ _ G1.out]; rfl
      go_wp2_with fail
      refine (DS.out _ T1.out S1.out).mono ?_
      rintro e w2 ⟨rfl, hb⟩
      have G2 : Hid (w2.heap[w.heap.size]? = some (.cells #[.slice ta T.length tc, .slice sa S.length sc, .slice none 0 0, .string ⟨#[]⟩, .slice none 0 0] 40 (0, 0))) := Lib.hid ((hb.block _ (by omega)).trans G1.out)
      have T2 := Lib.hid (T1.out.below hb)
      have S2 := Lib.hid (S1.out.below hb)
      have L2 := Lib.hid (L1.out.trans (hb.mono (by omega)))
      have hz2 : w.heap.size + 1 ≤ w2.heap.size := Nat.le_trans hz1 hb.size
      have Ho2 : Hid (w2.ownsRow (w.heap.size + 1) 48 3 (.slice a done.length cap) done.length (kCells done)) := Lib.hid (Ho.out.kept (row := none) ⟨hb.os, hb.tape, hb.output, hb.size, fun k h _ => hb.block k h⟩ (by
        cases h : (Value.slice a done.length cap).ownBlock <;> simp))
      clear c0 c1 c2 c3 c4 hb G1 T1 S1 L1 Ho
      by_cases hn : n = 0
      · subst hn
        have HC2 : Hid (Pl.cut T S x.data.toList x.size 0 0 = (done ++ [⟨0, i, i⟩], 21, k)) := Lib.hid HC.out
        clear HC
        go_wp2_with (first | (at_builtin; refine list_append_one rfl _ _ 43 rfl 48 (w.heap.size + 1) 3 24 elt_tk _ _ _ rfl (Ho2.out.alloc _) ⟨w2.heap.size, 0, none⟩ 1 [.int .i64 0, .int .i64 (i : Nat), .int .i64 (i : Nat)] rfl rfl (World.news_of_block (heap_alloc_new _ _)) (by simp [Value.oneCell']) (by unfold maxLen; omega) (by omega) (by simp; omega) ?_; intro g gcap w9 hown9 hgrow9 hbg9 hlt9 hat9))
        have HB9 : Hid (Below w.heap.size w w9) := by
          have hob : ∀ g, (Value.slice a done.length cap).ownBlock = some g → w.heap.size + 1 ≤ g := (owns_form Ho2.out).elim fun _ h => h.elim fun _ h => h.2
          exact Lib.hid ((L2.out.alloc (by omega) _).grown hgrow9 (by simp; omega) (fun g h => by have := hob g h; omega))
        have hs9 : Hid (SlK w9 (some ⟨g, 0, none⟩) (done ++ [⟨0, i, i⟩])) := Lib.hid (SlK.of_row (by rw [kCells_snoc]; exact hown9) (by simp))
        clear hown9 hgrow9 hat9
        go_ret3
        refine ⟨some ⟨g, 0, none⟩, gcap, ?_, ?_, HB9.out⟩
        · rw [HC2.out]; simp
        · rw [HC2.out]; exact hs9.out
      · have hn' : ((n : Int) == 0) = false := by simp; omega
        have hn2 : ¬ (n = 0) := hn
        by_cases ht : term = 0
        · subst ht
          have HC2 : Hid (Pl.cut T S x.data.toList x.size 0 0 = (done ++ (Pl.cut T S x.data.toList f (i + n) (k + 1)).1, (Pl.cut T S x.data.toList f (i + n) (k + 1)).2)) := Lib.hid (by have := HC.out; rw [if_neg hn] at this; exact this)
          clear HC
          go_wp2_with fail
          go_roundw
          case rel => exact ⟨i + n, k + 1, f, done, a, cap, rfl, by go_num, by go_num, by omega, by omega, by omega, by omega, HC2, Ho2, G2, T2, S2, L2, hz2⟩
          case measure => simp [intOf]; omega
        · have ht' : decide (0 < term) = true := by simp; omega
          have HC2 : Hid (Pl.cut T S x.data.toList x.size 0 0 = ((done ++ [⟨term, i, i + n⟩]) ++ (Pl.cut T S x.data.toList f (i + n) k).1, (Pl.cut T S x.data.toList f (i + n) k).2)) := Lib.hid (by have := HC.out; rw [if_neg hn, if_neg ht] at this; rw [this]; simp)
          clear HC
          go_wp2_with (first | (at_builtin; refine list_append_one rfl _ _ 43 rfl 48 (w.heap.size + 1) 3 24 elt_tk _ _ _ rfl (Ho2.out.alloc _) ⟨w2.heap.size, 0, none⟩ 1 [.int .i64 (term : Nat), .int .i64 (i : Nat), .int .i64 ((i : Int) + (n : Int))] rfl rfl (World.news_of_block (heap_alloc_new _ _)) (by simp [Value.oneCell']) (by unfold maxLen; omega) (by omega) (by simp; omega) ?_; intro g gcap w9 hown9 hgrow9 hbg9 hlt9 hat9))
          have hob : ∀ g, (Value.slice a done.length cap).ownBlock = some g → w.heap.size + 1 ≤ g := (owns_form Ho2.out).elim fun _ h => h.elim fun _ h => h.2
          have L3 : Hid (Below w.heap.size w w9) := Lib.hid ((L2.out.alloc (by omega) _).grown hgrow9 (by simp; omega) (fun g h => by have := hob g h; omega))
          have hb3 : Below (w.heap.size + 1) w2 w9 := ((Below.refl _ _).alloc hz2 _).grown hgrow9 (by simp; omega) (fun g h => hob g h)
          have G3 : Hid (w9.heap[w.heap.size]? = some (.cells #[.slice ta T.length tc, .slice sa S.length sc, .slice none 0 0, .string ⟨#[]⟩, .slice none 0 0] 40 (0, 0))) := Lib.hid ((hb3.block _ (by omega)).trans G2.out)
          have T3 := Lib.hid (HT0.out.below L3.out)
          have S3 := Lib.hid (HS0.out.below L3.out)
          have hz3 : w.heap.size + 1 ≤ w9.heap.size := Nat.le_trans hz2 hb3.size
          have Ho3 : Hid (w9.ownsRow (w.heap.size + 1) 48 3 (.slice (some ⟨g, 0, none⟩) (done ++ [(⟨term, i, i + n⟩ : Pl.Tk)]).length gcap) (done ++ [(⟨term, i, i + n⟩ : Pl.Tk)]).length (kCells (done ++ [⟨term, i, i + n⟩]))) := by
            refine Lib.hid ?_
            rw [kCells_snoc, List.length_append]
            have e : ((i + n : Nat) : Int) = (i : Int) + (n : Int) := by omega
            show w9.ownsRow _ _ _ (.slice (some ⟨g, 0, none⟩) (done.length + 1) gcap) (done.length + 1) (kCells done ++ [.int .i64 (term : Nat), .int .i64 (i : Nat), .int .i64 ((i + n : Nat) : Int)])
            rw [e]
            exact hown9
          have hlen : (done ++ [(⟨term, i, i + n⟩ : Pl.Tk)]).length = done.length + 1 := by simp
          have Hlen := Lib.hid hlen
          clear hown9 hgrow9 hat9 hob hb3 G2 T2 S2 L2 hz2 Ho2 hlen
          go_wp2_with fail
          go_roundw
          case rel => exact ⟨i + n, k, f, done ++ [⟨term, i, i + n⟩], some ⟨g, 0, none⟩, gcap, by rw [Hlen.out], by go_num, rfl, by omega, by omega, by omega, by rw [Hlen.out]; omega, HC2, Ho3, G3, T3, S3, L3, hz3⟩
          case measure => simp [intOf]; omega
    · have hie : i = x.size := by omega
      have HC2 : Hid (Pl.cut T S x.data.toList x.size 0 0 = (done ++ [⟨0, i, i⟩], 0, k)) := Lib.hid (by have := HC.out; rw [Pl.cut_end T S x.data.toList f i k (by show x.size ≤ i; omega)] at this; exact this)
      clear HC hie
      go_wp2_with (first | (at_builtin; refine list_append_one rfl _ _ 43 rfl 48 (w.heap.size + 1) 3 24 elt_tk _ _ _ rfl (Ho.out.alloc _) ⟨wr.heap.size, 0, none⟩ 1 [.int .i64 0, .int .i64 (i : Nat), .int .i64 (i : Nat)] rfl rfl (World.news_of_block (heap_alloc_new _ _)) (by simp [Value.oneCell']) (by unfold maxLen; omega) (by omega) (by simp; omega) ?_; intro g gcap w9 hown9 hgrow9 hbg9 hlt9 hat9))
      have HB9 : Hid (Below w.heap.size w w9) := by
        have hob : ∀ g, (Value.slice a done.length cap).ownBlock = some g → w.heap.size + 1 ≤ g := (owns_form Ho.out).elim fun _ h => h.elim fun _ h => h.2
        exact Lib.hid ((L1.out.alloc (by omega) _).grown hgrow9 (by simp; omega) (fun g h => by have := hob g h; omega))
      have hs9 : Hid (SlK w9 (some ⟨g, 0, none⟩) (done ++ [⟨0, i, i⟩])) := Lib.hid (SlK.of_row (by rw [kCells_snoc]; exact hown9) (by simp))
      clear hown9 hgrow9 hat9
      go_ret3
      refine ⟨some ⟨g, 0, none⟩, gcap, ?_, ?_, HB9.out⟩
      · rw [HC2.out]; simp
      · rw [HC2.out]; exact hs9.out
end Go.Proofs.Ytgoggooeipcgpaa
