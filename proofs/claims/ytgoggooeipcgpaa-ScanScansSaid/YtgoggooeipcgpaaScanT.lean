/-
  Walks of chapter 17: the chapter's examples.
-/
import Derived.Test.YtgoggooeipcgpaaScanS
namespace Go.Proofs.Ytgoggooeipcgpaa
open Go.RowKit
set_option linter.unusedVariables false

def exT : List Pl.Pt := [⟨⟨#[]⟩, ⟨#[48, 49, 50, 51, 52, 53, 54, 55, 56, 57]⟩, true⟩, ⟨⟨#[105, 102]⟩, ⟨#[]⟩, false⟩, ⟨⟨#[]⟩, ⟨#[97, 98, 99, 100, 101, 102, 103, 104, 105, 106, 107, 108, 109, 110, 111, 112, 113, 114, 115, 116, 117, 118, 119, 120, 121, 122]⟩, true⟩]
def exS : List Pl.Pt := [⟨⟨#[32]⟩, ⟨#[]⟩, false⟩]
def exX : ByteArray := ⟨#[105, 102, 32, 105, 102, 50, 32, 105, 102, 102]⟩
def exY : ByteArray := ⟨#[97, 59]⟩
def exL : List Pl.Tk := [⟨2, 0, 2⟩, ⟨2, 3, 5⟩, ⟨1, 5, 6⟩, ⟨3, 7, 10⟩, ⟨0, 10, 10⟩]
def exM : List Pl.Tk := [⟨3, 0, 1⟩, ⟨0, 1, 1⟩]

theorem cut_exX : (Pl.cut exT exS exX.data.toList exX.size 0 0).1 = exL ∧ (Pl.cut exT exS exX.data.toList exX.size 0 0).2.1 = 0 := by
  have h : (Pl.cut exT exS exX.data.toList exX.size 0 0).1.map (fun t => (t.term, t.fr, t.to)) = [(2, 0, 2), (2, 3, 5), (1, 5, 6), (3, 7, 10), (0, 10, 10)] := by decide +kernel
  refine ⟨?_, by decide +kernel⟩
  generalize (Pl.cut exT exS exX.data.toList exX.size 0 0).1 = l at h ⊢
  match l, h with
  | [⟨_, _, _⟩, ⟨_, _, _⟩, ⟨_, _, _⟩, ⟨_, _, _⟩, ⟨_, _, _⟩], h => simp at h; simp [exL, h]
theorem cut_exY : (Pl.cut exT exS exY.data.toList exY.size 0 0).1 = exM ∧ (Pl.cut exT exS exY.data.toList exY.size 0 0).2.1 = 21 := by
  have h : (Pl.cut exT exS exY.data.toList exY.size 0 0).1.map (fun t => (t.term, t.fr, t.to)) = [(3, 0, 1), (0, 1, 1)] := by decide +kernel
  refine ⟨?_, by decide +kernel⟩
  generalize (Pl.cut exT exS exY.data.toList exY.size 0 0).1 = l at h ⊢
  match l, h with
  | [⟨_, _, _⟩, ⟨_, _, _⟩], h => simp at h; simp [exM, h]

theorem ok_exT : OkP exT := by
  intro p hp
  simp only [exT, List.mem_cons, List.not_mem_nil, or_false] at hp
  unfold maxLen
  rcases hp with rfl | rfl | rfl <;> decide
theorem ok_exS : OkP exS := by
  intro p hp
  simp only [exS, List.mem_cons, List.not_mem_nil, or_false] at hp
  unfold maxLen
  rcases hp with rfl <;> decide

/-- A call of All, its answer known. -/
def AllK (l : List Pl.Tk) (er : Nat) (w : World) (e : Ending) (w' : World) : Prop :=
  ∃ a cap, e = .returned (.tuple #[.slice a l.length cap, .int .i64 (er : Nat)]) ∧ SlK w' a l ∧ Below w.heap.size w w'

theorem exT_in (w : World) : SlP ((w.alloc (.cells #[.string ⟨#[]⟩, .string ⟨#[48, 49, 50, 51, 52, 53, 54, 55, 56, 57]⟩, .bool true, .string ⟨#[105, 102]⟩, .string ⟨#[]⟩, .bool false, .string ⟨#[]⟩, .string ⟨#[97, 98, 99, 100, 101, 102, 103, 104, 105, 106, 107, 108, 109, 110, 111, 112, 113, 114, 115, 116, 117, 118, 119, 120, 121, 122]⟩, .bool true] 23)).alloc (.cells #[.string ⟨#[32]⟩, .string ⟨#[]⟩, .bool false] 23)) (some ⟨w.heap.size, 0, none⟩) exT := by
  have h : ((w.alloc (.cells #[.string ⟨#[]⟩, .string ⟨#[48, 49, 50, 51, 52, 53, 54, 55, 56, 57]⟩, .bool true, .string ⟨#[105, 102]⟩, .string ⟨#[]⟩, .bool false, .string ⟨#[]⟩, .string ⟨#[97, 98, 99, 100, 101, 102, 103, 104, 105, 106, 107, 108, 109, 110, 111, 112, 113, 114, 115, 116, 117, 118, 119, 120, 121, 122]⟩, .bool true] 23)).alloc (.cells #[.string ⟨#[32]⟩, .string ⟨#[]⟩, .bool false] 23)).heap[w.heap.size]? = some (.cells #[.string ⟨#[]⟩, .string ⟨#[48, 49, 50, 51, 52, 53, 54, 55, 56, 57]⟩, .bool true, .string ⟨#[105, 102]⟩, .string ⟨#[]⟩, .bool false, .string ⟨#[]⟩, .string ⟨#[97, 98, 99, 100, 101, 102, 103, 104, 105, 106, 107, 108, 109, 110, 111, 112, 113, 114, 115, 116, 117, 118, 119, 120, 121, 122]⟩, .bool true] 23 (0, 0)) := (Below.heap_alloc _ _ _ (by simp)).trans (heap_alloc_new _ _)
  intro i hi
  refine ⟨w.heap.size, 0, rfl, ?_⟩
  have hi' : i < 3 := hi
  rcases i with _ | _ | _ | i
  · refine ⟨?_, ?_, ?_⟩ <;> (rw [cell_of_row _ _ _ _ _ _ h]; rfl)
  · refine ⟨?_, ?_, ?_⟩ <;> (rw [cell_of_row _ _ _ _ _ _ h]; rfl)
  · refine ⟨?_, ?_, ?_⟩ <;> (rw [cell_of_row _ _ _ _ _ _ h]; rfl)
  · omega
theorem exS_in (w : World) : SlP ((w.alloc (.cells #[.string ⟨#[]⟩, .string ⟨#[48, 49, 50, 51, 52, 53, 54, 55, 56, 57]⟩, .bool true, .string ⟨#[105, 102]⟩, .string ⟨#[]⟩, .bool false, .string ⟨#[]⟩, .string ⟨#[97, 98, 99, 100, 101, 102, 103, 104, 105, 106, 107, 108, 109, 110, 111, 112, 113, 114, 115, 116, 117, 118, 119, 120, 121, 122]⟩, .bool true] 23)).alloc (.cells #[.string ⟨#[32]⟩, .string ⟨#[]⟩, .bool false] 23)) (some ⟨w.heap.size + 1, 0, none⟩) exS := by
  have h : ((w.alloc (.cells #[.string ⟨#[]⟩, .string ⟨#[48, 49, 50, 51, 52, 53, 54, 55, 56, 57]⟩, .bool true, .string ⟨#[105, 102]⟩, .string ⟨#[]⟩, .bool false, .string ⟨#[]⟩, .string ⟨#[97, 98, 99, 100, 101, 102, 103, 104, 105, 106, 107, 108, 109, 110, 111, 112, 113, 114, 115, 116, 117, 118, 119, 120, 121, 122]⟩, .bool true] 23)).alloc (.cells #[.string ⟨#[32]⟩, .string ⟨#[]⟩, .bool false] 23)).heap[w.heap.size + 1]? = some (.cells #[.string ⟨#[32]⟩, .string ⟨#[]⟩, .bool false] 23 (0, 0)) := heap_alloc2_new _ _ _
  intro i hi
  refine ⟨w.heap.size + 1, 0, rfl, ?_⟩
  have hi' : i < 1 := hi
  rcases i with _ | i
  · refine ⟨?_, ?_, ?_⟩ <;> (rw [cell_of_row _ _ _ _ _ _ h]; rfl)
  · omega

def exLc : Array Value := #[.int .i64 2, .int .i64 0, .int .i64 2, .int .i64 2, .int .i64 3, .int .i64 5, .int .i64 1, .int .i64 5, .int .i64 6, .int .i64 3, .int .i64 7, .int .i64 10, .int .i64 0, .int .i64 10, .int .i64 10]
def exMc : Array Value := #[.int .i64 3, .int .i64 0, .int .i64 1, .int .i64 0, .int .i64 1, .int .i64 1]
theorem exL_in (w : World) : SlK (w.alloc (.cells exLc 48)) (some ⟨w.heap.size, 0, none⟩) exL := by
  have h : (w.alloc (.cells exLc 48)).heap[w.heap.size]? = some (.cells exLc 48 (0, 0)) := heap_alloc_new _ _
  intro i hi
  refine ⟨w.heap.size, 0, rfl, ?_⟩
  have hi' : i < 5 := hi
  rcases i with _ | _ | _ | _ | _ | i
  · refine ⟨?_, ?_, ?_⟩ <;> (rw [cell_of_row _ _ _ _ _ _ h]; rfl)
  · refine ⟨?_, ?_, ?_⟩ <;> (rw [cell_of_row _ _ _ _ _ _ h]; rfl)
  · refine ⟨?_, ?_, ?_⟩ <;> (rw [cell_of_row _ _ _ _ _ _ h]; rfl)
  · refine ⟨?_, ?_, ?_⟩ <;> (rw [cell_of_row _ _ _ _ _ _ h]; rfl)
  · refine ⟨?_, ?_, ?_⟩ <;> (rw [cell_of_row _ _ _ _ _ _ h]; rfl)
  · omega
theorem exM_in (w : World) : SlK (w.alloc (.cells exMc 48)) (some ⟨w.heap.size, 0, none⟩) exM := by
  have h : (w.alloc (.cells exMc 48)).heap[w.heap.size]? = some (.cells exMc 48 (0, 0)) := heap_alloc_new _ _
  intro i hi
  refine ⟨w.heap.size, 0, rfl, ?_⟩
  have hi' : i < 2 := hi
  rcases i with _ | _ | i
  · refine ⟨?_, ?_, ?_⟩ <;> (rw [cell_of_row _ _ _ _ _ _ h]; rfl)
  · refine ⟨?_, ?_, ?_⟩ <;> (rw [cell_of_row _ _ _ _ _ _ h]; rfl)
  · omega

theorem exX_any (ta sa : Option Addr) (tc sc : Nat) (w : World) (hT : SlT w ta exT) (hS : SlP w sa exS) :
    Calls Try.prog 27 #[.agg #[.slice ta 3 tc, .slice sa 1 sc, .slice none 0 0, .string ⟨#[]⟩, .slice none 0 0], .string exX] w (AllK exL 0 w) := by
  refine (sall_any exT exS ta sa tc sc exX w hT hS ok_exT ok_exS (by decide) (by decide) (by decide)).mono ?_
  rintro e w' ⟨a, cap, rfl, h1, h2⟩
  rw [cut_exX.1] at h1
  exact ⟨a, cap, by rw [cut_exX.1, cut_exX.2], h1, h2⟩
theorem exY_any (ta sa : Option Addr) (tc sc : Nat) (w : World) (hT : SlT w ta exT) (hS : SlP w sa exS) :
    Calls Try.prog 27 #[.agg #[.slice ta 3 tc, .slice sa 1 sc, .slice none 0 0, .string ⟨#[]⟩, .slice none 0 0], .string exY] w (AllK exM 21 w) := by
  refine (sall_any exT exS ta sa tc sc exY w hT hS ok_exT ok_exS (by decide) (by decide) (by decide)).mono ?_
  rintro e w' ⟨a, cap, rfl, h1, h2⟩
  rw [cut_exY.1] at h1
  exact ⟨a, cap, by rw [cut_exY.1, cut_exY.2], h1, h2⟩

set_option maxRecDepth 100000 in
set_option maxHeartbeats 3200000 in
theorem awake17_any (w : World) :
    Calls Try.prog 24 #[] w fun e w' => e = .returned (.bool true) ∧ Below w.heap.size w w' := by
  go_enter Try.func24, Try.ntmps24
  go_wp2_with fail
  have T0 := Lib.hid (exT_in w)
  have S0 := Lib.hid (exS_in w)
  have L0 : Hid (Below w.heap.size w ((w.alloc (.cells #[.string ⟨#[]⟩, .string ⟨#[48, 49, 50, 51, 52, 53, 54, 55, 56, 57]⟩, .bool true, .string ⟨#[105, 102]⟩, .string ⟨#[]⟩, .bool false, .string ⟨#[]⟩, .string ⟨#[97, 98, 99, 100, 101, 102, 103, 104, 105, 106, 107, 108, 109, 110, 111, 112, 113, 114, 115, 116, 117, 118, 119, 120, 121, 122]⟩, .bool true] 23)).alloc (.cells #[.string ⟨#[32]⟩, .string ⟨#[]⟩, .bool false] 23))) := Lib.hid (((Below.refl _ _).alloc (Nat.le_refl _) _).alloc (by simp) _)
  generalize ((w.alloc (.cells #[.string ⟨#[]⟩, .string ⟨#[48, 49, 50, 51, 52, 53, 54, 55, 56, 57]⟩, .bool true, .string ⟨#[105, 102]⟩, .string ⟨#[]⟩, .bool false, .string ⟨#[]⟩, .string ⟨#[97, 98, 99, 100, 101, 102, 103, 104, 105, 106, 107, 108, 109, 110, 111, 112, 113, 114, 115, 116, 117, 118, 119, 120, 121, 122]⟩, .bool true] 23)).alloc (.cells #[.string ⟨#[32]⟩, .string ⟨#[]⟩, .bool false] 23)) = W at T0 S0 L0 ⊢
  refine (made_any exT exS (some ⟨w.heap.size, 0, none⟩) (some ⟨w.heap.size + 1, 0, none⟩) 3 1 W T0.out (by decide)).mono ?_
  rintro e w2 ⟨ta, tc, rfl, hT, hb⟩
  have T1 := Lib.hid hT
  have S1 := Lib.hid (S0.out.below hb)
  have L1 := Lib.hid (L0.out.trans (hb.mono L0.out.size))
  clear hT hb T0 S0 L0
  rw [show exT.length = 3 from rfl, show exS.length = 1 from rfl]
  go_wp2_with fail
  have hbx := ((Below.refl w2.heap.size w2).alloc (Nat.le_refl _) (.cells #[.slice ta 3 tc, .slice (some ⟨w.heap.size + 1, 0, none⟩) 1 1, .slice none 0 0, .string ⟨#[]⟩, .slice none 0 0] 40))
  have T1' := Lib.hid (T1.out.below hbx)
  have S1' := Lib.hid (S1.out.below hbx)
  have L1' := Lib.hid (L1.out.trans (hbx.mono L1.out.size))
  have hz : w2.heap.size < (w2.alloc (.cells #[.slice ta 3 tc, .slice (some ⟨w.heap.size + 1, 0, none⟩) 1 1, .slice none 0 0, .string ⟨#[]⟩, .slice none 0 0] 40)).heap.size := by simp
  have B1 := Lib.hid (heap_alloc_new w2 (.cells #[.slice ta 3 tc, .slice (some ⟨w.heap.size + 1, 0, none⟩) 1 1, .slice none 0 0, .string ⟨#[]⟩, .slice none 0 0] 40))
  generalize (w2.alloc (.cells #[.slice ta 3 tc, .slice (some ⟨w.heap.size + 1, 0, none⟩) 1 1, .slice none 0 0, .string ⟨#[]⟩, .slice none 0 0] 40)) = W2 at hbx T1' S1' L1' hz B1 ⊢
  clear hbx T1 S1 L1
  refine (exX_any _ _ _ _ _ T1'.out S1'.out).mono ?_
  rintro e w3 ⟨la, lc, rfl, hl, hb⟩
  have K2 := Lib.hid hl
  have T2 := Lib.hid (T1'.out.below hb)
  have S2 := Lib.hid (S1'.out.below hb)
  have L2 := Lib.hid (L1'.out.trans (hb.mono L1'.out.size))
  have B2 := Lib.hid ((hb.block _ hz).trans B1.out)
  clear hl hb T1' S1' L1' B1
  rw [show exL.length = 5 from rfl]
  have c0 := cell_of_row _ _ 0 _ _ _ B2.out
  have c1 := cell_of_row _ _ 1 _ _ _ B2.out
  have c2 := cell_of_row _ _ 2 _ _ _ B2.out
  have c3 := cell_of_row _ _ 3 _ _ _ B2.out
  have c4 := cell_of_row _ _ 4 _ _ _ B2.out
  simp at c0 c1 c2 c3 c4
  go_wp2_with fail
  refine (exY_any _ _ _ _ _ T2.out S2.out).mono ?_
  rintro e w4 ⟨ma, mc, rfl, hl, hb⟩
  have M3 := Lib.hid hl
  have K3 := Lib.hid (K2.out.below hb)
  have L3 := Lib.hid (L2.out.trans (hb.mono L2.out.size))
  clear hl hb T2 S2 L2 c0 c1 c2 c3 c4 B2
  rw [show exM.length = 2 from rfl]
  go_wp2_with fail
  refine (toks_same exL _ _ _ _ _ (K3.out.below ((Below.refl _ _).alloc (Nat.le_refl _) _)) (exL_in w4) (by decide)).mono ?_
  rintro e w5 ⟨rfl, hb⟩
  have hb2 := ((Below.refl w4.heap.size w4).alloc (Nat.le_refl _) (.cells exLc 48)).trans (hb.mono (by simp))
  have M4 := Lib.hid (M3.out.below hb2)
  have L4 := Lib.hid (L3.out.trans (hb2.mono L3.out.size))
  clear hb hb2 M3 K3 L3
  go_wp2_with fail
  refine (toks_same exM _ _ _ _ _ (M4.out.below ((Below.refl _ _).alloc (Nat.le_refl _) _)) (exM_in w5) (by decide)).mono ?_
  rintro e w6 ⟨rfl, hb⟩
  have hb2 := ((Below.refl w5.heap.size w5).alloc (Nat.le_refl _) (.cells exMc 48)).trans (hb.mono (by simp))
  have L5 := Lib.hid (L4.out.trans (hb2.mono L4.out.size))
  clear hb hb2 M4 L4
  go_wp2_with fail
  go_ret
  exact ⟨rfl, L5.out⟩
end Go.Proofs.Ytgoggooeipcgpaa
