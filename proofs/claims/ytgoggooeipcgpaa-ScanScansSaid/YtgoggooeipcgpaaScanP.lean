/-
  Walks of chapter 17: longest.
-/
import Derived.Test.YtgoggooeipcgpaaScanO
namespace Go.Proofs.Ytgoggooeipcgpaa
open Go.RowKit
set_option linter.unusedVariables false

set_option maxRecDepth 100000 in
set_option maxHeartbeats 3200000 in
theorem longest_any' (g : Nat) (ta : Option Addr) (T : List Pl.Pt) (tc : Nat) (sa : Option Addr) (S : List Pl.Pt) (sc : Nat) (x : ByteArray) (i k0 : Nat) (w : World) (hg : ScB w g ta T tc sa S sc x i k0) (hT : SlT w ta T) (hS : SlP w sa S)
    (oT : OkP T) (oS : OkP S) (lT : T.length ≤ 9223372036854775806) (lS : S.length ≤ 9223372036854775806) (hx : x.size ≤ maxLen) :
    Calls Try.prog 41 #[.pointer (some ⟨g, 0, none⟩)] w fun e w' =>
      e = .returned (.tuple #[.int .i64 ((Pl.step T S x.data.toList i).1 : Nat), .int .i64 ((Pl.step T S x.data.toList i).2 : Nat)]) ∧ Below w.heap.size w w' := by
  have lg := hg.lt
  have HG := Lib.hid hg
  have HT := Lib.hid hT
  have HS := Lib.hid hS
  have HoT := Lib.hid oT
  have HoS := Lib.hid oS
  clear hg hT hS oT oS
  go_enter Try.func41, Try.ntmps41
  have c0 := HG.out.cells.1
  have c1 := HG.out.cells.2.1
  have lg1 : g < w.heap.size + 1 := by omega
  have lg2 : g < w.heap.size + 1 + 1 := by omega
  go_wp2_with fail
  obtain ⟨W, hW⟩ : ∃ W, W = ((w.alloc (.cells #[.pointer (some ⟨g, 0, none⟩)] 55)).alloc (.cells #[.int .i64 0] 3)).alloc (.cells #[.int .i64 0] 3) := ⟨_, rfl⟩
  rw [← hW]
  have F0 : Hid (W.heap[w.heap.size]? = some (.cells #[.pointer (some ⟨g, 0, none⟩)] 55 (0, 0))) := by
    refine Lib.hid ?_
    rw [hW, Below.heap_alloc _ _ _ (by simp; omega), Below.heap_alloc _ _ _ (by simp)]
    exact heap_alloc_new _ _
  have F1 : Hid (W.heap[w.heap.size + 1]? = some (.cells #[.int .i64 (((0, 0) : Nat × Nat).1 : Nat)] 3 (0, 0))) := by
    refine Lib.hid ?_
    rw [hW, Below.heap_alloc _ _ _ (by simp)]
    exact heap_alloc2_new _ _ _
  have F2 : Hid (W.heap[w.heap.size + 1 + 1]? = some (.cells #[.int .i64 (((0, 0) : Nat × Nat).2 : Nat)] 3 (0, 0))) := by
    refine Lib.hid ?_
    have := heap_alloc2_new (w.alloc (.cells #[.pointer (some ⟨g, 0, none⟩)] 55)) (.cells #[.int .i64 0] 3) (.cells #[.int .i64 0] 3)
    rw [World.size_alloc] at this
    rw [hW]; exact this
  have FB : Hid (Below w.heap.size w W) := by
    refine Lib.hid ?_
    rw [hW]; exact (((Below.refl _ _).alloc (Nat.le_refl _) _).alloc (by simp) _).alloc (by simp; omega) _
  have fz : w.heap.size + 3 ≤ W.heap.size := by rw [hW]; simp
  clear hW c0 c1
  go_loopw [16] (fun q wr => ∃ k : Nat, q = .int .i64 k ∧ k ≤ T.length ∧ Hid (wr.heap[w.heap.size]? = some (.cells #[.pointer (some ⟨g, 0, none⟩)] 55 (0, 0))) ∧ Hid (wr.heap[w.heap.size + 1]? = some (.cells #[.int .i64 ((Pl.keepT x.data.toList i (T.take k) 0 (0, 0)).1 : Nat)] 3 (0, 0))) ∧ Hid (wr.heap[w.heap.size + 1 + 1]? = some (.cells #[.int .i64 ((Pl.keepT x.data.toList i (T.take k) 0 (0, 0)).2 : Nat)] 3 (0, 0))) ∧ Hid (Below w.heap.size w wr) ∧ w.heap.size + 3 ≤ wr.heap.size) (fun q _ => T.length - (intOf q).toNat)
  case atStart => exact ⟨0, rfl, by omega, F0, F1, F2, FB, fz⟩
  case round =>
    clear F0 F1 F2 FB fz
    obtain ⟨k, rfl, hk, F0, F1, F2, FB, fz⟩ := hrel
    by_cases hlt : k < T.length
    · obtain ⟨b, off, rfl, d0, d1, d2, d3⟩ := HT.out k hlt
      have hbl : b < w.heap.size := World.block_lt_of_cell? w _ d0
      have e0 := (FB.out.cell (p := ⟨b, off + k * 4, none⟩) hbl).trans d0
      have e1 := (FB.out.cell (p := ⟨b, off + k * 4 + 1, none⟩) hbl).trans d1
      have e2 := (FB.out.cell (p := ⟨b, off + k * 4 + 2, none⟩) hbl).trans d2
      have e3 := (FB.out.cell (p := ⟨b, off + k * 4 + 3, none⟩) hbl).trans d3
      have hsum : IntKind.i64.wrap ((k : Int) + 1) = (k : Int) + 1 := IntWalk.i64_in _ (by omega)
      have hok := HoT.out T[k] (List.getElem_mem hlt)
      have HK : Hid (Pl.keepT x.data.toList i (T.take (k + 1)) 0 (0, 0) = Pl.keep (Pl.keepT x.data.toList i (T.take k) 0 (0, 0)) (k + 1) (Pl.lp x.data.toList i T[k])) := by
        refine Lib.hid ?_
        rw [List.take_succ_eq_append_getElem hlt, Pl.keepT_snoc, List.length_take, Nat.min_eq_left (by omega), Nat.zero_add]
      obtain ⟨st, hst⟩ : ∃ st, st = Pl.keepT x.data.toList i (T.take k) 0 (0, 0) := ⟨_, rfl⟩
      rw [← hst] at HK F1 F2
      clear hst d0 d1 d2 d3
      have hbr : b < wr.heap.size := by omega
      have Hcall := Lib.hid (fun W hg hc ht hm => keep_any T[k] hok (k + 1) st.1 st.2 g w.heap.size (w.heap.size + 1) (w.heap.size + 1 + 1) (some ⟨b, off, none⟩) T tc sa S sc x i k0 W hx hg hc ht hm (by omega))
      clear hok
      go_wp2_with fail
      have hw1 : ∀ n, n < wr.heap.size → (wr.alloc (.cells #[.string ⟨#[116]⟩, .string T[k].t, .string T[k].s, .bool T[k].m] 70)).heap[n]? = wr.heap[n]? := fun n hn => Below.heap_alloc _ _ _ hn
      refine (Hcall.out _ ((hw1 _ (by omega)).trans ((FB.out.block _ lg).trans HG.out)) ((hw1 _ (by omega)).trans F0.out) ((hw1 _ (by omega)).trans F1.out) ((hw1 _ (by omega)).trans F2.out)).mono ?_
      rintro e w2 ⟨rfl, hb, ht, hm⟩
      have F0' : Hid (w2.heap[w.heap.size]? = some (.cells #[.pointer (some ⟨g, 0, none⟩)] 55 (0, 0))) := Lib.hid ((hb.block _ (by simp; omega) (by omega) (by omega)).trans ((hw1 _ (by omega)).trans F0.out))
      have FB' : Hid (Below w.heap.size w w2) := Lib.hid ((FB.out.alloc (by omega) _).trans (hb.below (by omega) (by omega) (by simp; omega)))
      have fz' : w.heap.size + 3 ≤ w2.heap.size := by have := hb.size; simp at this; omega
      rw [show Pl.keep (st.1, st.2) (k + 1) (Pl.lp x.data.toList i T[k]) = Pl.keepT x.data.toList i (T.take (k + 1)) 0 (0, 0) from HK.out.symm] at ht hm
      have F1' := Lib.hid ht
      have F2' := Lib.hid hm
      clear e0 e1 e2 e3 ht hm hb hw1 Hcall F0 F1 F2 FB fz HK
      go_wp2_with fail
      go_roundw
      case rel => exact ⟨k + 1, by go_num, by omega, F0', F1', F2', FB', fz'⟩
      case measure => simp [intOf]; omega
    · obtain rfl : k = T.length := by omega
      rw [List.take_length] at F1 F2
      clear hlt
      have c0 := (FB.out.cell (p := ⟨g, 0, none⟩) lg).trans HG.out.cells.1
      have c1 := (FB.out.cell (p := ⟨g, 1, none⟩) lg).trans HG.out.cells.2.1
      have c2 : wr.cell? ⟨w.heap.size, 0, none⟩ = some (.pointer (some ⟨g, 0, none⟩)) := by rw [cell_of_row _ _ _ _ _ _ F0.out]; rfl
      obtain ⟨st, hst⟩ : ∃ st, st = Pl.keepT x.data.toList i T 0 (0, 0) := ⟨_, rfl⟩
      rw [← hst] at F1 F2
      have Hst := Lib.hid hst
      clear hst
      go_wp2_with fail
      clear c0 c1 c2
      go_loopw [34] (fun q wr => ∃ k : Nat, q = .int .i64 k ∧ k ≤ S.length ∧ Hid (wr.heap[w.heap.size]? = some (.cells #[.pointer (some ⟨g, 0, none⟩)] 55 (0, 0))) ∧ Hid (wr.heap[w.heap.size + 1]? = some (.cells #[.int .i64 ((Pl.keepS x.data.toList i (S.take k) st).1 : Nat)] 3 (0, 0))) ∧ Hid (wr.heap[w.heap.size + 1 + 1]? = some (.cells #[.int .i64 ((Pl.keepS x.data.toList i (S.take k) st).2 : Nat)] 3 (0, 0))) ∧ Hid (Below w.heap.size w wr) ∧ w.heap.size + 3 ≤ wr.heap.size) (fun q _ => S.length - (intOf q).toNat)
      case atStart => exact ⟨0, rfl, by omega, F0, F1, F2, FB, fz⟩
      case round =>
        clear F0 F1 F2 FB fz
        obtain ⟨k, rfl, hk, F0, F1, F2, FB, fz⟩ := hrel
        by_cases hlt : k < S.length
        · obtain ⟨b, off, rfl, d1, d2, d3⟩ := HS.out k hlt
          have hbl : b < w.heap.size := World.block_lt_of_cell? w _ d1
          have e1 := (FB.out.cell (p := ⟨b, off + k * 3, none⟩) hbl).trans d1
          have e2 := (FB.out.cell (p := ⟨b, off + k * 3 + 1, none⟩) hbl).trans d2
          have e3 := (FB.out.cell (p := ⟨b, off + k * 3 + 2, none⟩) hbl).trans d3
          have hok := HoS.out S[k] (List.getElem_mem hlt)
          have HK : Hid (Pl.keepS x.data.toList i (S.take (k + 1)) st = Pl.keep (Pl.keepS x.data.toList i (S.take k) st) 0 (Pl.lp x.data.toList i S[k])) := by
            refine Lib.hid ?_
            rw [List.take_succ_eq_append_getElem hlt, Pl.keepS_snoc]
          obtain ⟨s2, hs2⟩ : ∃ s2, s2 = Pl.keepS x.data.toList i (S.take k) st := ⟨_, rfl⟩
          rw [← hs2] at HK F1 F2
          clear hs2 d1 d2 d3
          have hbr : b < wr.heap.size := by omega
          have Hcall := Lib.hid (fun W hg hc ht hm => keep_any S[k] hok 0 s2.1 s2.2 g w.heap.size (w.heap.size + 1) (w.heap.size + 1 + 1) ta T tc (some ⟨b, off, none⟩) S sc x i k0 W hx hg hc ht hm (by omega))
          clear hok
          go_wp2_with fail
          have hw1 : ∀ n, n < wr.heap.size → (wr.alloc (.cells #[.string S[k].t, .string S[k].s, .bool S[k].m] 23)).heap[n]? = wr.heap[n]? := fun n hn => Below.heap_alloc _ _ _ hn
          refine (Hcall.out _ ((hw1 _ (by omega)).trans ((FB.out.block _ lg).trans HG.out)) ((hw1 _ (by omega)).trans F0.out) ((hw1 _ (by omega)).trans F1.out) ((hw1 _ (by omega)).trans F2.out)).mono ?_
          rintro e w2 ⟨rfl, hb, ht, hm⟩
          have F0' : Hid (w2.heap[w.heap.size]? = some (.cells #[.pointer (some ⟨g, 0, none⟩)] 55 (0, 0))) := Lib.hid ((hb.block _ (by simp; omega) (by omega) (by omega)).trans ((hw1 _ (by omega)).trans F0.out))
          have FB' : Hid (Below w.heap.size w w2) := Lib.hid ((FB.out.alloc (by omega) _).trans (hb.below (by omega) (by omega) (by simp; omega)))
          have fz' : w.heap.size + 3 ≤ w2.heap.size := by have := hb.size; simp at this; omega
          rw [show Pl.keep (s2.1, s2.2) 0 (Pl.lp x.data.toList i S[k]) = Pl.keepS x.data.toList i (S.take (k + 1)) st from HK.out.symm] at ht hm
          have F1' := Lib.hid ht
          have F2' := Lib.hid hm
          clear e1 e2 e3 ht hm hb hw1 Hcall F0 F1 F2 FB fz HK
          go_wp2_with fail
          go_roundw
          case rel => exact ⟨k + 1, by go_num, by omega, F0', F1', F2', FB', fz'⟩
          case measure => simp [intOf]; omega
        · obtain rfl : k = S.length := by omega
          rw [List.take_length] at F1 F2
          have Hfin : Hid (Pl.step T S x.data.toList i = Pl.keepS x.data.toList i S st) := Lib.hid (by rw [← Pl.longest_eq, Hst.out]; rfl)
          rw [← Hfin.out] at F1 F2
          clear hlt Hfin
          have q1 : wr.cell? ⟨w.heap.size + 1, 0, none⟩ = some (.int .i64 ((Pl.step T S x.data.toList i).1 : Nat)) := by rw [cell_of_row _ _ _ _ _ _ F1.out]; rfl
          have q2 : wr.cell? ⟨w.heap.size + 1 + 1, 0, none⟩ = some (.int .i64 ((Pl.step T S x.data.toList i).2 : Nat)) := by rw [cell_of_row _ _ _ _ _ _ F2.out]; rfl
          have q3 : wr.frozen? ⟨w.heap.size + 1, 0, none⟩ = false := frozen_of_row _ _ _ _ _ F1.out
          have q4 : wr.frozen? ⟨w.heap.size + 1 + 1, 0, none⟩ = false := frozen_of_row _ _ _ _ _ F2.out
          go_wp2_with fail
          go_region
          go_wp2_with fail
          obtain ⟨V, hV⟩ : ∃ V, V = ((wr.setCell ⟨w.heap.size + 1, 0, none⟩ (.int .i64 ((Pl.step T S x.data.toList i).1 : Nat))).setCell ⟨w.heap.size + 1 + 1, 0, none⟩ (.int .i64 ((Pl.step T S x.data.toList i).2 : Nat))).drew := ⟨_, rfl⟩
          rw [← hV]
          have v1 : V.cell? ⟨w.heap.size + 1, 0, none⟩ = some (.int .i64 ((Pl.step T S x.data.toList i).1 : Nat)) := by
            refine (cell_of_row V _ _ (#[.int .i64 ((Pl.step T S x.data.toList i).1 : Nat)]) 3 (0, 0) ?_).trans rfl
            rw [hV]
            refine (heap_setCell_other _ _ _ _ (by simp)).trans ((heap_setCell_same _ _ _ _ _ _ F1.out).trans ?_)
            rfl
          have v2 : V.cell? ⟨w.heap.size + 1 + 1, 0, none⟩ = some (.int .i64 ((Pl.step T S x.data.toList i).2 : Nat)) := by
            refine (cell_of_row V _ _ (#[.int .i64 ((Pl.step T S x.data.toList i).2 : Nat)]) 3 (0, 0) ?_).trans rfl
            rw [hV]
            refine (heap_setCell_same _ _ _ _ _ _ ((heap_setCell_other _ _ _ _ (by simp)).trans F2.out)).trans ?_
            rfl
          have vB : Below w.heap.size w V := by rw [hV]; exact ((FB.out.setCell (by simp) _).setCell (by simp; omega) _).drew
          clear hV q1 q2 q3 q4
          exact bodyPost_ret (v := .tuple #[.int .i64 ((Pl.step T S x.data.toList i).1 : Nat), .int .i64 ((Pl.step T S x.data.toList i).2 : Nat)]) (by simp [results, Try.results41, go_sem, v1, v2]) rfl ⟨rfl, vB⟩
end Go.Proofs.Ytgoggooeipcgpaa
