/-
  Walks of chapter 17: the reference's Step.
-/
import Derived.Test.YtgoggooeipcgpaaScanL
namespace Go.Proofs.Ytgoggooeipcgpaa
open Go.RowKit
set_option linter.unusedVariables false

/-- A grammar of patterns in its box. -/
def GBox (w : World) (b : Nat) (ta : Option Addr) (T : List Pl.Pt) (tc : Nat) (sa : Option Addr) (S : List Pl.Pt) (sc : Nat) : Prop :=
  w.cell? ⟨b, 0, none⟩ = some (.slice ta T.length tc) ∧ w.cell? ⟨b, 1, none⟩ = some (.slice sa S.length sc) ∧ SlT w ta T ∧ SlP w sa S

theorem GBox.below {w w1 : World} {b : Nat} {ta : Option Addr} {T : List Pl.Pt} {tc : Nat} {sa : Option Addr} {S : List Pl.Pt} {sc : Nat} (h : GBox w b ta T tc sa S sc) (hb : Below w.heap.size w w1) : GBox w1 b ta T tc sa S sc := by
  obtain ⟨h1, h2, h3, h4⟩ := h
  have k1 := World.block_lt_of_cell? w _ h1
  have q := (bcell hb).1
  exact ⟨(q _ _ k1).trans h1, (q _ _ k1).trans h2, h3.below hb, h4.below hb⟩

theorem lp_any {T : List Pl.Pt} (oT : OkP T) (x : ByteArray) (hx : x.size ≤ maxLen) (i k : Nat) (h : k < T.length) (w : World) :
    Calls Try.prog 16 #[.agg #[.string T[k].t, .string T[k].s, .bool T[k].m], .string x, .int .i64 (i : Int)] w fun e w' => e = .returned (.int .i64 (Pl.lp x.data.toList i T[k] : Nat)) ∧ Below w.heap.size w w' :=
  len_any _ _ _ _ _ _ (oT _ (List.getElem_mem h)).1 (oT _ (List.getElem_mem h)).2 hx

theorem rlp_any {T : List Pl.Pt} (oT : OkP T) (x : ByteArray) (hx : x.size ≤ maxLen) (i k : Nat) (h : k < T.length) (w : World) :
    Calls Try.prog 17 #[.agg #[.string T[k].t, .string T[k].s, .bool T[k].m], .string x, .int .i64 (i : Int)] w fun e w' => e = .returned (.int .i64 (Pl.lp x.data.toList i T[k] : Nat)) ∧ Below w.heap.size w w' :=
  rlen_any _ _ _ _ _ _ (oT _ (List.getElem_mem h)).1 (oT _ (List.getElem_mem h)).2 hx

theorem most_take (x : Pl.B) (i : Nat) (T : List Pl.Pt) (k : Nat) (h : k < T.length) : Pl.most x i (T.take (k + 1)) = max (Pl.most x i (T.take k)) (Pl.lp x i T[k]) := by
  rw [List.take_succ_eq_append_getElem h, Pl.most_snoc]

theorem firstAt_mk {x : Pl.B} {i n : Nat} : ∀ {l : List Pl.Pt} {k : Nat} (h : k < l.length), Pl.lp x i l[k] = n → (∀ j (hj : j < k), Pl.lp x i (l[j]'(by omega)) ≠ n) → Pl.firstAt x i n l = k + 1
  | p :: l, 0, _, h1, _ => by have h1' : Pl.lp x i p = n := by simpa using h1
                              simp [Pl.firstAt, h1']
  | p :: l, k + 1, h, h1, h2 => by
    have h0 := h2 0 (by omega)
    simp only [List.getElem_cons_zero] at h0
    have := firstAt_mk (l := l) (k := k) (by simpa using h) (by simpa using h1) (fun j hj => by simpa using h2 (j + 1) (by omega))
    simp [Pl.firstAt, h0, this]

theorem firstAt_none {x : Pl.B} {i n : Nat} {l : List Pl.Pt} (h : ∀ j (hj : j < l.length), Pl.lp x i l[j] ≠ n) : Pl.firstAt x i n l = 0 := by
  by_cases h0 : Pl.firstAt x i n l = 0
  · exact h0
  · obtain ⟨p, hp, he⟩ := Pl.firstAt_pos.1 h0
    obtain ⟨j, hj, rfl⟩ := List.getElem_of_mem hp
    exact absurd he (h j hj)

set_option maxRecDepth 100000 in
set_option maxHeartbeats 1600000 in
theorem step_any (T S : List Pl.Pt) (ta sa : Option Addr) (tc sc : Nat) (x : ByteArray) (i0 : Nat) (w : World) (hT : SlT w ta T) (hS : SlP w sa S) (oT : OkP T) (oS : OkP S) (lT : T.length ≤ maxLen) (lS : S.length ≤ maxLen) (hx : x.size ≤ maxLen) :
    Calls Try.prog 40 #[.agg #[.slice ta T.length tc, .slice sa S.length sc, .slice none 0 0, .string ⟨#[]⟩, .slice none 0 0], .string x, .int .i64 (i0 : Int)] w fun e w' =>
      e = .returned (.tuple #[.int .i64 ((Pl.step T S x.data.toList i0).1 : Nat), .int .i64 ((Pl.step T S x.data.toList i0).2 : Nat)]) ∧ Below w.heap.size w w' := by
  unfold maxLen at lT lS
  have CT := Lib.hid (fun k h w => rlp_any oT x hx i0 k h w)
  have CS := Lib.hid (fun k h w => rlp_any oS x hx i0 k h w)
  go_enter Try.func40, Try.ntmps40
  go_wp2_with fail
  have hB : Below w.heap.size w (w.alloc (.cells #[.slice ta T.length tc, .slice sa S.length sc, .slice none 0 0, .string ⟨#[]⟩, .slice none 0 0] 40)) := (Below.refl _ _).alloc (Nat.le_refl _) _
  have B0 : Hid (GBox (w.alloc (.cells #[.slice ta T.length tc, .slice sa S.length sc, .slice none 0 0, .string ⟨#[]⟩, .slice none 0 0] 40)) w.heap.size ta T tc sa S sc) := by
    refine Lib.hid ⟨?_, ?_, hT.below hB, hS.below hB⟩ <;> go_simp
  have hz0 : w.heap.size + 1 ≤ (w.alloc (.cells #[.slice ta T.length tc, .slice sa S.length sc, .slice none 0 0, .string ⟨#[]⟩, .slice none 0 0] 40)).heap.size := by simp
  have L0 := Lib.hid hB
  generalize (w.alloc (.cells #[.slice ta T.length tc, .slice sa S.length sc, .slice none 0 0, .string ⟨#[]⟩, .slice none 0 0] 40)) = W at L0 B0 hz0 ⊢
  clear hT hS hB oT oS
  go_loopw [8, 9] (fun q i wr => ∃ k n : Nat, i = .int .i64 k ∧ k ≤ T.length ∧ q = .int .i64 n ∧ Hid (n = Pl.most x.data.toList i0 (T.take k)) ∧ Hid (GBox wr w.heap.size ta T tc sa S sc) ∧ Hid (Below w.heap.size w wr) ∧ w.heap.size + 1 ≤ wr.heap.size) (fun _ i _ => T.length - (intOf i).toNat)
  case atStart => exact ⟨0, 0, rfl, by omega, rfl, Lib.hid rfl, B0, L0, hz0⟩
  case round =>
    obtain ⟨k, n, rfl, hk, rfl, Hn, B1, L1, hz1⟩ := hrel
    clear B0 L0 hz0
    obtain ⟨g0, g1, sT, sS⟩ := B1.out
    by_cases hlt : k < T.length
    · obtain ⟨b, off, rfl, c0, c1, c2, c3⟩ := sT k hlt
      have Hm := Lib.hid (most_take x.data.toList i0 T k hlt)
      have DT := Lib.hid (CT.out k hlt)
      clear sT sS
      generalize Pl.lp x.data.toList i0 T[k] = r at Hm DT
      go_wp2_with fail
      refine (DT.out _).mono ?_
      rintro e w2 ⟨rfl, hb⟩
      have B2 := Lib.hid (B1.out.below hb)
      have L2 := Lib.hid (L1.out.trans (hb.mono (by omega)))
      have hz2 : w.heap.size + 1 ≤ w2.heap.size := Nat.le_trans hz1 hb.size
      clear c0 c1 c2 c3 g0 g1 hb
      go_wp2_with fail
      go_roundw
      case rel => exact ⟨k + 1, max n r, by go_num, by omega, by congr 1; split <;> omega, Lib.hid (by rw [Hm.out, Hn.out]), B2, L2, hz2⟩
      case measure => simp [intOf]; omega
    · obtain rfl : k = T.length := by omega
      rw [List.take_length] at Hn
      clear hlt
      have HnT := Hn
      clear Hn
      clear sT sS
      go_wp2_with fail
      go_loopw [8, 10] (fun q i wr => ∃ k n : Nat, i = .int .i64 k ∧ k ≤ S.length ∧ q = .int .i64 n ∧ Hid (n = max (Pl.most x.data.toList i0 T) (Pl.most x.data.toList i0 (S.take k))) ∧ Hid (GBox wr w.heap.size ta T tc sa S sc) ∧ Hid (Below w.heap.size w wr) ∧ w.heap.size + 1 ≤ wr.heap.size) (fun _ i _ => S.length - (intOf i).toNat)
      case atStart => exact ⟨0, n, rfl, by omega, rfl, Lib.hid (by rw [HnT.out]; exact (Nat.max_zero _).symm), B1, L1, hz1⟩
      case round =>
        clear B1 L1 hz1 g0 g1 HnT
        obtain ⟨k, n, rfl, hk, rfl, Hn, B1, L1, hz1⟩ := hrel
        obtain ⟨g0, g1, sT, sS⟩ := B1.out
        by_cases hlt : k < S.length
        · obtain ⟨b, off, rfl, c0, c1, c2⟩ := sS k hlt
          have Hm := Lib.hid (most_take x.data.toList i0 S k hlt)
          have DT := Lib.hid (CS.out k hlt)
          clear sT sS
          generalize Pl.lp x.data.toList i0 S[k] = r at Hm DT
          go_wp2_with fail
          refine (DT.out _).mono ?_
          rintro e w2 ⟨rfl, hb⟩
          have B2 := Lib.hid (B1.out.below hb)
          have L2 := Lib.hid (L1.out.trans (hb.mono (by omega)))
          have hz2 : w.heap.size + 1 ≤ w2.heap.size := Nat.le_trans hz1 hb.size
          clear c0 c1 c2 g0 g1 hb
          go_wp2_with fail
          go_roundw
          case rel => exact ⟨k + 1, max n r, by go_num, by omega, by congr 1; split <;> omega, Lib.hid (by rw [Hm.out, Hn.out]; exact Nat.max_assoc _ _ _), B2, L2, hz2⟩
          case measure => simp [intOf]; omega
        · obtain rfl : k = S.length := by omega
          rw [List.take_length] at Hn
          clear hlt
          have HnS := Hn
          clear Hn
          obtain ⟨N, hN⟩ : ∃ N, N = n := ⟨_, rfl⟩
          rw [← hN] at HnS ⊢
          clear hN
          have HN : Hid (N = (Pl.step T S x.data.toList i0).2) := Lib.hid HnS.out
          have HF : Hid ((Pl.step T S x.data.toList i0).1 = if 0 < N then Pl.firstAt x.data.toList i0 N T else 0) := Lib.hid (by rw [HN.out]; rfl)
          clear HnS
          go_wp2_with fail
          go_loopw [11] (fun i wr => ∃ k : Nat, i = .int .i64 k ∧ k ≤ T.length ∧ Hid (0 < N → ∀ j (hj : j < T.length), j < k → Pl.lp x.data.toList i0 T[j] ≠ N) ∧ Hid (GBox wr w.heap.size ta T tc sa S sc) ∧ Hid (Below w.heap.size w wr) ∧ w.heap.size + 1 ≤ wr.heap.size) (fun i _ => T.length - (intOf i).toNat)
          case atStart => exact ⟨0, rfl, by omega, Lib.hid (fun _ j hj h => by omega), B1, L1, hz1⟩
          case round =>
            clear B1 L1 hz1 g0 g1 sT sS
            obtain ⟨k, rfl, hk, Hno, B1, L1, hz1⟩ := hrel
            obtain ⟨g0, g1, sT, sS⟩ := B1.out
            by_cases hlt : k < T.length
            · by_cases hN : 0 < N
              · have hN' : decide (0 < N) = true := by simpa using hN
                obtain ⟨b, off, rfl, c0, c1, c2, c3⟩ := sT k hlt
                have DT := Lib.hid (CT.out k hlt)
                have Hk := Lib.hid (fun h1 => firstAt_mk (x := x.data.toList) (i := i0) (n := N) hlt h1 (fun j hj => Hno.out hN j (by omega) hj))
                have Hr : Hid (∀ r, Pl.lp x.data.toList i0 T[k] = r → r ≠ N → 0 < N → ∀ j (hj : j < T.length), j < k + 1 → Pl.lp x.data.toList i0 T[j] ≠ N) := by
                  refine Lib.hid ?_
                  intro r h1 h2 h3 j hj h4
                  by_cases hjk : j = k
                  · subst hjk; rw [h1]; exact h2
                  · exact Hno.out h3 j hj (by omega)
                clear sT sS
                obtain ⟨r, hr⟩ : ∃ r, Pl.lp x.data.toList i0 T[k] = r := ⟨_, rfl⟩
                have Hr2 := Lib.hid (Hr.out r hr)
                rw [hr] at DT Hk
                clear hr Hr
                by_cases hrN : r = N
                · subst hrN
                  have HF2 : Hid ((Pl.step T S x.data.toList i0).1 = k + 1) := Lib.hid (by rw [HF.out, if_pos hN]; exact Hk.out rfl)
                  clear HF Hk Hr2
                  go_wp2_with fail
                  refine (DT.out _).mono ?_
                  rintro e w2 ⟨rfl, hb⟩
                  have L2 := Lib.hid (L1.out.trans (hb.mono (by omega)))
                  clear c0 c1 c2 c3 g0 g1 hb
                  go_wp2_with fail
                  go_ret2
                  exact ⟨by rw [← HN.out, HF2.out]; rfl, L2.out⟩
                · have hne : ((r : Int) == (N : Int)) = false := by rw [beq_cast]; simpa using hrN
                  have Hr3 := Lib.hid (Hr2.out hrN)
                  clear Hk Hr2
                  go_wp2_with fail
                  refine (DT.out _).mono ?_
                  rintro e w2 ⟨rfl, hb⟩
                  have B2 := Lib.hid (B1.out.below hb)
                  have L2 := Lib.hid (L1.out.trans (hb.mono (by omega)))
                  have hz2 : w.heap.size + 1 ≤ w2.heap.size := Nat.le_trans hz1 hb.size
                  clear c0 c1 c2 c3 g0 g1 hb
                  go_wp2_with fail
                  go_roundw
                  case rel => exact ⟨k + 1, by go_num, by omega, Hr3, B2, L2, hz2⟩
                  case measure => simp [intOf]; omega
              · have hN' : decide (0 < N) = false := by simpa using hN
                clear sT sS
                go_wp2_with fail
                go_roundw
                case rel => exact ⟨k + 1, by go_num, by omega, Lib.hid (fun h => absurd h hN), B1, L1, hz1⟩
                case measure => simp [intOf]; omega
            · have HF2 : Hid ((Pl.step T S x.data.toList i0).1 = 0) := by
                refine Lib.hid ?_
                rw [HF.out]
                split
                · rename_i h; exact firstAt_none (fun j hj => Hno.out h j hj (by omega))
                · rfl
              clear sT sS
              go_wp2_with fail
              go_ret2
              exact ⟨by rw [← HN.out, HF2.out]; rfl, L1.out⟩
end Go.Proofs.Ytgoggooeipcgpaa
