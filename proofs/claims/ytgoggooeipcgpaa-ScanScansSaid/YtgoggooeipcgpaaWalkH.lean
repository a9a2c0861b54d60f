/-
  Walks: the reference's Meets.
-/
import Derived.Test.YtgoggooeipcgpaaWalkG
namespace Go.Proofs.Ytgoggooeipcgpaa
open Go.RowKit
set_option linter.unusedVariables false

/-- Two patterns in their boxes. -/
def Boxed2 (w : World) (b : Nat) (t s : ByteArray) (m : Bool) (t' s' : ByteArray) (m' : Bool) : Prop :=
  w.cell? ⟨b, 0, none⟩ = some (.string t) ∧ w.cell? ⟨b, 1, none⟩ = some (.string s) ∧ w.cell? ⟨b, 2, none⟩ = some (.bool m) ∧
  w.cell? ⟨b + 1, 0, none⟩ = some (.string t') ∧ w.cell? ⟨b + 1, 1, none⟩ = some (.string s') ∧ w.cell? ⟨b + 1, 2, none⟩ = some (.bool m')

theorem Boxed2.below {w w1 : World} {b : Nat} {t s : ByteArray} {m : Bool} {t' s' : ByteArray} {m' : Bool} (h : Boxed2 w b t s m t' s' m') (hb : Below w.heap.size w w1) (hs : b + 2 ≤ w.heap.size) : Boxed2 w1 b t s m t' s' m' := by
  obtain ⟨h1, h2, h3, h4, h5, h6⟩ := h
  have q := (bcell hb).1
  exact ⟨(q _ _ (by omega)).trans h1, (q _ _ (by omega)).trans h2, (q _ _ (by omega)).trans h3, (q _ _ (by omega)).trans h4, (q _ _ (by omega)).trans h5, (q _ _ (by omega)).trans h6⟩

/-- 'string([]byte{c})'. -/
theorem one_byte (w : World) (k : Nat) (h : k < 256) :
    (convert 50 9 (.slice (some ⟨w.heap.size, 0, none⟩) 1 1)).run Try.prog (w.alloc (.cells #[.int .u8 (k : Int)] 5)) = .ok (.string ⟨#[UInt8.ofNat k]⟩) (w.alloc (.cells #[.int .u8 (k : Int)] 5)) := by
  have := run_convert_bytes_back (P := Try.prog) (w.alloc (.cells #[.int .u8 (k : Int)] 5)) 50 9 5 ⟨w.heap.size, 0, none⟩ 1 [UInt8.ofNat k] Try.underlying50 Try.underlying5 Try.underlying9 (by
    intro j hj
    have hj0 : j = 0 := by simpa using hj
    subst hj0
    have : (⟨w.heap.size, 0, none⟩ : Addr).add 0 = ⟨w.heap.size, 0, none⟩ := by unfold Addr.add; simp
    rw [this, cell_of_row _ _ _ _ _ _ (heap_alloc_new _ _)]
    simp; omega)
  simpa using this

set_option maxRecDepth 100000 in
set_option maxHeartbeats 800000 in
theorem rmeets_any (t s t' s' : ByteArray) (m m' : Bool) (w : World) (ht : t.size ≤ maxLen) (hs : s.size ≤ maxLen) (ht' : t'.size ≤ maxLen) (hs' : s'.size ≤ maxLen) :
    Calls Try.prog 21 #[.agg #[.string t, .string s, .bool m], .agg #[.string t', .string s', .bool m']] w fun e w' =>
      e = .returned (.bool (Pl.meets t.data.toList s.data.toList m t'.data.toList s'.data.toList m')) ∧ Below w.heap.size w w' := by
  have hc := fun x w hx => ris_any t s x m w ht hs hx
  have hc' := fun x w hx => ris_any t' s' x m' w ht' hs' hx
  have Hc := Lib.hid hc
  have Hc' := Lib.hid hc'
  clear hc hc'
  go_enter Try.func21, Try.ntmps21
  go_wp2_with fail
  go_loopw [5] (fun c wr => ∃ k : Nat, c = .int .i64 k ∧ k ≤ 256 ∧ Hid (∀ c : UInt8, c.toNat < k → ¬ (Pl.is t.data.toList s.data.toList m [c] = true ∧ Pl.is t'.data.toList s'.data.toList m' [c] = true)) ∧
      wr.cell? ⟨w.heap.size, 0, none⟩ = some (.string t) ∧ wr.cell? ⟨w.heap.size, 1, none⟩ = some (.string s) ∧ wr.cell? ⟨w.heap.size, 2, none⟩ = some (.bool m) ∧
      wr.cell? ⟨w.heap.size + 1, 0, none⟩ = some (.string t') ∧ wr.cell? ⟨w.heap.size + 1, 1, none⟩ = some (.string s') ∧ wr.cell? ⟨w.heap.size + 1, 2, none⟩ = some (.bool m') ∧
      w.heap.size + 2 ≤ wr.heap.size ∧ Below w.heap.size w wr) (fun c _ => 256 - (intOf c).toNat)
  case atStart =>
    refine ⟨0, rfl, by omega, fun c h => by omega, ?_, ?_, ?_, ?_, ?_, ?_, by simp, ((Below.refl _ _).alloc (Nat.le_refl _) _).alloc (by simp) _⟩ <;> go_simp
  case round =>
    obtain ⟨k, rfl, hk, Hno, c0, c1, c2, d0, d1, d2, hsz, hB⟩ := hrel
    by_cases hlt : k < 256
    · have hki : (k : Int) < 256 := by omega
      have hcv := one_byte wr k hlt
      have hsz1 : (ByteArray.mk #[UInt8.ofNat k]).size ≤ maxLen := by show 1 ≤ maxLen; unfold maxLen; omega
      have Hl : Hid ((ByteArray.mk #[UInt8.ofNat k]).data.toList = [UInt8.ofNat k]) := Lib.hid rfl
      obtain ⟨S, hS⟩ : ∃ S, S = ByteArray.mk #[UInt8.ofNat k] := ⟨_, rfl⟩
      rw [← hS] at hcv hsz1 Hl
      clear hS
      have k1 : w.heap.size < wr.heap.size := by omega
      have k2 : w.heap.size + 1 < wr.heap.size := by omega
      have k3 : w.heap.size < wr.heap.size + 1 := by omega
      have k4 : w.heap.size + 1 < wr.heap.size + 1 := by omega
      go_wp2_with fail
      refine (Hc.out S _ hsz1).mono ?_
      rintro e w1 ⟨rfl, hb1⟩
      obtain ⟨q1, -⟩ := bcell hb1
      have hz1 : wr.heap.size + 1 ≤ w1.heap.size := by have := hb1.size; simpa using this
      simp only [World.size_alloc] at q1
      clear hcv
      go_wp2_with fail
      refine (Hc'.out S _ hsz1).mono ?_
      rintro e w2 ⟨rfl, hb2⟩
      have hz2 := hb2.size
      have hB2 : Below w.heap.size w w2 := ((hB.alloc (by omega) _).trans (hb1.mono (by simp; omega))).trans (hb2.mono (by omega))
      have keep : ∀ b o, b < wr.heap.size → w2.cell? ⟨b, o, none⟩ = wr.cell? ⟨b, o, none⟩ := by
        intro b o h
        rw [(bcell hb2).1 _ _ (by omega), (bcell hb1).1 _ _ (by simp; omega), World.cell?_alloc_past _ _ _ h]
      have e0 := (keep w.heap.size 0 (by omega)).trans c0
      have e1 := (keep w.heap.size 1 (by omega)).trans c1
      have e2 := (keep w.heap.size 2 (by omega)).trans c2
      have g0 := (keep (w.heap.size + 1) 0 (by omega)).trans d0
      have g1 := (keep (w.heap.size + 1) 1 (by omega)).trans d1
      have g2 := (keep (w.heap.size + 1) 2 (by omega)).trans d2
      have hw2 : w.heap.size + 2 ≤ w2.heap.size := by omega
      clear keep q1 k1 k2 k3 k4 c0 c1 c2 d0 d1 d2
      rw [Hl.out]
      cases h1 : Pl.is t.data.toList s.data.toList m [UInt8.ofNat k] with
      | true =>
        cases h2 : Pl.is t'.data.toList s'.data.toList m' [UInt8.ofNat k] with
        | true =>
          have hv := Lib.hid (Pl.meets_of_is h1 h2)
          clear h1 h2
          go_wp2_with fail
          go_ret
          exact ⟨ret_bool hv.out.symm, hB2⟩
        | false =>
          have Hx := Lib.hid h2
          clear h1 h2
          go_wp2_with fail
          go_roundw
          case rel =>
            refine ⟨k + 1, by go_num, by omega, ?_, e0, e1, e2, g0, g1, g2, hw2, hB2⟩
            intro c hc ⟨y1, y2⟩
            by_cases hck : c.toNat = k
            · have : c = UInt8.ofNat k := by rw [← hck]; simp
              rw [this, Hx.out] at y2; cases y2
            · exact Hno.out c (by omega) ⟨y1, y2⟩
          case measure => simp [intOf]; omega
      | false =>
        have Hx := Lib.hid h1
        clear h1
        go_wp2_with fail
        go_roundw
        case rel =>
          refine ⟨k + 1, by go_num, by omega, ?_, e0, e1, e2, g0, g1, g2, hw2, hB2⟩
          intro c hc ⟨y1, y2⟩
          by_cases hck : c.toNat = k
          · have : c = UInt8.ofNat k := by rw [← hck]; simp
            rw [this, Hx.out] at y1; cases y1
          · exact Hno.out c (by omega) ⟨y1, y2⟩
        case measure => simp [intOf]; omega
    · obtain rfl : k = 256 := by omega
      clear hlt
      have HN : Hid (Pl.meets t.data.toList s.data.toList m t'.data.toList s'.data.toList m' = ((Pl.is t.data.toList s.data.toList m t.data.toList && Pl.is t'.data.toList s'.data.toList m' t.data.toList) ||
          (Pl.is t.data.toList s.data.toList m t'.data.toList && Pl.is t'.data.toList s'.data.toList m' t'.data.toList))) := by
        refine Lib.hid ?_
        rw [Bool.eq_iff_iff, Pl.meets_ref]
        simp only [Bool.or_eq_true, Bool.and_eq_true]
        constructor
        · rintro (⟨c, h⟩ | h)
          · exact absurd h (Hno.out c c.toNat_lt)
          · exact h
        · exact .inr
      clear Hno
      have q1 := fun w => Hc.out t w ht
      have q2 := fun w => Hc'.out t w ht
      have q3 := fun w => Hc.out t' w ht'
      have q4 := fun w => Hc'.out t' w ht'
      generalize Pl.is t.data.toList s.data.toList m t.data.toList = r1 at HN q1
      generalize Pl.is t'.data.toList s'.data.toList m' t.data.toList = r2 at HN q2
      generalize Pl.is t.data.toList s.data.toList m t'.data.toList = r3 at HN q3
      generalize Pl.is t'.data.toList s'.data.toList m' t'.data.toList = r4 at HN q4
      have B0 : Hid (Boxed2 wr w.heap.size t s m t' s' m') := Lib.hid ⟨c0, c1, c2, d0, d1, d2⟩
      have L0 := Lib.hid hB
      have hz0 := hsz
      have Q1 := Lib.hid q1
      have Q2 := Lib.hid q2
      have Q3 := Lib.hid q3
      have Q4 := Lib.hid q4
      clear q1 q2 q3 q4 hB hsz Hc Hc'
      cases r1 with
      | true =>
        cases r3 with
        | true =>
          go_wp2_with fail
          refine (Q1.out _).mono ?_
          rintro e w1 ⟨rfl, hb1⟩
          have B1 := Lib.hid (B0.out.below hb1 hz0)
          have L1 := Lib.hid (L0.out.trans (hb1.mono (by omega)))
          have hz1 : w.heap.size + 2 ≤ w1.heap.size := Nat.le_trans hz0 hb1.size
          clear c0 c1 c2 d0 d1 d2 hb1
          obtain ⟨c0, c1, c2, d0, d1, d2⟩ := B1.out
          go_wp2_with fail
          refine (Q2.out _).mono ?_
          rintro e w2 ⟨rfl, hb2⟩
          have B2 := Lib.hid (B1.out.below hb2 hz1)
          have L2 := Lib.hid (L1.out.trans (hb2.mono (by omega)))
          have hz2 : w.heap.size + 2 ≤ w2.heap.size := Nat.le_trans hz1 hb2.size
          clear c0 c1 c2 d0 d1 d2 hb2
          obtain ⟨c0, c1, c2, d0, d1, d2⟩ := B2.out
          go_wp2_with fail
          refine (Q3.out _).mono ?_
          rintro e w3 ⟨rfl, hb3⟩
          have B3 := Lib.hid (B2.out.below hb3 hz2)
          have L3 := Lib.hid (L2.out.trans (hb3.mono (by omega)))
          have hz3 : w.heap.size + 2 ≤ w3.heap.size := Nat.le_trans hz2 hb3.size
          clear c0 c1 c2 d0 d1 d2 hb3
          obtain ⟨c0, c1, c2, d0, d1, d2⟩ := B3.out
          go_wp2_with fail
          refine (Q4.out _).mono ?_
          rintro e w4 ⟨rfl, hb4⟩
          have B4 := Lib.hid (B3.out.below hb4 hz3)
          have L4 := Lib.hid (L3.out.trans (hb4.mono (by omega)))
          have hz4 : w.heap.size + 2 ≤ w4.heap.size := Nat.le_trans hz3 hb4.size
          clear c0 c1 c2 d0 d1 d2 hb4
          obtain ⟨c0, c1, c2, d0, d1, d2⟩ := B4.out
          cases r2 with
          | true =>
            have hv : Hid (Pl.meets t.data.toList s.data.toList m t'.data.toList s'.data.toList m' = true) := by refine Lib.hid ?_; rw [HN.out]; simp
            clear HN
            go_wp2_with fail
            go_ret
            exact ⟨ret_bool hv.out.symm, L4.out⟩
          | false =>
            have hv : Hid (Pl.meets t.data.toList s.data.toList m t'.data.toList s'.data.toList m' = r4) := by refine Lib.hid ?_; rw [HN.out]; simp
            clear HN
            go_wp2_with fail
            go_ret
            exact ⟨ret_bool hv.out.symm, L4.out⟩
        | false =>
          go_wp2_with fail
          refine (Q1.out _).mono ?_
          rintro e w1 ⟨rfl, hb1⟩
          have B1 := Lib.hid (B0.out.below hb1 hz0)
          have L1 := Lib.hid (L0.out.trans (hb1.mono (by omega)))
          have hz1 : w.heap.size + 2 ≤ w1.heap.size := Nat.le_trans hz0 hb1.size
          clear c0 c1 c2 d0 d1 d2 hb1
          obtain ⟨c0, c1, c2, d0, d1, d2⟩ := B1.out
          go_wp2_with fail
          refine (Q2.out _).mono ?_
          rintro e w2 ⟨rfl, hb2⟩
          have B2 := Lib.hid (B1.out.below hb2 hz1)
          have L2 := Lib.hid (L1.out.trans (hb2.mono (by omega)))
          have hz2 : w.heap.size + 2 ≤ w2.heap.size := Nat.le_trans hz1 hb2.size
          clear c0 c1 c2 d0 d1 d2 hb2
          obtain ⟨c0, c1, c2, d0, d1, d2⟩ := B2.out
          go_wp2_with fail
          refine (Q3.out _).mono ?_
          rintro e w3 ⟨rfl, hb3⟩
          have B3 := Lib.hid (B2.out.below hb3 hz2)
          have L3 := Lib.hid (L2.out.trans (hb3.mono (by omega)))
          have hz3 : w.heap.size + 2 ≤ w3.heap.size := Nat.le_trans hz2 hb3.size
          clear c0 c1 c2 d0 d1 d2 hb3
          obtain ⟨c0, c1, c2, d0, d1, d2⟩ := B3.out
          cases r2 with
          | true =>
            have hv : Hid (Pl.meets t.data.toList s.data.toList m t'.data.toList s'.data.toList m' = true) := by refine Lib.hid ?_; rw [HN.out]; simp
            clear HN
            go_wp2_with fail
            go_ret
            exact ⟨ret_bool hv.out.symm, L3.out⟩
          | false =>
            have hv : Hid (Pl.meets t.data.toList s.data.toList m t'.data.toList s'.data.toList m' = false) := by refine Lib.hid ?_; rw [HN.out]; simp
            clear HN
            go_wp2_with fail
            go_ret
            exact ⟨ret_bool hv.out.symm, L3.out⟩
      | false =>
        cases r3 with
        | true =>
          go_wp2_with fail
          refine (Q1.out _).mono ?_
          rintro e w1 ⟨rfl, hb1⟩
          have B1 := Lib.hid (B0.out.below hb1 hz0)
          have L1 := Lib.hid (L0.out.trans (hb1.mono (by omega)))
          have hz1 : w.heap.size + 2 ≤ w1.heap.size := Nat.le_trans hz0 hb1.size
          clear c0 c1 c2 d0 d1 d2 hb1
          obtain ⟨c0, c1, c2, d0, d1, d2⟩ := B1.out
          go_wp2_with fail
          refine (Q3.out _).mono ?_
          rintro e w2 ⟨rfl, hb2⟩
          have B2 := Lib.hid (B1.out.below hb2 hz1)
          have L2 := Lib.hid (L1.out.trans (hb2.mono (by omega)))
          have hz2 : w.heap.size + 2 ≤ w2.heap.size := Nat.le_trans hz1 hb2.size
          clear c0 c1 c2 d0 d1 d2 hb2
          obtain ⟨c0, c1, c2, d0, d1, d2⟩ := B2.out
          go_wp2_with fail
          refine (Q4.out _).mono ?_
          rintro e w3 ⟨rfl, hb3⟩
          have B3 := Lib.hid (B2.out.below hb3 hz2)
          have L3 := Lib.hid (L2.out.trans (hb3.mono (by omega)))
          have hz3 : w.heap.size + 2 ≤ w3.heap.size := Nat.le_trans hz2 hb3.size
          clear c0 c1 c2 d0 d1 d2 hb3
          obtain ⟨c0, c1, c2, d0, d1, d2⟩ := B3.out
          have hv : Hid (Pl.meets t.data.toList s.data.toList m t'.data.toList s'.data.toList m' = r4) := by refine Lib.hid ?_; rw [HN.out]; simp
          clear HN
          go_wp2_with fail
          go_ret
          exact ⟨ret_bool hv.out.symm, L3.out⟩
        | false =>
          go_wp2_with fail
          refine (Q1.out _).mono ?_
          rintro e w1 ⟨rfl, hb1⟩
          have B1 := Lib.hid (B0.out.below hb1 hz0)
          have L1 := Lib.hid (L0.out.trans (hb1.mono (by omega)))
          have hz1 : w.heap.size + 2 ≤ w1.heap.size := Nat.le_trans hz0 hb1.size
          clear c0 c1 c2 d0 d1 d2 hb1
          obtain ⟨c0, c1, c2, d0, d1, d2⟩ := B1.out
          go_wp2_with fail
          refine (Q3.out _).mono ?_
          rintro e w2 ⟨rfl, hb2⟩
          have B2 := Lib.hid (B1.out.below hb2 hz1)
          have L2 := Lib.hid (L1.out.trans (hb2.mono (by omega)))
          have hz2 : w.heap.size + 2 ≤ w2.heap.size := Nat.le_trans hz1 hb2.size
          clear c0 c1 c2 d0 d1 d2 hb2
          obtain ⟨c0, c1, c2, d0, d1, d2⟩ := B2.out
          have hv : Hid (Pl.meets t.data.toList s.data.toList m t'.data.toList s'.data.toList m' = false) := by refine Lib.hid ?_; rw [HN.out]; simp
          clear HN
          go_wp2_with fail
          go_ret
          exact ⟨ret_bool hv.out.symm, L2.out⟩
end Go.Proofs.Ytgoggooeipcgpaa
