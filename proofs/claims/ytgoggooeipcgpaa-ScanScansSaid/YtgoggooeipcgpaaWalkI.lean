/-
  Walks: slices.Min of bytes, pattern.Example, the reference's Example.
-/
import Derived.Test.YtgoggooeipcgpaaWalkH
namespace Go.Proofs.Ytgoggooeipcgpaa
open Go.RowKit
set_option linter.unusedVariables false

theorem least_snoc : ∀ (l : Pl.B) (c : UInt8), l ≠ [] → (Pl.least (l ++ [c])).toNat = min (Pl.least l).toNat c.toNat := by
  intro l c h
  have h1 := Pl.least_mem (s := l ++ [c]) (by simp)
  have h2 := Pl.least_mem h
  have h3 : (Pl.least (l ++ [c])).toNat ≤ (Pl.least l).toNat := Pl.least_le (by simp [h2])
  have h4 : (Pl.least (l ++ [c])).toNat ≤ c.toNat := Pl.least_le (by simp)
  rcases List.mem_append.1 h1 with h5 | h5
  · have := Pl.least_le h5; omega
  · simp at h5; rw [h5] at h3 h4 ⊢; omega

set_option maxHeartbeats 400000 in
theorem min_any (l : ByteArray) (b cap : Nat) (w : World) (hl : 0 < l.size) (hm : l.size ≤ maxLen) (hc : ∀ j (hj : j < l.size), w.cell? ⟨b, j, none⟩ = some (.int .u8 (l[j].toNat : Int))) :
    Calls Try.prog 39 #[.slice (some ⟨b, 0, none⟩) l.size cap] w fun e w' => e = .returned (.int .u8 ((Pl.least l.data.toList).toNat : Int)) ∧ w = w' := by
  unfold maxLen at hm
  have h0 := hc 0 hl
  have h1 : decide ((l.size : Int) < 1) = false := by simp; omega
  have h2 : (0 : Int) < (l.size : Int) := by omega
  go_enter Try.func39, Try.ntmps39
  go_wp2
  have hone : l.data.toList.take 1 = [l[0]] := by
    rw [List.take_succ_eq_append_getElem (by simpa using hl)]; rfl
  go_loop [3, 4] (fun x i => ∃ k : Nat, i = .int .i64 k ∧ 1 ≤ k ∧ k ≤ l.size ∧ ∃ q : Nat, x = .int .u8 q ∧ Hid (q = (Pl.least (l.data.toList.take k)).toNat)) (fun _ i => l.size - (intOf i).toNat)
  case atStart => exact ⟨1, rfl, by omega, by omega, l[0].toNat, rfl, Lib.hid (by rw [hone]; rfl)⟩
  case round =>
    obtain ⟨k, rfl, hk1, hk2, q, rfl, H⟩ := hrel
    clear h0 h1 h2 hone
    by_cases hlt : k < l.size
    · have hck := hc k hlt
      have Hs : Hid ((Pl.least (l.data.toList.take (k + 1))).toNat = min q l[k].toNat) := by
        refine Lib.hid ?_
        rw [List.take_succ_eq_append_getElem (by simpa using hlt), least_snoc _ _ (by intro e; have h9 := congrArg List.length e; rw [List.length_take] at h9; have h8 : l.data.toList.length = l.size := rfl; simp only [List.length_nil] at h9; omega), H.out]
        rfl
      clear hc
      go_wp2
      go_round
      case rel =>
        refine ⟨k + 1, by go_num, by omega, by omega, min q l[k].toNat, ?_, Hs.out.symm⟩
        congr 1
        split <;> omega
      case measure => simp [intOf]; omega
    · obtain rfl : k = l.size := by omega
      clear hc
      go_wp2
      go_ret
      refine ⟨ret_int ?_, rfl⟩
      rw [H.out, List.take_of_length_le (by simp)]

set_option maxRecDepth 100000 in
set_option maxHeartbeats 400000 in
theorem example_any (t s : ByteArray) (m : Bool) (w : World) (hs : s.size ≤ maxLen) :
    Calls Try.prog 22 #[.agg #[.string t, .string s, .bool m]] w fun e w' => e = .returned (.string ⟨(Pl.ex t.data.toList s.data.toList).toArray⟩) ∧ Below w.heap.size w w' := by
  by_cases he : t.data.toList = []
  · obtain rfl := empty_of he
    have h5 : (ByteArray.mk #[]).toList.isEmpty = true := by rw [ByteArray.toList_eq]; rfl
    by_cases he' : s.data.toList = []
    · obtain rfl := empty_of he'
      have hv : Hid (Pl.ex (ByteArray.mk #[]).data.toList (ByteArray.mk #[]).data.toList = []) := Lib.hid rfl
      go_enter Try.func22, Try.ntmps22
      go_wp2_with fail
      go_ret
      exact ⟨by rw [hv.out]; rfl, (Below.refl _ _).alloc (Nat.le_refl _) _⟩
    · have h6 := isEmpty_of he'
      have hpos : 0 < s.size := List.length_pos_iff.2 he'
      have hv : Hid (Pl.ex (ByteArray.mk #[]).data.toList s.data.toList = [Pl.least s.data.toList]) := by
        refine Lib.hid ?_
        rw [ByteArray.toList_eq] at h6
        unfold Pl.ex
        rw [h6]
        rfl
      have hc := fun b cap w hcell => min_any s b cap w hpos hs hcell
      generalize Pl.least s.data.toList = c at hv hc
      go_enter Try.func22, Try.ntmps22
      go_wp2_with (first | (refine list_bytes rfl 9 50 5 _ rfl s rfl Try.underlying9 Try.underlying50 Try.underlying5 ?_; intro cap w1 hb hsz hcell))
      simp only [World.size_alloc] at hcell hsz
      refine (hc _ _ _ hcell).mono ?_
      rintro e w2 ⟨rfl, rfl⟩
      clear hcell hc
      have hcl : (c.toNat : Int) < 256 := by have := c.toNat_lt; omega
      have hcv := one_byte w1 c.toNat c.toNat_lt
      rw [hsz] at hcv
      have hB : Below w.heap.size w w1 := ((Below.refl _ _).alloc (Nat.le_refl _) _).trans (hb.mono (by simp))
      clear hb
      have hsz' : w.heap.size ≤ w1.heap.size := by omega
      go_wp2_with fail
      go_ret
      exact ⟨by rw [hv.out]; simp, hB.alloc hsz' _⟩
  · have h6 := isEmpty_of he
    have hv : Hid (Pl.ex t.data.toList s.data.toList = t.data.toList) := by
      refine Lib.hid ?_
      rw [ByteArray.toList_eq] at h6
      unfold Pl.ex
      rw [h6]
      rfl
    go_enter Try.func22, Try.ntmps22
    go_wp2_with fail
    go_ret
    exact ⟨by rw [hv.out]; rfl, (Below.refl _ _).alloc (Nat.le_refl _) _⟩

theorem ex_of_least (s : Pl.B) (k : Nat) (hk : k < 256) (hno : ∀ c : Nat, c < k → Pl.has s c = false) (hh : Pl.has s k = true) : Pl.ex [] s = [UInt8.ofNat k] := by
  have hk' : (k : Int) = ((UInt8.ofNat k).toNat : Int) := by simp; omega
  rw [hk', Pl.has_toNat, Pl.mem_iff] at hh
  have hne : s ≠ [] := by intro e; rw [e] at hh; cases hh
  have h1 := Pl.least_le hh
  have h2 := Pl.least_mem hne
  have h3 : ¬ (Pl.least s).toNat < k := by
    intro h
    have := hno _ h
    rw [Pl.has_toNat] at this
    rw [Pl.mem_iff.2 h2] at this
    cases this
  have h4 : (UInt8.ofNat k).toNat = k := by simp; omega
  have : Pl.least s = UInt8.ofNat k := UInt8.toNat_inj.1 (by omega)
  unfold Pl.ex
  cases s with
  | nil => exact absurd rfl hne
  | cons c l => simp [this]

theorem ex_of_none (s : Pl.B) (hno : ∀ c : Nat, c < 256 → Pl.has s c = false) : Pl.ex [] s = [] := by
  cases s with
  | nil => rfl
  | cons c l =>
    have := hno c.toNat c.toNat_lt
    rw [Pl.has_toNat] at this
    have h2 : Pl.mem (c :: l) c = true := Pl.mem_iff.2 (by simp)
    rw [h2] at this; cases this

set_option maxRecDepth 100000 in
set_option maxHeartbeats 400000 in
theorem rexample_any (t s : ByteArray) (m : Bool) (w : World) (hs : s.size ≤ maxLen) :
    Calls Try.prog 23 #[.agg #[.string t, .string s, .bool m]] w fun e w' => e = .returned (.string ⟨(Pl.ex t.data.toList s.data.toList).toArray⟩) ∧ Below w.heap.size w w' := by
  by_cases he : t.data.toList = []
  · obtain rfl := empty_of he
    have h5 : (ByteArray.mk #[]).toList.isEmpty = true := by rw [ByteArray.toList_eq]; rfl
    have Hin := Lib.hid (fun c w => in_any s c w hs)
    go_enter Try.func23, Try.ntmps23
    go_wp2_with fail
    have hc0 : (w.alloc (.cells #[.string ⟨#[]⟩, .string s, .bool m] 23)).cell? ⟨w.heap.size, 1, none⟩ = some (.string s) := by go_simp
    have hB0 : Below w.heap.size w (w.alloc (.cells #[.string ⟨#[]⟩, .string s, .bool m] 23)) := (Below.refl _ _).alloc (Nat.le_refl _) _
    generalize w.alloc (.cells #[.string ⟨#[]⟩, .string s, .bool m] 23) = W at hc0 hB0 ⊢
    go_loop [3] (fun c => ∃ k : Nat, c = .int .i64 k ∧ k ≤ 256 ∧ Hid (∀ c : Nat, c < k → Pl.has s.data.toList c = false)) (fun c => 256 - (intOf c).toNat)
    case atStart => exact ⟨0, rfl, by omega, Lib.hid (fun c h => by omega)⟩
    case round =>
      obtain ⟨k, rfl, hk, Hno⟩ := hrel
      by_cases hlt : k < 256
      · have hki : (k : Int) < 256 := by omega
        go_wp2_with fail
        refine (Hin.out _ _).mono ?_
        rintro e w2 ⟨rfl, rfl⟩
        cases hh : Pl.has s.data.toList k with
        | true =>
          have hv := Lib.hid (ex_of_least _ _ hlt Hno.out hh)
          have hcv := one_byte W k hlt
          clear hh Hno Hin
          have hz := hB0.size
          go_wp2_with fail
          go_ret
          exact ⟨by rw [hv.out]; simp, hB0.alloc hz _⟩
        | false =>
          have Hh := Lib.hid hh
          clear hh
          go_wp2_with fail
          go_round
          case rel =>
            refine ⟨k + 1, by go_num, by omega, Lib.hid (fun c hc => ?_)⟩
            by_cases hck : c = k
            · rw [hck]; exact Hh.out
            · exact Hno.out c (by omega)
          case measure => simp [intOf]; omega
      · obtain rfl : k = 256 := by omega
        have hv := Lib.hid (ex_of_none _ Hno.out)
        clear hlt Hno Hin
        go_wp2_with fail
        go_ret
        exact ⟨by rw [hv.out]; simp, hB0⟩
  · have h6 := isEmpty_of he
    have hv : Hid (Pl.ex t.data.toList s.data.toList = t.data.toList) := by
      refine Lib.hid ?_
      rw [ByteArray.toList_eq] at h6
      unfold Pl.ex
      rw [h6]
      rfl
    go_enter Try.func23, Try.ntmps23
    go_wp2_with fail
    go_ret
    exact ⟨by rw [hv.out]; rfl, (Below.refl _ _).alloc (Nat.le_refl _) _⟩
end Go.Proofs.Ytgoggooeipcgpaa
