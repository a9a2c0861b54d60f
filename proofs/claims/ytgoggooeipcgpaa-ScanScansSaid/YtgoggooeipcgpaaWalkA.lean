/-
  Walks: what the small functions of patterns compute: the reference's 'in', the law's 'few'.
-/
import Derived.Test.YtgoggooeipcgpaaRows
import Derived.Test.YtgoggooeipcgpaaKit
import Derived.Test.YtgoggooeipcgpaaPlain
namespace Go.Proofs.Ytgoggooeipcgpaa
open Go.RowKit
set_option linter.unusedVariables false

theorem ret_int {k : IntKind} {a b : Int} (h : a = b) : Ending.returned (.int k a) = .returned (.int k b) := by rw [h]
theorem ret_bool {a b : Bool} (h : a = b) : Ending.returned (.bool a) = .returned (.bool b) := by rw [h]

theorem has_take (s : ByteArray) (c : Int) (k : Nat) (h : k < s.size) : Pl.has (s.data.toList.take (k + 1)) c = (Pl.has (s.data.toList.take k) c || ((s[k].toNat : Int) == c)) := by
  rw [List.take_succ_eq_append_getElem (by simpa using h)]
  unfold Pl.has
  rw [List.any_append]
  simp
  rfl

set_option maxHeartbeats 400000 in
theorem in_any (s : ByteArray) (c : Int) (w : World) (hs : s.size ≤ maxLen) :
    Calls Try.prog 37 #[.string s, .int .u8 c] w fun e w' => e = .returned (.bool (Pl.has s.data.toList c)) ∧ w = w' := by
  unfold maxLen at hs
  go_enter Try.func37, Try.ntmps37
  go_wp2
  go_loop [5] (fun i => ∃ k : Nat, k ≤ s.size ∧ i = .int .i64 k ∧ Hid (Pl.has (s.data.toList.take k) c = false)) (fun i => s.size - (intOf i).toNat)
  case atStart => exact ⟨0, Nat.zero_le _, rfl, by simp [Hid, Pl.has]⟩
  case round =>
    obtain ⟨k, hk, rfl, H⟩ := hrel
    by_cases hlt : k < s.size
    · have ht := Lib.hid (has_take s c k hlt)
      by_cases hc : ((s[k].toNat : Int) == c) = true
      · go_wp2
        go_ret
        refine ⟨ret_bool ?_, rfl⟩
        have h2 : Pl.has (s.data.toList.take (k + 1)) c = true := by rw [ht.out, hc]; simp
        unfold Pl.has at h2 ⊢
        obtain ⟨b, hb, hh⟩ := List.any_eq_true.1 h2
        exact (List.any_eq_true.2 ⟨b, List.mem_of_mem_take hb, hh⟩).symm
      · have hc' : ((s[k].toNat : Int) == c) = false := by simpa using hc
        go_wp2
        go_round
        case rel => exact ⟨k + 1, by omega, by go_num, by rw [ht.out, H.out, hc']; rfl⟩
        case measure => simp [intOf]; omega
    · go_wp2
      go_ret
      refine ⟨ret_bool ?_, rfl⟩
      rw [← H.out, List.take_of_length_le (by simp; omega)]

end Go.Proofs.Ytgoggooeipcgpaa
