/-
  Walks: the law's 'few', strings.HasPrefix, and the set of a text's bytes (pattern.of).
-/
import Derived.Test.YtgoggooeipcgpaaWalkA
import Derived.Lib.Strings
namespace Go.Proofs.Ytgoggooeipcgpaa
open Go.RowKit
set_option linter.unusedVariables false

def fewB (t s : ByteArray) : Bool := decide (t.size ≤ 40 ∧ s.size ≤ 300)

set_option maxHeartbeats 400000 in
theorem few_any (t s : ByteArray) (m : Bool) (w : World) (ht : t.size ≤ maxLen) (hs : s.size ≤ maxLen) :
    Calls Try.prog 15 #[.agg #[.string t, .string s, .bool m]] w fun e w' => e = .returned (.bool (fewB t s)) ∧ Below w.heap.size w w' := by
  unfold maxLen at ht hs
  by_cases h1 : t.size ≤ 40
  · by_cases h2 : s.size ≤ 300
    · have h1' : decide ((t.size : Int) ≤ 40) = true := by simp; omega
      have h2' : decide ((s.size : Int) ≤ 300) = true := by simp; omega
      have hf := Lib.hid (show fewB t s = true by simp [fewB, h1, h2])
      go_enter Try.func15, Try.ntmps15
      go_wp2
      go_ret
      exact ⟨ret_bool hf.out.symm, (Below.refl _ _).alloc (Nat.le_refl _) _⟩
    · have h1' : decide ((t.size : Int) ≤ 40) = true := by simp; omega
      have h2' : decide ((s.size : Int) ≤ 300) = false := by simp; omega
      have hf := Lib.hid (show fewB t s = false by simp [fewB, h2])
      go_enter Try.func15, Try.ntmps15
      go_wp2
      go_ret
      exact ⟨ret_bool hf.out.symm, (Below.refl _ _).alloc (Nat.le_refl _) _⟩
  · have h1' : decide ((t.size : Int) ≤ 40) = false := by simp; omega
    have hf := Lib.hid (show fewB t s = false by simp [fewB, h1])
    go_enter Try.func15, Try.ntmps15
    go_wp2
    go_ret
    exact ⟨ret_bool hf.out.symm, (Below.refl _ _).alloc (Nat.le_refl _) _⟩

/-! ### strings.HasPrefix -/
/-- does a text begin with another one? -/
def pre (t x : Pl.B) : Bool := t.isPrefixOf x

theorem prefix_of (x t : ByteArray) : (((x.extract 0 t.size).toList == t.toList) : Bool) = pre t.data.toList x.data.toList := by
  unfold pre
  rw [Bool.eq_iff_iff, beq_iff_eq, List.isPrefixOf_iff_prefix, List.prefix_iff_eq_take, ByteArray.toList_eq, ByteArray.toList_eq]
  simp
  exact eq_comm

set_option maxHeartbeats 400000 in
theorem hasPrefix42 (x t : ByteArray) (w : World) (hx : x.size ≤ maxLen) (ht : t.size ≤ maxLen) :
    Calls Try.prog 42 #[.string x, .string t] w fun e w' => e = .returned (.bool (pre t.data.toList x.data.toList)) ∧ w = w' := by
  unfold maxLen at hx ht
  by_cases h : t.size ≤ x.size
  · have h' : decide ((t.size : Int) ≤ (x.size : Int)) = true := by simp; omega
    have hp := Lib.hid (prefix_of x t)
    go_enter Try.func42, Try.ntmps42
    go_wp2
    go_ret
    exact ⟨ret_bool hp.out, rfl⟩
  · have h' : decide ((t.size : Int) ≤ (x.size : Int)) = false := by simp; omega
    have hp : Hid (pre t.data.toList x.data.toList = false) := by
      refine Lib.hid ?_
      rw [Bool.eq_false_iff]
      intro hh
      unfold pre at hh
      have := (List.isPrefixOf_iff_prefix.1 hh).length_le
      simp at this
      exact h this
    go_enter Try.func42, Try.ntmps42
    go_wp2
    go_ret
    exact ⟨ret_bool hp.out.symm, rfl⟩

set_option maxHeartbeats 400000 in
theorem hasPrefix_any (x t : ByteArray) (w : World) (hx : x.size ≤ maxLen) (ht : t.size ≤ maxLen) :
    Calls Try.prog 35 #[.string x, .string t] w fun e w' => e = .returned (.bool (pre t.data.toList x.data.toList)) ∧ w = w' := by
  go_enter Try.func35, Try.ntmps35
  go_wp2_with fail
  refine (hasPrefix42 x t _ hx ht).mono ?_
  rintro e w' ⟨rfl, rfl⟩
  go_wp2_with fail
  go_ret
  exact ⟨rfl, rfl⟩

/-! ### the set of a text's bytes -/
/-- Of each byte whether it is one of them. -/
def setA (s : Pl.B) : Array Value := (Array.range 256).map fun c => .bool (Pl.has s (c : Nat))
/-- Nobody. -/
def noneA : Array Value := Array.replicate 256 (.bool false)

theorem setA_size (s : Pl.B) : (setA s).size = 256 := by simp [setA]
theorem setA_nil : setA [] = noneA := by
  apply Array.ext
  · simp [setA, noneA]
  · intro i h1 h2; simp [setA, noneA, Pl.has]
theorem setA_get (s : Pl.B) (c : Nat) (h : c < 256) : (setA s)[c]? = some (.bool (Pl.has s c)) := by
  simp [setA, h]
theorem setA_one (s : Pl.B) : ∀ v ∈ (setA s).toList, v.oneCell' = true := by
  intro v hv
  simp [setA] at hv
  obtain ⟨c, _, rfl⟩ := hv
  rfl
theorem setA_snoc (s : Pl.B) (c : UInt8) : (setA s).setIfInBounds c.toNat (.bool true) = setA (s ++ [c]) := by
  apply Array.ext
  · simp [setA]
  · intro i h1 h2
    simp [setA] at h1
    rw [Array.getElem_setIfInBounds]
    have hc : c.toNat < 256 := c.toNat_lt
    by_cases h : c.toNat = i
    · subst h; simp [setA, Pl.has]
    · have hne : ((c.toNat : Int) == (i : Int)) = false := by simp; omega
      simp [setA, Pl.has, h, hne]
    · simpa [setA] using h1

theorem zero64 : (Try.prog.info? 64).map (·.zero) = some (some (.agg noneA)) := by kernel_rfl
theorem size64 : (Try.prog.info? 64).map (·.size) = some 256 := by kernel_rfl

/-- '[]byte(s)': the bytes lie in a new block. -/
theorem list_bytes {P : Program} {ops : Array Oper} {rest : List Oper} {o : Oper} {a : Act} {w : World} {Q : Exit → Act → World → Prop} (hgd : o.guard = none) (src dst e : TypeId) (x : Operand) (ho : o.op = .convert src dst x)
    (s : ByteArray) (hx : a.eval x = .string s) (hs : P.underlying src = some .string) (hd : P.underlying dst = some (.slice e)) (he : P.underlying e = some (.int .u8))
    (h : ∀ (cap : Nat) (w1 : World), Below w.heap.size w w1 → w1.heap.size = w.heap.size + 1 → (∀ j (hj : j < s.size), w1.cell? ⟨w.heap.size, j, none⟩ = some (.int .u8 (s[j].toNat : Int))) →
      wpList P ops Q rest (a.put o.dst (.slice (some ⟨w.heap.size, 0, none⟩) s.size cap)) w1) : wpList P ops Q (o :: rest) a w :=
  wpList_plain hgd fun _ hK => by
    have hr := run_bytes_of_string (P := P) w src dst e s hs hd he
    unfold Oper.wp execOp
    simp only [ho, hx]
    simp [hr]
    refine hK _ _ (h _ _ ?_ ?_ ?_)
    · exact ((Below.refl _ _).drew).alloc (by simp) _
    · simp
    · intro j hj
      have := World.cell?_alloc_mark w.drew (bytesRow s (grownCap w s.size 0 e)) e ((bytesRow s (grownCap w s.size 0 e)).size, (bytesRow s (grownCap w s.size 0 e)).size + 1) j
      exact this.trans (bytesRow_at s _ j hj)
end Go.Proofs.Ytgoggooeipcgpaa
