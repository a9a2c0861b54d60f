/-
  Arguments opened: a slice of numbers; the table that the row lists.
-/
import Derived.Test.YtccmmilbnfiacaaDoorBsA
import Derived.ChangeSlices
import Derived.LaidMore
import Derived.LaidLaws
import Derived.LaidHandle
import Derived.MakeChecks
import Derived.OpenShut
namespace Go.Proofs.YtccmmilbnfiacaaDoor
open Go.RowKit Go.ChangeShapes Go.WideShapes
set_option linter.unusedVariables false

theorem ints_open {H : Type} {enc : TypeId × Value → H} {W : World} {fuel : Nat} {cs : List Value} {x : DataW H × List MemPlace}
    (h : DataW.trod enc Tryd.prog W 0 (fun _ => true) true fuel 22 cs = some x) :
    ∃ a l cap, cs = [.slice a l.length cap] ∧ Ints W a l ∧ l.length ≤ maxLen ∧ (∀ i ∈ l, (Lit.int .i64 i).wf = true) := by
  rcases open_ints Tryd.underlying22 Tryd.underlying3 (by kernel_rfl) h with ⟨rfl, rfl⟩ | ⟨a, len, cap, zs, rfl, _, hl, hm, hz, rfl, hc, hwf⟩
  · exact ⟨none, [], 0, rfl, fun i hi => absurd hi (by simp), by simp, fun i hi => by cases hi⟩
  have hzl : zs.length = cap := by rw [hz]; simp
  have hlen : (zs.take len).length = len := by rw [List.length_take]; omega
  refine ⟨some a, zs.take len, cap, by rw [hlen], fun i hi => ?_, by rw [hlen]; omega, fun i hi => hwf i (List.mem_of_mem_take hi)⟩
  rw [hlen] at hi
  have hci := hc i (by omega)
  have hs : a.spot = none := by
    have this := hc 0 (by omega)
    simp [Addr.add] at this
    unfold World.cell? at this
    split at this
    · split at this
      · simp at this
      · rename_i h; simpa using h
    · simp at this
  obtain ⟨b, off, sp⟩ := a
  simp only at hs
  subst hs
  refine ⟨b, off, rfl, ?_⟩
  have e : (⟨b, off, none⟩ : Addr).add i = ⟨b, off + i, none⟩ := by
    unfold Addr.add
    split <;> simp_all
  rw [e] at hci
  have hg : zs.getD i 0 = (zs.take len)[i]'(by rw [hlen]; exact hi) := by
    rw [List.getElem_take, List.getD_eq_getElem?_getD, List.getElem?_eq_getElem (by omega)]
    rfl
  rw [← hg]
  exact hci

theorem gTab : Tryd.prog.globalNamed "math/bits.deBruijn64tab" = some 0 := by kernel_rfl
theorem tTab : (Tryd.prog.globals[0]?).map (·.type) = some 61 := by kernel_rfl

abbrev laidAll : List (String × DataW Unit) := [("math/bits.deBruijn64tab", Rows.laid_math_bits_deBruijn64tab)]
theorem datum_eq : (Rows.laid_math_bits_deBruijn64tab : DataW Unit) = .agg (Lib.deBruijn64tab.map fun k => .lit (.int .u8 (k : Nat))) := by rfl

/-- What the row's condition gives the walks. -/
theorem tab_of_laid {W : World} (h : laidMetH Tryd.prog laidAll W) : Tab W := by
  rw [MakeChecks.laidMetH_plain _ _ _ (by kernel_rfl)] at h
  obtain ⟨ps, ⟨g, t, cs, f, p, q, hg, ht, hv, hd, _, _⟩, _⟩ := h
  obtain rfl := Option.some.inj (gTab.symm.trans hg)
  obtain rfl := Option.some.inj (tTab.symm.trans ht)
  obtain ⟨xs, m, rfl, hx, hlen, hn, hel⟩ := DataW.trod_array Tryd.underlying61 hd
  have c1 : Tryd.prog.cellsOf 5 = 1 := by kernel_rfl
  have c64 : Tryd.prog.cellsOf 61 = 64 := by kernel_rfl
  rw [c64] at hlen
  intro j hj
  have hj1 := hel j hj
  rw [c1, Nat.mul_one] at hj1
  have hdj : (cs.toList.drop j).take 1 = [cs.toList[j]] := by
    rw [List.drop_eq_getElem_cons (by omega)]
    rfl
  rw [hdj, List.getElem?_eq_getElem (by omega)] at hj1
  obtain ⟨k, e1, e2, _⟩ := DataW.trod_int Tryd.underlying5 hj1
  simp only [Prod.mk.injEq] at hx
  have hmap := hx.1
  rw [datum_eq] at hmap
  injection hmap with hmap
  have hat := congrArg (fun l => l[j]?) hmap
  have h64 : Lib.deBruijn64tab.length = 64 := by decide
  simp only [List.getElem?_map] at hat
  rw [List.getElem?_eq_getElem (by omega : j < Lib.deBruijn64tab.length), List.getElem?_eq_getElem (by omega : j < xs.length)] at hat
  simp only [Option.map_some, Option.some.injEq] at hat
  rw [e2] at hat
  simp only [DataW.lit.injEq, Lit.int.injEq, true_and] at hat
  have hcell := World.var?_cell hg hv j
  rw [hcell]
  have hc : cs[j]? = some cs.toList[j] := by rw [← Array.getElem?_toList]; exact List.getElem?_eq_getElem _
  rw [hc]
  simp only [List.cons.injEq, and_true] at e1
  rw [e1, ← hat, List.getD_eq_getElem?_getD, List.getElem?_eq_getElem (by omega : j < Lib.deBruijn64tab.length)]
  rfl
end Go.Proofs.YtccmmilbnfiacaaDoor
