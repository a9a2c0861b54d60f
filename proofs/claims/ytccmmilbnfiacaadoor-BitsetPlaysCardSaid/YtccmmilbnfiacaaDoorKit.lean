/-
  Small laws for the walks of this seat, over any program: a region whose operations each yield one value in every world of a class; a new variable of an array's type; a store of a whole array.
-/
import Derived.WalkKit
import Derived.WalkSpells
import Derived.WalkLawsBesides
import Derived.BigQuiet
import Derived.Lib.Hide
import Derived.Deep.MidRow
import Derived.Deep.RegionWith
import Derived.Deep.DeepCutAuto
import Derived.Deep.RegionHeld3
import Derived.Deep.AppendLies
import Derived.KernelRfl
namespace Go.Proofs.YtccmmilbnfiacaaDoor
open Go.RowKit

/-- A world that is as w0 was below block number B. -/
structure Wd (B : Nat) (w0 : World) where
  w : World
  ok : Below B w0 w

instance (B : Nat) (w0 : World) : Nonempty (Wd B w0) := ⟨⟨w0, .refl _ _⟩⟩

/-- A region that draws its order, each of whose operations yields one value in every world that is as 'w' below B (a call may leave another such world): one walk of the text's order. -/
theorem region_cls {P : Program} {id : Nat} {Q : Exit → Act → World → Prop} {a : Act} {w : World} {l : List Oper} (B : Nat) (hm : P.follows .mixedOrders = true) (hB : Region.lexB .any l.toArray = true)
    (h : wpQuiet P l.toArray (fun w' => ∃ x : Wd B w, w' = x.w) (fun a' => ∀ x : Wd B w, Q .normal a' x.w) l a) : (Code.region id l.toArray true).wp P Q a w :=
  wp_region_quiet (C := fun w' => ∃ x : Wd B w, w' = x.w) hm hB ⟨⟨_, (Below.refl _ _).drew⟩, rfl⟩ (by
    have e : (fun a' : Act => ∀ w', (∃ x : Wd B w, w' = x.w) → Q .normal a' w') = fun a' => ∀ x : Wd B w, Q .normal a' x.w := by
      funext a'; apply propext; constructor
      · intro g x; exact g _ ⟨x, rfl⟩
      · rintro g w' ⟨x, rfl⟩; exact g x
    rw [e]; simpa using h)

/-- A call whose contract leaves all as it was below the heap's size, met in such a world. -/
theorem calls_cls {P : Program} {f : FuncId} {args : Array Value} {B : Nat} {w0 : World} {v : Value} (x : Wd B w0) (hB : B ≤ w0.heap.size)
    (h : Calls P f args x.w fun e w' => e = .returned v ∧ Below x.w.heap.size x.w w') : Calls P f args x.w fun e w'' => e = .returned v ∧ ∃ y : Wd B w0, w'' = y.w :=
  h.mono fun _ w' ⟨he, hw⟩ => ⟨he, ⟨w', x.ok.trans (hw.mono (Nat.le_trans hB x.ok.size))⟩, rfl⟩

/-- The same of a callee that leaves the world alone. -/
theorem calls_cls_same {P : Program} {f : FuncId} {args : Array Value} {B : Nat} {w0 : World} {v : Value} (x : Wd B w0)
    (h : Calls P f args x.w fun e w' => e = .returned v ∧ x.w = w') : Calls P f args x.w fun e w'' => e = .returned v ∧ ∃ y : Wd B w0, w'' = y.w :=
  h.mono fun _ _ ⟨he, hw⟩ => ⟨he, x, hw.symm⟩

theorem bcell {B : Nat} {W w1 : World} (hb : Below B W w1) : (∀ b o, b < B → w1.cell? ⟨b, o, none⟩ = W.cell? ⟨b, o, none⟩) ∧ (∀ b o, b < B → w1.frozen? ⟨b, o, none⟩ = W.frozen? ⟨b, o, none⟩) :=
  ⟨fun b o h => hb.cell (p := ⟨b, o, none⟩) h, fun b o h => hb.frozen (p := ⟨b, o, none⟩) h⟩

/-- A variable of a type whose zero value is the row 'z' of cells is laid. -/
theorem list_alloc_row {P : Program} {ops : Array Oper} {rest : List Oper} {o : Oper} {a : Act} {w : World} {Q : Exit → Act → World → Prop} (hgd : o.guard = none) (T : TypeId) (ho : o.op = .alloc T)
    (z : Array Value) (hz : (P.info? T).map (·.zero) = some (some (.agg z))) (h : wpList P ops Q rest (a.put o.dst (.pointer (some ⟨w.heap.size, 0, none⟩))) (w.alloc (.cells z T))) : wpList P ops Q (o :: rest) a w :=
  wpList_plain hgd fun _ hK => by
    cases hi : P.info? T with
    | none => simp [hi] at hz
    | some i =>
      have hzz : i.zero = some (.agg z) := by simpa [hi] using hz
      unfold Oper.wp execOp
      simp only [ho]
      simp [Instr.alloc, zeroValue, typeInfo, hi, hzz, newVar, newRow, Value.cells]
      exact hK _ _ h

/-- A whole array goes into a variable that lies alone in its block. -/
theorem list_store_row {P : Program} {ops : Array Oper} {rest : List Oper} {o : Oper} {a : Act} {w : World} {Q : Exit → Act → World → Prop} (hgd : o.guard = none) (T : TypeId) (x y : Operand) (ho : o.op = .store T x y)
    (g : Nat) (hx : a.eval x = .pointer (some ⟨g, 0, none⟩)) (cs : Array Value) (hy : a.eval y = .agg cs) (old : Array Value) (t : TypeId) (hg : w.heap[g]? = some (.cells old t (0, 0))) (hs : old.size = cs.size)
    (hi : (P.info? T).map (·.size) = some cs.size) (h1 : ∀ v ∈ cs.toList, v.oneCell' = true)
    (h : wpList P ops Q rest (a.put o.dst undef) (w.setRow g cs)) : wpList P ops Q (o :: rest) a w :=
  wpList_plain hgd fun _ hK => by
    cases hq : P.info? T with
    | none => simp [hq] at hi
    | some i =>
      have hsz : i.size = cs.size := by simpa [hq] using hi
      have hst := run_storeCells_from (P := P) g t cs.toList 0 old w hg (by simp [hs]) h1
      unfold Oper.wp execOp
      simp only [ho, hx, hy]
      simp [Instr.storeAt, Instr.sureAddr, storeVar, sizeOf, typeInfo, hq, hsz, Value.cells]
      simp at hst
      rw [hst]
      exact hK _ _ h
end Go.Proofs.YtccmmilbnfiacaaDoor
