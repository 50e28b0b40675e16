/-
  The steps of a schedule, each operation named from the region's list: so that what it is stands at once.
-/
import Derived.Test.YtcnmnfllchiehaaDoorL3
namespace Go.Proofs.YtcnmnfllchiehaaDoor
open Go.RowKit
section
variable {P : Program} {ops : Array Oper} {Q : Exit → Act → World → Prop} {S : World → Prop}
theorem at_read {k : Nat} {σ : List (Nat × Nat)} {o : Oper} {a : Act} {w : World} (v : Value) (ho : ops.toList[k]? = some o) (hg : Region.wanted o (yielded ops a.tmps) = true) (hy : ∀ W, S W → (execOp a.eval o).run P W = .ok (.value v) W)
    (h : wpSched P ops Q S σ (a.put o.dst v) w) : wpSched P ops Q S ((k, 0) :: σ) a w := sched_read v (by rw [← Array.getElem?_toList]; exact ho) hg hy h
theorem at_skip {k : Nat} {σ : List (Nat × Nat)} {o : Oper} {a : Act} {w : World} (ho : ops.toList[k]? = some o) (hg : Region.wanted o (yielded ops a.tmps) = false)
    (h : wpSched P ops Q S σ (a.put o.dst undef) w) : wpSched P ops Q S ((k, 0) :: σ) a w := sched_skip (by rw [← Array.getElem?_toList]; exact ho) hg h
theorem at_eff {k : Nat} {σ : List (Nat × Nat)} {o : Oper} {a : Act} {w : World} (ho : ops.toList[k]? = some o)
    (h : ∀ K : Act → World → Prop, (∀ a' w', S w' → wpSched P ops Q S σ a' w' → K a' w') → if Region.wanted o (yielded ops a.tmps) then o.wp P a w K Q else K (a.put o.dst undef) w) : wpSched P ops Q S ((k, 1) :: σ) a w := sched_eff (by rw [← Array.getElem?_toList]; exact ho) h
theorem at_last {k : Nat} {σ : List (Nat × Nat)} {o : Oper} {a : Act} {w : World} (ho : ops.toList[k]? = some o)
    (h : ∀ K : Act → World → Prop, (∀ a' w', wpSched P ops Q S σ a' w' → K a' w') → if Region.wanted o (yielded ops a.tmps) then o.wp P a w K Q else K (a.put o.dst undef) w) : wpSched P ops Q S ((k, 2) :: σ) a w := sched_last (by rw [← Array.getElem?_toList]; exact ho) h
end
end Go.Proofs.YtcnmnfllchiehaaDoor
