/-
  A port that isn't there; the document's example of layer 18.
-/
import Derived.Test.YtfadadgkgbaohaaFlush
set_option linter.unusedSimpArgs false
set_option linter.unusedVariables false
namespace Go.Proofs.Ytfadadgkgbaohaa
open Go.RowKit
attribute [local go_sem] max_ints min_ints

set_option maxHeartbeats 400000 in
theorem put_nil (m : Msg) (wv : Value) (w : World) : Calls Try.prog 10 #[.pointer none, m.val wv] w fun e w' => e = .returned (.tuple #[.int .i64 0, .bool false, .int .i64 10]) ∧ Fr [] w w' := by
  unfold Msg.val
  go_enter Try.func10, Try.ntmps10
  go_wp2
  go_ret3
  exact ⟨rfl, (Fr.refl _ _).alloc _⟩

set_option maxHeartbeats 400000 in
theorem ask_nil (x u n : Int) (w : World) : Calls Try.prog 12 #[.pointer none, .int .i64 x, .int .i64 u, .int .i64 n] w fun e w' =>
    e = .returned (.tuple #[.agg #[.slice none 0 0, .int .i64 0, .int .i64 0, .int .i64 0, .int .i64 0], .int .i64 2]) ∧ Fr [] w w' := by
  obtain ⟨w1, hw1⟩ : ∃ x, w.alloc (.cells #[.slice none 0 0, .int .i64 0, .int .i64 0, .int .i64 0, .int .i64 0] 29) = x := ⟨_, rfl⟩
  have hF1 : Fr [] w w1 := by rw [← hw1]; exact (Fr.refl _ _).alloc _
  have hBox : Blk w1 w.heap.size 29 #[.slice none 0 0, .int .i64 0, .int .i64 0, .int .i64 0, .int .i64 0] := by rw [← hw1]; exact Blk.new _ _ _
  obtain ⟨x0, x1, x2, x3, x4⟩ := hBox.five
  have xf := hBox.froz
  have key : ∀ W, Fr [w.heap.size] w1 W → Fr [] w W := fun W hW => hF1.trans hW (by simp)
  clear hBox
  go_enter Try.func12, Try.ntmps12
  go_wp2
  refine bodyPost_ret (v := .tuple #[.agg #[.slice none 0 0, .int .i64 0, .int .i64 0, .int .i64 0, .int .i64 0], .int .i64 2]) ?h1 rfl ?h2
  case h2 =>
    refine ⟨rfl, key _ ?_⟩
    iterate 5 refine Fr.setCell ?_ (by simp) _
    exact Fr.refl _ _
  case h1 => simp [results, Try.results12, go_sem, *]

set_option maxHeartbeats 400000 in
theorem flush_nil (w : World) : Calls Try.prog 15 #[.pointer none] w fun e w' => e = .returned (.tuple #[.slice none 0 0, .slice none 0 0]) ∧ w = w' := by
  go_enter Try.func15, Try.ntmps15
  go_wp2
  go_ret2
  exact ⟨rfl, rfl⟩
set_option maxHeartbeats 400000 in
theorem expire_nil (n : Int) (w : World) : Calls Try.prog 19 #[.pointer none, .int .i64 n] w fun e w' => e = .returned (.slice none 0 0) ∧ w = w' := by
  go_enter Try.func19, Try.ntmps19
  go_wp2
  go_ret
  exact ⟨rfl, rfl⟩
set_option maxHeartbeats 400000 in
theorem sweep_nil (n : Int) (w : World) : Calls Try.prog 26 #[.pointer none, .int .i64 n] w fun e w' => e = .returned (.slice none 0 0) ∧ w = w' := by
  go_enter Try.func26, Try.ntmps26
  go_wp2
  go_ret
  exact ⟨rfl, rfl⟩
set_option maxHeartbeats 400000 in
theorem waiting_nil (w : World) : Calls Try.prog 14 #[.pointer none] w fun e w' => e = .returned (.slice none 0 0) ∧ w = w' := by
  go_enter Try.func14, Try.ntmps14
  go_wp2
  go_ret
  exact ⟨rfl, rfl⟩
set_option maxHeartbeats 400000 in
theorem portall_nil (w : World) : Calls Try.prog 13 #[.pointer none] w fun e w' => e = .returned (.slice none 0 0) ∧ w = w' := by
  go_enter Try.func13, Try.ntmps13
  go_wp2
  go_ret
  exact ⟨rfl, rfl⟩
set_option maxHeartbeats 400000 in
theorem portlen_nil (w : World) : Calls Try.prog 20 #[.pointer none] w fun e w' => e = .returned (.int .i64 0) ∧ w = w' := by
  go_enter Try.func20, Try.ntmps20
  go_wp2
  go_ret
  exact ⟨rfl, rfl⟩
set_option maxHeartbeats 400000 in
theorem waits_nil (x : Int) (w : World) : Calls Try.prog 28 #[.pointer none, .int .i64 x] w fun e w' => e = .returned (.bool false) ∧ w = w' := by
  go_enter Try.func28, Try.ntmps28
  go_wp2
  go_ret
  exact ⟨rfl, rfl⟩
end Go.Proofs.Ytfadadgkgbaohaa
