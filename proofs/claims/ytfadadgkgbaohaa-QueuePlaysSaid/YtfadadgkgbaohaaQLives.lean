/-
  The document's example of layer 18 holds.
-/
import Derived.Test.YtfadadgkgbaohaaQNil
import Derived.Test.YtfadadgkgbaohaaRef
set_option linter.unusedSimpArgs false
set_option linter.unusedVariables false
namespace Go.Proofs.Ytfadadgkgbaohaa
open Go.RowKit
attribute [local go_sem] max_ints min_ints

def msgSeq (q : Int) : Msg := ⟨[], 0, 0, 0, q⟩
theorem msgSeq_words (w : World) (M : List Nat) (q : Int) : WordsAt w M (.slice none 0 0) (msgSeq q) := ⟨Rd.nil _ _ _, by simp [msgSeq]⟩

set_option maxHeartbeats 1000000 in
set_option maxRecDepth 100000 in
theorem qlives (w : World) : Calls Try.prog 6 #[] w fun e w' => e = .returned (.bool true) ∧ Fr [] w w' := by
  have hz : ∀ F : List Nat, (∀ x ∈ F, w.heap.size ≤ x) → ∀ w1 w2 : World, Fr [] w w1 → Fr F w1 w2 → Fr [] w w2 := fun F hF w1 w2 h1 h2 => h1.trans h2 (fun x hx hlt => by have := hF x hx; omega)
  go_enter Try.func6, Try.ntmps6
  go_wp2_with fail
  refine (queue_New_any 2 w).mono ?_
  rintro e w1 ⟨rfl, hP1, hf1, hs1⟩
  have hF0 : ∀ x ∈ [w.heap.size, w.heap.size + 1, w.heap.size + 2], w.heap.size ≤ x := by simp
  clear hs1
  go_wp2_with fail
  refine (ask_begins _ _ _ 7 9 3 _ hP1 rfl rfl (by decide) rfl (by decide) (by decide) (by decide)).mono ?_
  rintro e w2 ⟨rfl, ck, F2, hP2, hf2, _, hF2⟩
  have hz2 := hz _ hF0 _ _ hf1 hf2
  have hF2' : ∀ x ∈ F2, w.heap.size ≤ x := fun x hx => by
    rcases hF2 x hx with h | h
    · exact hF0 x h
    · have := hf1.size; omega
  clear hF2 hf2 hF0 hf1
  go_wp2_with fail
  have hf23 : Fr [] w2 (w2.alloc (.cells #[.slice none 0 0, .int .i64 0, .int .i64 0, .int .i64 0, .int .i64 0] 29)) := (Fr.refl _ _).alloc _
  refine (port_Waits_any _ _ _ 7 _ (hP2.fr0 hf23)).mono ?_
  rintro e w3 ⟨rfl, rfl⟩
  have hP3 := hP2.fr0 hf23
  have hz3 := hz2.trans' hf23
  clear hP2 hf23 hz2
  generalize hw3 : w2.alloc (.cells #[.slice none 0 0, .int .i64 0, .int .i64 0, .int .i64 0, .int .i64 0] 29) = w3 at *
  clear hw3
  go_wp2_with fail
  refine (put_wakes _ _ F2 (msgSeq 1) (.slice none 0 0) 7 [] w3 hP3 rfl (by decide)).mono ?_
  rintro e w4 ⟨rfl, hP4, hf4⟩
  have hz4 := hz _ hF2' _ _ hz3 hf4
  clear hP3 hf4 hz3
  go_wp2_with fail
  refine (put_holds _ _ F2 (msgSeq 2) (.slice none 0 0) w4 hP4 rfl (by show (0 : Int) < 2; decide) (msgSeq_words _ _ _)).mono ?_
  rintro e w5 ⟨rfl, F5, hP5, hf5, _, hF5⟩
  have hz5 := hz _ hF2' _ _ hz4 hf5
  have hF5' : ∀ x ∈ F5, w.heap.size ≤ x := fun x hx => by
    rcases hF5 x hx with h | h
    · exact hF2' x h
    · have := hz4.size; omega
  clear hP4 hf5 hz4 hF5
  go_wp2_with fail
  refine (ask_takes _ _ F5 7 0 3 (msgSeq 2) [] w5 hP5 rfl rfl).mono ?_
  rintro e w6 ⟨⟨wv, rfl, hwv⟩, hP6, hf6⟩
  have hz6 := hz _ hF5' _ _ hz5 hf6
  obtain ⟨A, c, rfl, _⟩ := hwv.1
  clear hP5 hf6 hz5
  simp only [Msg.val, msgSeq, List.length_nil]
  obtain ⟨w7, hw7⟩ : ∃ x, w6.alloc (.cells #[.slice A 0 c, .int .i64 0, .int .i64 0, .int .i64 0, .int .i64 2] 29) = x := ⟨_, rfl⟩
  have hF7 : Fr [] w6 w7 := by rw [← hw7]; exact (Fr.refl _ _).alloc _
  have hB7 : Blk w7 w6.heap.size 29 #[.slice A 0 c, .int .i64 0, .int .i64 0, .int .i64 0, .int .i64 2] := by rw [← hw7]; exact Blk.new _ _ _
  obtain ⟨x0, x1, x2, x3, x4⟩ := hB7.five
  have hP7 := hP6.fr0 hF7
  clear hB7 hP6
  go_wp2_with fail
  refine (port_Len_any _ _ F5 _ hP7).mono ?_
  rintro e w8 ⟨rfl, rfl⟩
  clear hP7
  go_wp2
  go_ret
  exact ⟨rfl, hz6.trans' hF7⟩
end Go.Proofs.Ytfadadgkgbaohaa
