/-
  The contract of slices.Delete(s, 0, 1) at []api.Message.
-/
import Derived.Test.YtfadadgkgbaohaaMsg
import Derived.Test.YtfadadgkgbaohaaL2
import Derived.StillTailTactics
set_option linter.unusedSimpArgs false
set_option linter.unusedVariables false
namespace Go.Proofs.Ytfadadgkgbaohaa
open Go.RowKit

set_option maxHeartbeats 400000 in
set_option maxRecDepth 100000 in
theorem delete_first (g n cap : Nat) (xs : List Value) (w : World) (h : w.ownsRow 0 29 5 (.slice (some ⟨g, 0, none⟩) (n + 1) cap) (n + 1) xs) (hone : ∀ u ∈ xs, u.oneCell' = true) :
    Calls Try.prog 33 #[.slice (some ⟨g, 0, none⟩) (n + 1) cap, .int .i64 0, .int .i64 1] w fun e w' =>
      e = .returned (.slice (some ⟨g, 0, none⟩) n cap) ∧ w'.ownsRow 0 29 5 (.slice (some ⟨g, 0, none⟩) n cap) n (xs.drop 5) ∧ Fr [g] w w' := by
  obtain ⟨hl, h0 | ⟨g', cap', cur, e, _, hg, hnc, hm, hs, htake⟩⟩ := h
  · exact absurd h0.1 (by simp)
  injection e with e1 _ e3
  injection e1 with e1
  injection e1 with e1
  subst e1
  subst e3
  simp only [maxLen] at hm
  have hsz5 : Try.prog.cellsOf 29 = 5 := by kernel_rfl
  have hbig : 5 * (n + 1) ≤ cur.size := by omega
  obtain ⟨ad, hrun, hcells⟩ : ∃ ad, (∀ W, (Instr.slice 39 (.slice (some ⟨g, 0, none⟩) (n + 1) cap) (some (.int .i64 1)) none none).run Try.prog W = .ok (.slice (some ad) n (cap - 1)) W) ∧
      ∀ j u, (xs.drop 5)[j]? = some u → w.cell? (ad.add j) = some u := by
    obtain ⟨i, hi, hz, hsz, hby⟩ := msg_elem.info
    refine ⟨if cap = 1 then ⟨g, 0, none⟩ else ⟨g, 5, none⟩, fun W => ?_, fun j u hu => ?_⟩
    · have h1 : ¬ ((n : Int) + 1 < 1) := by omega
      by_cases hc : cap = 1
      · simp [Instr.slice, run_underlying Try.underlying39, Instr.sliceBounds, Instr.sliceBound, asIntOf, sizeOf, typeInfo, hi, hsz, hc, h1]
      · simp [Instr.slice, run_underlying Try.underlying39, Instr.sliceBounds, Instr.sliceBound, asIntOf, sizeOf, typeInfo, hi, hsz, hc, h1, Addr.add]
    · have hj : 5 + j < xs.length := by
        have := (List.getElem?_eq_some_iff.1 hu).1
        simp at this
        omega
      by_cases hc : cap = 1
      · omega
      · rw [if_neg hc]
        have hadd : (⟨g, 5, none⟩ : Addr).add j = ⟨g, 5 + j, none⟩ := by unfold Addr.add; split <;> simp_all
        rw [hadd, cell_of_row w g (5 + j) cur _ (0, 0) hg]
        rw [List.getElem?_drop] at hu
        rw [← htake, List.getElem?_take] at hu
        split at hu
        · simpa using hu
        · cases hu
  have hap := fun ty => run_shift (w := w.drew) msg_elem ty g n cap (cap - 1) ad cur hg hs (by omega) (xs.drop 5) (by rw [List.length_drop, hl]; omega) hcells (fun u hu => hone u (List.mem_of_mem_drop hu))
  obtain ⟨w1, hw1⟩ : ∃ x, x = w.drew.setRow g (xs.drop 5 ++ cur.toList.drop (n * 5)).toArray := ⟨_, rfl⟩
  have hg1 : w1.heap[g]? = some (.cells (xs.drop 5 ++ cur.toList.drop (n * 5)).toArray 29 (0, 0)) := by rw [hw1]; exact setRow_heap (w := w.drew) hg
  have hF1 : Fr [g] w w1 := by rw [hw1]; exact (Fr.refl _ _).drew.setRow (by simp) _
  rw [← hw1] at hap
  clear hw1
  have hcl := fun ty c => run_clear_one (w := w1) msg_elem ty g (n * 5) c _ hg1 (by simp; omega) (by simp [Value.cells, Value.oneCell'])
  go_enter Try.func33, Try.ntmps33
  go_wp2
  refine wp_tail 6 (by kernel_rfl) (by kernel_rfl) ?_
  simp only [List.take_succ_cons, List.take_zero, List.drop_succ_cons, List.drop_zero]
  iterate 6 still_step
  refine wpStill_nil ?_
  refine wpList_append_run rfl _ _ _ rfl _ _ _ (by rfl) (by rfl) hap ?_
  go_wp2
  go_ret
  refine ⟨rfl, ⟨by rw [List.length_drop, hl]; omega, .inr ⟨g, cap, _, rfl, Nat.zero_le _, setRow_heap hg1, by omega, by simp only [maxLen]; omega, ?_, ?_⟩⟩, hF1.trans' ((Fr.refl _ _).setRow (by simp) _)⟩
  · simp
    omega
  · have h5 : (xs.drop 5).length = n * 5 := by rw [List.length_drop, hl]; omega
    simp [List.take_append, h5]
end Go.Proofs.Ytfadadgkgbaohaa
