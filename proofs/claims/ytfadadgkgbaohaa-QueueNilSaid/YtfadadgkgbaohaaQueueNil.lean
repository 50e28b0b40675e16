/-
  QueueNil: for every step the law returns true and leaves its argument as it read.
-/
import Derived.Test.YtfadadgkgbaohaaRows
import Derived.Test.YtfadadgkgbaohaaRow
import Derived.Test.YtfadadgkgbaohaaQStep
import Derived.ProofKit
set_option linter.unusedSimpArgs false
set_option linter.unusedVariables false
namespace Go.Proofs.Ytfadadgkgbaohaa
open Go.ChangeShapes Go.WideShapes Go.ChangeAt Go.RowKit

theorem ownKnob_none : ownKnob Try.prog.godebug = none := by kernel_rfl
theorem laid_out : laidOutB Try.prog = true := by kernel_rfl

set_option maxRecDepth 100000 in
theorem queueNil_lifted (os : Os) (started : os.Started) (H : Type) (enc : TypeId × Value → H) :
    ReturnsInHanded {} Try.checked os 5 .any (Rows.queueNilSpec.pre6 enc Try.prog Try.f5 Rows.queueNilRow.domain false) (Rows.queueNilSpec.post enc Try.prog Try.f5 false true false false) := by
  refine returnsInHanded_of_change (C := Try.checked) ownKnob_none started (by kernel_rfl) Try.func5
    (ChangeSpec.witness6 (enc := enc) (C := Try.checked) false ⟨#[], #[.agg #[.int .i64 0, .int .i64 0, .int .i64 0, .int .i64 0, .slice none 0 0, .int .i64 0, .int .i64 0, .int .i64 0, .int .i64 0]], []⟩ 8 (by kernel_rfl) (by kernel_rfl) (by kernel_rfl) (by kernel_rfl)) ?_
  intro W base args ds gs before hval0 hW hcnd _
  have hval : ∀ (j : Nat) t v, Try.f5.params[j]? = some t → args[j]? = some v → Value.okWide Try.prog W .any base t v := hval0
  have hW' := hW
  obtain ⟨p, q, hA0, hV, rfl, hfz, hnd⟩ := hW
  have hA : DataW.TrodAll enc Try.prog W 0 (fun _ => true) true Try.f5.params.toList args.toList ds p := hA0
  rw [Try.params5] at hA hval
  obtain ⟨v0, d0, rfl, rfl, h0⟩ := trodAll_one hA
  obtain ⟨cs, rfl, hsz⟩ := okWide_struct Try.underlying31 (hval 0 31 v0 rfl rfl)
  obtain ⟨fuel, hf⟩ := h0
  obtain ⟨s, wv, hcs, hR, _⟩ := step_arg hf
  have hcs' : cs = (Stp.cells s wv).toArray := by
    have h1 : cs.toList = Stp.cells s wv := by simpa [Value.cells] using hcs
    rw [← h1]
  subst hcs'
  refine (queueNil_walk s wv W hR).mono fun e W' ⟨he, hw⟩ => ?_
  subst he
  refine ⟨_, rfl, post_true hW' rfl rfl (by kernel_rfl) Try.underlying4 laid_out ?_ hw⟩
  rw [Try.params5]
  intro t ht
  simp only [List.mem_cons, List.not_mem_nil, or_false] at ht
  subst ht
  exact ⟨by kernel_rfl, by decide +kernel⟩

theorem queueNil_holds : Rows.QueueNilSaid :=
  OpenClaim.holds_of_wide 5 Try.f5 rfl rfl rfl rfl rfl rfl rfl ⟨rfl, rfl, rfl, rfl, rfl⟩ rfl rfl rfl rfl rfl (by kernel_rfl) Try.func5 (by kernel_rfl)
    (of_decide_eq_true (by kernel_rfl)) (by unfold Func.isWrapper; first | (rw [if_pos (by decide +kernel)]; kernel_rfl) | (rw [if_neg (by decide +kernel)]; exact ⟨rfl, rfl⟩))
    (fun os started H enc _ => queueNil_lifted os started H enc)
end Go.Proofs.Ytfadadgkgbaohaa
