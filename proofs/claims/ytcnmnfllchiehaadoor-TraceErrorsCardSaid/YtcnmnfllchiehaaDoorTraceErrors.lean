/-
  TraceErrors: for every two numbers the law returns true and leaves its arguments as they read.
-/
import Derived.Test.YtcnmnfllchiehaaDoorRows
import Derived.Test.YtcnmnfllchiehaaDoorCards
import Derived.Test.YtcnmnfllchiehaaDoorTie
import Derived.Test.YtcnmnfllchiehaaDoorTG
import Derived.Test.YtcnmnfllchiehaaDoorTE
set_option linter.unusedSimpArgs false
set_option linter.unusedVariables false
namespace Go.Proofs.YtcnmnfllchiehaaDoor
open Go.ChangeShapes Go.WideShapes Go.ChangeAt Go.RowKit

set_option maxRecDepth 100000 in
theorem traceErrors_lifted (os : Os) (started : os.Started) (H : Type) (enc : TypeId × Value → H) (F : Stop.Interp) :
    ReturnsInHanded {} Tryd.checked os 7 .any ((OpenSpec.ofChange Rows.traceErrorsSpec).preRow enc Tryd.prog Tryd.f7 Rows.traceErrorsRow.domain false Rows.traceErrorsRow.laid) (((OpenSpec.ofChange Rows.traceErrorsSpec).at F).post enc Tryd.prog Tryd.f7 false true false false) := by
  refine returnsInHanded_of_row (C := Tryd.checked) (s := OpenSpec.ofChange Rows.traceErrorsSpec) ownKnob_none started (by kernel_rfl) Tryd.func7 ?_ ?_
  · exact ChangeSpec.witness_shaped (enc := enc) (C := Tryd.checked) (os := os) (s := Rows.traceErrorsSpec) (X := fun w _ => laidMetH Tryd.prog laidL w) false (laidWorld os) #[.int .i64 0, .int .i64 0] 8 rfl (World.shaped_of_RefB (by kernel_rfl) (by kernel_rfl)) (by kernel_rfl) (by kernel_rfl) (by kernel_rfl) (door_met os _)
  · intro W base args ds gs before hval0 hW _ _ _ hL hsh _
    have hval : ∀ (j : Nat) t v, Tryd.f7.params[j]? = some t → args[j]? = some v → Value.okWide Tryd.prog W .any base t v := hval0
    have hG : Glo W := glo_of hL hsh
    have hW' := hW
    obtain ⟨p, q, hA0, hV, rfl, hfz, hnd⟩ := hW
    have hA : DataW.TrodAll enc Tryd.prog W 0 (fun _ => true) true Tryd.f7.params.toList args.toList ds p := hA0
    rw [Tryd.params7] at hA hval
    obtain ⟨v0, v1, d0, d1, p0, p1, rfl, rfl, rfl, h0, h1⟩ := trodAll_two hA
    obtain ⟨a, rfl, rfl, rfl, wa⟩ := open_int Tryd.underlying3 (hval 0 3 v0 rfl rfl) h0
    obtain ⟨b, rfl, rfl, rfl, wb⟩ := open_int Tryd.underlying3 (hval 1 3 v1 rfl rfl) h1
    refine (errors_walk a b W hG).mono fun e W' ⟨he, hw⟩ => ?_
    subst he
    refine ⟨_, rfl, post_true hW' rfl rfl (by kernel_rfl) Tryd.underlying4 laid_out ?_ hw⟩
    rw [Tryd.params7]
    intro t ht
    simp only [List.mem_cons, List.not_mem_nil, or_false] at ht
    rcases ht with rfl | rfl
    all_goals exact ⟨by kernel_rfl, by decide +kernel⟩

theorem traceErrors_row : Rows.TraceErrorsSaid :=
  OpenClaim.holds_of_cond 7 Tryd.f7 rfl rfl rfl rfl rfl rfl rfl ⟨rfl, rfl, rfl, rfl, rfl⟩ rfl rfl rfl rfl rfl (by kernel_rfl) Tryd.func7 (by kernel_rfl)
    (of_decide_eq_true (by kernel_rfl)) (by unfold Func.isWrapper; first | (rw [if_pos (by decide +kernel)]; kernel_rfl) | (rw [if_neg (by decide +kernel)]; exact ⟨rfl, rfl⟩))
    (fun os started H enc _ F0 => by rw [OpenClaim.pre_eq_preRow]; exact traceErrors_lifted os started H enc F0)

theorem traceErrors_holds : Rows.TraceErrorsCardSaid :=
  Claim7.holds_tied_plain_at .later [] [.data, .data, .data, .data, .sentinel, .sentinel, .pinned] true (true, "b6c84021425e50478b77485d2953a9f11e7a8ba386e8e4fdf5164bd70659d1fd") true
    traceErrors_row (fun _ h => by cases h) (by kernel_rfl) (fun _ h => by cases h) traceErrors_row_tie rfl ⟨rfl, rfl⟩ (by kernel_rfl) rfl
    (fun f fn hf hfn => by
      obtain rfl : f = 7 := Option.some.inj ((show Tryd.prog.funcNamed "empennage/empennagelaw22.TraceErrors" = some 7 by kernel_rfl).symm.trans hf) |>.symm
      obtain rfl : fn = Tryd.f7 := (Option.some.inj (Tryd.func7.symm.trans hfn)).symm
      exact ⟨by kernel_rfl, fun j t ht => by
        rw [Tryd.params7] at ht
        have hm : t ∈ [3, 3] := List.mem_of_getElem? (by simpa using ht)
        have hall : ∀ u ∈ [3, 3], Tryd.prog.wantsStandIn u = false := by
          intro u hu
          simp only [List.mem_cons, List.not_mem_nil, or_false] at hu
          rcases hu with rfl | rfl
          all_goals kernel_rfl
        exact hall t hm⟩)
    (by kernel_rfl)
end Go.Proofs.YtcnmnfllchiehaaDoor
