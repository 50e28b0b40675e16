/-
  Contracts of package sat: Cut, Late.
-/
import Derived.Test.YtfadadgkgbaohaaRows
import Derived.Test.YtfadadgkgbaohaaL0
namespace Go.Proofs.Ytfadadgkgbaohaa
open Go.RowKit
attribute [local go_sem] max_ints min_ints

/-- A tick. -/
def cut (n : Int) : Int := min (max n 0) 4611686018427387904
theorem cut_lo (n : Int) : 0 ≤ cut n := by unfold cut; omega
theorem cut_hi (n : Int) : cut n ≤ 4611686018427387904 := by unfold cut; omega
theorem cut_cut (n : Int) : cut (cut n) = cut n := by unfold cut; omega

set_option maxHeartbeats 400000 in
theorem cut_any (n : Int) (w : World) : Calls Try.prog 44 #[.int .i64 n] w fun e w' => e = .returned (.int .i64 (cut n)) ∧ w = w' := by
  go_enter Try.func44, Try.ntmps44
  go_wp2
  go_ret
  exact ⟨rfl, rfl⟩

set_option maxHeartbeats 400000 in
theorem late_any (now at_ : Int) (w : World) : Calls Try.prog 34 #[.int .i64 now, .int .i64 at_] w fun e w' => e = .returned (.bool (decide (cut at_ ≤ cut now))) ∧ w = w' := by
  go_enter Try.func34, Try.ntmps34
  go_wp2_with (go_at_call 44; refine (cut_any _ _).mono ?_; rintro e w' ⟨rfl, rfl⟩)
  go_ret
  exact ⟨rfl, rfl⟩
end Go.Proofs.Ytfadadgkgbaohaa
