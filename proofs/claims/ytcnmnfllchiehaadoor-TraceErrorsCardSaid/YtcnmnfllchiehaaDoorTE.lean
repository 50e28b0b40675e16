/-
  TraceErrors, walked.
-/
import Derived.Test.YtcnmnfllchiehaaDoorTl0
set_option linter.unusedSimpArgs false
set_option linter.unusedVariables false
namespace Go.Proofs.YtcnmnfllchiehaaDoor
open Go.RowKit
attribute [local go_sem] max_ints min_ints

theorem wordS_out {a : Int} (h : a < 0 ∨ 11 < a) : wordS a = [] := by rw [wordS, if_neg (by omega)]
theorem wordS_in {a : Int} (h : 0 ≤ a ∧ a ≤ 11) : wordS a ≠ [] ∧ errnoI (wordS a) = a := by
  have key : ∀ k : Fin 12, wordS (k.val : Int) ≠ [] ∧ errnoI (wordS (k.val : Int)) = (k.val : Int) := by decide +kernel
  have e : ((⟨a.toNat, by omega⟩ : Fin 12).val : Int) = a := by simp; omega
  have := key ⟨a.toNat, by omega⟩
  rw [e] at this
  exact this
theorem wordS_inj {a b : Int} (h : 0 ≤ a ∧ a ≤ 11) (he : wordS a = wordS b) : a = b := by
  have h1 := wordS_in h
  by_cases hb : 0 ≤ b ∧ b ≤ 11
  · have h2 := wordS_in hb
    rw [← h1.2, ← h2.2, he]
  · exact absurd (he.trans (wordS_out (by omega))) h1.1

set_option maxHeartbeats 2000000 in
theorem errors_walk (a b : Int) (w : World) (hG : Glo w) : Calls Tryd.prog 7 #[.int .i64 a, .int .i64 b] w fun e w' => e = .returned (.bool true) ∧ Fr [] w w' := by
  have HG := Lib.hid hG
  clear hG
  go_enter Tryd.func7, Tryd.ntmps7
  go_wp2_with fail
  refine (lives_any w HG.out).mono ?_
  rintro e w1 ⟨rfl, hf1⟩
  have HF1 := Lib.hid hf1
  clear hf1
  go_wp2_with fail
  refine (word_any a w1).mono ?_
  rintro e w2 ⟨rfl, hf2⟩
  have HF2 := Lib.hid (HF1.out.trans' hf2)
  clear hf2
  go_wp2_with fail
  refine (word_any b w2).mono ?_
  rintro e w3 ⟨rfl, hf3⟩
  have HF3 := Lib.hid (HF2.out.trans' hf3)
  clear hf3
  go_wp2_with fail
  refine (errno_any (wordS a) w3).mono ?_
  rintro e w4 ⟨rfl, hf4⟩
  have HF4 := Lib.hid (HF3.out.trans' hf4)
  clear hf4
  have hE := bs_empty (wordS a)
  have hQ := bs_beq (wordS a) (wordS b)
  by_cases hin : 0 ≤ a ∧ a ≤ 11
  · obtain ⟨h1, h2⟩ := hin
    obtain ⟨h3, h4⟩ := wordS_in ⟨h1, h2⟩
    have hE' : (bs (wordS a)).toList.isEmpty = false := by rw [hE]; simpa using h3
    have e1 : decide (0 ≤ a) = true := by simpa using h1
    have e2 : decide (a ≤ 11) = true := by simpa using h2
    have e5 : max a 0 = a := by omega
    rw [h4, e5]
    clear hE h3 h4 e5
    by_cases hxy : wordS a = wordS b
    · have hab := wordS_inj ⟨h1, h2⟩ hxy
      subst hab
      clear hQ hxy
      go_wp2_with fail
      all_goals
        go_ret
        exact ⟨ret_bool (by simp [*]), HF4.out⟩
    · have hQ' : ((bs (wordS a)).toList == (bs (wordS b)).toList) = false := by rw [hQ]; simpa using hxy
      have hQ2 : ((bs (wordS a)).toList != (bs (wordS b)).toList) = true := by rw [bne, hQ']; rfl
      clear hQ hxy
      go_wp2_with fail
      all_goals
        go_ret
        exact ⟨ret_bool (by simp [*]), HF4.out⟩
  · have h3 := wordS_out (a := a) (by omega)
    have hE' : (bs (wordS a)).toList.isEmpty = true := by rw [hE, h3]; rfl
    have hEb := bs_empty (wordS b)
    have h01 : (decide (0 ≤ a) = true ∧ decide (a ≤ 11) = false) ∨ decide (0 ≤ a) = false := by
      by_cases h0 : 0 ≤ a
      · exact .inl ⟨by simpa using h0, by simp; omega⟩
      · exact .inr (by simpa using h0)
    clear hE hin
    by_cases hb : wordS b = []
    · have hb1 : (bs (wordS b)).toList.isEmpty = true := by rw [hEb, hb]; rfl
      have hQ' : ((bs (wordS a)).toList == (bs (wordS b)).toList) = true := by rw [hQ, h3, hb]; rfl
      have hQ2 : ((bs (wordS a)).toList != (bs (wordS b)).toList) = false := by rw [bne, hQ']; rfl
      clear hQ hEb hb h3
      rcases h01 with ⟨e1, e2⟩ | e1
      all_goals
        go_wp2_with fail
        all_goals
          go_ret
          exact ⟨ret_bool (by simp [*]), HF4.out⟩
    · have hQ' : ((bs (wordS a)).toList == (bs (wordS b)).toList) = false := by rw [hQ, h3]; simpa using hb
      have hQ2 : ((bs (wordS a)).toList != (bs (wordS b)).toList) = true := by rw [bne, hQ']; rfl
      clear hQ hEb hb h3
      rcases h01 with ⟨e1, e2⟩ | e1
      all_goals
        go_wp2_with fail
        all_goals
          go_ret
          exact ⟨ret_bool (by simp [*]), HF4.out⟩
end Go.Proofs.YtcnmnfllchiehaaDoor
