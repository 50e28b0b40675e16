/-
  Return codes' words and entries' words: errors, kinds, Word, Errno, told; the reference's Word, Errno, word, kinds.
-/
import Derived.Test.YtcnmnfllchiehaaDoorS1
set_option linter.unusedSimpArgs false
set_option linter.unusedVariables false
namespace Go.Proofs.YtcnmnfllchiehaaDoor
open Go.RowKit
attribute [local go_sem] max_ints min_ints

def errW : List Str := [[111, 107], [110, 111, 97, 99, 116, 105, 111, 110], [110, 111, 116, 97, 118, 97, 105, 108, 97, 98, 108, 101], [105, 110, 118, 97, 108, 105, 100, 112, 97, 114, 97, 109], [105, 110, 118, 97, 108, 105, 100, 99, 111, 110, 102, 105, 103], [105, 110, 118, 97, 108, 105, 100, 109, 111, 100, 101],
  [116, 105, 109, 101, 100, 111, 117, 116], [114, 97, 110, 103, 101], [102, 111, 114, 109], [115, 104, 111, 114, 116], [102, 117, 108, 108], [101, 109, 112, 116, 121]]
def kindW : List Str := [[105, 100, 108, 101], [119, 114, 105, 116, 101], [114, 101, 97, 100], [115, 116, 101, 112], [115, 101, 110, 100], [114, 101, 99, 101, 105, 118, 101], [114, 97, 105, 115, 101], [97, 103, 97, 105, 110]]

theorem errors_any (w : World) : Calls Tryd.prog 45 #[] w fun e w' => e = .returned (.slice (some ⟨w.heap.size, 0, none⟩) 12 12) ∧ w' = w.alloc (.cells (strs errW).toArray 9) := by
  go_enter Tryd.func45, Tryd.ntmps45
  go_wp2
  go_ret
  exact ⟨rfl, rfl⟩
theorem kinds_any (w : World) : Calls Tryd.prog 25 #[] w fun e w' => e = .returned (.slice (some ⟨w.heap.size, 0, none⟩) 8 8) ∧ w' = w.alloc (.cells (strs kindW).toArray 9) := by
  go_enter Tryd.func25, Tryd.ntmps25
  go_wp2
  go_ret
  exact ⟨rfl, rfl⟩

def wordS (e : Int) : Str := if 0 ≤ e ∧ e < 12 then errW.getD e.toNat [] else []
theorem word_any (e : Int) (w : World) : Calls Tryd.prog 23 #[.int .i64 e] w fun r w' => r = .returned (.string (bs (wordS e))) ∧ Fr [] w w' := by
  by_cases h0 : e < 0
  · go_enter Tryd.func23, Tryd.ntmps23
    go_wp2_with fail
    go_ret
    refine ⟨?_, Fr.refl _ _⟩
    rw [wordS, if_neg (by omega)]
    rfl
  · have h0' : 0 ≤ e := by omega
    by_cases h1 : e < 12
    · obtain ⟨k, rfl⟩ : ∃ k : Nat, e = k := ⟨e.toNat, by omega⟩
      have hk : k < errW.length := by show k < 12; omega
      have hw : wordS k = errW[k] := by
        rw [wordS, if_pos ⟨h0', h1⟩]
        simp [List.getD, hk]
      have hcell : ∀ W : World, (W.alloc (.cells (strs errW).toArray 9)).cell? ⟨W.heap.size, k, none⟩ = some (.string (bs (wordS k))) := fun W => by
        rw [(Blk.new W 9 (strs errW).toArray).cell k, hw]
        simp [strs, hk]
      have HC := Lib.hid hcell
      clear hw hcell hk
      go_enter Tryd.func23, Tryd.ntmps23
      go_wp2_with fail
      refine (errors_any w).mono ?_
      rintro r w1 ⟨rfl, hw1⟩
      have hf1 : Fr [] w w1 := by rw [hw1]; exact (Fr.refl _ _).alloc _
      have HF1 := Lib.hid hf1
      clear hf1 hw1
      go_wp2_with fail
      refine (errors_any w1).mono ?_
      rintro r w2 ⟨rfl, hw2⟩
      have hf2 : Fr [] w1 w2 := by rw [hw2]; exact (Fr.refl _ _).alloc _
      have hc2 := HC.out w1
      rw [← hw2] at hc2
      have HF2 := Lib.hid hf2
      clear hf2 hw2
      go_wp2_with fail
      go_ret
      exact ⟨rfl, HF1.out.trans' HF2.out⟩
    · go_enter Tryd.func23, Tryd.ntmps23
      go_wp2_with fail
      refine (errors_any w).mono ?_
      rintro r w1 ⟨rfl, hw1⟩
      have hf1 : Fr [] w w1 := by rw [hw1]; exact (Fr.refl _ _).alloc _
      have HF1 := Lib.hid hf1
      clear hf1 hw1
      go_wp2_with fail
      go_ret
      refine ⟨?_, HF1.out⟩
      rw [wordS, if_neg (by omega)]
      rfl

/-- A return code out of a word. -/
def errnoI (s : Str) : Int := Lib.idxOfS (errW.map bs) (bs s)
theorem errno_any (s : Str) (w : World) : Calls Tryd.prog 21 #[.string (bs s)] w fun r w' => r = .returned (.tuple #[.int .i64 (max (errnoI s) 0), .bool (decide (errnoI s ≥ 0))]) ∧ Fr [] w w' := by
  go_enter Tryd.func21, Tryd.ntmps21
  go_wp2_with fail
  refine (errors_any w).mono ?_
  rintro r w1 ⟨rfl, hw1⟩
  have hf1 : Fr [] w w1 := by rw [hw1]; exact (Fr.refl _ _).alloc _
  have hr1 : Rd w1 1 [] (.slice (some ⟨w.heap.size, 0, none⟩) 12 12) errW.length (strs errW) := by rw [hw1]; exact rd_new w 1 [] _ _ 12 rfl (by decide) (by simp)
  have HF1 := Lib.hid hf1
  have HR1 := Lib.hid hr1
  clear hf1 hw1 hr1
  go_wp2_with fail
  refine (blank_index_any errW s _ [] w1 HR1.out).mono ?_
  rintro r w2 ⟨rfl, rfl⟩
  have he : Lib.idxOfS (errW.map bs) (bs s) = errnoI s := rfl
  rw [he]
  go_wp2
  go_ret2
  exact ⟨rfl, HF1.out⟩

def toldS (e : Int) : Str := if wordS e = [] then [63] else wordS e
theorem told_any (e : Int) (w : World) : Calls Tryd.prog 38 #[.int .i64 e] w fun r w' => r = .returned (.string (bs (toldS e))) ∧ Fr [] w w' := by
  go_enter Tryd.func38, Tryd.ntmps38
  go_wp2_with fail
  refine (word_any e w).mono ?_
  rintro r w1 ⟨rfl, hf1⟩
  have hb := bs_empty (wordS e)
  by_cases h : wordS e = []
  · have hb' : (bs (wordS e)).toList.isEmpty = true := by rw [hb, h]; rfl
    have HT := Lib.hid (show toldS e = [63] by rw [toldS, if_pos h])
    clear hb h
    go_wp2_with fail
    go_ret
    refine ⟨?_, hf1⟩
    rw [HT.out]
    rfl
  · have hb' : (bs (wordS e)).toList.isEmpty = false := by rw [hb]; simpa using h
    have HT := Lib.hid (show toldS e = wordS e by rw [toldS, if_neg h])
    clear hb h
    go_wp2_with fail
    refine (word_any e w1).mono ?_
    rintro r w2 ⟨rfl, hf2⟩
    go_wp2_with fail
    go_ret
    refine ⟨?_, hf1.trans' hf2⟩
    rw [HT.out]
    rfl

/-! ### The reference's -/
def refWordS (e : Int) : Str := wordS e
set_option maxHeartbeats 400000 in
theorem refWord_any (e : Int) (w : World) : Calls Tryd.prog 46 #[.int .i64 e] w fun r w' => r = .returned (.string (bs (wordS e))) ∧ Fr [] w w' := by
  by_cases h0 : e < 0
  · go_enter Tryd.func46, Tryd.ntmps46
    go_wp2_with fail
    go_ret
    refine ⟨?_, Fr.refl _ _⟩
    rw [wordS, if_neg (by omega)]
    rfl
  · have h0' : 0 ≤ e := by omega
    by_cases h1 : e < 12
    · obtain ⟨k, rfl⟩ : ∃ k : Nat, e = k := ⟨e.toNat, by omega⟩
      have hk : k < errW.length := by show k < 12; omega
      have hw : wordS k = errW[k] := by
        rw [wordS, if_pos ⟨h0', h1⟩]
        simp [List.getD, hk]
      obtain ⟨w2, hw2⟩ : ∃ y, w.alloc (.cells (strs errW).toArray 9) = y := ⟨_, rfl⟩
      have hc2 : w2.cell? ⟨w.heap.size, k, none⟩ = some (.string (bs (wordS k))) := by
        rw [← hw2, (Blk.new w 9 (strs errW).toArray).cell k, hw]
        simp [strs, hk]
      have hf2 : Fr [] w w2 := by rw [← hw2]; exact (Fr.refl _ _).alloc _
      have hle : k ≤ 11 := by omega
      unfold strs errW bs at hw2
      simp only [List.map_cons, List.map_nil] at hw2
      have HF2 := Lib.hid hf2
      clear hw hk hf2
      go_enter Tryd.func46, Tryd.ntmps46
      go_wp2_with fail
      go_ret
      exact ⟨rfl, HF2.out⟩
    · go_enter Tryd.func46, Tryd.ntmps46
      go_wp2_with fail
      go_ret
      refine ⟨?_, Fr.refl _ _⟩
      rw [wordS, if_neg (by omega)]
      rfl

theorem findS_some {l : List Str} {s : Str} {k : Nat} (hk : k < l.length) (he : l.getD k [] = s) (hn : ∀ j, j < k → l.getD j [] ≠ s) : l.findIdx? (fun x => x == s) = some k := by
  rw [List.findIdx?_eq_some_iff_getElem]
  have e : ∀ j, (hj : j < l.length) → l.getD j [] = l[j] := fun j hj => by simp [List.getD, hj]
  refine ⟨hk, ?_, fun j hj => ?_⟩
  · rw [← e k hk, he]; simp
  · have h := hn j hj
    rw [e j (by omega)] at h
    simpa using h
theorem findS_none {l : List Str} {s : Str} (hn : ∀ j, j < l.length → l.getD j [] ≠ s) : l.findIdx? (fun x => x == s) = none := by
  rw [List.findIdx?_eq_none_iff]
  intro x hx
  obtain ⟨j, hj, rfl⟩ := List.getElem_of_mem hx
  have h := hn j hj
  have e : l.getD j [] = l[j] := by simp [List.getD, hj]
  rw [e] at h
  simpa using h
/-- The reference's Errno: the first code of that word. -/
def refErrno (s : Str) : Int × Bool := match errW.findIdx? (fun x => x == s) with | some k => ((k : Int), true) | none => (0, false)
set_option maxHeartbeats 400000 in
theorem refErrno_any (s : Str) (w : World) : Calls Tryd.prog 22 #[.string (bs s)] w fun r w' => r = .returned (.tuple #[.int .i64 (refErrno s).1, .bool (refErrno s).2]) ∧ Fr [] w w' := by
  have hws : ∀ k : Nat, k < 12 → wordS k = errW.getD k [] := fun k hk => by
    rw [wordS, if_pos (by omega)]
    simp
  have HWS := Lib.hid hws
  clear hws
  go_enter Tryd.func22, Tryd.ntmps22
  go_wp2
  go_loopw [4] (fun vi wr => ∃ k : Nat, vi = .int .i64 k ∧ k ≤ 12 ∧ Hid (∀ j, j < k → errW.getD j [] ≠ s) ∧ Fr [] w wr) (fun vi _ => 12 - (intOf vi).toNat)
  case atStart => exact ⟨0, rfl, by omega, fun j hj => by omega, Fr.refl _ _⟩
  case round =>
    obtain ⟨k, rfl, hk, HN, hfr⟩ := hrel
    by_cases hlt : k < 12
    · go_wp2_with fail
      refine (refWord_any k wr).mono ?_
      rintro r w1 ⟨rfl, hf1⟩
      have hb := bs_beq (wordS k) s
      by_cases he : wordS k = s
      · have hb' : ((bs (wordS k)).toList == (bs s).toList) = true := by rw [hb]; simpa using he
        have hr : refErrno s = ((k : Int), true) := by
          have hw := HWS.out k hlt
          have : errW.findIdx? (fun x => x == s) = some k := findS_some hlt (by rw [← hw]; exact he) HN.out
          unfold refErrno
          rw [this]
        have HR := Lib.hid hr
        clear hb he hr
        go_wp2_with fail
        go_ret2
        refine ⟨?_, hfr.trans' hf1⟩
        rw [HR.out]
        rfl
      · have hb' : ((bs (wordS k)).toList == (bs s).toList) = false := by rw [hb]; simpa using he
        have hn : errW.getD k [] ≠ s := by rw [← HWS.out k hlt]; exact he
        have HNK := Lib.hid hn
        clear hb he hn
        go_wp2_with fail
        go_roundw
        case rel => exact ⟨k + 1, by go_num, by omega, fun j hj => by
          by_cases e : j = k
          · subst e; exact HNK.out
          · exact HN.out j (by omega), hfr.trans' hf1⟩
        case measure => simp [intOf]; omega
    · have hr : refErrno s = (0, false) := by
        have : errW.findIdx? (fun x => x == s) = none := findS_none (fun j hj => HN.out j (by have : j < 12 := hj; omega))
        unfold refErrno
        rw [this]
      have HR := Lib.hid hr
      clear hr
      go_wp2_with fail
      go_ret2
      refine ⟨?_, hfr⟩
      rw [HR.out]
      rfl

theorem refTold_any (e : Int) (w : World) : Calls Tryd.prog 41 #[.int .i64 e] w fun r w' => r = .returned (.string (bs (toldS e))) ∧ Fr [] w w' := by
  go_enter Tryd.func41, Tryd.ntmps41
  go_wp2_with fail
  refine (refWord_any e w).mono ?_
  rintro r w1 ⟨rfl, hf1⟩
  have hb := bs_empty (wordS e)
  by_cases h : wordS e = []
  · have hb' : (bs (wordS e)).toList.isEmpty = true := by rw [hb, h]; rfl
    have HT := Lib.hid (show toldS e = [63] by rw [toldS, if_pos h])
    clear hb h
    go_wp2_with fail
    go_ret
    refine ⟨?_, hf1⟩
    rw [HT.out]
    rfl
  · have hb' : (bs (wordS e)).toList.isEmpty = false := by rw [hb]; simpa using h
    have HT := Lib.hid (show toldS e = wordS e by rw [toldS, if_neg h])
    clear hb h
    go_wp2_with fail
    go_ret
    refine ⟨?_, hf1⟩
    rw [HT.out]
    rfl
theorem refKinds_any (w : World) : Calls Tryd.prog 30 #[] w fun e w' => e = .returned (.slice (some ⟨w.heap.size, 0, none⟩) 8 8) ∧ w' = w.alloc (.cells (strs kindW).toArray 9) := by
  go_enter Tryd.func30, Tryd.ntmps30
  go_wp2
  go_ret
  exact ⟨rfl, rfl⟩
end Go.Proofs.YtcnmnfllchiehaaDoor
