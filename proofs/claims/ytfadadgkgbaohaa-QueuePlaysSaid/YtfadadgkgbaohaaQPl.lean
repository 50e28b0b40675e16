/-
  QueuePlays, walked: port and reference answer alike at every step.
-/
import Derived.Test.YtfadadgkgbaohaaQP
import Derived.Deep.DeepCutAuto
import Derived.Deep.CutBlock
set_option linter.unusedSimpArgs false
set_option linter.unusedVariables false
namespace Go.Proofs.Ytfadadgkgbaohaa
open Go.RowKit
attribute [local go_sem] max_ints min_ints

theorem fr_three (X : World) (a : Nat) (u0 u1 u2 : Value) : Fr [a] X (((X.setCell ⟨a, 0, none⟩ u0).setCell ⟨a, 1, none⟩ u1).setCell ⟨a, 2, none⟩ u2) := by
  iterate 3 refine Fr.setCell ?_ (by simp) _
  exact Fr.refl _ _

/-- Between the switch and the test: port and reference stand for the same; the step's box is at B. -/
def Even (w0 W : World) (hold : Int) (p R B k : Nat) (s : Stp) (mv : Value) : Prop :=
  ∃ (a : AP) (F : List Nat) (lv wv : Value), QOk hold a ∧ QP w0 W p R a a k F lv wv ∧ B ∉ R :: F ∧ Blk W B 31 #[.int .i64 s.kind, .int .i64 s.proc, .int .i64 s.till, .int .i64 s.now, mv, .int .i64 s.m.lane, .int .i64 s.m.stamp, .int .i64 s.m.late, .int .i64 s.m.seq]

set_option maxHeartbeats 8000000 in
set_option maxRecDepth 100000 in
theorem plays_walk (hold : Int) (v1 : Value) (n1 : Nat) (ss1 : List (Stp × Value)) (w : World) (h1 : StepsAt w v1 n1 ss1) :
    Calls Try.prog 4 #[.int .i64 hold, v1] w fun e w' => e = .returned (.bool true) ∧ Fr [] w w' := by
  obtain ⟨A1, c1, rfl, _⟩ := id h1.row
  have H1 := Lib.hid h1
  clear h1
  go_enter Try.func4, Try.ntmps4
  go_wp2_with fail
  refine (qlives w).mono ?_
  rintro e w1 ⟨rfl, hf1⟩
  go_wp2_with fail
  refine (pa_new hold w1).mono ?_
  rintro e w2 ⟨p, F, rfl, hpa, hf2, hn2⟩
  go_wp2_with fail
  refine (refnew_any hold w2).mono ?_
  rintro e w3 ⟨rfl, hf3⟩
  unfold rval AP.new
  simp only
  go_wp2_with fail
  have hhd : (AP.new hold).hold = min (max hold 1) 8 := rfl
  generalize hw4 : w3.alloc (.cells #[.int .i64 (min (max hold 1) 8), .slice none 0 0, .slice none 0 0] 51) = w4
  have hB4 : Blk w4 w3.heap.size 51 #[.int .i64 (AP.new hold).hold, .slice none 0 0, .slice none 0 0] := by rw [hhd, ← hw4]; exact Blk.new _ _ _
  have hf4 : Fr [] w3 w4 := by rw [← hw4]; exact (Fr.refl _ _).alloc _
  have hlow : ∀ x ∈ F, x < w3.heap.size := fun x hx => by have := hpa.lt x hx; have := hf3.size; omega
  have hQ : QP w w4 p w3.heap.size (AP.new hold) (AP.new hold) 0 F (.slice none 0 0) (.slice none 0 0) := by
    have s1 := hf1.size
    have s2 := hf2.size
    have s3 := hf3.size
    exact ⟨((hpa.fr0 (hf3.trans' hf4))).ext_nil rfl (fun x hx => by simp at hx; subst hx; exact hB4.lt), RefAt.none _ _ _, hB4, fun hx => by have := hlow _ hx; omega, fun x hx => by have := hn2 x hx; omega, by omega, ((hf1.trans' hf2).trans' hf3).trans' hf4⟩
  have HQ := Lib.hid hQ
  clear hpa hf2 hn2 hf3 hf1 hB4 hf4 hlow hQ hhd hw4
  generalize w3.heap.size = R at *
  refine (early_any A1 n1 c1 ss1 w4 (H1.out.fr0 HQ.out.fr)).mono ?_
  rintro e w5 ⟨rfl, rfl⟩
  have E1 := Lib.hid (H1.out.take (min n1 80) (by omega))
  clear H1
  generalize ss1.take (min n1 80) = s1 at E1
  have hm1 : min n1 80 ≤ 80 := by omega
  generalize min n1 80 = m1 at *
  go_wp2_with fail
  go_loopw [7] (fun vi wr => ∃ (k : Nat) (a : AP) (F' : List Nat) (lv wv : Value), vi = .int .i64 k ∧ k ≤ m1 ∧ Hid (QOk hold a) ∧ QP w wr p R a a k F' lv wv) (fun vi _ => m1 - (intOf vi).toNat)
  case atStart => exact ⟨0, _, F, _, _, rfl, by omega, QOk.new hold, HQ.out⟩
  case round =>
    obtain ⟨k, a, F', lv, wv, rfl, hk, HOK, hQ⟩ := hrel
    by_cases hlt : k < m1
    · obtain ⟨g, o, hkl, rfl, hc, hw, hwf⟩ := E1.out.at_ hlt
      generalize s1[k].1 = s at hc hw hwf
      generalize s1[k].2 = mv at hc hw
      obtain ⟨A, c, rfl, _⟩ := id hw
      have HW0 := Lib.hid hw
      obtain ⟨c0, c1, c2, c3, c4, c5, c6, c7, c8⟩ := step_cells hc wr hQ.fr
      have HQ0 := Lib.hid hQ
      clear hc hw hQ
      obtain ⟨x1, hx1⟩ : ∃ x, wr.alloc (.cells #[.int .i64 s.kind, .int .i64 s.proc, .int .i64 s.till, .int .i64 s.now, .slice A s.m.words.length c, .int .i64 s.m.lane, .int .i64 s.m.stamp, .int .i64 s.m.late, .int .i64 s.m.seq] 31) = x := ⟨_, rfl⟩
      have hg1 : Fr [] wr x1 := by rw [← hx1]; exact (Fr.refl _ _).alloc _
      have hD1 : Blk x1 wr.heap.size 31 #[.int .i64 s.kind, .int .i64 s.proc, .int .i64 s.till, .int .i64 s.now, .slice A s.m.words.length c, .int .i64 s.m.lane, .int .i64 s.m.stamp, .int .i64 s.m.late, .int .i64 s.m.seq] := by rw [← hx1]; exact Blk.new _ _ _
      have hQ1 := HQ0.out.fr0 hg1
      have hlow : ∀ x ∈ R :: F', x < wr.heap.size := HQ0.out.low
      have HQ1 := Lib.hid hQ1
      have HD1 := Lib.hid hD1
      obtain ⟨d0, d1, d2, d3, d4, d5, d6, d7, d8⟩ := hD1.nine
      clear hg1 hD1 hQ1
      go_wp2_with fail
      refine (kind_any s _ x1).mono ?_
      rintro e x2 ⟨rfl, hf2⟩
      have HQ2 := Lib.hid (HQ1.out.fr0 hf2)
      have HD2 := Lib.hid (HD1.out.fr hf2 (by simp))
      have hxs : wr.heap.size < x2.heap.size := HD2.out.lt
      have HLO := Lib.hid hlow
      clear c0 c1 c2 c3 c4 c5 c6 c7 c8 d0 d1 d2 d3 d4 d5 d6 d7 d8 hx1 hf2 hlow
      have hBn : wr.heap.size ∉ R :: F' := fun hx => by have := HLO.out _ hx; omega
      have HBN := Lib.hid hBn
      clear hBn
      go_upto_block 2 with fail
      generalize wr.heap.size = B at *
      have hrange := knd_range s
      generalize s.knd = kd at hrange ⊢
      go_cut [9] (fun s9 wx => s9 = .bool true ∧ Even w wx hold p R B (k + 1) s (.slice A s.m.words.length c))
      case first =>
        have hq0 : ∀ W, Fr [] x2 W → W.cell? ⟨R, 0, none⟩ = some (.int .i64 a.hold) := fun W hW => (HQ2.out.fr0 hW).box.cell 0
        have hq1 : ∀ W, Fr [] x2 W → W.cell? ⟨R, 1, none⟩ = some lv := fun W hW => (HQ2.out.fr0 hW).box.cell 1
        have hq2 : ∀ W, Fr [] x2 W → W.cell? ⟨R, 2, none⟩ = some wv := fun W hW => (HQ2.out.fr0 hW).box.cell 2
        have HD := Lib.hid (fun W (hW : Fr [] x2 W) => (HD2.out.fr hW (by simp)).nine)
        obtain ⟨m5, c5, rfl, _⟩ : ∃ A c, lv = .slice A a.msgs.length c ∧ True := by
          obtain ⟨ms, _, h2, _⟩ := HQ2.out.ref.msgs
          obtain ⟨A, c, h, _⟩ := h2
          exact ⟨A, c, h, trivial⟩
        obtain ⟨m6, c6, rfl, _⟩ : ∃ A c, wv = .slice A a.waits.length c ∧ True := by
          obtain ⟨A, c, h, _⟩ := HQ2.out.ref.waits
          exact ⟨A, c, h, trivial⟩
        have HWM := Lib.hid (HW0.out.mono (M' := R :: F') (fun x hx hlt => by
          rcases List.mem_cons.1 hx with rfl | hx
          · exact absurd HQ2.out.ge (by omega)
          · exact absurd (HQ2.out.nf x hx) (by omega)) (by omega))
        have hroom := HOK.out.room
        have hkk : a.waits.length ≤ 1000000 := by
          obtain ⟨s0, _, _, _, _, _, _, h6⟩ := HQ2.out.pa
          omega
        have HRM := Lib.hid (And.intro hroom hkk)
        clear hroom hkk
        have HR2 := HQ2
        have hcase : (kd = 0 ∨ kd = 1 ∨ kd = 2) ∨ (kd = 3 ∨ kd = 4 ∨ kd = 5) ∨ kd = 6 ∨ kd = 7 ∨ kd = 8 := by omega
        clear hrange HR2
        rcases hcase with hcase | hcase | rfl | rfl | rfl
        · rcases hcase with rfl | rfl | rfl
          all_goals
           as_aux_lemma =>
            go_upto_region 14 with fail
            go_cut [10, 11, 12, 13] (fun s10 s11 s12 s13 wx => ∃ (g : Nat) (lv' wv' : Value), s10 = .pointer (some ⟨g, 0, none⟩) ∧ s11 = .int .i64 (a.put s.msg).2.1 ∧ s12 = .bool (a.put s.msg).2.2.1 ∧ s13 = .int .i64 (a.put s.msg).2.2.2 ∧
              Blk wx g 51 #[.int .i64 (a.put s.msg).1.hold, lv', wv'] ∧ RefAt wx (R :: F') lv' wv' (a.put s.msg).1 ∧ Fr [] x2 wx ∧ x2.heap.size ≤ g)
            case first =>
              have e0 : ∀ W, Fr [] x2 W → W.cell? ⟨B, 0, none⟩ = some (.int .i64 s.kind) := fun W hW => (HD.out W hW).1
              have e1 : ∀ W, Fr [] x2 W → W.cell? ⟨B, 1, none⟩ = some (.int .i64 s.proc) := fun W hW => (HD.out W hW).2.1
              have e2 : ∀ W, Fr [] x2 W → W.cell? ⟨B, 2, none⟩ = some (.int .i64 s.till) := fun W hW => (HD.out W hW).2.2.1
              have e3 : ∀ W, Fr [] x2 W → W.cell? ⟨B, 3, none⟩ = some (.int .i64 s.now) := fun W hW => (HD.out W hW).2.2.2.1
              have e4 : ∀ W, Fr [] x2 W → W.cell? ⟨B, 4, none⟩ = some (.slice A s.m.words.length c) := fun W hW => (HD.out W hW).2.2.2.2.1
              have e5 : ∀ W, Fr [] x2 W → W.cell? ⟨B, 5, none⟩ = some (.int .i64 s.m.lane) := fun W hW => (HD.out W hW).2.2.2.2.2.1
              have e6 : ∀ W, Fr [] x2 W → W.cell? ⟨B, 6, none⟩ = some (.int .i64 s.m.stamp) := fun W hW => (HD.out W hW).2.2.2.2.2.2.1
              have e7 : ∀ W, Fr [] x2 W → W.cell? ⟨B, 7, none⟩ = some (.int .i64 s.m.late) := fun W hW => (HD.out W hW).2.2.2.2.2.2.2.1
              have e8 : ∀ W, Fr [] x2 W → W.cell? ⟨B, 8, none⟩ = some (.int .i64 s.m.seq) := fun W hW => (HD.out W hW).2.2.2.2.2.2.2.2
              refine wp_tree 13 (.rd 0 (.rd 1 (.two 2 (.two 3 (.rd 4 (.rd 5 (.rd 6 (.rd 7 (.rd 8 (.eff 9 (.eff 10 (.rd 11 (.rd 12 (.last 13 .fin)))))))))) 9 (.eff 3 (.rd 4 (.rd 5 (.rd 6 (.rd 7 (.rd 8 (.eff 10 (.rd 11 (.rd 12 (.last 13 .fin)))))))))))  9 (.eff 2 (.eff 3 (.rd 4 (.rd 5 (.rd 6 (.rd 7 (.rd 8 (.eff 10 (.rd 11 (.rd 12 (.last 13 .fin)))))))))))))) (fun W => Fr [] x2 W) (by kernel_rfl) (by kernel_rfl) (fun _ _ _ _ _ h => h) ((Fr.refl [] x2).drew) ?_
              iterate 2
                refine tree_read (v := ?_) rfl (by rfl) ?_ ?_
                rotate_left
                · intro W hW
                  go_simp
                  try with_reducible rfl
                simp only [Act.put, List.setIfInBounds_toArray, List.set_cons_zero, List.set_cons_succ]
              refine tree_two ?_ ?_
              · -- the message first
                refine tree_eff rfl (fun K hK => ?_)
                go_simp
                refine (step_message s _ (R :: F') x2.drew (HWM.out.fr (HQ2.out.fr.trans' (Fr.refl [] x2).drew) (by simp))).mono ?_
                rintro e x3 ⟨wv3, rfl, hwv3, hf3⟩
                have hf23 : Fr [] x2 x3 := (Fr.refl [] x2).drew.trans' hf3
                obtain ⟨A3, c3', rfl, _⟩ := id hwv3.1
                simp only [Msg.val]
                have HV3 := Lib.hid hwv3
                have HF23 := Lib.hid hf23
                clear hwv3 hf3 hf23
                go_simp
                refine hK _ _ (HF23.out) ?_
                clear hK K
                try simp only [Act.put, List.setIfInBounds_toArray, List.set_cons_zero, List.set_cons_succ]
                refine tree_two ?_ ?_
                · -- then Put, the box last
                  refine tree_eff rfl (fun K hK => ?_)
                  go_simp
                  refine (refput_any (R :: F') _ _ _ a s.msg x3 (HQ2.out.ref.fr HF23.out (by simp)) (fun x hx => Nat.lt_of_lt_of_le (HQ2.out.low x hx) HF23.out.size) HV3.out HRM.out.1 HRM.out.2).mono ?_
                  rintro e x4 ⟨lv', wv', rfl, href, hf4⟩
                  have hf24 : Fr [] x2 x4 := HF23.out.trans' hf4
                  obtain ⟨A7, c7, rfl, _⟩ : ∃ A c, lv' = .slice A (a.put s.msg).1.msgs.length c ∧ True := by
                    obtain ⟨ms, _, h2, _⟩ := href.msgs
                    obtain ⟨A, c, h, _⟩ := h2
                    exact ⟨A, c, h, trivial⟩
                  obtain ⟨A8, c8, rfl, _⟩ : ∃ A c, wv' = .slice A (a.put s.msg).1.waits.length c ∧ True := by
                    obtain ⟨A, c, h, _⟩ := href.waits
                    exact ⟨A, c, h, trivial⟩
                  have HREF := Lib.hid href
                  have HF24 := Lib.hid hf24
                  clear href hf4 hf24
                  unfold rval
                  go_simp
                  refine hK _ _ (HF24.out) ?_
                  clear hK K
                  try simp only [Act.put, List.setIfInBounds_toArray, List.set_cons_zero, List.set_cons_succ]
                  iterate 5
                    refine tree_read (v := ?_) rfl (by rfl) ?_ ?_
                    rotate_left
                    · intro W hW
                      go_simp
                      try with_reducible rfl
                    simp only [Act.put, List.setIfInBounds_toArray, List.set_cons_zero, List.set_cons_succ]
                  refine tree_eff rfl (fun K hK => ?_)
                  go_simp
                  refine hK _ _ (HF24.out.alloc _) ?_
                  clear hK K
                  try simp only [Act.put, List.setIfInBounds_toArray, List.set_cons_zero, List.set_cons_succ]
                  refine tree_eff rfl (fun K hK => ?_)
                  go_simp
                  refine hK _ _ (HF24.out.alloc _) ?_
                  clear hK K
                  try simp only [Act.put, List.setIfInBounds_toArray, List.set_cons_zero, List.set_cons_succ]
                  iterate 2
                    refine tree_read (v := ?_) rfl (by rfl) ?_ ?_
                    rotate_left
                    · intro W hW
                      go_simp
                      try with_reducible rfl
                    simp only [Act.put, List.setIfInBounds_toArray, List.set_cons_zero, List.set_cons_succ]
                  refine tree_last rfl (fun K hK => ?_)
                  go_simp
                  refine hK _ _ ?_
                  clear hK K
                  try simp only [Act.put, List.setIfInBounds_toArray, List.set_cons_zero, List.set_cons_succ]
                  refine tree_fin ?_
                  go_wp2_with fail
                  go_meet
                  case rel => exact ⟨_, _, _, rfl, rfl, rfl, rfl, Blk.new _ _ _, HREF.out.fr ((Fr.refl [] _).alloc _) (by simp), HF24.out.alloc _, HF24.out.size⟩
                · -- then the box, Put last
                  refine tree_eff rfl (fun K hK => ?_)
                  go_simp
                  obtain ⟨y3, hy3⟩ : ∃ y, x3.alloc (.cells #[.int .i64 0, .slice none 0 0, .slice none 0 0] 51) = y := ⟨_, rfl⟩
                  have hfy : Fr [] x3 y3 := by rw [← hy3]; exact (Fr.refl _ _).alloc _
                  have hby : Blk y3 x3.heap.size 51 #[.int .i64 0, .slice none 0 0, .slice none 0 0] := by rw [← hy3]; exact Blk.new _ _ _
                  rw [hy3]
                  have HFY := Lib.hid (HF23.out.trans' hfy)
                  have HBY := Lib.hid hby
                  have HVY := Lib.hid ((HV3.out.mono (M' := x3.heap.size :: R :: F') (fun x hx hlt => by
                    rcases List.mem_cons.1 hx with rfl | hx
                    · omega
                    · exact hx)).fr0 hfy)
                  have HRY := Lib.hid (((HQ2.out.ref.fr HF23.out (by simp)).mono (M' := x3.heap.size :: R :: F') (fun x hx hlt => by
                    rcases List.mem_cons.1 hx with rfl | hx
                    · omega
                    · exact hx)).fr hfy (by simp))
                  clear hy3 hfy hby
                  refine hK _ _ (HFY.out) ?_
                  clear hK K
                  try simp only [Act.put, List.setIfInBounds_toArray, List.set_cons_zero, List.set_cons_succ]
                  refine tree_eff rfl (fun K hK => ?_)
                  go_simp
                  refine (refput_any (x3.heap.size :: R :: F') _ _ _ a s.msg y3 (HRY.out) (fun x hx => by
                    rcases List.mem_cons.1 hx with rfl | hx
                    · exact HBY.out.lt
                    · exact Nat.lt_of_lt_of_le (HQ2.out.low x hx) HFY.out.size) HVY.out HRM.out.1 HRM.out.2).mono ?_
                  rintro e x4 ⟨lv', wv', rfl, href, hf4⟩
                  have hf24 : Fr [] x2 x4 := HFY.out.trans' hf4
                  have hb4 := HBY.out.fr hf4 (by simp)
                  obtain ⟨A7, c7, rfl, _⟩ : ∃ A c, lv' = .slice A (a.put s.msg).1.msgs.length c ∧ True := by
                    obtain ⟨ms, _, h2, _⟩ := href.msgs
                    obtain ⟨A, c, h, _⟩ := h2
                    exact ⟨A, c, h, trivial⟩
                  obtain ⟨A8, c8, rfl, _⟩ : ∃ A c, wv' = .slice A (a.put s.msg).1.waits.length c ∧ True := by
                    obtain ⟨A, c, h, _⟩ := href.waits
                    exact ⟨A, c, h, trivial⟩
                  have HREF := Lib.hid href
                  have HF24 := Lib.hid hf24
                  have HB4 := Lib.hid hb4
                  obtain ⟨y0, y1, y2⟩ := hb4.three
                  have fy := hb4.froz
                  have hgs := HF23.out.size
                  clear href hf4 hf24 hb4
                  unfold rval
                  go_simp
                  refine hK _ _ (HF24.out) ?_
                  clear hK K
                  try simp only [Act.put, List.setIfInBounds_toArray, List.set_cons_zero, List.set_cons_succ]
                  iterate 5
                    refine tree_read (v := ?_) rfl (by rfl) ?_ ?_
                    rotate_left
                    · intro W hW
                      go_simp
                      try with_reducible rfl
                    simp only [Act.put, List.setIfInBounds_toArray, List.set_cons_zero, List.set_cons_succ]
                  refine tree_eff rfl (fun K hK => ?_)
                  go_simp
                  have hset := fr_three x4 x3.heap.size (.int .i64 (a.put s.msg).1.hold) (.slice A7 (a.put s.msg).1.msgs.length c7) (.slice A8 (a.put s.msg).1.waits.length c8)
                  refine hK _ _ (HF24.out.trans (hset) (fun x hx hlt => by simp at hx; omega)) ?_
                  clear hK K
                  try simp only [Act.put, List.setIfInBounds_toArray, List.set_cons_zero, List.set_cons_succ]
                  iterate 2
                    refine tree_read (v := ?_) rfl (by rfl) ?_ ?_
                    rotate_left
                    · intro W hW
                      go_simp
                      try with_reducible rfl
                    simp only [Act.put, List.setIfInBounds_toArray, List.set_cons_zero, List.set_cons_succ]
                  refine tree_last rfl (fun K hK => ?_)
                  go_simp
                  refine hK _ _ ?_
                  clear hK K
                  try simp only [Act.put, List.setIfInBounds_toArray, List.set_cons_zero, List.set_cons_succ]
                  refine tree_fin ?_
                  go_wp2_with fail
                  go_meet
                  case rel => exact ⟨_, _, _, rfl, rfl, rfl, rfl, ((HB4.out.set_ 0 _).set_ 1 _).set_ 2 _, (HREF.out.fr hset (fun x hx hlt => by simp at hx; subst hx; simp)).mono (fun x hx _ => List.mem_cons_of_mem _ hx), HF24.out.trans hset (fun x hx hlt => by simp at hx; omega), hgs⟩
              · -- the box first
                refine tree_eff rfl (fun K hK => ?_)
                go_simp
                obtain ⟨y3, hy3⟩ : ∃ y, x2.alloc (.cells #[.int .i64 0, .slice none 0 0, .slice none 0 0] 51) = y := ⟨_, rfl⟩
                have hfy : Fr [] x2 y3 := by rw [← hy3]; exact (Fr.refl _ _).alloc _
                have hby : Blk y3 x2.heap.size 51 #[.int .i64 0, .slice none 0 0, .slice none 0 0] := by rw [← hy3]; exact Blk.new _ _ _
                rw [hy3]
                have HFY := Lib.hid hfy
                have HFY2 := Lib.hid hfy.drew
                have HBY := Lib.hid hby
                have HRY := Lib.hid (((HQ2.out.ref).mono (M' := x2.heap.size :: R :: F') (fun x hx hlt => by
                  rcases List.mem_cons.1 hx with rfl | hx
                  · omega
                  · exact hx)).fr hfy (by simp))
                have HWY := Lib.hid ((HWM.out.fr HQ2.out.fr (by simp)).mono (M' := x2.heap.size :: R :: F') (fun x hx hlt => by
                  rcases List.mem_cons.1 hx with rfl | hx
                  · omega
                  · exact hx) (by omega))
                clear hy3 hfy hby
                refine hK _ _ (HFY2.out) ?_
                clear hK K
                try simp only [Act.put, List.setIfInBounds_toArray, List.set_cons_zero, List.set_cons_succ]
                refine tree_eff rfl (fun K hK => ?_)
                go_simp
                refine (step_message s _ (x2.heap.size :: R :: F') y3.drew (HWY.out.fr HFY2.out (by simp))).mono ?_
                rintro e x3 ⟨wv3, rfl, hwv3, hf3⟩
                have hf23 : Fr [] x2 x3 := HFY2.out.trans' hf3
                have hb3 := HBY.out.drew.fr hf3 (by simp)
                have hr3 := (HRY.out.fr (Fr.refl [] y3).drew (by simp)).fr hf3 (by simp)
                obtain ⟨A3, c3', rfl, _⟩ := id hwv3.1
                simp only [Msg.val]
                have HV3 := Lib.hid hwv3
                have HF23 := Lib.hid hf23
                have HB3 := Lib.hid hb3
                have HR3 := Lib.hid hr3
                clear hwv3 hf3 hf23 hb3 hr3
                go_simp
                refine hK _ _ (HF23.out) ?_
                clear hK K
                try simp only [Act.put, List.setIfInBounds_toArray, List.set_cons_zero, List.set_cons_succ]
                refine tree_eff rfl (fun K hK => ?_)
                go_simp
                refine (refput_any (x2.heap.size :: R :: F') _ _ _ a s.msg x3 HR3.out (fun x hx => by
                  rcases List.mem_cons.1 hx with rfl | hx
                  · exact HB3.out.lt
                  · exact Nat.lt_of_lt_of_le (HQ2.out.low x hx) HF23.out.size) HV3.out HRM.out.1 HRM.out.2).mono ?_
                rintro e x4 ⟨lv', wv', rfl, href, hf4⟩
                have hf24 : Fr [] x2 x4 := HF23.out.trans' hf4
                have hb4 := HB3.out.fr hf4 (by simp)
                obtain ⟨A7, c7, rfl, _⟩ : ∃ A c, lv' = .slice A (a.put s.msg).1.msgs.length c ∧ True := by
                  obtain ⟨ms, _, h2, _⟩ := href.msgs
                  obtain ⟨A, c, h, _⟩ := h2
                  exact ⟨A, c, h, trivial⟩
                obtain ⟨A8, c8, rfl, _⟩ : ∃ A c, wv' = .slice A (a.put s.msg).1.waits.length c ∧ True := by
                  obtain ⟨A, c, h, _⟩ := href.waits
                  exact ⟨A, c, h, trivial⟩
                have HREF := Lib.hid href
                have HF24 := Lib.hid hf24
                have HB4 := Lib.hid hb4
                obtain ⟨y0, y1, y2⟩ := hb4.three
                have fy := hb4.froz
                clear href hf4 hf24 hb4
                unfold rval
                go_simp
                refine hK _ _ (HF24.out) ?_
                clear hK K
                try simp only [Act.put, List.setIfInBounds_toArray, List.set_cons_zero, List.set_cons_succ]
                iterate 5
                  refine tree_read (v := ?_) rfl (by rfl) ?_ ?_
                  rotate_left
                  · intro W hW
                    go_simp
                    try with_reducible rfl
                  simp only [Act.put, List.setIfInBounds_toArray, List.set_cons_zero, List.set_cons_succ]
                refine tree_eff rfl (fun K hK => ?_)
                go_simp
                have hset := fr_three x4 x2.heap.size (.int .i64 (a.put s.msg).1.hold) (.slice A7 (a.put s.msg).1.msgs.length c7) (.slice A8 (a.put s.msg).1.waits.length c8)
                refine hK _ _ (HF24.out.trans (hset) (fun x hx hlt => by simp at hx; omega)) ?_
                clear hK K
                try simp only [Act.put, List.setIfInBounds_toArray, List.set_cons_zero, List.set_cons_succ]
                iterate 2
                  refine tree_read (v := ?_) rfl (by rfl) ?_ ?_
                  rotate_left
                  · intro W hW
                    go_simp
                    try with_reducible rfl
                  simp only [Act.put, List.setIfInBounds_toArray, List.set_cons_zero, List.set_cons_succ]
                refine tree_last rfl (fun K hK => ?_)
                go_simp
                refine hK _ _ ?_
                clear hK K
                try simp only [Act.put, List.setIfInBounds_toArray, List.set_cons_zero, List.set_cons_succ]
                refine tree_fin ?_
                go_wp2_with fail
                go_meet
                case rel => exact ⟨_, _, _, rfl, rfl, rfl, rfl, ((HB4.out.set_ 0 _).set_ 1 _).set_ 2 _, (HREF.out.fr hset (fun x hx hlt => by simp at hx; subst hx; simp)).mono (fun x hx _ => List.mem_cons_of_mem _ hx), HF24.out.trans hset (fun x hx hlt => by simp at hx; omega), Nat.le_refl _⟩
            case rest =>
              obtain ⟨gg, lv', wv', rfl, rfl, rfl, rfl, hBg, href, hfw, hge⟩ := hcut
              obtain ⟨A7, c7, rfl, _⟩ : ∃ A c, lv' = .slice A (a.put s.msg).1.msgs.length c ∧ True := by
                obtain ⟨ms, _, h2, _⟩ := href.msgs
                obtain ⟨A, c, h, _⟩ := h2
                exact ⟨A, c, h, trivial⟩
              obtain ⟨A8, c8, rfl, _⟩ : ∃ A c, wv' = .slice A (a.put s.msg).1.waits.length c ∧ True := by
                obtain ⟨A, c, h, _⟩ := href.waits
                exact ⟨A, c, h, trivial⟩
              have hQw := HQ2.out.fr0 hfw
              have hDw := HD2.out.fr hfw (by simp)
              obtain ⟨z0, z1, z2⟩ := hBg.three
              obtain ⟨r0, r1, r2⟩ := hQw.box.three
              have fr_ := hQw.box.froz
              have hBR : B ≠ R := fun e => HBN.out (by rw [e]; simp)
              obtain ⟨X5, hX5⟩ : ∃ y, ((wc.setCell ⟨R, 0, none⟩ (.int .i64 (a.put s.msg).1.hold)).setCell ⟨R, 1, none⟩ (.slice A7 (a.put s.msg).1.msgs.length c7)).setCell ⟨R, 2, none⟩ (.slice A8 (a.put s.msg).1.waits.length c8) = y := ⟨_, rfl⟩
              have hf5 : Fr [R] wc X5 := by rw [← hX5]; exact fr_three _ _ _ _ _
              have hb5 : Blk X5 R 51 #[.int .i64 (a.put s.msg).1.hold, .slice A7 (a.put s.msg).1.msgs.length c7, .slice A8 (a.put s.msg).1.waits.length c8] := by rw [← hX5]; exact ((hQw.box.set_ 0 _).set_ 1 _).set_ 2 _
              have hQ5 := hQw.store href hf5 hb5
              have hD5 := hDw.fr hf5 (by simpa using hBR)
              have HQ5 := Lib.hid hQ5
              have HD5 := Lib.hid hD5
              obtain ⟨d0, d1, d2, d3, d4, d5, d6, d7, d8⟩ := hD5.nine
              clear hq0 hq1 hq2 hBg href hfw hQw hDw hf5 hb5 hQ5 hD5
              go_wp2_with fail
              refine (step_message s _ [] X5 (HW0.out.fr HQ5.out.fr (by simp))).mono ?_
              rintro e x6 ⟨wv6, rfl, hwv6, hf6⟩
              obtain ⟨A9, c9, rfl, _⟩ := hwv6.1
              simp only [Msg.val]
              have HQ6 := Lib.hid (HQ5.out.fr0 hf6)
              have HD6 := Lib.hid (HD5.out.fr hf6 (by simp))
              have HV6 := Lib.hid hwv6
              clear d0 d1 d2 d3 d4 d5 d6 d7 d8 hwv6 hf6
              go_wp2_with fail
              refine (pa_put p a k F' [R] s.msg _ x6 HQ6.out.pa (by omega) HV6.out).mono ?_
              rintro e x7 ⟨rfl, hto⟩
              obtain ⟨F7, hQ7, hF7⟩ := HQ6.out.port hto
              obtain ⟨_, _, hf7, _⟩ := hto
              have hB7 : B ∉ R :: F7 := fun hx => by
                rcases List.mem_cons.1 hx with h | hx
                · exact hBR h
                · rcases hF7 _ hx with h | h
                  · exact HBN.out (List.mem_cons_of_mem _ h)
                  · have := HD6.out.lt; omega
              have hD7 := HD6.out.fr hf7 (fun hx => HBN.out (List.mem_cons_of_mem _ hx))
              have hev : Even w x7 hold p R B (k + 1) s (.slice A s.m.words.length c) := ⟨_, F7, _, _, HOK.out.put s.msg, hQ7.mono (Nat.le_succ k), hB7, hD7⟩
              have HEV := Lib.hid hev
              clear hQ7 hF7 hf7 hB7 hD7 hev
              go_wp2_with fail
              go_meet
              case rel => exact ⟨rfl, HEV.out⟩
        · have hR0 := HQ2.out.ref
          have hA := refask_any (R :: F') _ _ a s.proc s.till s.now x2 hR0 HQ2.out.low (by have := HRM.out.1; omega) HRM.out.2
          have hP := fun (W : World) (h : PA W p a k F' [R]) => pa_ask p a k F' [R] s.proc s.till s.now W h (by omega) hwf
          have hok := HOK.out.ask s.proc s.till s.now
          have HA := Lib.hid hA
          have HP := Lib.hid hP
          have HOA := Lib.hid hok
          obtain ⟨d0, d1, d2, d3, d4, d5, d6, d7, d8⟩ := HD2.out.nine
          obtain ⟨r0, r1, r2⟩ := HQ2.out.box.three
          clear hR0 hA hP hok hq0 hq1 hq2
          rcases hcase with rfl | rfl | rfl
          all_goals
           as_aux_lemma =>
            generalize a.ask s.proc s.till s.now = r at HA HP HOA
            obtain ⟨b, mm, cc⟩ := r
            go_wp2_with fail
            refine HA.out.mono ?_
            rintro e x3 ⟨lv', wv', mv', rfl, href, hmv', hf3⟩
            obtain ⟨A7, c7, rfl, _⟩ : ∃ A c, lv' = .slice A b.msgs.length c ∧ True := by
              obtain ⟨ms, _, h2, _⟩ := href.msgs
              obtain ⟨A, c, h, _⟩ := h2
              exact ⟨A, c, h, trivial⟩
            obtain ⟨A8, c8, rfl, _⟩ : ∃ A c, wv' = .slice A b.waits.length c ∧ True := by
              obtain ⟨A, c, h, _⟩ := href.waits
              exact ⟨A, c, h, trivial⟩
            obtain ⟨A9, c9, rfl, _⟩ := id hmv'.1
            have HREF := Lib.hid href
            have HMV := Lib.hid hmv'
            have HF3 := Lib.hid hf3
            clear href hmv' hf3 d0 d1 d2 d3 d4 d5 d6 d7 d8 r0 r1 r2
            unfold rval
            simp only [Msg.val]
            go_upto_region 22 with fail
            generalize hX4 : (x3.alloc _).alloc _ = X4
            have hf34 : Fr [] x3 X4 := by rw [← hX4]; exact ((Fr.refl _ _).alloc _).alloc _
            have hb1 : Blk X4 x3.heap.size 51 #[.int .i64 b.hold, .slice A7 b.msgs.length c7, .slice A8 b.waits.length c8] := by rw [← hX4]; exact (Blk.new _ _ _).alloc _
            have hb2 : Blk X4 (x3.heap.size + 1) 29 #[.slice A9 mm.words.length c9, .int .i64 mm.lane, .int .i64 mm.stamp, .int .i64 mm.late, .int .i64 mm.seq] := by rw [← hX4]; exact Blk.new' _ _ _ (by simp)
            have hf24 := HF3.out.trans' hf34
            have hQ4 := HQ2.out.fr0 hf24
            have hD4 := HD2.out.fr hf24 (by simp)
            have href4 := HREF.out.fr hf34 (by simp)
            have hmv4 := HMV.out.fr0 hf34
            have hlow2 := HQ2.out.low
            have hs23 := HF3.out.size
            have hBR : B ≠ R := fun e => HBN.out (by rw [e]; simp)
            obtain ⟨z0, z1, z2⟩ := hb1.three
            obtain ⟨r0, r1, r2⟩ := hQ4.box.three
            have fr_ := hQ4.box.froz
            obtain ⟨X5, hX5⟩ : ∃ y, ((X4.setCell ⟨R, 0, none⟩ (.int .i64 b.hold)).setCell ⟨R, 1, none⟩ (.slice A7 b.msgs.length c7)).setCell ⟨R, 2, none⟩ (.slice A8 b.waits.length c8) = y := ⟨_, rfl⟩
            have hf5 : Fr [R] X4 X5 := by rw [← hX5]; exact fr_three _ _ _ _ _
            have hb5 : Blk X5 R 51 #[.int .i64 b.hold, .slice A7 b.msgs.length c7, .slice A8 b.waits.length c8] := by rw [← hX5]; exact ((hQ4.box.set_ 0 _).set_ 1 _).set_ 2 _
            have hQ5 := hQ4.store href4 hf5 hb5
            have hD5 := hD4.fr hf5 (by simpa using hBR)
            have hRl := hlow2 R (by simp)
            have hb25 := hb2.fr hf5 (by simp; omega)
            have hmv5 := hmv4.fr hf5 (fun x hx _ => by simp at hx; subst hx; simp)
            have HQ5 := Lib.hid hQ5
            have HD5 := Lib.hid hD5
            have HB25 := Lib.hid hb25
            have HMV5 := Lib.hid hmv5
            have HLOW2 := Lib.hid hlow2
            have HS23 := Lib.hid hs23
            have HBR := Lib.hid hBR
            obtain ⟨d0, d1, d2, d3, d4, d5, d6, d7, d8⟩ := hD5.nine
            clear hf34 hb1 hb2 hf24 hQ4 hD4 href4 hmv4 hlow2 hs23 hf5 hb5 hQ5 hD5 hRl hb25 hmv5 hX4 hBR
            go_wp2_with fail
            refine (HP.out X5 HQ5.out.pa).mono ?_
            rintro e x6 ⟨⟨nv, rfl, hnv⟩, hto⟩
            obtain ⟨F7, hQ7, hF7⟩ := HQ5.out.port hto
            obtain ⟨_, _, hf6, _⟩ := hto
            have hB7 : B ∉ R :: F7 := fun hx => by
              rcases List.mem_cons.1 hx with h | hx
              · exact HBR.out h
              · rcases hF7 _ hx with h | h
                · exact HBN.out (List.mem_cons_of_mem _ h)
                · have := HD5.out.lt; omega
            have hD6 := HD5.out.fr hf6 (fun hx => HBN.out (List.mem_cons_of_mem _ hx))
            have hb26 := HB25.out.fr hf6 (fun hx => by have := HLOW2.out _ (List.mem_cons_of_mem _ hx); have := HS23.out; omega)
            have hmv6 := HMV5.out.fr hf6 (fun x hx _ => List.mem_cons_of_mem _ hx)
            obtain ⟨A10, c10, rfl, _⟩ := id hnv.1
            obtain ⟨x7, hx7⟩ : ∃ y, x6.alloc (.cells #[.slice A10 mm.words.length c10, .int .i64 mm.lane, .int .i64 mm.stamp, .int .i64 mm.late, .int .i64 mm.seq] 29) = y := ⟨_, rfl⟩
            have hf7 : Fr [] x6 x7 := by rw [← hx7]; exact (Fr.refl _ _).alloc _
            have hb7 : Blk x7 x6.heap.size 29 #[.slice A10 mm.words.length c10, .int .i64 mm.lane, .int .i64 mm.stamp, .int .i64 mm.late, .int .i64 mm.seq] := by rw [← hx7]; exact Blk.new _ _ _
            have hb27 := hb26.fr hf7 (by simp)
            obtain ⟨m0, m1', m2, m3, m4⟩ := hb27.five
            obtain ⟨n0, n1', n2, n3, n4⟩ := hb7.five
            have HMV7 := Lib.hid (hmv6.fr0 hf7)
            have HNV7 := Lib.hid (hnv.fr0 hf7)
            have hok : QOk hold b := HOA.out
            have hev : Even w x7 hold p R B (k + 1) s (.slice A s.m.words.length c) := ⟨_, F7, _, _, hok, hQ7.fr0 hf7, hB7, hD6.fr hf7 (by simp)⟩
            have HEV := Lib.hid hev
            clear d0 d1 d2 d3 d4 d5 d6 d7 d8 z0 z1 z2 r0 r1 r2 fr_ hX5 hnv hQ7 hF7 hf6 hB7 hD6 hb26 hmv6 hf7 hb7 hb27 hev hok
            simp only [Msg.val]
            go_wp2_with fail
            refine (one_true (R :: F') (F' ++ [R]) mm _ _ _ HMV7.out HNV7.out).mono ?_
            rintro e x8 ⟨rfl, hf8⟩
            have HEV8 : Hid (Even w x8 hold p R B (k + 1) s (.slice A s.m.words.length c)) := Lib.hid (by
              obtain ⟨a', F8, l8, w8, h1, h2, h3, h4⟩ := HEV.out
              exact ⟨a', F8, l8, w8, h1, h2.fr0 hf8, h3, h4.fr hf8 (by simp)⟩)
            clear m0 m1' m2 m3 m4 n0 n1' n2 n3 n4 hf8 hx7
            go_wp2_with fail
            go_meet
            case rel => exact ⟨rfl, HEV8.out⟩
        · as_aux_lemma =>
          have hA := refexpire_any (R :: F') _ _ a s.now x2 HQ2.out.ref HQ2.out.low HRM.out.2 HOK.out.tills
          have hP := fun (W : World) (h : PA W p a k F' [R]) => pa_expire p a k F' [R] s.now W h (by omega)
          have hok := HOK.out.expire s.now
          have HA := Lib.hid hA
          have HP := Lib.hid hP
          have HOA := Lib.hid hok
          obtain ⟨d0, d1, d2, d3, d4, d5, d6, d7, d8⟩ := HD2.out.nine
          obtain ⟨r0, r1, r2⟩ := HQ2.out.box.three
          clear hA hP hok hq0 hq1 hq2
          generalize hr : a.expire s.now = r at HA HP HOA
          obtain ⟨b, zs⟩ := r
          have hA' := HA.out
          unfold RefExpire at hA'
          rw [hr] at hA'
          have HA' := Lib.hid hA'
          clear hA' HA hr
          go_wp2_with fail
          refine HA'.out.mono ?_
          rintro e x3 ⟨lv', wv', v3, rfl, href, hown, hnew, hf3⟩
          obtain ⟨A7, c7, rfl, _⟩ : ∃ A c, lv' = .slice A b.msgs.length c ∧ True := by
            obtain ⟨ms, _, h2, _⟩ := href.msgs
            obtain ⟨A, c, h, _⟩ := h2
            exact ⟨A, c, h, trivial⟩
          obtain ⟨A8, c8, rfl, _⟩ : ∃ A c, wv' = .slice A b.waits.length c ∧ True := by
            obtain ⟨A, c, h, _⟩ := href.waits
            exact ⟨A, c, h, trivial⟩
          have hrd := Rd.of_own (M := R :: F') hown (fun g hg hx => by have := hnew g hg; have := HQ2.out.low g hx; omega)
          obtain ⟨A9, c9, rfl, _⟩ := id hrd
          have HREF := Lib.hid href
          have HRD := Lib.hid hrd
          have HF3 := Lib.hid hf3
          clear href hown hnew hrd hf3 d0 d1 d2 d3 d4 d5 d6 d7 d8 r0 r1 r2
          unfold rval
          simp only
          go_upto_region 27 with fail
          generalize hX4 : x3.alloc _ = X4
          have hf34 : Fr [] x3 X4 := by rw [← hX4]; exact (Fr.refl _ _).alloc _
          have hb1 : Blk X4 x3.heap.size 51 #[.int .i64 b.hold, .slice A7 b.msgs.length c7, .slice A8 b.waits.length c8] := by rw [← hX4]; exact Blk.new _ _ _
          have hf24 := HF3.out.trans' hf34
          have hQ4 := HQ2.out.fr0 hf24
          have hD4 := HD2.out.fr hf24 (by simp)
          have href4 := HREF.out.fr hf34 (by simp)
          have hrd4 := HRD.out.fr hf34 (by simp)
          have hBR : B ≠ R := fun e => HBN.out (by rw [e]; simp)
          obtain ⟨z0, z1, z2⟩ := hb1.three
          obtain ⟨r0, r1, r2⟩ := hQ4.box.three
          have fr_ := hQ4.box.froz
          obtain ⟨X5, hX5⟩ : ∃ y, ((X4.setCell ⟨R, 0, none⟩ (.int .i64 b.hold)).setCell ⟨R, 1, none⟩ (.slice A7 b.msgs.length c7)).setCell ⟨R, 2, none⟩ (.slice A8 b.waits.length c8) = y := ⟨_, rfl⟩
          have hf5 : Fr [R] X4 X5 := by rw [← hX5]; exact fr_three _ _ _ _ _
          have hb5 : Blk X5 R 51 #[.int .i64 b.hold, .slice A7 b.msgs.length c7, .slice A8 b.waits.length c8] := by rw [← hX5]; exact ((hQ4.box.set_ 0 _).set_ 1 _).set_ 2 _
          have hQ5 := hQ4.store href4 hf5 hb5
          have hD5 := hD4.fr hf5 (by simpa using hBR)
          have hrd5 := hrd4.fr hf5 (fun x hx _ => by simp at hx; subst hx; simp)
          have HQ5 := Lib.hid hQ5
          have HD5 := Lib.hid hD5
          have HRD5 := Lib.hid hrd5
          have HBR := Lib.hid hBR
          obtain ⟨d0, d1, d2, d3, d4, d5, d6, d7, d8⟩ := hD5.nine
          clear hf34 hb1 hf24 hQ4 hD4 href4 hrd4 hf5 hb5 hQ5 hD5 hrd5 hX4 hBR
          go_wp2_with fail
          refine (HP.out X5 HQ5.out.pa).mono ?_
          rintro e x6 ⟨⟨v8, rfl, hv8⟩, hP8, hf6⟩
          obtain ⟨F7, hQ7, hF7⟩ := HQ5.out.port ⟨F', hP8, hf6, fun _ h => h, fun _ h => .inl h⟩
          have hB7 : B ∉ R :: F7 := fun hx => by
            rcases List.mem_cons.1 hx with h | hx
            · exact HBR.out h
            · rcases hF7 _ hx with h | h
              · exact HBN.out (List.mem_cons_of_mem _ h)
              · have := HD5.out.lt; omega
          have hD6 := HD5.out.fr hf6 (fun hx => HBN.out (List.mem_cons_of_mem _ hx))
          have hrd6 := HRD5.out.fr hf6 (fun x hx _ => List.mem_cons_of_mem _ hx)
          have hv80 := hv8 [] (by simp)
          obtain ⟨A10, c10, rfl, _⟩ := id hv80
          have HRD6 := Lib.hid hrd6
          have HV8 := Lib.hid hv80
          have hev : ∀ X, Fr [] x6 X → Even w X hold p R B (k + 1) s (.slice A s.m.words.length c) := fun X hX => ⟨_, F7, _, _, HOA.out, (hQ7.mono (Nat.le_succ k)).fr0 hX, hB7, hD6.fr hX (by simp)⟩
          have HEV := Lib.hid hev
          clear d0 d1 d2 d3 d4 d5 d6 d7 d8 z0 z1 z2 r0 r1 r2 fr_ hX5 hv8 hv80 hP8 hQ7 hF7 hf6 hB7 hD6 hrd6 hev
          go_wp2_with fail
          refine (same_true [] (R :: F') A10 A9 zs.length c10 c9 zs x6 HV8.out HRD6.out).mono ?_
          rintro e x8 ⟨rfl, hf8⟩
          have HEV8 := Lib.hid (HEV.out x8 hf8)
          clear hf8
          go_wp2_with fail
          go_meet
          case rel => exact ⟨rfl, HEV8.out⟩
        · as_aux_lemma =>
          have hA := refsweep_any (R :: F') _ _ a s.now x2 HQ2.out.ref HQ2.out.low (by have := HRM.out.1; omega)
          have hP := fun (W : World) (h : PA W p a k F' [R]) => pa_sweep p a k F' [R] s.now W h
          have hok := HOK.out.sweep s.now
          unfold RefSweep at hA
          have HA := Lib.hid hA
          have HP := Lib.hid hP
          have HOA := Lib.hid hok
          obtain ⟨d0, d1, d2, d3, d4, d5, d6, d7, d8⟩ := HD2.out.nine
          obtain ⟨r0, r1, r2⟩ := HQ2.out.box.three
          clear hA hP hok hq0 hq1 hq2
          generalize a.sweep s.now = r at HA HP HOA
          obtain ⟨b, zs⟩ := r
          go_wp2_with fail
          refine HA.out.mono ?_
          rintro e x3 ⟨lv', wv', v3, os, rfl, href, hos, hown, hnew, hwo, hf3⟩
          obtain ⟨A7, c7, rfl, _⟩ : ∃ A c, lv' = .slice A b.msgs.length c ∧ True := by
            obtain ⟨ms, _, h2, _⟩ := href.msgs
            obtain ⟨A, c, h, _⟩ := h2
            exact ⟨A, c, h, trivial⟩
          obtain ⟨A8, c8, rfl, _⟩ : ∃ A c, wv' = .slice A b.waits.length c ∧ True := by
            obtain ⟨A, c, h, _⟩ := href.waits
            exact ⟨A, c, h, trivial⟩
          have hrd := Rd.of_own (M := R :: F') hown (fun g hg hx => by have := hnew g hg; have := HQ2.out.low g hx; omega)
          obtain ⟨A9, c9, rfl, _⟩ := id hrd
          have HREF := Lib.hid href
          have HRD := Lib.hid hrd
          have HWO := Lib.hid hwo
          have HOS := Lib.hid hos
          have HF3 := Lib.hid hf3
          clear href hown hnew hrd hf3 hwo hos d0 d1 d2 d3 d4 d5 d6 d7 d8 r0 r1 r2
          unfold rval
          simp only
          go_upto_region 31 with fail
          generalize hX4 : x3.alloc _ = X4
          have hf34 : Fr [] x3 X4 := by rw [← hX4]; exact (Fr.refl _ _).alloc _
          have hb1 : Blk X4 x3.heap.size 51 #[.int .i64 b.hold, .slice A7 b.msgs.length c7, .slice A8 b.waits.length c8] := by rw [← hX4]; exact Blk.new _ _ _
          have hf24 := HF3.out.trans' hf34
          have hQ4 := HQ2.out.fr0 hf24
          have hD4 := HD2.out.fr hf24 (by simp)
          have href4 := HREF.out.fr hf34 (by simp)
          have hrd4 := HRD.out.fr hf34 (by simp)
          have hwo4 : ∀ x ∈ os, WordsAt X4 (R :: F') x.2 x.1 := fun x hx => (HWO.out x hx).fr hf34 (by simp)
          have hBR : B ≠ R := fun e => HBN.out (by rw [e]; simp)
          obtain ⟨z0, z1, z2⟩ := hb1.three
          obtain ⟨r0, r1, r2⟩ := hQ4.box.three
          have fr_ := hQ4.box.froz
          obtain ⟨X5, hX5⟩ : ∃ y, ((X4.setCell ⟨R, 0, none⟩ (.int .i64 b.hold)).setCell ⟨R, 1, none⟩ (.slice A7 b.msgs.length c7)).setCell ⟨R, 2, none⟩ (.slice A8 b.waits.length c8) = y := ⟨_, rfl⟩
          have hf5 : Fr [R] X4 X5 := by rw [← hX5]; exact fr_three _ _ _ _ _
          have hb5 : Blk X5 R 51 #[.int .i64 b.hold, .slice A7 b.msgs.length c7, .slice A8 b.waits.length c8] := by rw [← hX5]; exact ((hQ4.box.set_ 0 _).set_ 1 _).set_ 2 _
          have hQ5 := hQ4.store href4 hf5 hb5
          have hD5 := hD4.fr hf5 (by simpa using hBR)
          have hrd5 := hrd4.fr hf5 (fun x hx _ => by simp at hx; subst hx; simp)
          have hwo5 : ∀ x ∈ os, WordsAt X5 (R :: F') x.2 x.1 := fun x hx => (hwo4 x hx).fr hf5 (fun x hx _ => by simp at hx; subst hx; simp)
          have HQ5 := Lib.hid hQ5
          have HD5 := Lib.hid hD5
          have HRD5 := Lib.hid hrd5
          have HWO5 := Lib.hid hwo5
          have HBR := Lib.hid hBR
          obtain ⟨d0, d1, d2, d3, d4, d5, d6, d7, d8⟩ := hD5.nine
          clear hf34 hb1 hf24 hQ4 hD4 href4 hrd4 hwo4 hf5 hb5 hQ5 hD5 hrd5 hwo5 hX4 hBR
          go_wp2_with fail
          refine (HP.out X5 HQ5.out.pa).mono ?_
          rintro e x6 ⟨⟨v8, ms8, rfl, hms8, hv8⟩, hto⟩
          obtain ⟨F7, hQ7, hF7⟩ := HQ5.out.port hto
          obtain ⟨_, _, hf6, _⟩ := hto
          have hB7 : B ∉ R :: F7 := fun hx => by
            rcases List.mem_cons.1 hx with h | hx
            · exact HBR.out h
            · rcases hF7 _ hx with h | h
              · exact HBN.out (List.mem_cons_of_mem _ h)
              · have := HD5.out.lt; omega
          have hD6 := HD5.out.fr hf6 (fun hx => HBN.out (List.mem_cons_of_mem _ hx))
          have hmo : MsgsRd x6 (.slice A9 os.length c9) os := ⟨(HRD5.out.fr hf6 (fun x hx _ => List.mem_cons_of_mem _ hx)).mono (by simp) (by omega), fun x hx => ((HWO5.out x hx).fr hf6 (fun x hx _ => List.mem_cons_of_mem _ hx)).mono (by simp)⟩
          have HMO := Lib.hid hmo
          have HV8 := Lib.hid hv8
          have HEQ := Lib.hid (hms8.trans HOS.out.symm)
          have hev : ∀ X, Fr [] x6 X → Even w X hold p R B (k + 1) s (.slice A s.m.words.length c) := fun X hX => ⟨_, F7, _, _, HOA.out, (hQ7.mono (Nat.le_succ k)).fr0 hX, hB7, hD6.fr hX (by simp)⟩
          have HEV := Lib.hid hev
          clear d0 d1 d2 d3 d4 d5 d6 d7 d8 z0 z1 z2 r0 r1 r2 fr_ hX5 hv8 hms8 hQ7 hF7 hf6 hB7 hD6 hmo hev
          go_wp2_with fail
          refine (msgs_true _ _ ms8 os x6 HV8.out HMO.out HEQ.out).mono ?_
          rintro e x8 ⟨rfl, hf8⟩
          have HEV8 := Lib.hid (HEV.out x8 hf8)
          clear hf8
          go_wp2_with fail
          go_meet
          case rel => exact ⟨rfl, HEV8.out⟩
        · as_aux_lemma =>
          have hAll : ∀ X, Fr [] x2 X → Even w X hold p R B (k + 1) s (.slice A s.m.words.length c) := fun X hX => ⟨_, F', _, _, HOK.out, (HQ2.out.mono (Nat.le_succ k)).fr0 hX, HBN.out, HD2.out.fr hX (by simp)⟩
          have HALL := Lib.hid hAll
          obtain ⟨d0, d1, d2, d3, d4, d5, d6, d7, d8⟩ := HD2.out.nine
          clear hAll hq0 hq1 hq2
          go_wp2_with fail
          · refine (pa_flush p a k F' [R] x2 HQ2.out.pa (by omega)).mono ?_
            rintro e x3 ⟨⟨lv3, rv3, ms3, rfl, hms3, hL3, hR3⟩, F3, hP3, hf3, hsub3⟩
            have hw0 := HQ2.out.fr.size
            have hQ3 : QP w x3 p R { a with msgs := [], waits := [] } a k F3 (.slice m5 a.msgs.length c5) (.slice m6 a.waits.length c6) := ⟨hP3, (HQ2.out.ref.fr hf3 (fun x hx _ => List.mem_cons_of_mem _ hx)).mono (fun x hx _ => by
              rcases List.mem_cons.1 hx with rfl | hx
              · simp
              · exact List.mem_cons_of_mem _ (hsub3 x hx)), HQ2.out.box.fr hf3 HQ2.out.nr, fun hx => HQ2.out.nr (hsub3 _ hx), fun x hx => HQ2.out.nf x (hsub3 x hx), HQ2.out.ge, HQ2.out.fr.trans hf3 (fun x hx hlt => absurd (HQ2.out.nf x hx) (by omega))⟩
            have hD3 := HD2.out.fr hf3 (fun hx => HBN.out (List.mem_cons_of_mem _ hx))
            have hB3 : B ∉ R :: F3 := fun hx => HBN.out (by
              rcases List.mem_cons.1 hx with rfl | hx
              · simp
              · exact List.mem_cons_of_mem _ (hsub3 _ hx))
            obtain ⟨ns, hns, hnr, hnw⟩ := hQ3.ref.msgs
            have hnl : a.msgs.length = ns.length := by rw [← hns]; simp
            have hNM : MsgsRd x3 (.slice m5 a.msgs.length c5) ns := ⟨by rw [← hnl]; exact hnr.mono (by simp) (by omega), fun x hx => (hnw x hx).mono (by simp)⟩
            obtain ⟨A3, c3, rfl, _⟩ := id hL3.row
            obtain ⟨A4, c4, rfl, _⟩ := id hR3
            obtain ⟨r0, r1, r2⟩ := hQ3.box.three
            have HQ3 := Lib.hid hQ3
            have HD3 := Lib.hid hD3
            have HB3 := Lib.hid hB3
            have HNM := Lib.hid hNM
            have HL3 := Lib.hid hL3
            have HR3 := Lib.hid hR3
            have HE3 := Lib.hid (hms3.trans hns.symm)
            clear hms3 hL3 hR3 hP3 hf3 hsub3 hw0 hQ3 hD3 hB3 hns hnr hnw hnl hNM d0 d1 d2 d3 d4 d5 d6 d7 d8
            go_wp2_with fail
            refine (msgs_true _ _ ms3 ns x3 HL3.out HNM.out HE3.out).mono ?_
            rintro e x4 ⟨rfl, hf4⟩
            have hQ4 := HQ3.out.fr0 hf4
            have hR4 := HR3.out.fr hf4 (by simp)
            have hD4 := HD3.out.fr hf4 (by simp)
            have HQ4 := Lib.hid hQ4
            have HR4 := Lib.hid hR4
            have HD4 := Lib.hid hD4
            clear r0 r1 r2
            obtain ⟨r0, r1, r2⟩ := hQ4.box.three
            clear hf4 hQ4 hR4 hD4
            go_wp2_with fail
            refine (refwaiting_any _ _ _ a x4 HQ4.out.ref HRM.out.2).mono ?_
            rintro e x5 ⟨⟨v5, rfl, hown5, _⟩, hf5⟩
            have hr5 : Rd x5 1 [] v5 a.who.length (ints a.who) := Rd.of_own hown5 (fun g _ hx => by simp at hx)
            obtain ⟨A5, c5', rfl, _⟩ := id hr5
            have HR5 := Lib.hid hr5
            have HF5 := Lib.hid hf5
            have hQ5 := HQ4.out.fr0 hf5
            have HQ5 := Lib.hid hQ5
            clear r0 r1 r2 hr5 hown5 hf5 hQ5
            go_wp2_with fail
            refine (same_true [] [] A4 A5 a.who.length c4 c5' a.who x5 (HR4.out.fr HF5.out (by simp)) HR5.out).mono ?_
            rintro e x6 ⟨rfl, hf6⟩
            have hQ6 := HQ5.out.fr0 hf6
            have hD6 := (HD4.out.fr HF5.out (by simp)).fr hf6 (by simp)
            have hBR : B ≠ R := fun e => HBN.out (by rw [e]; simp)
            obtain ⟨r0, r1, r2⟩ := hQ6.box.three
            have fr_ := hQ6.box.froz
            have hfz : Fr [R] x6 ((x6.setCell ⟨R, 1, none⟩ (.slice none 0 0)).setCell ⟨R, 2, none⟩ (.slice none 0 0)) := ((Fr.refl _ _).setCell (by simp) _).setCell (by simp) _
            have hbz := (hQ6.box.set_ 1 (.slice none 0 0)).set_ 2 (.slice none 0 0)
            have hev : Even w ((x6.setCell ⟨R, 1, none⟩ (.slice none 0 0)).setCell ⟨R, 2, none⟩ (.slice none 0 0)) hold p R B (k + 1) s (.slice A s.m.words.length c) :=
              ⟨{ a with msgs := [], waits := [] }, F3, .slice none 0 0, .slice none 0 0, HOK.out.flush, (hQ6.store (b' := { a with msgs := [], waits := [] }) (RefAt.none _ _ a.hold) hfz hbz).mono (Nat.le_succ k), HB3.out, hD6.fr hfz (by simpa using hBR)⟩
            have HEV := Lib.hid hev
            clear hQ6 hD6 hBR hfz hbz hev hf6
            go_wp2_with fail
            go_meet
            case rel => exact ⟨rfl, HEV.out⟩
          · go_meet
            case rel => exact ⟨rfl, HALL.out x2 (Fr.refl _ _)⟩
      case rest =>
       as_aux_lemma =>
        obtain ⟨rfl, a', F9, lv9, wv9, hok9, hQ9, hB9, hD9⟩ := hcut
        have hwl : a'.waits.length ≤ 1000000 := by
          obtain ⟨s0, _, _, _, _, _, _, h6⟩ := hQ9.pa
          omega
        obtain ⟨m5, c5, rfl, _⟩ : ∃ A c, lv9 = .slice A a'.msgs.length c ∧ True := by
          obtain ⟨ms, _, h2, _⟩ := hQ9.ref.msgs
          obtain ⟨A, c, h, _⟩ := h2
          exact ⟨A, c, h, trivial⟩
        obtain ⟨m6, c6, rfl, _⟩ : ∃ A c, wv9 = .slice A a'.waits.length c ∧ True := by
          obtain ⟨A, c, h, _⟩ := hQ9.ref.waits
          exact ⟨A, c, h, trivial⟩
        have q0 : ∀ W, Fr [] wc W → W.cell? ⟨R, 0, none⟩ = some (.int .i64 a'.hold) := fun W hW => (hQ9.fr0 hW).box.cell 0
        have q1 : ∀ W, Fr [] wc W → W.cell? ⟨R, 1, none⟩ = some (.slice m5 a'.msgs.length c5) := fun W hW => (hQ9.fr0 hW).box.cell 1
        have q2 : ∀ W, Fr [] wc W → W.cell? ⟨R, 2, none⟩ = some (.slice m6 a'.waits.length c6) := fun W hW => (hQ9.fr0 hW).box.cell 2
        have q3 : ∀ W, Fr [] wc W → W.cell? ⟨B, 1, none⟩ = some (.int .i64 s.proc) := fun W hW => (hD9.fr hW (by simp)).cell 1
        have HQ9 := Lib.hid hQ9
        have HOK9 := Lib.hid hok9
        have HWL := Lib.hid hwl
        clear hQ9 hD9 hok9 hB9 hwl
        go_wp2_with fail
        refine wp_sched 36 [(0, 0), (1, 0), (2, 0), (3, 0), (5, 0), (6, 0), (7, 0), (4, 1), (8, 0), (9, 0), (10, 0), (11, 0), (13, 0), (14, 0), (12, 1), (15, 1), (16, 0), (17, 0), (18, 0), (19, 0), (21, 0), (20, 1), (22, 1), (23, 1), (24, 0), (25, 0), (26, 0), (27, 0), (28, 0), (29, 0), (31, 0), (32, 0), (33, 0), (30, 1), (34, 1), (35, 0), (36, 2)] (fun W => Fr [] wc W) (by kernel_rfl) (by kernel_rfl) (fun _ _ _ _ _ h => h) ((Fr.refl [] wc).drew) ?_
        iterate 7
          refine at_read (v := ?_) rfl (by first | rfl | kernel_rfl) ?_ ?_
          rotate_left
          · intro W hW
            go_simp
            try with_reducible rfl
          simp only [Act.put, List.setIfInBounds_toArray, List.set_cons_zero, List.set_cons_succ]
        refine at_eff rfl (fun K hK => ?_)
        go_simp
        refine (pa_len p a' _ F9 [R] wc.drew (HQ9.out.fr0 (Fr.refl [] wc).drew).pa).mono ?_
        rintro e x1 ⟨rfl, rfl⟩
        go_simp
        refine hK _ _ ((Fr.refl [] wc).drew) ?_
        clear hK K
        try simp only [Act.put, List.setIfInBounds_toArray, List.set_cons_zero, List.set_cons_succ]
        iterate 6
          refine at_read (v := ?_) rfl (by first | rfl | kernel_rfl) ?_ ?_
          rotate_left
          · intro W hW
            go_simp
            try with_reducible rfl
          simp only [Act.put, List.setIfInBounds_toArray, List.set_cons_zero, List.set_cons_succ]
        refine at_eff rfl (fun K hK => ?_)
        go_simp
        refine (pa_all [R] p a' _ F9 [R] wc.drew (HQ9.out.fr0 (Fr.refl [] wc).drew).pa (fun x hx => by simp at hx; subst hx; exact (HQ9.out.fr0 (Fr.refl [] wc).drew).box.lt)).mono ?_
        rintro e x2 ⟨⟨v2, ms2, rfl, hms2, ho2⟩, hf2⟩
        have hf2' : Fr [] wc x2 := (Fr.refl [] wc).drew.trans' hf2
        have hQa := HQ9.out.fr0 hf2'
        obtain ⟨ns, hns, hnr, hnw⟩ := hQa.ref.msgs
        have hnl : a'.msgs.length = ns.length := by rw [← hns]; simp
        have hNM : MsgsRd x2 (.slice m5 a'.msgs.length c5) ns := ⟨by rw [← hnl]; exact hnr.mono (by simp) (by omega), fun x hx => (hnw x hx).mono (by simp)⟩
        have hAM : MsgsRd x2 v2 ms2 := ho2.rd
        have hEQ : ms2.map (·.1) = ns.map (·.1) := hms2.trans hns.symm
        obtain ⟨A2, c2', rfl, _⟩ := id hAM.row
        have HNM := Lib.hid hNM
        have HAM := Lib.hid hAM
        have HEQ := Lib.hid hEQ
        have HF2 := Lib.hid hf2'
        clear hQa hns hnr hnw hnl hNM hAM hEQ ho2 hms2 hf2 hf2'
        go_simp
        refine hK _ _ (HF2.out) ?_
        clear hK K
        try simp only [Act.put, List.setIfInBounds_toArray, List.set_cons_zero, List.set_cons_succ]
        refine at_eff rfl (fun K hK => ?_)
        go_simp
        refine (msgs_true _ _ ms2 ns x2 HAM.out HNM.out HEQ.out).mono ?_
        rintro e x3 ⟨rfl, hf3⟩
        have HF3 := Lib.hid (HF2.out.trans' hf3)
        clear hf3 HAM HNM HEQ
        go_simp
        refine hK _ _ (HF3.out) ?_
        clear hK K
        try simp only [Act.put, List.setIfInBounds_toArray, List.set_cons_zero, List.set_cons_succ]
        iterate 5
          refine at_read (v := ?_) rfl (by first | rfl | kernel_rfl) ?_ ?_
          rotate_left
          · intro W hW
            go_simp
            try with_reducible rfl
          simp only [Act.put, List.setIfInBounds_toArray, List.set_cons_zero, List.set_cons_succ]
        refine at_eff rfl (fun K hK => ?_)
        go_simp
        refine (pa_waiting p a' _ F9 [R] x3 (HQ9.out.fr0 HF3.out).pa (by omega)).mono ?_
        rintro e x4 ⟨⟨v4, rfl, hown4, _⟩, hf4⟩
        have hr4 : Rd x4 1 [] v4 a'.who.length (ints a'.who) := Rd.of_own hown4 (fun g _ hx => by simp at hx)
        obtain ⟨A4, c4', rfl, _⟩ := id hr4
        have HR4 := Lib.hid hr4
        have HF4 := Lib.hid (HF3.out.trans' hf4)
        clear hown4 hr4 hf4
        go_simp
        refine hK _ _ (HF4.out) ?_
        clear hK K
        try simp only [Act.put, List.setIfInBounds_toArray, List.set_cons_zero, List.set_cons_succ]
        refine at_eff rfl (fun K hK => ?_)
        go_simp
        refine (refwaiting_any _ _ _ a' x4 (HQ9.out.fr0 HF4.out).ref HWL.out).mono ?_
        rintro e x5 ⟨⟨v5, rfl, hown5, _⟩, hf5⟩
        have hr5 : Rd x5 1 [] v5 a'.who.length (ints a'.who) := Rd.of_own hown5 (fun g _ hx => by simp at hx)
        obtain ⟨A5, c5', rfl, _⟩ := id hr5
        have HR5 := Lib.hid hr5
        have HR4' := Lib.hid (HR4.out.fr hf5 (by simp))
        have HF5 := Lib.hid (HF4.out.trans' hf5)
        clear hown5 hr5 hf5
        go_simp
        refine hK _ _ (HF5.out) ?_
        clear hK K
        try simp only [Act.put, List.setIfInBounds_toArray, List.set_cons_zero, List.set_cons_succ]
        refine at_eff rfl (fun K hK => ?_)
        go_simp
        refine (same_true [] [] A4 A5 a'.who.length c4' c5' a'.who x5 HR4'.out HR5.out).mono ?_
        rintro e x6 ⟨rfl, hf6⟩
        have HF6 := Lib.hid (HF5.out.trans' hf6)
        clear hf6
        go_simp
        refine hK _ _ (HF6.out) ?_
        clear hK K
        try simp only [Act.put, List.setIfInBounds_toArray, List.set_cons_zero, List.set_cons_succ]
        iterate 9
          refine at_read (v := ?_) rfl (by first | rfl | kernel_rfl) ?_ ?_
          rotate_left
          · intro W hW
            go_simp
            try with_reducible rfl
          simp only [Act.put, List.setIfInBounds_toArray, List.set_cons_zero, List.set_cons_succ]
        refine at_eff rfl (fun K hK => ?_)
        go_simp
        refine (pa_waits p a' _ F9 [R] s.proc x6 (HQ9.out.fr0 HF6.out).pa).mono ?_
        rintro e x7 ⟨rfl, rfl⟩
        go_simp
        refine hK _ _ (HF6.out) ?_
        clear hK K
        try simp only [Act.put, List.setIfInBounds_toArray, List.set_cons_zero, List.set_cons_succ]
        refine at_eff rfl (fun K hK => ?_)
        go_simp
        refine (refwaits_any _ _ _ a' s.proc x6 (HQ9.out.fr0 HF6.out).ref).mono ?_
        rintro e x8 ⟨rfl, hf8⟩
        have HF8 := Lib.hid (HF6.out.trans' hf8)
        clear hf8
        go_simp
        refine hK _ _ (HF8.out) ?_
        clear hK K
        try simp only [Act.put, List.setIfInBounds_toArray, List.set_cons_zero, List.set_cons_succ]
        iterate 1
          refine at_read (v := ?_) rfl (by first | rfl | kernel_rfl) ?_ ?_
          rotate_left
          · intro W hW
            go_simp
            try with_reducible rfl
          simp only [Act.put, List.setIfInBounds_toArray, List.set_cons_zero, List.set_cons_succ]
        refine at_last rfl (fun K hK => ?_)
        go_simp
        refine hK _ _ ?_
        clear hK K
        try simp only [Act.put, List.setIfInBounds_toArray, List.set_cons_zero, List.set_cons_succ]
        refine sched_nil ?_
        clear q0 q1 q2 q3
        go_wp2
        go_roundw
        case rel => exact ⟨k + 1, a', F9, _, _, by go_num, by omega, HOK9, HQ9.out.fr0 HF8.out⟩
        case measure => simp [intOf]; omega
    · have hQ := Lib.hid hQ
      go_wp2
      go_ret
      exact ⟨rfl, hQ.out.fr⟩
end Go.Proofs.Ytfadadgkgbaohaa
