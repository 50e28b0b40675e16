/-
  A step of a script: opened; its message.
-/
import Derived.Test.YtfadadgkgbaohaaArg
import Derived.Test.YtfadadgkgbaohaaL4
import Derived.Test.YtfadadgkgbaohaaQLives
set_option linter.unusedSimpArgs false
set_option linter.unusedVariables false
namespace Go.Proofs.Ytfadadgkgbaohaa
open Go.ChangeShapes Go.WideShapes Go.ChangeAt Go.RowKit Go.Deep
attribute [local go_sem] max_ints min_ints

/-- A step. -/
structure Stp where
  kind : Int
  proc : Int
  till : Int
  now : Int
  m : Msg

def Stp.cells (s : Stp) (wv : Value) : List Value := [.int .i64 s.kind, .int .i64 s.proc, .int .i64 s.till, .int .i64 s.now, wv, .int .i64 s.m.lane, .int .i64 s.m.stamp, .int .i64 s.m.late, .int .i64 s.m.seq]
def Stp.val (s : Stp) (wv : Value) : Value := .agg #[.int .i64 s.kind, .int .i64 s.proc, .int .i64 s.till, .int .i64 s.now, wv, .int .i64 s.m.lane, .int .i64 s.m.stamp, .int .i64 s.m.late, .int .i64 s.m.seq]

theorem c_step : Try.prog.cellsOf 31 = 9 := by kernel_rfl
section
variable {H : Type} {enc : TypeId × Value → H} {W : World} {base : Nat} {spare : Nat → Bool} {held : Bool} {fuel : Nat} {cs : List Value} {x : DataW H × List MemPlace}
set_option maxRecDepth 100000 in
theorem step_arg (h : DataW.trod enc Try.prog W base spare held fuel 31 cs = some x) : ∃ s wv, cs = Stp.cells s wv ∧ Rd W 1 [] wv s.m.words.length (ints s.m.words) ∧ (Lit.int .i64 s.proc).wf = true := by
  obtain ⟨xs, n, _, _, hl, hx, hf⟩ := DataW.trod_struct Try.underlying31 h
  rw [c_step] at hl
  match cs, hl with
  | [c0, c1, c2, c3, c4, c5, c6, c7, c8], _ =>
    match xs, hx with
    | [x0, x1, x2, x3, x4], _ =>
      have h0 := hf 0 _ rfl
      have h1 := hf 1 _ rfl
      have h2 := hf 2 _ rfl
      have h3 := hf 3 _ rfl
      have h4 := hf 4 _ rfl
      simp [c_int, c_msg] at h0 h1 h2 h3 h4
      obtain ⟨k, e0, _⟩ := int_arg h0
      obtain ⟨p, e1, wp⟩ := int_arg h1
      obtain ⟨u, e2, _⟩ := int_arg h2
      obtain ⟨t, e3, _⟩ := int_arg h3
      obtain ⟨m, wv, e4, hR⟩ := msg_arg h4
      simp only [Msg.cells, List.cons.injEq, and_true] at e0 e1 e2 e3 e4
      obtain ⟨rfl, rfl, rfl, rfl, rfl⟩ := e4
      subst e0 e1 e2 e3
      exact ⟨⟨k, p, u, t, m⟩, _, rfl, hR, wp⟩
end

/-- A step's message: at most 8 words. -/
def Stp.msg (s : Stp) : Msg := { s.m with words := s.m.words.take 8 }

def GivesMsg (w w' : World) (M : List Nat) (m : Msg) (e : Ending) : Prop := ∃ wv, e = .returned (m.val wv) ∧ WordsAt w' M wv m ∧ Fr [] w w'

set_option maxHeartbeats 1000000 in
set_option maxRecDepth 100000 in
theorem step_message (s : Stp) (wv : Value) (M : List Nat) (w : World) (h : Rd w 1 M wv s.m.words.length (ints s.m.words)) :
    Calls Try.prog 11 #[s.val wv] w fun e w' => GivesMsg w w' M s.msg e := by
  have hmax := h.max
  have H := Lib.hid h
  obtain ⟨A, c, rfl, hl, hnc, hcm, h4, h3⟩ := h
  obtain ⟨k, p, u, t, ⟨zs, l, st, la, sq⟩⟩ := s
  simp only [maxLen] at hcm
  simp only [Stp.val, Stp.msg] at *
  clear hl h4 h3
  have key : ∀ W, Fr [] w W → GivesMsg w W M ⟨zs.take 8, l, st, la, sq⟩ (.returned (.agg #[.slice A (min (zs.length : Int) 8).toNat c, .int .i64 l, .int .i64 st, .int .i64 la, .int .i64 sq])) := by
    intro W hF
    have e8 : (min (zs.length : Int) 8).toNat = min zs.length 8 := by omega
    rw [e8]
    refine ⟨_, rfl, ⟨?_, by simp; omega⟩, hF⟩
    have h1 := H.out.fr hF (by simp)
    obtain ⟨A', c', e, hl, h1, h2, h4, h3⟩ := h1
    injection e with e1 e2 e3
    subst e1 e3
    refine ⟨_, _, by simp [Nat.min_comm], by simp [ints], by simp; omega, h2, h4, fun hn => ?_⟩
    obtain ⟨ad, ha, hb, hc⟩ := h3 (by simp at hn; omega)
    refine ⟨ad, ha, hb, fun j u hu => hc j u ?_⟩
    simp only [ints, List.map_take] at hu ⊢
    rw [List.getElem?_take] at hu
    split at hu
    · exact hu
    · cases hu
  go_enter Try.func11, Try.ntmps11
  go_wp2
  refine bodyPost_ret (v := .agg #[.slice A (min (zs.length : Int) 8).toNat c, .int .i64 l, .int .i64 st, .int .i64 la, .int .i64 sq]) ?h1 rfl ?h2
  case h2 => exact key _ ((((Fr.refl _ _).alloc _).alloc _).alloc _)
  case h1 => simp [results, Try.results11, go_sem]

set_option maxHeartbeats 2000000 in
set_option maxRecDepth 100000 in
theorem queueNil_walk (s : Stp) (wv : Value) (w : World) (h : Rd w 1 [] wv s.m.words.length (ints s.m.words)) :
    Calls Try.prog 5 #[s.val wv] w fun e w' => e = .returned (.bool true) ∧ Fr [] w w' := by
  have HR := Lib.hid h
  have hm := fun W hW => step_message s wv [] W (h.fr (hW : Fr [] w W) (by simp))
  have HM := Lib.hid hm
  obtain ⟨A, c, rfl, _⟩ := h
  clear hm
  obtain ⟨w1, hw1⟩ : ∃ x, w.alloc (.cells #[.int .i64 s.kind, .int .i64 s.proc, .int .i64 s.till, .int .i64 s.now, .slice A s.m.words.length c, .int .i64 s.m.lane, .int .i64 s.m.stamp, .int .i64 s.m.late, .int .i64 s.m.seq] 31) = x := ⟨_, rfl⟩
  have hF1 : Fr [] w w1 := by rw [← hw1]; exact (Fr.refl _ _).alloc _
  have hB1 : Blk w1 w.heap.size 31 #[.int .i64 s.kind, .int .i64 s.proc, .int .i64 s.till, .int .i64 s.now, .slice A s.m.words.length c, .int .i64 s.m.lane, .int .i64 s.m.stamp, .int .i64 s.m.late, .int .i64 s.m.seq] := by rw [← hw1]; exact Blk.new _ _ _
  have HB := Lib.hid hB1
  clear hB1
  unfold Stp.val
  go_enter Try.func5, Try.ntmps5
  go_wp2_with fail
  refine (qlives w1).mono ?_
  rintro e w2 ⟨rfl, hf2⟩
  have hB2 := HB.out.fr hf2 (by simp)
  have hF2 := hF1.trans' hf2
  have b0 : w2.cell? ⟨w.heap.size, 0, none⟩ = some (.int .i64 s.kind) := hB2.cell 0
  have b1 : w2.cell? ⟨w.heap.size, 1, none⟩ = some (.int .i64 s.proc) := hB2.cell 1
  have b2 : w2.cell? ⟨w.heap.size, 2, none⟩ = some (.int .i64 s.till) := hB2.cell 2
  have b3 : w2.cell? ⟨w.heap.size, 3, none⟩ = some (.int .i64 s.now) := hB2.cell 3
  have b4 : w2.cell? ⟨w.heap.size, 4, none⟩ = some (.slice A s.m.words.length c) := hB2.cell 4
  have b5 : w2.cell? ⟨w.heap.size, 5, none⟩ = some (.int .i64 s.m.lane) := hB2.cell 5
  have b6 : w2.cell? ⟨w.heap.size, 6, none⟩ = some (.int .i64 s.m.stamp) := hB2.cell 6
  have b7 : w2.cell? ⟨w.heap.size, 7, none⟩ = some (.int .i64 s.m.late) := hB2.cell 7
  have b8 : w2.cell? ⟨w.heap.size, 8, none⟩ = some (.int .i64 s.m.seq) := hB2.cell 8
  have HB2 := Lib.hid hB2
  clear hB2
  go_wp2_with fail
  refine (HM.out w2 hF2).mono ?_
  rintro e w3 ⟨wv3, rfl, hwv3, hf3⟩
  have hF3 := hF2.trans' hf3
  have HB3 := Lib.hid (HB2.out.fr hf3 (by simp))
  have HW3 := Lib.hid hwv3
  obtain ⟨A3, c3, rfl, _⟩ := hwv3.1
  clear b0 b1 b2 b3 b4 b5 b6 b7 b8
  simp only [Msg.val]
  go_wp2_with fail
  refine (put_nil s.msg (.slice A3 s.msg.words.length c3) w3).mono ?_
  rintro e w4 ⟨rfl, hf4⟩
  have hF4 := hF3.trans' hf4
  have hB4 := HB3.out.fr hf4 (by simp)
  have b1 : w4.cell? ⟨w.heap.size, 1, none⟩ = some (.int .i64 s.proc) := hB4.cell 1
  have b2 : w4.cell? ⟨w.heap.size, 2, none⟩ = some (.int .i64 s.till) := hB4.cell 2
  have b3 : w4.cell? ⟨w.heap.size, 3, none⟩ = some (.int .i64 s.now) := hB4.cell 3
  have HB4 := Lib.hid hB4
  clear hB4
  go_wp2_with fail
  refine (ask_nil _ _ _ w4).mono ?_
  rintro e w5 ⟨rfl, hf5⟩
  have hF5 := hF4.trans' hf5
  have HB5 := Lib.hid (HB4.out.fr hf5 (by simp))
  clear b1 b2 b3
  go_wp2_with fail
  generalize hw6 : w5.alloc (.cells #[.slice none 0 0, .int .i64 0, .int .i64 0, .int .i64 0, .int .i64 0] 29) = w6
  have hf6 : Fr [] w5 w6 := by rw [← hw6]; exact (Fr.refl _ _).alloc _
  have hC6 : Blk w6 w5.heap.size 29 #[.slice none 0 0, .int .i64 0, .int .i64 0, .int .i64 0, .int .i64 0] := by rw [← hw6]; exact Blk.new _ _ _
  have hF6 := hF5.trans' hf6
  have hB6 := HB5.out.fr hf6 (by simp)
  clear hw6
  refine (flush_nil w6).mono ?_
  rintro e w7 ⟨rfl, rfl⟩
  go_wp2_with fail
  have r0 : ∀ W, Fr [] w6 W → W.cell? ⟨w5.heap.size, 0, none⟩ = some (.slice none 0 0) := fun W hW => hW.cell0 (hC6.cell 0)
  have r1 : ∀ W, Fr [] w6 W → W.cell? ⟨w5.heap.size, 1, none⟩ = some (.int .i64 0) := fun W hW => hW.cell0 (hC6.cell 1)
  have r2 : ∀ W, Fr [] w6 W → W.cell? ⟨w5.heap.size, 2, none⟩ = some (.int .i64 0) := fun W hW => hW.cell0 (hC6.cell 2)
  have r3 : ∀ W, Fr [] w6 W → W.cell? ⟨w5.heap.size, 3, none⟩ = some (.int .i64 0) := fun W hW => hW.cell0 (hC6.cell 3)
  have r4 : ∀ W, Fr [] w6 W → W.cell? ⟨w5.heap.size, 4, none⟩ = some (.int .i64 0) := fun W hW => hW.cell0 (hC6.cell 4)
  have q1 : ∀ W, Fr [] w6 W → W.cell? ⟨w.heap.size, 1, none⟩ = some (.int .i64 s.proc) := fun W hW => hW.cell0 (hB6.cell 1)
  have q3 : ∀ W, Fr [] w6 W → W.cell? ⟨w.heap.size, 3, none⟩ = some (.int .i64 s.now) := fun W hW => hW.cell0 (hB6.cell 3)
  refine wp_sched 57 [(0, 0), (1, 0), (2, 0), (3, 0), (4, 0), (5, 0), (6, 0), (7, 0), (8, 0), (9, 0), (10, 0), (11, 0), (12, 0), (13, 1), (14, 0), (15, 0), (16, 0), (17, 0), (18, 0), (19, 0), (20, 0), (21, 0), (22, 0), (23, 0), (24, 0), (25, 0), (26, 0), (27, 0), (31, 0), (32, 0), (33, 0), (37, 0), (41, 0), (45, 0), (28, 1), (29, 0), (30, 0), (34, 1), (35, 0), (36, 0), (38, 1), (39, 0), (40, 0), (42, 1), (43, 0), (44, 0), (46, 1), (47, 0), (48, 0), (49, 0), (50, 0), (51, 0), (52, 0), (53, 0), (54, 1), (55, 0), (56, 0), (57, 2)] (fun W => Fr [] w6 W) (by kernel_rfl) (by kernel_rfl) (fun _ _ _ _ _ h => h) ((Fr.refl [] w6).drew) ?_
  iterate 13
    refine at_read (v := ?_) rfl (by first | rfl | kernel_rfl) ?_ ?_
    rotate_left
    · intro W hW
      go_simp
      try with_reducible rfl
    simp only [Act.put, List.setIfInBounds_toArray, List.set_cons_zero, List.set_cons_succ]
  refine at_eff rfl (fun K hK => ?_)
  go_simp
  refine (one_true [] [] zmsg (.slice none 0 0) (.slice none 0 0) _ (zmsg_words _ _) (zmsg_words _ _)).mono ?_
  rintro e w8 ⟨rfl, hf8⟩
  have hf8 := ((Fr.refl [] w6).drew).trans' hf8
  go_simp
  refine hK _ _ (hf8) ?_
  clear hK K
  try simp only [Act.put, List.setIfInBounds_toArray, List.set_cons_zero, List.set_cons_succ]
  iterate 20
    refine at_read (v := ?_) rfl (by first | rfl | kernel_rfl) ?_ ?_
    rotate_left
    · intro W hW
      go_simp
      try with_reducible rfl
    simp only [Act.put, List.setIfInBounds_toArray, List.set_cons_zero, List.set_cons_succ]
  refine at_eff rfl (fun K hK => ?_)
  go_simp
  refine (expire_nil _ _).mono ?_
  rintro e w9 ⟨rfl, rfl⟩
  go_simp
  refine hK _ _ (hf8) ?_
  clear hK K
  try simp only [Act.put, List.setIfInBounds_toArray, List.set_cons_zero, List.set_cons_succ]
  iterate 2
    refine at_read (v := ?_) rfl (by first | rfl | kernel_rfl) ?_ ?_
    rotate_left
    · intro W hW
      go_simp
      try with_reducible rfl
    simp only [Act.put, List.setIfInBounds_toArray, List.set_cons_zero, List.set_cons_succ]
  refine at_eff rfl (fun K hK => ?_)
  go_simp
  refine (sweep_nil _ _).mono ?_
  rintro e w9 ⟨rfl, rfl⟩
  go_simp
  refine hK _ _ (hf8) ?_
  clear hK K
  try simp only [Act.put, List.setIfInBounds_toArray, List.set_cons_zero, List.set_cons_succ]
  iterate 2
    refine at_read (v := ?_) rfl (by first | rfl | kernel_rfl) ?_ ?_
    rotate_left
    · intro W hW
      go_simp
      try with_reducible rfl
    simp only [Act.put, List.setIfInBounds_toArray, List.set_cons_zero, List.set_cons_succ]
  refine at_eff rfl (fun K hK => ?_)
  go_simp
  refine (waiting_nil _).mono ?_
  rintro e w9 ⟨rfl, rfl⟩
  go_simp
  refine hK _ _ (hf8) ?_
  clear hK K
  try simp only [Act.put, List.setIfInBounds_toArray, List.set_cons_zero, List.set_cons_succ]
  iterate 2
    refine at_read (v := ?_) rfl (by first | rfl | kernel_rfl) ?_ ?_
    rotate_left
    · intro W hW
      go_simp
      try with_reducible rfl
    simp only [Act.put, List.setIfInBounds_toArray, List.set_cons_zero, List.set_cons_succ]
  refine at_eff rfl (fun K hK => ?_)
  go_simp
  refine (portall_nil _).mono ?_
  rintro e w9 ⟨rfl, rfl⟩
  go_simp
  refine hK _ _ (hf8) ?_
  clear hK K
  try simp only [Act.put, List.setIfInBounds_toArray, List.set_cons_zero, List.set_cons_succ]
  iterate 2
    refine at_read (v := ?_) rfl (by first | rfl | kernel_rfl) ?_ ?_
    rotate_left
    · intro W hW
      go_simp
      try with_reducible rfl
    simp only [Act.put, List.setIfInBounds_toArray, List.set_cons_zero, List.set_cons_succ]
  refine at_eff rfl (fun K hK => ?_)
  go_simp
  refine (portlen_nil _).mono ?_
  rintro e w9 ⟨rfl, rfl⟩
  go_simp
  refine hK _ _ (hf8) ?_
  clear hK K
  try simp only [Act.put, List.setIfInBounds_toArray, List.set_cons_zero, List.set_cons_succ]
  iterate 7
    refine at_read (v := ?_) rfl (by first | rfl | kernel_rfl) ?_ ?_
    rotate_left
    · intro W hW
      go_simp
      try with_reducible rfl
    simp only [Act.put, List.setIfInBounds_toArray, List.set_cons_zero, List.set_cons_succ]
  refine at_eff rfl (fun K hK => ?_)
  go_simp
  refine (waits_nil _ _).mono ?_
  rintro e w9 ⟨rfl, rfl⟩
  go_simp
  refine hK _ _ (hf8) ?_
  clear hK K
  try simp only [Act.put, List.setIfInBounds_toArray, List.set_cons_zero, List.set_cons_succ]
  iterate 2
    refine at_read (v := ?_) rfl (by first | rfl | kernel_rfl) ?_ ?_
    rotate_left
    · intro W hW
      go_simp
      try with_reducible rfl
    simp only [Act.put, List.setIfInBounds_toArray, List.set_cons_zero, List.set_cons_succ]
  refine at_last rfl (fun K hK => ?_)
  go_simp
  refine hK _ _ ?_
  clear hK K
  try simp only [Act.put, List.setIfInBounds_toArray, List.set_cons_zero, List.set_cons_succ]
  refine sched_nil ?_
  go_wp2
  have wz : IntKind.i64.wrap 0 = 0 := rfl
  simp only [wz, beq_self_eq_true]
  refine bodyPost_ret (v := .bool true) ?h1 rfl ?h2
  case h2 => exact ⟨rfl, hF6.trans' hf8⟩
  case h1 => simp [results, Try.results5, go_sem]
end Go.Proofs.Ytfadadgkgbaohaa
