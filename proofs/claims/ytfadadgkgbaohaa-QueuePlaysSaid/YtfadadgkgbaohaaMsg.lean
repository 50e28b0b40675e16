/-
  Messages as values; the contract of lane.Clone.
-/
import Derived.Test.YtfadadgkgbaohaaSl1
set_option linter.unusedSimpArgs false
set_option linter.unusedVariables false
namespace Go.Proofs.Ytfadadgkgbaohaa
open Go.RowKit
attribute [local go_sem] max_ints min_ints

/-- A message. -/
structure Msg where
  words : List Int
  lane : Int
  stamp : Int
  late : Int
  seq : Int

/-- A message's cells, its words being the slice wv. -/
def Msg.cells (m : Msg) (wv : Value) : List Value := [wv, .int .i64 m.lane, .int .i64 m.stamp, .int .i64 m.late, .int .i64 m.seq]
def Msg.val (m : Msg) (wv : Value) : Value := .agg #[wv, .int .i64 m.lane, .int .i64 m.stamp, .int .i64 m.late, .int .i64 m.seq]

/-- wv reads as the words of m, in no block of M; not too many. -/
def WordsAt (w : World) (M : List Nat) (wv : Value) (m : Msg) : Prop := Rd w 1 M wv m.words.length (ints m.words) ∧ m.words.length ≤ 1048576

/-- A value whose row is new: its block (if any) is not below B. -/
def NewFrom (B : Nat) (v : Value) : Prop := ∀ g, v.ownBlock = some g → B ≤ g

theorem WordsAt.fr {w w' : World} {M F : List Nat} {wv : Value} {m : Msg} (h : WordsAt w M wv m) (hf : Fr F w w') (hs : ∀ x ∈ F, x < w.heap.size → x ∈ M) : WordsAt w' M wv m := ⟨h.1.fr hf hs, h.2⟩
theorem WordsAt.fr0 {w w' : World} {M : List Nat} {wv : Value} {m : Msg} (h : WordsAt w M wv m) (hf : Fr [] w w') : WordsAt w' M wv m := h.fr hf (fun _ hx => by simp at hx)
theorem WordsAt.mono {w : World} {M M' : List Nat} {wv : Value} {m : Msg} (h : WordsAt w M wv m) (hs : ∀ x ∈ M', x < w.heap.size → x ∈ M) : WordsAt w M' wv m := ⟨h.1.mono hs (by omega), h.2⟩

theorem msg_info : (Try.prog.info? 29).map (fun i => (i.zero, i.size, i.bytes)) = some (some (.agg #[.slice none 0 0, .int .i64 0, .int .i64 0, .int .i64 0, .int .i64 0]), 5, 56) := by kernel_rfl
theorem msg_elem : Elem Try.prog 39 29 (.agg #[.slice none 0 0, .int .i64 0, .int .i64 0, .int .i64 0, .int .i64 0]) 5 56 :=
  ⟨Try.underlying39, info_parts msg_info, rfl, by omega⟩

/-- What a clone of m gives. -/
def MsgCloned (w w' : World) (m : Msg) (e : Ending) : Prop :=
  ∃ wv, e = .returned (m.val wv) ∧ (∀ M, (∀ x ∈ M, x < w.heap.size) → WordsAt w' M wv m) ∧ Fr [] w w' ∧ wv.oneCell' = true

set_option maxHeartbeats 400000 in
theorem lane_clone_any (M : List Nat) (m : Msg) (wv : Value) (w : World) (h : WordsAt w M wv m) :
    Calls Try.prog 32 #[m.val wv] w fun e w' => MsgCloned w w' m e := by
  obtain ⟨h, hle⟩ := h
  have H0 := Lib.hid h
  obtain ⟨A, c, rfl, hl, hnc, hcm, h4, h3⟩ := h
  clear hl h4 h3
  obtain ⟨zs, l, s, t, q⟩ := m
  simp only [Msg.val] at *
  obtain ⟨w1, hw1⟩ : ∃ x, x = (w.alloc (.cells #[.slice A zs.length c, .int .i64 l, .int .i64 s, .int .i64 t, .int .i64 q] 29)).alloc (.cells #[.slice none 0 0, .int .i64 0, .int .i64 0, .int .i64 0, .int .i64 0] 29) := ⟨_, rfl⟩
  have hF1 : Fr [] w w1 := by rw [hw1]; exact ((Fr.refl _ _).alloc _).alloc _
  have hB1 : Blk w1 w.heap.size 29 #[.slice A zs.length c, .int .i64 l, .int .i64 s, .int .i64 t, .int .i64 q] := by rw [hw1]; exact (Blk.new _ _ _).alloc _
  have hC1 : Blk w1 (w.heap.size + 1) 29 #[.slice none 0 0, .int .i64 0, .int .i64 0, .int .i64 0, .int .i64 0] := by rw [hw1]; exact Blk.new' _ _ _ (by simp)
  have hz1 : w1.heap.size = w.heap.size + 2 := by rw [hw1]; simp
  have H1 := H0.out.fr hF1 (fun _ hx => by simp at hx)
  have HW1 := Lib.hid hw1
  clear hw1
  have c0 := hB1.cell 0
  go_enter Try.func32, Try.ntmps32
  go_wp2_with fail
  rw [← HW1.out]
  refine (clone_any M _ _ zs w1 H1 (by omega)).mono ?_
  rintro e w2 ⟨v2, rfl, hown, hf2, hnew, _⟩
  have hB2 := hB1.fr hf2 (by simp)
  have hC2 := hC1.fr hf2 (by simp)
  have hz2 : w.heap.size + 2 ≤ w2.heap.size := by rw [← hz1]; exact hf2.size
  obtain ⟨b0, b1, b2, b3, b4⟩ := hB2.five
  obtain ⟨e0, e1, e2, e3, e4⟩ := hC2.five
  have f0 := hB2.froz 0
  have g0 := hC2.froz
  obtain ⟨A2, c2, rfl, hn2, hc2, _, _⟩ := own_form hown
  have H5 := Lib.hid hown
  have H6 := Lib.hid hnew
  have hz1' := hz1
  clear c0 hown hnew HW1 H1 hz1
  go_wp2
  have hsz1 : w.heap.size + 2 ≤ w1.heap.size := by omega
  have key : ∀ W3, Fr [w.heap.size, w.heap.size + 1] w2 W3 → MsgCloned w W3 { words := zs, lane := l, stamp := s, late := t, seq := q } (.returned (.agg #[.slice A2 zs.length c2, .int .i64 l, .int .i64 s, .int .i64 t, .int .i64 q])) := by
    intro W3 hF3
    refine ⟨_, rfl, fun M' hM' => ⟨?_, hle⟩, ?_, rfl⟩
    · have h1 : Rd w2 1 ([w.heap.size, w.heap.size + 1] ++ M') (.slice A2 zs.length c2) zs.length (ints zs) := by
        refine Rd.of_own H5.out fun g hg hx => ?_
        have h6 := H6.out g hg
        simp only [List.mem_append, List.mem_cons, List.not_mem_nil, or_false] at hx
        rcases hx with (h | h) | h
        · omega
        · omega
        · have := hM' g h; omega
      exact (h1.fr hF3 (fun x hx _ => List.mem_append_left _ hx)).mono (fun x hx _ => List.mem_append_right _ hx) (by omega)
    · refine (hF1.trans0 hf2).trans hF3 ?_
      intro x hx hlt
      simp at hx
      omega
  refine bodyPost_ret (v := .agg #[.slice A2 zs.length c2, .int .i64 l, .int .i64 s, .int .i64 t, .int .i64 q]) ?h1 rfl ?h2
  case h2 =>
      refine key _ ?_
      iterate 6 refine Fr.setCell ?_ (by simp) _
      exact Fr.refl _ _
  case h1 =>
      simp [results, Try.results32, go_sem, *]
end Go.Proofs.Ytfadadgkgbaohaa
