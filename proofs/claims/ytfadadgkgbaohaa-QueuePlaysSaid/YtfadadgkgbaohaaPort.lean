/-
  A port in memory; the contracts of queue.New and of what only reads a port.
-/
import Derived.Test.YtfadadgkgbaohaaWh1
import Derived.Test.YtfadadgkgbaohaaDelF
import Derived.Test.YtfadadgkgbaohaaDel
set_option linter.unusedSimpArgs false
set_option linter.unusedVariables false
namespace Go.Proofs.Ytfadadgkgbaohaa
open Go.RowKit
attribute [local go_sem] max_ints min_ints

/-- A port: how many it holds; its messages; the wheel's entries; the wheel's count; who waits, as they asked; blocks in which none of its messages' words lie. -/
structure PS where
  hold : Int
  msgs : List Msg
  ws : List WE
  set : Int
  row : List Int
  ext : List Nat

/-- The cells of messages. -/
def mrow (ms : List (Msg × Value)) : List Value := ms.flatMap fun x => x.1.cells x.2
theorem mrow_length (ms : List (Msg × Value)) : (mrow ms).length = ms.length * 5 := by
  unfold mrow
  induction ms with
  | nil => rfl
  | cons a r ih => simp only [List.flatMap_cons, List.length_append, ih, List.length_cons]; simp [Msg.cells]; omega
theorem mrow_cons (a : Msg × Value) (r : List (Msg × Value)) : mrow (a :: r) = a.1.cells a.2 ++ mrow r := rfl
theorem mrow_append (a b : List (Msg × Value)) : mrow (a ++ b) = mrow a ++ mrow b := by simp [mrow]
theorem mrow_one {ms : List (Msg × Value)} (h : ∀ x ∈ ms, x.2.oneCell' = true) : ∀ u ∈ mrow ms, u.oneCell' = true := by
  intro u hu
  simp only [mrow, List.mem_flatMap] at hu
  obtain ⟨x, hx, hu⟩ := hu
  simp only [Msg.cells, List.mem_cons, List.not_mem_nil, or_false] at hu
  rcases hu with rfl | rfl | rfl | rfl | rfl
  · exact h x hx
  all_goals rfl
theorem WordsAt.one {w : World} {M : List Nat} {wv : Value} {m : Msg} (h : WordsAt w M wv m) : wv.oneCell' = true := by
  obtain ⟨⟨A, c, rfl, _⟩, _⟩ := h
  rfl

/-- The port s lies at block p; all that it may write lies in F. -/
structure PortAt (w : World) (p : Nat) (s : PS) (F : List Nat) : Prop where
  ex : ∃ wh m lv rv, ∃ ms : List (Msg × Value), Blk w p 70 #[.pointer (some ⟨wh, 0, none⟩), .int .i64 s.hold, lv, rv] ∧ WheelAt w wh m s.set s.ws ∧ w.ownsRow 0 3 1 rv s.row.length (ints s.row) ∧
    w.ownsRow 0 29 5 lv s.msgs.length (mrow ms) ∧ ms.map (·.1) = s.msgs ∧ (∀ x ∈ ms, WordsAt w (F ++ s.ext) x.2 x.1) ∧ p ∈ F ∧ wh ∈ F ∧ m ∈ F ∧ (∀ g, lv.ownBlock = some g → g ∈ F) ∧ (∀ g, rv.ownBlock = some g → g ∈ F)
  lt : ∀ x ∈ F, x < w.heap.size
  room : (s.msgs.length : Int) ≤ s.hold ∧ s.hold ≤ 8
  elt : ∀ x ∈ s.ext, x < w.heap.size

theorem PortAt.fr {w w' : World} {G F : List Nat} {p : Nat} {s : PS} (h : PortAt w p s F) (hf : Fr G w w') (hG : ∀ x ∈ G, x ∉ F) (hw : ∀ x ∈ G, w.heap.size ≤ x ∨ x ∈ s.ext) : PortAt w' p s F := by
  obtain ⟨wh, m, lv, rv, ms, hB, hW, hR, hL, hms, hwo, hp, hwh, hm, hl, hr⟩ := h.ex
  have hn : ∀ x ∈ F, x ∉ G := fun x hx hg => hG x hg hx
  refine ⟨⟨wh, m, lv, rv, ms, hB.fr hf (hn p hp), hW.fr hf (hn _ hwh) (hn _ hm), hf.own hR (fun g hg => hn g (hr g hg)), hf.own hL (fun g hg => hn g (hl g hg)), hms, fun x hx => ?_, hp, hwh, hm, hl, hr⟩,
    fun x hx => Nat.lt_of_lt_of_le (h.lt x hx) hf.size, h.room, fun x hx => Nat.lt_of_lt_of_le (h.elt x hx) hf.size⟩
  refine (hwo x hx).fr hf (fun y hy hlt => ?_)
  rcases hw y hy with h1 | h1
  · omega
  · exact List.mem_append_right _ h1
theorem PortAt.fr0 {w w' : World} {F : List Nat} {p : Nat} {s : PS} (h : PortAt w p s F) (hf : Fr [] w w') : PortAt w' p s F := h.fr hf (by simp) (by simp)

def newPS (hold : Int) : PS := ⟨min (max hold 1) 8, [], [], 0, [], []⟩

set_option maxHeartbeats 400000 in
theorem queue_New_any (hold : Int) (w : World) :
    Calls Try.prog 7 #[.int .i64 hold] w fun e w' => e = .returned (.pointer (some ⟨w.heap.size + 2, 0, none⟩)) ∧ PortAt w' (w.heap.size + 2) (newPS hold) [w.heap.size, w.heap.size + 1, w.heap.size + 2] ∧ Fr [] w w' ∧ w'.heap.size = w.heap.size + 3 := by
  go_enter Try.func7, Try.ntmps7
  go_wp2_with (go_at_call 30; refine (wheel_New_any _).mono ?_; rintro e w1 ⟨rfl, hW, hF, hz⟩)
  go_ret
  have hB : ∀ o, Blk (w1.alloc (.cells o 70)) (w.heap.size + 2) 70 o := fun o => Blk.new' _ _ _ hz.symm
  refine ⟨rfl, ⟨⟨w.heap.size + 1, w.heap.size, .slice none 0 0, .slice none 0 0, [], hB _, hW.fr ((Fr.refl [] _).alloc _) (by simp) (by simp), World.ownsRow_nil _ _ _ _, World.ownsRow_nil _ _ _ _, rfl, by simp, by simp, by simp, by simp, by simp [Value.ownBlock], by simp [Value.ownBlock]⟩, ?_, ?_, ?_⟩, hF.alloc _, by simp [hz]⟩
  · intro x hx
    simp at hx
    simp [hz]
    omega
  · simp only [newPS, List.length_nil]; omega
  · simp [newPS]

set_option maxHeartbeats 400000 in
theorem port_Len_any (p : Nat) (s : PS) (F : List Nat) (w : World) (h : PortAt w p s F) :
    Calls Try.prog 20 #[.pointer (some ⟨p, 0, none⟩)] w fun e w' => e = .returned (.int .i64 s.msgs.length) ∧ w = w' := by
  obtain ⟨wh, m, lv, rv, ms, hB, hW, hR, hL, hms, hwo, hp, hwh, hm, hl, hr⟩ := h.ex
  obtain ⟨b0, b1, b2, b3⟩ := hB.four
  obtain ⟨A, c, rfl, _⟩ := own_form hL
  clear hB hW hR hL hwo hl hr h hms
  go_enter Try.func20, Try.ntmps20
  go_wp2
  go_ret
  exact ⟨rfl, rfl⟩

set_option maxHeartbeats 400000 in
theorem port_Waits_any (p : Nat) (s : PS) (F : List Nat) (x : Int) (w : World) (h : PortAt w p s F) :
    Calls Try.prog 28 #[.pointer (some ⟨p, 0, none⟩), .int .i64 x] w fun e w' => e = .returned (.bool (s.row.contains x)) ∧ w = w' := by
  obtain ⟨wh, m, lv, rv, ms, hB, hW, hR, hL, hms, hwo, hp, hwh, hm, hl, hr⟩ := h.ex
  obtain ⟨b0, b1, b2, b3⟩ := hB.four
  have hRd := Rd.of_own (M := []) hR (fun g _ hx => by simp at hx)
  obtain ⟨A, c, rfl, _⟩ := own_form hR
  have hcn := contains_any [] A _ c s.row x w hRd
  generalize s.row.contains x = bb at *
  clear hB hW hR hL hwo hl hr h hms hRd
  go_enter Try.func28, Try.ntmps28
  go_wp2_with (go_at_call 40; refine hcn.mono ?_; rintro e w' ⟨rfl, rfl⟩)
  go_ret
  exact ⟨rfl, rfl⟩
end Go.Proofs.Ytfadadgkgbaohaa
