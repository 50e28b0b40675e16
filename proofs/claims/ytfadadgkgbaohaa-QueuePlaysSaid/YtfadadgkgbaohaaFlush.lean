/-
  The contracts of (*Port).Flush and (*Port).Sweep.
-/
import Derived.Test.YtfadadgkgbaohaaAsk
set_option linter.unusedSimpArgs false
set_option linter.unusedVariables false
namespace Go.Proofs.Ytfadadgkgbaohaa
open Go.RowKit
attribute [local go_sem] max_ints min_ints

/-- The messages are gone, seen from outside: the port's slice of them is v4 now. -/
theorem msgs_step {p : Nat} {s : PS} {F : List Nat} {w W : World} {wh m' : Nat} {lv rv v4 : Value} {ms' : List (Msg × Value)} {rest : List Msg}
    (hlt : ∀ x ∈ F, x < w.heap.size) (helt : ∀ x ∈ s.ext, x < w.heap.size) (hhold : (rest.length : Int) ≤ s.hold ∧ s.hold ≤ 8)
    (hB : Blk w p 70 #[.pointer (some ⟨wh, 0, none⟩), .int .i64 s.hold, lv, rv]) (hW : WheelAt w wh m' s.set s.ws) (hRow : w.ownsRow 0 3 1 rv s.row.length (ints s.row))
    (hms : ms'.map (·.1) = rest) (hp : p ∈ F) (hwh : wh ∈ F) (hm : m' ∈ F) (hr : ∀ g, rv.ownBlock = some g → g ∈ F)
    (hf : Fr [p] w W) (hBW : Blk W p 70 #[.pointer (some ⟨wh, 0, none⟩), .int .i64 s.hold, v4, rv]) (hown : W.ownsRow 0 29 5 v4 rest.length (mrow ms'))
    (hnew : ∀ g, v4.ownBlock = some g → g ∈ F ∨ w.heap.size ≤ g) (hwo : ∀ x ∈ ms', WordsAt W ((v4.ownBlock.toList ++ F) ++ s.ext) x.2 x.1) :
    PortAt W p { s with msgs := rest } (v4.ownBlock.toList ++ F) ∧ Fr F w W ∧ (∀ x ∈ v4.ownBlock.toList ++ F, x ∈ F ∨ w.heap.size ≤ x) := by
  have hnl : ∀ {g : Nat} {t : TypeId} {cs : Array Value}, Blk w g t cs → t ≠ 70 → g ∉ [p] := fun hg ht2 hx => by
    simp at hx; subst hx; exact hg.ne_ hB ht2 rfl
  obtain ⟨ck, hmap, hok⟩ := hW.map
  have hml : m' ∉ [p] := fun hx => by simp at hx; subst hx; exact hB.ne_map hmap rfl
  have hF : Fr F w W := hf.mono (fun x hx _ => by simp at hx; subst hx; exact hp)
  refine ⟨⟨⟨wh, m', v4, rv, ms', hBW, hW.fr hf (hnl hW.blk (by decide)) hml, ?_, hown, hms, hwo, List.mem_append_right _ hp, List.mem_append_right _ hwh, List.mem_append_right _ hm, fun g hg => List.mem_append_left _ (by simp [hg]), fun g hg => List.mem_append_right _ (hr g hg)⟩, ?_, hhold, fun x hx => Nat.lt_of_lt_of_le (helt x hx) hF.size⟩, hF, ?_⟩
  · exact hf.own hRow (fun g hg hx => by obtain ⟨c, h1⟩ := own_blk hRow hg; exact hnl h1 (by decide) hx)
  · intro x hx
    rcases List.mem_append.1 hx with hx | hx
    · simp at hx
      obtain ⟨c, h1⟩ := own_blk hown hx
      exact h1.lt
    · exact Nat.lt_of_lt_of_le (hlt x hx) hF.size
  · intro x hx
    rcases List.mem_append.1 hx with hx | hx
    · simp at hx; exact hnew x hx
    · exact .inl hx

/-- What Flush gives: the messages' own row, and who waited. -/
def Flushed (w w' : World) (p : Nat) (s : PS) (F : List Nat) (e : Ending) : Prop :=
  ∃ lv rv ms, e = .returned (.tuple #[lv, rv]) ∧ ms.map (·.1) = s.msgs ∧ w'.ownsRow 0 29 5 lv s.msgs.length (mrow ms) ∧ (∀ x ∈ ms, WordsAt w' (F ++ s.ext) x.2 x.1) ∧ (∀ g, lv.ownBlock = some g → g ∈ F) ∧
    w'.ownsRow 0 3 1 rv s.row.length (ints s.row) ∧ NewFrom w.heap.size rv ∧ Fr F w w' ∧ ∃ F', PortAt w' p ({ s with msgs := [] }.loseAll s.row) F' ∧ (∀ x ∈ F', x ∈ F) ∧ (∀ g, lv.ownBlock = some g → g ∉ F')

set_option maxHeartbeats 1000000 in
set_option maxRecDepth 100000 in
theorem flush_any (p : Nat) (s : PS) (F : List Nat) (w : World) (h : PortAt w p s F) (hlen : s.row.length ≤ 1048576) :
    Calls Try.prog 15 #[.pointer (some ⟨p, 0, none⟩)] w fun e w' => Flushed w w' p s F e := by
  obtain ⟨wh, mm, lv, rv, ms, hB, hW, hRow, hL, hms, hwo, hp, hwh, hm, hl', hr'⟩ := h.ex
  obtain ⟨b0, b1, b2, b3⟩ := hB.four
  have HY := Lib.hid (And.intro hB (And.intro hW (And.intro hRow (And.intro hL (And.intro hms (And.intro hwo (And.intro hl' hr')))))))
  obtain ⟨A, c, rfl, _⟩ := own_form hL
  clear hB hW hRow hL hms hwo hl' hr' b0 b1
  go_enter Try.func15, Try.ntmps15
  go_wp2
  have l2 : ∀ W, Fr [] w W → W.cell? ⟨p, 2, none⟩ = some (.slice A s.msgs.length c) := fun W hW => hW.cell0 b2
  have l3 : ∀ W, Fr [] w W → W.cell? ⟨p, 3, none⟩ = some rv := fun W hW => hW.cell0 b3
  refine wp_mix 8 1 (fun W => Fr [] w W) (by kernel_rfl) (by kernel_rfl) (fun _ _ _ _ _ h => h) (Fr.refl _ w).drew ?_
  simp only [List.take_succ_cons, List.take_zero, List.drop_succ_cons, List.drop_zero]
  iterate 8
    refine wpReads_take (v := ?_) (by rfl) ?_ ?_
    rotate_left
    · intro W hW
      go_simp
      try with_reducible rfl
    simp only [Act.put, List.setIfInBounds_toArray, List.set_cons_zero, List.set_cons_succ]
  refine wpReads_nil ?_
  clear l2 l3
  refine wpChain_step (fun K hK => ?_)
  go_simp
  have hRd := Rd.of_own (M := []) HY.out.2.2.1 (fun g _ hx => by simp at hx)
  refine (clone_any [] rv s.row.length s.row w.drew hRd (by omega)).mono ?_
  rintro e w2 ⟨rv2, rfl, hown2, hf2, hnew2, _⟩
  have hf2' : Fr [] w w2 := (Fr.refl [] w).drew.trans' hf2
  refine hK _ _ hf2' ?_
  clear hK K hRd
  try simp only [Act.put, List.setIfInBounds_toArray, List.set_cons_zero, List.set_cons_succ]
  refine wpChain_zero ?_
  have hB2 := HY.out.1.fr hf2' (by simp)
  obtain ⟨d0, d1, d2, d3⟩ := hB2.four
  have df := hB2.froz 2
  obtain ⟨A2, c2, rfl, _⟩ := own_form hown2
  have HO2 := Lib.hid (And.intro hown2 (And.intro hnew2 hB2))
  clear hown2 hnew2 hB2 b2 b3
  go_wp2_with fail
  obtain ⟨hB, hW, hRow, hL, hms, hwo, hl', hr'⟩ := HY.out
  obtain ⟨hown2, hnew2, hB2⟩ := HO2.out
  obtain ⟨ck, hmap, _⟩ := hW.map
  have hroom := h.room
  have hsub : ∀ x ∈ [p, wh, mm] ++ rv.ownBlock.toList, x ∈ F := fun x hx => by
    simp only [List.mem_append, List.mem_cons, List.not_mem_nil, or_false, Option.mem_toList] at hx
    rcases hx with (rfl | rfl | rfl) | hx
    · exact hp
    · exact hwh
    · exact hm
    · exact hr' x hx
  have hln : ∀ g, (Value.slice A s.msgs.length c).ownBlock = some g → g ∉ [p, wh, mm] ++ rv.ownBlock.toList := fun g hg hx => by
    obtain ⟨cc, h1⟩ := own_blk hL hg
    simp only [List.mem_append, List.mem_cons, List.not_mem_nil, or_false, Option.mem_toList] at hx
    rcases hx with (rfl | rfl | rfl) | hx
    · exact own_blk_ne hL hB (by decide) hg
    · exact own_blk_ne hL hW.blk (by decide) hg
    · exact h1.ne_map hmap rfl
    · exact own_blk_ne hRow h1 (by decide) hx
  have hst := msgs_step (F := [p, wh, mm] ++ rv.ownBlock.toList) (w := w2) (W := w2.setCell ⟨p, 2, none⟩ (.slice none 0 0)) (v4 := .slice none 0 0) (ms' := []) (rest := []) (s := s)
    (fun x hx => Nat.lt_of_lt_of_le (h.lt x (hsub x hx)) hf2'.size) (fun x hx => Nat.lt_of_lt_of_le (h.elt x hx) hf2'.size) (by simp only [List.length_nil]; omega) hB2 (hW.fr hf2' (by simp) (by simp)) (hf2'.own hRow (by simp)) rfl (by simp) (by simp) (by simp) (fun g hg => by simp [hg]) (Fr.set p 2 _) (hB2.set_ 2 _)
    (World.ownsRow_nil _ _ _ _) (by simp [Value.ownBlock]) (by simp)
  obtain ⟨hP4, hf4, _⟩ := hst
  have hrd4 : Rd (w2.setCell ⟨p, 2, none⟩ (.slice none 0 0)) 1 ([p, wh, mm] ++ rv.ownBlock.toList) (.slice A2 s.row.length c2) s.row.length (ints s.row) := by
    refine (Rd.of_own (M := [p, wh, mm] ++ rv.ownBlock.toList) hown2 (fun g hg hx => ?_)).fr (Fr.set p 2 _) (fun x hx _ => by simp at hx; subst hx; simp)
    have h1 := hnew2 g hg
    have h2 := h.lt g (hsub g hx)
    simp at h1
    omega
  refine (away_any p _ _ A2 s.row.length c2 s.row _ hP4 hrd4).mono ?_
  rintro e w5 ⟨rfl, hP5, hf5⟩
  have hfall : Fr ([p, wh, mm] ++ rv.ownBlock.toList) w w5 := ((hf2'.of0).trans' hf4).trans' hf5
  have hL5 := hfall.own hL hln
  have hR5 : w5.ownsRow 0 3 1 (.slice A2 s.row.length c2) s.row.length (ints s.row) := by
    refine hf5.own ((Fr.set p 2 _).own hown2 (fun g hg hx => ?_)) (fun g hg hx => ?_)
    · have h1 := hnew2 g hg; simp at hx h1; have := h.lt p hp; omega
    · have h1 := hnew2 g hg; have h2 := h.lt g (hsub g hx); simp at h1; omega
  have hF5 : Fr F w w5 := hfall.mono (fun x hx _ => hsub x hx)
  have hwo5 : ∀ x ∈ ms, WordsAt w5 (F ++ s.ext) x.2 x.1 := fun x hx => (hwo x hx).fr hF5 (fun y hy _ => List.mem_append_left _ hy)
  have HF := Lib.hid (And.intro hms (And.intro hL5 (And.intro hwo5 (And.intro hl' (And.intro hR5 (And.intro hnew2 (And.intro hF5 (And.intro hP5 (And.intro hsub hln)))))))))
  clear hB hW hRow hL hms hwo hl' hr' hown2 hnew2 hB2 hmap hsub hln hP4 hf4 hrd4 hP5 hf5 hfall hL5 hR5 hF5 hwo5
  go_wp2
  go_ret2
  obtain ⟨hms, hL5, hwo5, hl', hR5, hnew2, hF5, hP5, hsub, hln⟩ := HF.out
  exact ⟨_, _, ms, rfl, hms, hL5, hwo5, hl', hR5, fun g hg => by have := hnew2 g hg; simpa using this, hF5, _, hP5, hsub, hln⟩
end Go.Proofs.Ytfadadgkgbaohaa
