/-
  The contract of (*Port).Put.
-/
import Derived.Test.YtfadadgkgbaohaaAway
import Derived.Test.YtfadadgkgbaohaaL3
import Derived.Deep.RegionLaw
import Derived.BigQuiet
import Derived.Deep.QuietTactic
set_option linter.unusedSimpArgs false
set_option linter.unusedVariables false
namespace Go.Proofs.Ytfadadgkgbaohaa
open Go.RowKit
attribute [local go_sem] max_ints min_ints

/-- The port at p is s' now; only what was in F, and what is new, has turned. -/
def Turned (w w' : World) (p : Nat) (s' : PS) (F : List Nat) : Prop :=
  ∃ F', PortAt w' p s' F' ∧ Fr F w w' ∧ (∀ x ∈ F, x ∈ F') ∧ (∀ x ∈ F', x ∈ F ∨ w.heap.size ≤ x)

theorem Turned.same {w w' : World} {p : Nat} {s : PS} {F : List Nat} (h : PortAt w' p s F) (hf : Fr F w w') : Turned w w' p s F := ⟨F, h, hf, fun _ h => h, fun _ h => .inl h⟩

theorem nil_of_len0 {s : PS} (h : s.row = []) : s.row.length = 0 := by simp [h]

theorem own_int_head {w : World} {v : Value} {r0 : Int} {rest : List Int} (h : w.ownsRow 0 3 1 v (r0 :: rest).length (ints (r0 :: rest))) :
    ∃ g c, v = .slice (some ⟨g, 0, none⟩) (rest.length + 1) c ∧ w.cell? ⟨g, 0, none⟩ = some (.int .i64 r0) := by
  rcases h.2 with ⟨_, h0⟩ | ⟨g, c, cur, rfl, _, hg, _⟩
  · simp at h0
  · have := h.cells (g := g) rfl 0 (.int .i64 r0) rfl
    rw [add_zero_] at this
    exact ⟨g, c, rfl, this⟩
theorem own_nil_len {w : World} {e : TypeId} {k : Nat} {v : Value} {xs : List Value} (h : w.ownsRow 0 e k v 0 xs) : ∃ A c, v = .slice A 0 c := by
  obtain ⟨A, c, rfl, _⟩ := own_form h
  exact ⟨A, c, rfl⟩

set_option maxHeartbeats 1000000 in
set_option maxRecDepth 100000 in
theorem put_wakes (p : Nat) (s : PS) (F : List Nat) (m : Msg) (wv : Value) (r0 : Int) (rest : List Int) (w : World) (h : PortAt w p s F) (hrow : s.row = r0 :: rest) (hlen : rest.length ≤ 1048576) :
    Calls Try.prog 10 #[.pointer (some ⟨p, 0, none⟩), m.val wv] w fun e w' => e = .returned (.tuple #[.int .i64 r0, .bool true, .int .i64 0]) ∧ PortAt w' p (s.lose r0) F ∧ Fr F w w' := by
  obtain ⟨w1, hw1⟩ : ∃ x, w.alloc (.cells #[wv, .int .i64 m.lane, .int .i64 m.stamp, .int .i64 m.late, .int .i64 m.seq] 29) = x := ⟨_, rfl⟩
  have hF1 : Fr [] w w1 := by rw [← hw1]; exact (Fr.refl _ _).alloc _
  have hP1 := h.fr0 hF1
  obtain ⟨wh, mm, lv, rv, ms, hB, hW, hRow, hL, hms, hwo, hp, hwh, hm, hl', hr'⟩ := hP1.ex
  rw [hrow] at hRow
  obtain ⟨b0, b1, b2, b3⟩ := hB.four
  obtain ⟨g, c, rfl, c0⟩ := own_int_head hRow
  have hgt : (0 : Int) < (rest.length : Int) + 1 := by omega
  have haw := away_any p s F (some ⟨w1.heap.size, 0, none⟩) 1 1 [r0] (w1.alloc (.cells #[.int .i64 r0] 3)) (hP1.fr0 ((Fr.refl _ _).alloc _)) (by
    refine ⟨_, 1, rfl, by simp [ints], Nat.le_refl _, by simp [maxLen], (fun e => nomatch e), fun _ => ⟨_, rfl, fun hx => ?_, fun j u hu => ?_⟩⟩
    · have := hP1.lt _ hx; simp at this
    · rw [add_head, (Blk.new w1 _ _).cell]; simpa [ints] using hu)
  clear hrow hB hW hRow hL hwo hl' hr' hms
  unfold Msg.val
  go_enter Try.func10, Try.ntmps10
  go_wp2_with (go_at_call 31; refine haw.mono ?_; rintro e w2 ⟨rfl, hP2, hf2⟩)
  refine bodyPost_ret (results_tmp3 rfl _ _ _) rfl ?_
  exact ⟨rfl, hP2, (hF1.of0.alloc _).trans' hf2⟩

theorem own_ints_nil {w : World} {v : Value} {zs : List Int} (h : w.ownsRow 0 3 1 v zs.length (ints zs)) (hz : zs = []) : ∃ A c, v = .slice A 0 c := by
  subst hz
  obtain ⟨A, c, rfl, _⟩ := own_form h
  exact ⟨A, c, rfl⟩

set_option maxHeartbeats 1000000 in
set_option maxRecDepth 100000 in
theorem put_full (p : Nat) (s : PS) (F : List Nat) (m : Msg) (wv : Value) (w : World) (h : PortAt w p s F) (hrow : s.row = []) (hfull : (s.msgs.length : Int) = s.hold) :
    Calls Try.prog 10 #[.pointer (some ⟨p, 0, none⟩), m.val wv] w fun e w' => e = .returned (.tuple #[.int .i64 0, .bool false, .int .i64 10]) ∧ Fr [] w w' := by
  obtain ⟨w1, hw1⟩ : ∃ x, w.alloc (.cells #[wv, .int .i64 m.lane, .int .i64 m.stamp, .int .i64 m.late, .int .i64 m.seq] 29) = x := ⟨_, rfl⟩
  have hF1 : Fr [] w w1 := by rw [← hw1]; exact (Fr.refl _ _).alloc _
  have hP1 := h.fr0 hF1
  obtain ⟨wh, mm, lv, rv, ms, hB, hW, hRow, hL, hms, hwo, hp, hwh, hm, hl', hr'⟩ := hP1.ex
  obtain ⟨b0, b1, b2, b3⟩ := hB.four
  obtain ⟨A, c, rfl⟩ := own_ints_nil hRow hrow
  obtain ⟨A2, c2, rfl, _⟩ := own_form hL
  have hb : ((s.msgs.length : Int) == s.hold) = true := by simpa using hfull
  generalize s.hold = hold at *
  generalize s.msgs.length = n at *
  clear hrow hB hW hRow hL hwo hl' hr' hms hP1 h hfull
  unfold Msg.val
  go_enter Try.func10, Try.ntmps10
  go_wp2
  go_quiet (fail)
  go_wp2
  go_ret3
  exact ⟨rfl, hF1.drewN _⟩

/-- A message more, seen from outside. -/
theorem push_step {p : Nat} {s : PS} {F : List Nat} {w1 w3 : World} {wh m' : Nat} {lv rv v4 : Value} {ms : List (Msg × Value)} {m : Msg} {wv : Value}
    (hlt : ∀ x ∈ F, x < w1.heap.size) (helt : ∀ x ∈ s.ext, x < w1.heap.size) (hroom : (s.msgs.length : Int) ≤ s.hold ∧ s.hold ≤ 8) (hroom' : (s.msgs.length : Int) < s.hold)
    (hB : Blk w1 p 70 #[.pointer (some ⟨wh, 0, none⟩), .int .i64 s.hold, lv, rv]) (hW : WheelAt w1 wh m' s.set s.ws) (hRow : w1.ownsRow 0 3 1 rv s.row.length (ints s.row)) (hL : w1.ownsRow 0 29 5 lv s.msgs.length (mrow ms))
    (hms : ms.map (·.1) = s.msgs) (hwo : ∀ x ∈ ms, WordsAt w1 (F ++ s.ext) x.2 x.1) (hp : p ∈ F) (hwh : wh ∈ F) (hm : m' ∈ F) (hl : ∀ g, lv.ownBlock = some g → g ∈ F) (hr : ∀ g, rv.ownBlock = some g → g ∈ F)
    (hf : Fr lv.ownBlock.toList w1 w3) (hown : w3.ownsRow 0 29 5 v4 (s.msgs.length + 1) (mrow ms ++ m.cells wv)) (hat : v4.ownBlock = lv.ownBlock ∨ ∃ g, v4.ownBlock = some g ∧ w1.heap.size ≤ g)
    (hwv : WordsAt w3 ((v4.ownBlock.toList ++ F) ++ s.ext) wv m) : Turned w1 (w3.setCell ⟨p, 2, none⟩ v4) p { s with msgs := s.msgs ++ [m] } F := by
  have hnl : ∀ {g : Nat} {t : TypeId} {cs : Array Value}, Blk w1 g t cs → t ≠ 29 → g ∉ lv.ownBlock.toList := fun hg ht hx => by
    simp at hx
    exact own_blk_ne hL hg (fun e => ht e.symm) hx
  obtain ⟨ck, hmap, hok⟩ := hW.map
  have hml : m' ∉ lv.ownBlock.toList := fun hx => by
    simp at hx
    obtain ⟨c, h1⟩ := own_blk hL hx
    exact h1.ne_map hmap rfl
  have hlF : ∀ x ∈ lv.ownBlock.toList, x ∈ F := fun x hx => by simp at hx; exact hl x hx
  have hB3 := hB.fr hf (hnl hB (by decide))
  have hW3 := hW.fr hf (hnl hW.blk (by decide)) hml
  obtain ⟨ck3, hmap3, _⟩ := hW3.map
  have hR3 := hf.own hRow (fun g hg hx => by obtain ⟨c, h1⟩ := own_blk hRow hg; exact hnl h1 (by decide) hx)
  have hF13 : Fr F w1 (w3.setCell ⟨p, 2, none⟩ v4) := (hf.mono (fun x hx _ => hlF x hx)).setCell (.inl hp) _
  have hsz := hF13.size
  have hsame : ∀ {g : Nat} {t : TypeId} {cs : Array Value}, Blk w3 g t cs → t ≠ 70 → g ∉ [p] := fun hg ht hx => by
    simp at hx; subst hx; exact hg.ne_ hB3 ht rfl
  refine ⟨v4.ownBlock.toList ++ F, ⟨⟨wh, m', v4, rv, ms ++ [(m, wv)], hB3.set_ 2 v4, ?_, ?_, ?_, by simp [hms], ?_, List.mem_append_right _ hp, List.mem_append_right _ hwh, List.mem_append_right _ hm, fun g hg => List.mem_append_left _ (by simp [hg]), fun g hg => List.mem_append_right _ (hr g hg)⟩, ?_, ?_, fun x hx => Nat.lt_of_lt_of_le (helt x hx) hsz⟩, hF13, fun x hx => List.mem_append_right _ hx, ?_⟩
  · exact hW3.fr (Fr.set p 2 v4) (hsame hW3.blk (by decide)) (by simp; exact fun e => hB3.ne_map hmap3 e.symm)
  · exact (Fr.set p 2 v4).own hR3 (fun g hg hx => by obtain ⟨c, h1⟩ := own_blk hR3 hg; exact hsame h1 (by decide) hx)
  · rw [mrow_append]
    simp only [List.length_append, List.length_singleton]
    exact (Fr.set p 2 v4).own (by simpa [mrow] using hown) (fun g hg hx => by obtain ⟨c, h1⟩ := own_blk hown hg; exact hsame h1 (by decide) hx)
  · intro x hx
    have key : ∀ (wv : Value) (m : Msg), WordsAt w3 ((v4.ownBlock.toList ++ F) ++ s.ext) wv m → WordsAt (w3.setCell ⟨p, 2, none⟩ v4) ((v4.ownBlock.toList ++ F) ++ s.ext) wv m := fun wv m h => h.fr (Fr.set p 2 v4) (fun y hy _ => by simp at hy; subst hy; exact List.mem_append_left _ (List.mem_append_right _ hp))
    rcases List.mem_append.1 hx with hx | hx
    · refine key _ _ ?_
      have h1 : WordsAt w1 ((v4.ownBlock.toList ++ F) ++ s.ext) x.2 x.1 := (hwo x hx).mono (fun y hy hlt => by
        rw [List.append_assoc] at hy
        rcases List.mem_append.1 hy with hy | hy
        · refine List.mem_append_left _ ?_
          rcases hat with e | ⟨g, e, hg⟩
          · rw [e] at hy; exact hlF y hy
          · rw [e] at hy; simp at hy; omega
        · exact hy)
      exact h1.fr hf (fun y hy _ => List.mem_append_left _ (List.mem_append_right _ (hlF y hy)))
    · simp at hx; subst hx; exact key _ _ hwv
  · intro x hx
    rcases List.mem_append.1 hx with hx | hx
    · simp at hx
      obtain ⟨c, h1⟩ := own_blk hown hx
      simpa using h1.lt
    · exact Nat.lt_of_lt_of_le (hlt x hx) hsz
  · simp only [List.length_append, List.length_singleton]; omega
  · intro x hx
    rcases List.mem_append.1 hx with hx | hx
    · rcases hat with e | ⟨g, e, hg⟩
      · rw [e] at hx; exact .inl (hlF x hx)
      · rw [e] at hx; simp at hx; exact .inr (by omega)
    · exact .inl hx

set_option maxHeartbeats 1000000 in
set_option maxRecDepth 100000 in
theorem put_holds (p : Nat) (s : PS) (F : List Nat) (m : Msg) (wv : Value) (w : World) (h : PortAt w p s F) (hrow : s.row = []) (hroom : (s.msgs.length : Int) < s.hold) (hwv : WordsAt w [] wv m) :
    Calls Try.prog 10 #[.pointer (some ⟨p, 0, none⟩), m.val wv] w fun e w' => e = .returned (.tuple #[.int .i64 0, .bool false, .int .i64 0]) ∧ Turned w w' p { s with msgs := s.msgs ++ [m] } F := by
  obtain ⟨w1, hw1⟩ : ∃ x, w.alloc (.cells #[wv, .int .i64 m.lane, .int .i64 m.stamp, .int .i64 m.late, .int .i64 m.seq] 29) = x := ⟨_, rfl⟩
  have hF1 : Fr [] w w1 := by rw [← hw1]; exact (Fr.refl _ _).alloc _
  have hBox : Blk w1 w.heap.size 29 #[wv, .int .i64 m.lane, .int .i64 m.stamp, .int .i64 m.late, .int .i64 m.seq] := by rw [← hw1]; exact Blk.new _ _ _
  have hP1 := h.fr0 hF1
  have hwv1 := hwv.fr0 hF1
  have hHR := h.room
  obtain ⟨wh, mm, lv, rv, ms, hB, hW, hRow, hL, hms, hwo, hp, hwh, hm, hl', hr'⟩ := hP1.ex
  obtain ⟨b0, b1, b2, b3⟩ := hB.four
  obtain ⟨x0, x1, x2, x3, x4⟩ := hBox.five
  obtain ⟨A, c, rfl⟩ := own_ints_nil hRow hrow
  have hRow' := hRow
  obtain ⟨A2, c2, rfl, _⟩ := own_form hL
  have hb : ((s.msgs.length : Int) == s.hold) = false := by simp; omega
  have bf := hB.froz 2
  have HL := Lib.hid hL
  have hn8 : s.msgs.length ≤ 8 := by omega
  have hroomW := Lib.hid hroom
  clear hroom hHR
  have HB := Lib.hid hB
  have HWV := Lib.hid hwv1
  have hpl : ∀ g, (Value.slice A2 s.msgs.length c2).ownBlock = some g → g ≠ p := fun g hg e => by subst e; exact own_blk_ne hL hB (by decide) hg
  have HPL := Lib.hid hpl
  generalize hhold : s.hold = hold at *
  generalize hn : s.msgs.length = n at *
  have HH := Lib.hid hhold
  have HN := Lib.hid hn
  clear hhold hn hpl hB hL hwv1
  have HROW := Lib.hid hRow
  have HW := Lib.hid hW
  have HWO := Lib.hid hwo
  have HMS := Lib.hid hms
  have HLF := Lib.hid hl'
  have HRF := Lib.hid hr'
  have HP1 := Lib.hid hP1
  have HW1 := Lib.hid hw1
  clear hRow hRow' hrow hW hwo hms hl' hr' hP1
  unfold Msg.val
  go_enter Try.func10, Try.ntmps10
  go_wp2
  go_quiet (fail)
  go_wp2_with fail
  have l2 : ∀ W, Fr (Value.slice A2 n c2).ownBlock.toList w1 W → W.cell? ⟨p, 2, none⟩ = some (.slice A2 n c2) := fun W hW => hW.cell b2 (fun hx => by simp at hx; exact HPL.out p hx rfl)
  have hxn : w.heap.size ∉ (Value.slice A2 n c2).ownBlock.toList := fun hx => by
    simp at hx
    have h1 := h.lt _ (HLF.out _ hx)
    omega
  have l3 : ∀ W, Fr (Value.slice A2 n c2).ownBlock.toList w1 W → W.cell? ⟨w.heap.size, 0, none⟩ = some wv := fun W hW => hW.cell x0 hxn
  have l4 : ∀ W, Fr (Value.slice A2 n c2).ownBlock.toList w1 W → W.cell? ⟨w.heap.size, 1, none⟩ = some (.int .i64 m.lane) := fun W hW => hW.cell x1 hxn
  have l5 : ∀ W, Fr (Value.slice A2 n c2).ownBlock.toList w1 W → W.cell? ⟨w.heap.size, 2, none⟩ = some (.int .i64 m.stamp) := fun W hW => hW.cell x2 hxn
  have l6 : ∀ W, Fr (Value.slice A2 n c2).ownBlock.toList w1 W → W.cell? ⟨w.heap.size, 3, none⟩ = some (.int .i64 m.late) := fun W hW => hW.cell x3 hxn
  have l7 : ∀ W, Fr (Value.slice A2 n c2).ownBlock.toList w1 W → W.cell? ⟨w.heap.size, 4, none⟩ = some (.int .i64 m.seq) := fun W hW => hW.cell x4 hxn
  refine wp_mix 6 3 (fun W => Fr (Value.slice A2 n c2).ownBlock.toList w1 W) (by kernel_rfl) (by kernel_rfl) (fun _ _ _ _ _ h => h) (((Fr.refl _ w1).drewN _).drew) ?_
  simp only [List.take_succ_cons, List.take_zero, List.drop_succ_cons, List.drop_zero]
  iterate 6
    refine wpReads_take (v := ?_) (by rfl) ?_ ?_
    rotate_left
    · intro W hW
      go_simp
      try with_reducible rfl
    simp only [Act.put, List.setIfInBounds_toArray, List.set_cons_zero, List.set_cons_succ]
  refine wpReads_nil ?_
  clear l2 l3 l4 l5 l6 l7
  -- the call
  refine wpChain_step (fun K hK => ?_)
  go_simp
  refine (lane_clone_any [] m wv _ (HWV.out.fr0 ((Fr.refl [] w1).drewN _))).mono ?_
  rintro e w2 ⟨wv2, rfl, hwn, hf2, h1c⟩
  have hf12 : Fr [] w1 w2 := ((Fr.refl [] w1).drewN _).trans0 hf2
  have hwv2 := hwn (F ++ s.ext) (fun x hx => by rcases List.mem_append.1 hx with h | h; exact HP1.out.lt x h; exact HP1.out.elt x h)
  have HB2 := HB.out.fr hf12 (by simp)
  have HL2 := Lib.hid (hf12.own HL.out (by simp))
  have HWV2 := Lib.hid hwv2
  refine hK _ _ hf12.of0 ?_
  clear hK K hwv2 hwn
  try simp only [Msg.val, Act.put, List.setIfInBounds_toArray, List.set_cons_zero, List.set_cons_succ]
  -- the literal
  refine wpChain_step (fun K hK => ?_)
  go_simp
  refine hK _ _ (hf12.of0.alloc _) ?_
  clear hK K
  try simp only [Act.put, List.setIfInBounds_toArray, List.set_cons_zero, List.set_cons_succ]
  -- append
  refine wpChain_step (fun K hK => ?_)
  refine step_app _ rfl msg_elem _ _ rfl (.slice A2 n c2) n (mrow ms) (by rfl) (((Fr.refl [] w2).alloc _).own HL2.out (by simp)) [] (.slice (some ⟨w2.heap.size, 0, none⟩) 1 1) 1 (m.cells wv2) (by rfl) (rd_built w2 m wv2) (mcells_one _ h1c) (by omega) (by simp only [maxLen]; omega) ?_
  intro v3 w3 hown hfa hat
  have HB3 := (HB2.alloc (.cells #[wv2, .int .i64 m.lane, .int .i64 m.stamp, .int .i64 m.late, .int .i64 m.seq] 29)).fr hfa (fun hx => by simp at hx; exact HPL.out p hx rfl)
  have HO3 := Lib.hid hown
  obtain ⟨A4, c4, rfl, _⟩ := own_form hown
  obtain ⟨q0, q1, q2, q3⟩ := HB3.four
  have qf := HB3.froz 2
  have hf13 : Fr (Value.slice A2 n c2).ownBlock.toList w1 w3 := (hf12.of0.alloc _).trans' hfa
  refine hK _ _ hf13 ?_
  clear hK K hown
  try simp only [Act.put, List.setIfInBounds_toArray, List.set_cons_zero, List.set_cons_succ]
  refine wpChain_zero ?_
  go_wp2
  go_ret3
  refine ⟨rfl, ?_⟩
  have hms' := HMS.out
  have hHH := HH.out
  have hNN := HN.out
  subst hHH
  subst hNN
  have hwF : WordsAt w3 (((Value.slice A4 (s.msgs.length + 1) c4).ownBlock.toList ++ F) ++ s.ext) wv2 m := by
    have h1 : WordsAt w2 (((Value.slice A4 (s.msgs.length + 1) c4).ownBlock.toList ++ F) ++ s.ext) wv2 m := HWV2.out.mono (fun x hx hlt => by
      rw [List.append_assoc] at hx
      rcases List.mem_append.1 hx with hx | hx
      · refine List.mem_append_left _ ?_
        rcases hat with e | e
        · rw [e] at hx; simp at hx; exact HLF.out x hx
        · rw [e] at hx; simp at hx; omega
      · exact hx)
    refine h1.fr ((Fr.refl [] w2).alloc (.cells #[wv2, .int .i64 m.lane, .int .i64 m.stamp, .int .i64 m.late, .int .i64 m.seq] 29) |>.of0 |>.trans' hfa) (fun x hx hlt => List.mem_append_left _ (List.mem_append_right _ (by simp at hx; exact HLF.out x hx)))
  have hat' : (Value.slice A4 (s.msgs.length + 1) c4).ownBlock = (Value.slice A2 s.msgs.length c2).ownBlock ∨ ∃ g, (Value.slice A4 (s.msgs.length + 1) c4).ownBlock = some g ∧ w1.heap.size ≤ g := by
    rcases hat with e | e
    · exact .inl e
    · refine .inr ⟨_, e, ?_⟩
      have := hf12.size
      simp
      omega
  have hst := push_step (m := m) (wv := wv2) HP1.out.lt HP1.out.elt HP1.out.room hroomW.out HB.out HW.out HROW.out HL.out hms' HWO.out hp hwh hm HLF.out HRF.out hf13 (by simpa using HO3.out) hat' hwF
  obtain ⟨F', h1, h2, h3, h4⟩ := hst
  exact ⟨F', h1, hF1.of0.trans' h2, h3, fun x hx => (h4 x hx).imp id (fun h => Nat.le_trans hF1.size h)⟩
end Go.Proofs.Ytfadadgkgbaohaa
