/-
  The contract of (*Port).Ask.
-/
import Derived.Test.YtfadadgkgbaohaaPut
set_option linter.unusedSimpArgs false
set_option linter.unusedVariables false
namespace Go.Proofs.Ytfadadgkgbaohaa
open Go.RowKit
attribute [local go_sem] max_ints min_ints

def zmsg : Msg := ⟨[], 0, 0, 0, 0⟩
theorem zmsg_words (w : World) (M : List Nat) : WordsAt w M (.slice none 0 0) zmsg := ⟨Rd.nil _ _ _, by simp [zmsg]⟩

/-- A message and a return code are handed back. -/
def Handed (w' : World) (M : List Nat) (m : Msg) (code : Int) (e : Ending) : Prop := ∃ wv, e = .returned (.tuple #[m.val wv, .int .i64 code]) ∧ WordsAt w' M wv m

theorem handed_zero (w' : World) (M : List Nat) (code : Int) : Handed w' M zmsg code (.returned (.tuple #[.agg #[.slice none 0 0, .int .i64 0, .int .i64 0, .int .i64 0, .int .i64 0], .int .i64 code])) := ⟨_, rfl, zmsg_words _ _⟩

set_option maxHeartbeats 1000000 in
set_option maxRecDepth 100000 in
theorem ask_waits (p : Nat) (s : PS) (F : List Nat) (x until_ now : Int) (w : World) (h : PortAt w p s F) (hx : s.row.contains x = true) :
    Calls Try.prog 12 #[.pointer (some ⟨p, 0, none⟩), .int .i64 x, .int .i64 until_, .int .i64 now] w fun e w' => Handed w' (F ++ s.ext) zmsg 1 e ∧ Fr [] w w' := by
  obtain ⟨w1, hw1⟩ : ∃ x, w.alloc (.cells #[.slice none 0 0, .int .i64 0, .int .i64 0, .int .i64 0, .int .i64 0] 29) = x := ⟨_, rfl⟩
  have hF1 : Fr [] w w1 := by rw [← hw1]; exact (Fr.refl _ _).alloc _
  have hBox : Blk w1 w.heap.size 29 #[.slice none 0 0, .int .i64 0, .int .i64 0, .int .i64 0, .int .i64 0] := by rw [← hw1]; exact Blk.new _ _ _
  have hwt := port_Waits_any p s F x w1 (h.fr0 hF1)
  rw [hx] at hwt
  obtain ⟨x0, x1, x2, x3, x4⟩ := hBox.five
  have xf := hBox.froz
  clear hx h hBox
  have key : ∀ W, Fr [w.heap.size] w1 W → Handed W (F ++ s.ext) zmsg 1 (.returned (.tuple #[.agg #[.slice none 0 0, .int .i64 0, .int .i64 0, .int .i64 0, .int .i64 0], .int .i64 1])) ∧ Fr [] w W := fun W hW => ⟨handed_zero _ _ _, hF1.trans hW (by simp)⟩
  go_enter Try.func12, Try.ntmps12
  go_wp2_with (go_at_call 28; refine hwt.mono ?_; rintro e w' ⟨rfl, rfl⟩)
  refine bodyPost_ret (v := .tuple #[.agg #[.slice none 0 0, .int .i64 0, .int .i64 0, .int .i64 0, .int .i64 0], .int .i64 1]) ?h1 rfl ?h2
  case h2 =>
    refine key _ ?_
    iterate 5 refine Fr.setCell ?_ (by simp) _
    exact Fr.refl _ _
  case h1 => simp [results, Try.results12, go_sem, *]

set_option maxHeartbeats 1000000 in
set_option maxRecDepth 100000 in
theorem ask_late (p : Nat) (s : PS) (F : List Nat) (x until_ now : Int) (w : World) (h : PortAt w p s F) (hx : s.row.contains x = false) (hm0 : s.msgs = []) (hlate : cut until_ ≤ cut now) :
    Calls Try.prog 12 #[.pointer (some ⟨p, 0, none⟩), .int .i64 x, .int .i64 until_, .int .i64 now] w fun e w' => Handed w' (F ++ s.ext) zmsg 2 e ∧ Fr [] w w' := by
  obtain ⟨w1, hw1⟩ : ∃ x, w.alloc (.cells #[.slice none 0 0, .int .i64 0, .int .i64 0, .int .i64 0, .int .i64 0] 29) = x := ⟨_, rfl⟩
  have hF1 : Fr [] w w1 := by rw [← hw1]; exact (Fr.refl _ _).alloc _
  have hBox : Blk w1 w.heap.size 29 #[.slice none 0 0, .int .i64 0, .int .i64 0, .int .i64 0, .int .i64 0] := by rw [← hw1]; exact Blk.new _ _ _
  have hP1 := h.fr0 hF1
  have hwt := port_Waits_any p s F x w1 hP1
  rw [hx] at hwt
  have hlt := late_any now until_ w1
  rw [decide_eq_true hlate] at hlt
  obtain ⟨x0, x1, x2, x3, x4⟩ := hBox.five
  have xf := hBox.froz
  obtain ⟨wh, mm, lv, rv, ms, hB, hW, hRow, hL, hms, hwo, hp, hwh, hm, hl', hr'⟩ := hP1.ex
  obtain ⟨b0, b1, b2, b3⟩ := hB.four
  have hlen0 : s.msgs.length = 0 := by rw [hm0]; rfl
  rw [hlen0] at hL
  obtain ⟨A, c, rfl⟩ := own_nil_len hL
  clear hx h hBox hB hW hRow hL hms hwo hl' hr' hP1 hlate hlen0 hm0
  have key : ∀ W, Fr [w.heap.size] w1 W → Handed W (F ++ s.ext) zmsg 2 (.returned (.tuple #[.agg #[.slice none 0 0, .int .i64 0, .int .i64 0, .int .i64 0, .int .i64 0], .int .i64 2])) ∧ Fr [] w W := fun W hW => ⟨handed_zero _ _ _, hF1.trans hW (by simp)⟩
  go_enter Try.func12, Try.ntmps12
  go_wp2_with (first | (go_at_call 28; refine hwt.mono ?_; rintro e w' ⟨rfl, rfl⟩) | (go_at_call 34; refine hlt.mono ?_; rintro e w' ⟨rfl, rfl⟩))
  refine bodyPost_ret (v := .tuple #[.agg #[.slice none 0 0, .int .i64 0, .int .i64 0, .int .i64 0, .int .i64 0], .int .i64 2]) ?h1 rfl ?h2
  case h2 =>
    refine key _ ?_
    iterate 5 refine Fr.setCell ?_ (by simp) _
    exact Fr.refl _ _
  case h1 => simp [results, Try.results12, go_sem, *]

/-- The first message is gone, seen from outside. -/
theorem pop_step {p : Nat} {s : PS} {F : List Nat} {w W : World} {wh m' : Nat} {lv rv v4 : Value} {ms : List (Msg × Value)} {m : Msg} {wv : Value} {rest : List Msg}
    (hlt : ∀ x ∈ F, x < w.heap.size) (helt : ∀ x ∈ s.ext, x < w.heap.size) (hroom : (s.msgs.length : Int) ≤ s.hold ∧ s.hold ≤ 8)
    (hB : Blk w p 70 #[.pointer (some ⟨wh, 0, none⟩), .int .i64 s.hold, lv, rv]) (hW : WheelAt w wh m' s.set s.ws) (hRow : w.ownsRow 0 3 1 rv s.row.length (ints s.row)) (hL : w.ownsRow 0 29 5 lv s.msgs.length (mrow ((m, wv) :: ms)))
    (hms : ms.map (·.1) = rest) (hmr : s.msgs = m :: rest) (hwo : ∀ x ∈ ms, WordsAt w (F ++ s.ext) x.2 x.1) (hwv : WordsAt w (F ++ s.ext) wv m) (hp : p ∈ F) (hwh : wh ∈ F) (hm : m' ∈ F) (hl : ∀ g, lv.ownBlock = some g → g ∈ F) (hr : ∀ g, rv.ownBlock = some g → g ∈ F)
    (hf : Fr (p :: lv.ownBlock.toList) w W) (hBW : Blk W p 70 #[.pointer (some ⟨wh, 0, none⟩), .int .i64 s.hold, v4, rv]) (hown : W.ownsRow 0 29 5 v4 rest.length (mrow ms)) (hat : v4.ownBlock = lv.ownBlock) :
    PortAt W p { s with msgs := rest } F ∧ Fr F w W ∧ WordsAt W (F ++ s.ext) wv m := by
  have hnl : ∀ {g : Nat} {t : TypeId} {cs : Array Value}, Blk w g t cs → t ≠ 29 → t ≠ 70 → g ∉ p :: lv.ownBlock.toList := fun hg ht ht2 hx => by
    rcases List.mem_cons.1 hx with hx | hx
    · subst hx; exact hg.ne_ hB ht2 rfl
    · simp at hx
      exact own_blk_ne hL hg (fun e => ht e.symm) hx
  obtain ⟨ck, hmap, hok⟩ := hW.map
  have hml : m' ∉ p :: lv.ownBlock.toList := fun hx => by
    rcases List.mem_cons.1 hx with hx | hx
    · subst hx; exact hB.ne_map hmap rfl
    · simp at hx
      obtain ⟨c, h1⟩ := own_blk hL hx
      exact h1.ne_map hmap rfl
  have hF : Fr F w W := hf.mono (fun x hx _ => by
    rcases List.mem_cons.1 hx with hx | hx
    · subst hx; exact hp
    · simp at hx; exact hl x hx)
  have hwf : ∀ (wv : Value) (m : Msg), WordsAt w (F ++ s.ext) wv m → WordsAt W (F ++ s.ext) wv m := fun wv m h => h.fr hF (fun y hy _ => List.mem_append_left _ hy)
  refine ⟨⟨⟨wh, m', v4, rv, ms, hBW, hW.fr hf (hnl hW.blk (by decide) (by decide)) hml, ?_, hown, hms, fun x hx => hwf _ _ (hwo x hx), hp, hwh, hm, by rw [hat]; exact hl, hr⟩, ?_, ?_, fun x hx => Nat.lt_of_lt_of_le (helt x hx) hF.size⟩, hF, hwf _ _ hwv⟩
  · exact hf.own hRow (fun g hg hx => by obtain ⟨c, h1⟩ := own_blk hRow hg; exact hnl h1 (by decide) (by decide) hx)
  · exact fun x hx => Nat.lt_of_lt_of_le (hlt x hx) hF.size
  · rw [hmr] at hroom; simp only [List.length_cons] at hroom; refine ⟨?_, hroom.2⟩; simp only; omega

theorem own_msg_head {w : World} {v : Value} {m : Msg} {wv : Value} {ms : List (Msg × Value)} {n : Nat} (h : w.ownsRow 0 29 5 v (n + 1) (mrow ((m, wv) :: ms))) :
    ∃ g c, v = .slice (some ⟨g, 0, none⟩) (n + 1) c ∧ w.cell? ⟨g, 0, none⟩ = some wv ∧ w.cell? ⟨g, 1, none⟩ = some (.int .i64 m.lane) ∧ w.cell? ⟨g, 2, none⟩ = some (.int .i64 m.stamp) ∧ w.cell? ⟨g, 3, none⟩ = some (.int .i64 m.late) ∧ w.cell? ⟨g, 4, none⟩ = some (.int .i64 m.seq) := by
  rcases h.2 with ⟨_, h0⟩ | ⟨g, c, cur, rfl, _, hg, _⟩
  · simp at h0
  · have f := h.cells (g := g) rfl
    simp only [add_head] at f
    exact ⟨g, c, rfl, f 0 _ rfl, f 1 _ rfl, f 2 _ rfl, f 3 _ rfl, f 4 _ rfl⟩

set_option maxHeartbeats 1000000 in
set_option maxRecDepth 100000 in
theorem ask_takes (p : Nat) (s : PS) (F : List Nat) (x until_ now : Int) (m : Msg) (rest : List Msg) (w : World) (h : PortAt w p s F) (hx : s.row.contains x = false) (hmr : s.msgs = m :: rest) :
    Calls Try.prog 12 #[.pointer (some ⟨p, 0, none⟩), .int .i64 x, .int .i64 until_, .int .i64 now] w fun e w' => Handed w' (F ++ s.ext) m 0 e ∧ PortAt w' p { s with msgs := rest } F ∧ Fr F w w' := by
  obtain ⟨w1, hw1⟩ : ∃ x, w.alloc (.cells #[.slice none 0 0, .int .i64 0, .int .i64 0, .int .i64 0, .int .i64 0] 29) = x := ⟨_, rfl⟩
  have hF1 : Fr [] w w1 := by rw [← hw1]; exact (Fr.refl _ _).alloc _
  have hBox : Blk w1 w.heap.size 29 #[.slice none 0 0, .int .i64 0, .int .i64 0, .int .i64 0, .int .i64 0] := by rw [← hw1]; exact Blk.new _ _ _
  have hz1 : w.heap.size < w1.heap.size := by rw [← hw1]; simp
  have hP1 := h.fr0 hF1
  have hwt := port_Waits_any p s F x w1 hP1
  rw [hx] at hwt
  obtain ⟨wh, mm, lv, rv, ms, hBw, hWw, hRoww, hLw, hms, hwo, hp, hwh, hm, hl', hr'⟩ := h.ex
  have hB := hBw.fr hF1 (by simp)
  have hL := hF1.own hLw (by simp)
  obtain ⟨b0, b1, b2, b3⟩ := hB.four
  rw [hmr] at hms hL
  cases ms with
  | nil => simp at hms
  | cons a ms =>
    obtain ⟨am, wv⟩ := a
    simp only [List.map_cons, List.cons.injEq] at hms
    obtain ⟨rfl, hms⟩ := hms
    have hlenc : (am :: rest).length = rest.length + 1 := rfl
    rw [hlenc] at hL
    obtain ⟨g, c, rfl, c0, c1, c2, c3, c4⟩ := own_msg_head hL
    have hgl : g < w1.heap.size := by obtain ⟨cur, hc⟩ := own_blk hL (g' := g) rfl; exact hc.lt
    have hpl := hB.lt
    obtain ⟨A9, c9, hwvs, _⟩ := (hwo _ (List.mem_cons_self)).1
    simp only at hwvs
    subst hwvs
    obtain ⟨w2, hw2⟩ : ∃ x, w1.alloc (.cells #[.slice A9 am.words.length c9, .int .i64 am.lane, .int .i64 am.stamp, .int .i64 am.late, .int .i64 am.seq] 29) = x := ⟨_, rfl⟩
    have hF2 : Fr [] w1 w2 := by rw [← hw2]; exact (Fr.refl _ _).alloc _
    have hBx2 : Blk w2 w1.heap.size 29 #[.slice A9 am.words.length c9, .int .i64 am.lane, .int .i64 am.stamp, .int .i64 am.late, .int .i64 am.seq] := by rw [← hw2]; exact Blk.new _ _ _
    have hB2 := hB.fr hF2 (by simp)
    obtain ⟨b20, b21, b22, b23⟩ := hB2.four
    have hL2 := hF2.own hL (by simp)
    have hallone : ∀ y ∈ (am, Value.slice A9 am.words.length c9) :: ms, y.2.oneCell' = true := fun y hy => (hwo y hy).one
    have hdel := delete_first g rest.length c _ w2 hL2 (mrow_one hallone)
    have hzz : 1 ≤ ((rest.length : Nat) : Int) + 1 := by omega
    have hzz' : (0 : Int) < ((rest.length : Nat) : Int) + 1 := by omega
    have hmax : c ≤ 9223372036854775807 := by obtain ⟨_, _, e, _, hm, _⟩ := own_form hL; injection e with _ _ e; subst e; simpa [maxLen] using hm
    have hlec : rest.length + 1 ≤ c := by obtain ⟨_, _, e, hm, _⟩ := own_form hL; injection e with _ _ e; subst e; exact hm
    have HX := Lib.hid (And.intro hBox (And.intro hBx2 (And.intro hB2 hL2)))
    have HY := Lib.hid (And.intro hBw (And.intro hWw (And.intro hRoww (And.intro hLw (And.intro hms (And.intro hwo (And.intro hl' hr')))))))
    have HR := Lib.hid hmr
    clear hx hBox hBx2 hB2 hL2 hB hBw hWw hRoww hLw hL hms hwo hl' hr' hP1 hallone hmr b0 b1 b3 b20 b21 b23
    go_enter Try.func12, Try.ntmps12
    go_wp2_with (go_at_call 28; refine hwt.mono ?_; rintro e w' ⟨rfl, rfl⟩)
    go_wp2_with fail
    refine hdel.mono ?_
    rintro e w3 ⟨rfl, hown3, hf3⟩
    obtain ⟨hBox, hBx2, hB2, hL2⟩ := HX.out
    have hgt : 70 ≠ 29 := by decide
    have hng : ∀ {q : Nat} {t : TypeId} {cs : Array Value}, Blk w2 q t cs → t ≠ 29 → q ∉ [g] := fun hq ht hx => by
      simp at hx; subst hx; exact own_blk_ne hL2 hq (fun e => ht e.symm) rfl
    have hB3 := hB2.fr hf3 (hng hB2 hgt)
    have hng1 : w.heap.size ∉ [g] := fun hx => by simp at hx; have := h.lt g (HY.out.2.2.2.2.2.2.1 g rfl); omega
    have hng2 : w1.heap.size ∉ [g] := fun hx => by simp at hx; omega
    have hBox3 := (hBox.fr hF2 (by simp)).fr hf3 hng1
    have hBx3 := hBx2.fr hf3 hng2
    obtain ⟨b30, b31, b32, b33⟩ := hB3.four
    have b3f := hB3.froz 2
    obtain ⟨y0, y1, y2, y3, y4⟩ := hBox3.five
    have yf := hBox3.froz
    obtain ⟨z0, z1, z2, z3, z4⟩ := hBx3.five
    have hpw : p < w.heap.size := h.lt p hp
    have hpw1 : p ≠ w1.heap.size := by omega
    have hpw0 : p ≠ w.heap.size := by omega
    have HZ := Lib.hid (And.intro hBox3 (And.intro hBx3 (And.intro hB3 hown3)))
    clear hBox hBx2 hB2 hL2 hB3 hBox3 hBx3 hown3 hng b22 b30 b31 b33
    go_wp2
    have key : ∀ W, Fr [w.heap.size] (w3.setCell ⟨p, 2, none⟩ (.slice (some ⟨g, 0, none⟩) rest.length c)) W →
        Handed W (F ++ s.ext) am 0 (.returned (.tuple #[.agg #[.slice A9 am.words.length c9, .int .i64 am.lane, .int .i64 am.stamp, .int .i64 am.late, .int .i64 am.seq], .int .i64 0])) ∧ PortAt W p { s with msgs := rest } F ∧ Fr F w W := by
      intro W hW
      obtain ⟨hBw, hWw, hRoww, hLw, hms, hwo, hl', hr'⟩ := HY.out
      obtain ⟨hBox3, hBx3, hB3, hown3⟩ := HZ.out
      have hfin : Fr [p, g] w W := by
        refine (((hF1.of0.trans0 hF2).trans hf3 (by simp +contextual)).setCell (p := ⟨p, 2, none⟩) (.inl (by simp)) _).trans hW (fun x hx hlt => ?_)
        simp at hx; omega
      have hBW : Blk W p 70 #[.pointer (some ⟨wh, 0, none⟩), .int .i64 s.hold, .slice (some ⟨g, 0, none⟩) rest.length c, rv] := (hB3.set_ 2 _).fr hW (by simp; exact hpw0)
      have hgp : p ≠ g := fun e => by subst e; exact own_blk_ne hown3 hB3 (by decide) rfl
      have hoW : W.ownsRow 0 29 5 (.slice (some ⟨g, 0, none⟩) rest.length c) rest.length (mrow ms) := hW.own ((Fr.set p 2 _).own (by simpa [mrow_cons, Msg.cells] using hown3) (fun q hq hx => by simp [Value.ownBlock] at hq; simp at hx; exact hgp (hx.symm.trans hq.symm))) (fun q hq hx => by simp [Value.ownBlock] at hq; simp at hx; exact hng1 (by simp [hq, ← hx]))
      have hst := pop_step h.lt h.elt h.room hBw hWw hRoww hLw hms HR.out (fun x hx => hwo x (List.mem_cons_of_mem _ hx)) (hwo _ (List.mem_cons_self)) hp hwh hm hl' hr' hfin hBW hoW rfl
      exact ⟨⟨_, rfl, hst.2.2⟩, hst.1, hst.2.1⟩
    have r0 := HZ.out
    clear HX HY HR
    refine bodyPost_ret (v := .tuple #[.agg #[.slice A9 am.words.length c9, .int .i64 am.lane, .int .i64 am.stamp, .int .i64 am.late, .int .i64 am.seq], .int .i64 0]) ?h1 rfl ?h2
    case h2 =>
      refine key _ ?_
      iterate 5 refine Fr.setCell ?_ (by simp) _
      exact Fr.refl _ _
    case h1 => simp [results, Try.results12, go_sem, *]

/-- A process waits, seen from outside. -/
theorem wait_step {p : Nat} {s : PS} {F : List Nat} {w W : World} {wh m' : Nat} {lv rv v4 : Value} {ms : List (Msg × Value)} {x set' : Int} {ws' : List WE}
    (hlt : ∀ x ∈ F, x < w.heap.size) (helt : ∀ x ∈ s.ext, x < w.heap.size) (hroom : (s.msgs.length : Int) ≤ s.hold ∧ s.hold ≤ 8)
    (hB : Blk w p 70 #[.pointer (some ⟨wh, 0, none⟩), .int .i64 s.hold, lv, rv]) (hW : WheelAt w wh m' s.set s.ws) (hRow : w.ownsRow 0 3 1 rv s.row.length (ints s.row)) (hL : w.ownsRow 0 29 5 lv s.msgs.length (mrow ms))
    (hms : ms.map (·.1) = s.msgs) (hwo : ∀ x ∈ ms, WordsAt w (F ++ s.ext) x.2 x.1) (hp : p ∈ F) (hwh : wh ∈ F) (hm : m' ∈ F) (hl : ∀ g, lv.ownBlock = some g → g ∈ F) (hr : ∀ g, rv.ownBlock = some g → g ∈ F)
    (hf : Fr (p :: wh :: m' :: rv.ownBlock.toList) w W) (hBW : Blk W p 70 #[.pointer (some ⟨wh, 0, none⟩), .int .i64 s.hold, lv, v4]) (hWW : WheelAt W wh m' set' ws') (hown : W.ownsRow 0 3 1 v4 (s.row ++ [x]).length (ints (s.row ++ [x])))
    (hat : v4.ownBlock = rv.ownBlock ∨ ∃ g, v4.ownBlock = some g ∧ w.heap.size ≤ g) : Turned w W p { s with ws := ws', set := set', row := s.row ++ [x] } F := by
  obtain ⟨ck, hmap, hok⟩ := hW.map
  have hF : Fr F w W := hf.mono (fun x hx _ => by
    simp only [List.mem_cons, Option.mem_toList] at hx
    rcases hx with rfl | rfl | rfl | hx
    · exact hp
    · exact hwh
    · exact hm
    · exact hr x hx)
  have hll : ∀ g, lv.ownBlock = some g → g ∉ p :: wh :: m' :: rv.ownBlock.toList := fun g hg hx => by
    obtain ⟨c, h1⟩ := own_blk hL hg
    simp only [List.mem_cons, Option.mem_toList] at hx
    rcases hx with rfl | rfl | rfl | hx
    · exact own_blk_ne hL hB (by decide) hg
    · exact own_blk_ne hL hW.blk (by decide) hg
    · exact h1.ne_map hmap rfl
    · exact own_blk_ne hRow h1 (by decide) hx
  refine ⟨v4.ownBlock.toList ++ F, ⟨⟨wh, m', lv, v4, ms, hBW, hWW, hown, hf.own hL hll, hms, fun x hx => ?_, List.mem_append_right _ hp, List.mem_append_right _ hwh, List.mem_append_right _ hm, fun g hg => List.mem_append_right _ (hl g hg), fun g hg => List.mem_append_left _ (by simp [hg])⟩, ?_, hroom, fun x hx => Nat.lt_of_lt_of_le (helt x hx) hF.size⟩, hF, fun x hx => List.mem_append_right _ hx, ?_⟩
  · have h1 : WordsAt w ((v4.ownBlock.toList ++ F) ++ s.ext) x.2 x.1 := (hwo x hx).mono (fun y hy hlt => by
      rw [List.append_assoc] at hy
      rcases List.mem_append.1 hy with hy | hy
      · refine List.mem_append_left _ ?_
        rcases hat with e | ⟨g, e, hg⟩
        · rw [e] at hy; simp at hy; exact hr y hy
        · rw [e] at hy; simp at hy; omega
      · exact hy)
    exact h1.fr hF (fun y hy _ => List.mem_append_left _ (List.mem_append_right _ hy))
  · intro x hx
    rcases List.mem_append.1 hx with hx | hx
    · simp at hx
      obtain ⟨c, h1⟩ := own_blk hown hx
      exact h1.lt
    · exact Nat.lt_of_lt_of_le (hlt x hx) hF.size
  · intro x hx
    rcases List.mem_append.1 hx with hx | hx
    · rcases hat with e | ⟨g, e, hg⟩
      · rw [e] at hx; simp at hx; exact .inl (hr x hx)
      · rw [e] at hx; simp at hx; exact .inr (by omega)
    · exact .inl hx

theorem rd_built_int (w : World) (x : Int) : Rd (w.alloc (.cells #[.int .i64 x] 3)) 1 [] (.slice (some ⟨w.heap.size, 0, none⟩) 1 1) 1 (ints [x]) := by
  refine ⟨_, 1, rfl, by simp [ints], Nat.le_refl _, by simp [maxLen], (fun e => nomatch e), fun _ => ⟨_, rfl, by simp, fun j u hu => ?_⟩⟩
  rw [add_head, (Blk.new w _ _).cell]
  simpa [ints] using hu

set_option maxHeartbeats 1000000 in
set_option maxRecDepth 100000 in
theorem ask_begins (p : Nat) (s : PS) (F : List Nat) (x until_ now : Int) (w : World) (h : PortAt w p s F) (hx : s.row.contains x = false) (hm0 : s.msgs = []) (hlate : ¬ cut until_ ≤ cut now)
    (hlk : look x s.ws = none) (hset : s.set < 4611686018427387904) (hwf : (Lit.int .i64 x).wf = true) (hlen : s.row.length ≤ 1048576) :
    Calls Try.prog 12 #[.pointer (some ⟨p, 0, none⟩), .int .i64 x, .int .i64 until_, .int .i64 now] w fun e w' =>
      e = .returned (.tuple #[.agg #[.slice none 0 0, .int .i64 0, .int .i64 0, .int .i64 0, .int .i64 0], .int .i64 6]) ∧ ∃ ck, Turned w w' p { s with ws := s.ws ++ [⟨x, cut until_, s.set + 1, ck⟩], set := s.set + 1, row := s.row ++ [x] } F := by
  obtain ⟨w1, hw1⟩ : ∃ x, w.alloc (.cells #[.slice none 0 0, .int .i64 0, .int .i64 0, .int .i64 0, .int .i64 0] 29) = x := ⟨_, rfl⟩
  have hF1 : Fr [] w w1 := by rw [← hw1]; exact (Fr.refl _ _).alloc _
  have hBox : Blk w1 w.heap.size 29 #[.slice none 0 0, .int .i64 0, .int .i64 0, .int .i64 0, .int .i64 0] := by rw [← hw1]; exact Blk.new _ _ _
  have hP1 := h.fr0 hF1
  have hwt := port_Waits_any p s F x w1 hP1
  rw [hx] at hwt
  have hltc := late_any now until_ w1
  rw [decide_eq_false hlate] at hltc
  obtain ⟨wh, mm, lv, rv, ms, hBw, hWw, hRoww, hLw, hms, hwo, hp, hwh, hm, hl', hr'⟩ := h.ex
  have hB := hBw.fr hF1 (by simp)
  obtain ⟨b0, b1, b2, b3⟩ := hB.four
  have hW1 := hWw.fr hF1 (by simp) (by simp)
  obtain ⟨ck0, hmap0, hok0⟩ := hW1.map
  have hpm : wh ≠ mm := hW1.blk.ne_map hmap0
  have hset' := set_new wh mm s.set s.ws x until_ w1 hW1 hpm hlk hset hwf
  have hlen0 : s.msgs.length = 0 := by rw [hm0]; rfl
  have hL0 := hLw
  rw [hlen0] at hL0
  obtain ⟨A, c, hlv⟩ := own_nil_len hL0
  subst hlv
  have HL := Lib.hid hlen
  have HY := Lib.hid (And.intro hBw (And.intro hWw (And.intro hRoww (And.intro hLw (And.intro hms (And.intro hwo (And.intro hl' hr')))))))
  have HZ := Lib.hid (And.intro hBox (And.intro hB (And.intro hmap0 hW1)))
  have HX := Lib.hid (And.intro hlk hm0)
  clear hx hBox hB hBw hWw hRoww hLw hms hwo hl' hr' hP1 hlate hlen0 hm0 hmap0 hok0 hW1 hL0 hset hwf hlen hlk
  go_enter Try.func12, Try.ntmps12
  go_wp2_with (first | (go_at_call 28; refine hwt.mono ?_; rintro e w' ⟨rfl, rfl⟩) | (go_at_call 34; refine hltc.mono ?_; rintro e w' ⟨rfl, rfl⟩))
  refine hset'.mono ?_
  rintro e w2 ⟨rfl, ⟨ck, hW2⟩, hf2⟩
  obtain ⟨hBw, hWw, hRoww, hLw, hms, hwo, hl', hr'⟩ := HY.out
  obtain ⟨hBox, hB, hmap0, hW1⟩ := HZ.out
  have hpn : p ∉ [wh, mm] := fun hx => by
    simp at hx
    rcases hx with rfl | rfl
    · exact hB.ne_ hW1.blk (by decide) rfl
    · exact hB.ne_map hmap0 rfl
  have hB2 := hB.fr hf2 hpn
  have hRow1 := hF1.own hRoww (by simp)
  have hrn : ∀ g, rv.ownBlock = some g → g ∉ [wh, mm] := fun g hg hx => by
    obtain ⟨cc, h1⟩ := own_blk hRow1 hg
    simp at hx
    rcases hx with rfl | rfl
    · exact h1.ne_ hW1.blk (by decide) rfl
    · exact h1.ne_map hmap0 rfl
  have hRow2 := hf2.own hRow1 hrn
  obtain ⟨d0, d1, d2, d3⟩ := hB2.four
  have df := hB2.froz 3
  have hboxn : w.heap.size ∉ [wh, mm] := fun hx => by
    simp at hx
    rcases hx with h1 | h1
    · have := h.lt _ hwh; omega
    · have := h.lt _ hm; omega
  have hBox2 := hBox.fr hf2 hboxn
  have HR2 := Lib.hid hRow2
  have HB2 := Lib.hid (And.intro hB2 (And.intro hBox2 hW2))
  clear hBw hWw hRoww hLw hms hwo hl' hr' hBox hB hmap0 hW1 hRow1 hRow2 hB2 hBox2 hW2 b0 b1 b2 b3 hrn
  go_wp2_with (at_builtin; refine wpList_app _ rfl int_elem _ _ rfl rv s.row.length (ints s.row) (by rfl) (((Fr.refl [] w2).alloc _).own HR2.out (by simp)) [] (.slice (some ⟨w2.heap.size, 0, none⟩) 1 1) 1 (ints [x]) (by rfl) (rd_built_int w2 x) (ints_one _) (by have := HL.out; omega) (by have := HL.out; simp only [maxLen]; omega) ?_; intro v3 w3 hown hfa hat; have HO3 := Lib.hid hown; obtain ⟨A4, c4, rfl, _⟩ := own_form hown; have hfb : Fr rv.ownBlock.toList w2 w3 := ((Fr.refl [] w2).alloc (.cells #[.int .i64 x] 3)).of0.trans' hfa; have hB3 := HB2.out.1.fr hfb (fun hx => by simp at hx; exact own_blk_ne HR2.out HB2.out.1 (by decide) hx); have hX3 := HB2.out.2.1.fr hfb (fun hx => by simp at hx; exact own_blk_ne HR2.out HB2.out.2.1 (by decide) hx); obtain ⟨q0, q1, q2, q3⟩ := hB3.four; have qf := hB3.froz 3; obtain ⟨y0, y1, y2, y3, y4⟩ := hX3.five; have yf := hX3.froz; have hpw : p ≠ w.heap.size := (by have := h.lt p hp; omega); have HQ := Lib.hid (And.intro hB3 hX3); clear hown hB3 hX3 d0 d1 d2 d3 df)
  have key : ∀ W, Fr [w.heap.size] (w3.setCell ⟨p, 3, none⟩ (.slice A4 (s.row.length + 1) c4)) W → ∃ ck, Turned w W p { s with ws := s.ws ++ [⟨x, cut until_, s.set + 1, ck⟩], set := s.set + 1, row := s.row ++ [x] } F := by
    intro W hW
    obtain ⟨hBw, hWw, hRoww, hLw, hms, hwo, hl', hr'⟩ := HY.out
    obtain ⟨hB3, hX3⟩ := HQ.out
    have hfb : Fr rv.ownBlock.toList w2 w3 := ((Fr.refl [] w2).alloc (.cells #[.int .i64 x] 3)).of0.trans' hfa
    have hW2 := HB2.out.2.2
    have hrt : ∀ {q : Nat} {t : TypeId} {cs : Array Value}, Blk w2 q t cs → t ≠ 3 → q ∉ rv.ownBlock.toList := fun hq ht hx => by
      simp at hx; exact own_blk_ne HR2.out hq (fun e => ht e.symm) hx
    obtain ⟨ck2, hmap2, _⟩ := hW2.map
    have hmr : mm ∉ rv.ownBlock.toList := fun hx => by
      simp at hx
      obtain ⟨cc, h1⟩ := own_blk HR2.out hx
      exact h1.ne_map hmap2 rfl
    have hW3 := hW2.fr hfb (hrt hW2.blk (by decide)) hmr
    obtain ⟨ck3, hmap3, _⟩ := hW3.map
    have hW4 := (hW3.fr (Fr.set p 3 (.slice A4 (s.row.length + 1) c4)) (by simp; exact hW3.blk.ne_ hB3 (by decide)) (by simp; exact fun e => hB3.ne_map hmap3 e.symm)).fr hW (by simp; have := h.lt _ hwh; omega) (by simp; have := h.lt _ hm; omega)
    have hBW : Blk W p 70 #[.pointer (some ⟨wh, 0, none⟩), .int .i64 s.hold, .slice A 0 c, .slice A4 (s.row.length + 1) c4] := (hB3.set_ 3 _).fr hW (by simp; exact hpw)
    have hfin : Fr (p :: wh :: mm :: rv.ownBlock.toList) w W := by
      refine ((((hF1.of0 (F := p :: wh :: mm :: rv.ownBlock.toList)).trans hf2 (by simp +contextual)).trans hfb (by simp +contextual)).setCell (p := ⟨p, 3, none⟩) (.inl (by simp)) _).trans hW (fun x hx hlt => ?_)
      simp at hx; omega
    have hat' : (Value.slice A4 (s.row.length + 1) c4).ownBlock = rv.ownBlock ∨ ∃ g, (Value.slice A4 (s.row.length + 1) c4).ownBlock = some g ∧ w.heap.size ≤ g := by
      rcases hat with e | e
      · exact .inl e
      · refine .inr ⟨_, e, ?_⟩
        have := hF1.size
        have := hf2.size
        simp
        omega
    have hown4 : W.ownsRow 0 3 1 (.slice A4 (s.row.length + 1) c4) (s.row ++ [x]).length (ints (s.row ++ [x])) := by
      have h3 := HO3.out
      have e1 : ints s.row ++ ints [x] = ints (s.row ++ [x]) := by simp [ints]
      have e2 : s.row.length + 1 = (s.row ++ [x]).length := by simp
      rw [e1] at h3
      refine hW.own ((Fr.set p 3 _).own (by simpa using h3) (fun q hq hx => ?_)) (fun q hq hx => ?_)
      · simp at hx; subst hx; exact own_blk_ne h3 hB3 (by decide) hq
      · simp at hx
        subst hx
        exact own_blk_ne h3 hX3 (by decide) hq
    exact ⟨ck, wait_step h.lt h.elt h.room hBw hWw hRoww hLw hms hwo hp hwh hm hl' hr' hfin hBW hW4 hown4 hat'⟩
  refine bodyPost_ret (v := .tuple #[.agg #[.slice none 0 0, .int .i64 0, .int .i64 0, .int .i64 0, .int .i64 0], .int .i64 6]) ?h1 rfl ?h2
  case h2 =>
    refine ⟨rfl, key _ ?_⟩
    iterate 5 refine Fr.setCell ?_ (by simp) _
    exact Fr.refl _ _
  case h1 => simp [results, Try.results12, go_sem, *]
end Go.Proofs.Ytfadadgkgbaohaa
