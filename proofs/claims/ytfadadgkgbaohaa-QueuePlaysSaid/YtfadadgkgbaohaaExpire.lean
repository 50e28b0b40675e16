/-
  The contract of (*Port).Expire.
-/
import Derived.Test.YtfadadgkgbaohaaDue
import Derived.Test.YtfadadgkgbaohaaAway
set_option linter.unusedSimpArgs false
set_option linter.unusedVariables false
namespace Go.Proofs.Ytfadadgkgbaohaa
open Go.RowKit
attribute [local go_sem] max_ints min_ints

/-- A port whose wheel has turned. -/
theorem PortAt.wheel {w w' : World} {p : Nat} {s : PS} {F : List Nat} {wh m : Nat} {lv rv : Value} {ms : List (Msg × Value)} {ws' : List WE}
    (hlt : ∀ x ∈ F, x < w.heap.size) (helt : ∀ x ∈ s.ext, x < w.heap.size) (hroom : (s.msgs.length : Int) ≤ s.hold ∧ s.hold ≤ 8)
    (hB : Blk w p 70 #[.pointer (some ⟨wh, 0, none⟩), .int .i64 s.hold, lv, rv]) (hRow : w.ownsRow 0 3 1 rv s.row.length (ints s.row)) (hL : w.ownsRow 0 29 5 lv s.msgs.length (mrow ms))
    (hms : ms.map (·.1) = s.msgs) (hwo : ∀ x ∈ ms, WordsAt w (F ++ s.ext) x.2 x.1) (hp : p ∈ F) (hwh : wh ∈ F) (hm : m ∈ F) (hl : ∀ g, lv.ownBlock = some g → g ∈ F) (hr : ∀ g, rv.ownBlock = some g → g ∈ F)
    (hmap : ∃ es ck, w.heap[m]? = some (.map es ck)) (hW2 : WheelAt w' wh m s.set ws') (hf : Fr [m] w w') : PortAt w' p { s with ws := ws' } F := by
  obtain ⟨es, ck, hmap⟩ := hmap
  have hpm : p ≠ m := hB.ne_map hmap
  have hwm : ∀ {e : TypeId} {k n : Nat} {v : Value} {xs : List Value}, w.ownsRow 0 e k v n xs → ∀ g, v.ownBlock = some g → g ∉ [m] := fun ho g hg hx => by
    obtain ⟨c1, h1⟩ := own_blk ho hg
    simp at hx
    exact h1.ne_map hmap hx
  exact ⟨⟨wh, m, lv, rv, ms, hB.fr hf (by simp; exact hpm), hW2, hf.own hRow (hwm hRow), hf.own hL (hwm hL), hms, fun x hx => (hwo x hx).fr hf (fun y hy _ => by simp at hy; subst hy; exact List.mem_append_left _ hm), hp, hwh, hm, hl, hr⟩, fun x hx => Nat.lt_of_lt_of_le (hlt x hx) hf.size, hroom, fun x hx => Nat.lt_of_lt_of_le (helt x hx) hf.size⟩

/-- What Expire gives. -/
def Expired (w w' : World) (p : Nat) (s : PS) (F : List Nat) (now : Int) (e : Ending) : Prop :=
  ∃ v L, e = .returned v ∧ Sorted s.ws L ∧ (∀ M : List Nat, (∀ x ∈ M, x < w.heap.size) → Rd w' 1 M v (L.filter (dueK s.ws now)).length (ints (L.filter (dueK s.ws now)))) ∧ PortAt w' p ({ s with ws := s.ws.filter (fun e => !dueE now e) }.loseAll (L.filter (dueK s.ws now))) F ∧ Fr F w w'

set_option maxHeartbeats 1000000 in
set_option maxRecDepth 100000 in
theorem expire_any (p : Nat) (s : PS) (F : List Nat) (now : Int) (w : World) (h : PortAt w p s F) (hlen : s.ws.length ≤ 1048576) :
    Calls Try.prog 19 #[.pointer (some ⟨p, 0, none⟩), .int .i64 now] w fun e w' => Expired w w' p s F now e := by
  obtain ⟨wh, m, lv, rv, ms, hB, hW, hRow, hL, hms, hwo, hp, hwh, hm, hl', hr'⟩ := h.ex
  obtain ⟨b0, b1, b2, b3⟩ := hB.four
  have hD := due_any wh m s.set s.ws now w hW hlen
  obtain ⟨ck, hmap, _⟩ := hW.map
  have HP := Lib.hid fun w' ws' hW2 hf => PortAt.wheel (w' := w') (ws' := ws') h.lt h.elt h.room hB hRow hL hms hwo hp hwh hm hl' hr' ⟨_, _, hmap⟩ hW2 hf
  have HLT := Lib.hid h.lt
  clear hB hW hRow hL hms hwo hl' hr' hmap h b1 b2 b3
  go_enter Try.func19, Try.ntmps19
  go_wp2_with fail
  refine hD.mono ?_
  clear hD
  rintro e w1 ⟨v, L, rfl, hS, hown, hnew, hwh1, hf1⟩
  have hP1 := HP.out w1 _ hwh1 hf1
  have hR1 : Rd w1 1 F v (L.filter (dueK s.ws now)).length (ints (L.filter (dueK s.ws now))) := Rd.of_own hown (fun g hg hx => by have := hnew g hg; have := HLT.out g hx; omega)
  have hnF : ∀ g, v.ownBlock = some g → g ∉ F := fun g hg hx => by have := hnew g hg; have := HLT.out g hx; omega
  have hfF : Fr F w w1 := hf1.mono (fun x hx _ => by simp at hx; subst hx; exact hm)
  have HX := Lib.hid (And.intro hown (And.intro hnF (And.intro hfF hnew)))
  have HS := Lib.hid hS
  generalize hz : (L.filter (dueK s.ws now)) = zs at *
  obtain ⟨A, c, rfl, _⟩ := own_form hown
  have hA := away_any p _ F A zs.length c zs w1 hP1 hR1
  have HZ := Lib.hid hz
  clear hz hown hP1 hR1 hnF hfF hf1 hwh1 hnew hS
  go_wp2_with fail
  refine hA.mono ?_
  clear hA
  rintro e w2 ⟨rfl, hP2, hf2⟩
  have hfin : Expired w w2 p s F now (.returned (.slice A zs.length c)) := ⟨_, L, rfl, HS.out, fun M hM => by rw [HZ.out]; exact Rd.of_own (hf2.own HX.out.1 HX.out.2.1) (fun g hg hx => by have := hM g hx; have := HX.out.2.2.2 g hg; omega), by rw [HZ.out]; exact hP2, HX.out.2.2.1.trans' hf2⟩
  have HF := Lib.hid hfin
  clear hfin hP2 hf2
  go_wp2
  go_ret
  exact HF.out
end Go.Proofs.Ytfadadgkgbaohaa
