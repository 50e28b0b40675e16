/-
  The closure of Line: words behind the others.
-/
import Derived.Test.YtcnmnfllchiehaaDoorTr
set_option linter.unusedSimpArgs false
set_option linter.unusedVariables false
namespace Go.Proofs.YtcnmnfllchiehaaDoor
open Go.RowKit
attribute [local go_sem] max_ints min_ints

/-- The box L holds the words xs, in a row of their own that is new since w0. -/
structure LineBox (w0 w : World) (L : Nat) (xs : List Str) : Prop where
  ex : ∃ lv, Blk w L 60 #[lv] ∧ w.ownsRow 0 9 1 lv xs.length (strs xs) ∧ NewFrom w0.heap.size lv
  ge : w0.heap.size ≤ L
  fr : Fr [] w0 w
/-- Only the box, and rows of strings, have turned. -/
def PutFr (L : Nat) (w w' : World) : Prop := ∃ G, Fr G w w' ∧ ∀ g ∈ G, g = L ∨ ∃ cur, Blk w g 9 cur
theorem PutFr.keep {L : Nat} {w w' : World} (h : PutFr L w w') {b : Nat} {t : TypeId} {cs : Array Value} (hb : Blk w b t cs) (hL : b ≠ L) (ht : t ≠ 9) : Blk w' b t cs := by
  obtain ⟨G, hf, hG⟩ := h
  refine hb.fr hf (fun hx => ?_)
  rcases hG b hx with h | ⟨cur, hc⟩
  · exact hL h
  · exact Blk.ne_ hb hc ht rfl
theorem PutFr.rd {L : Nat} {w w' w0 : World} (h : PutFr L w w') (hL : w0.heap.size ≤ L) (hn : ∀ g, (∃ cur, Blk w g 9 cur) → True) : True := trivial
theorem LineBox.fr0 {w0 w w' : World} {L : Nat} {xs : List Str} (h : LineBox w0 w L xs) (hf : Fr [] w w') : LineBox w0 w' L xs := by
  obtain ⟨⟨lv, h1, h2, h3⟩, h4, h5⟩ := h
  exact ⟨⟨lv, h1.fr hf (by simp), hf.own h2 (by simp), h3⟩, h4, h5.trans' hf⟩

def PutSays (w0 w w' : World) (L : Nat) (xs : List Str) (e : Ending) : Prop := e = .returned (.tuple #[]) ∧ LineBox w0 w' L xs ∧ PutFr L w w'

set_option maxHeartbeats 1000000 in
set_option maxRecDepth 100000 in
theorem put_any (w0 w : World) (L : Nat) (xs ys : List Str) (av : Value) (M : List Nat) (hl : LineBox w0 w L xs) (ha : Rd w 1 M av ys.length (strs ys)) (hn : xs.length + ys.length ≤ 1000000) :
    Calls Tryd.prog 39 #[av, .pointer (some ⟨L, 0, none⟩)] w fun e w' => PutSays w0 w w' L (xs ++ ys) e := by
  obtain ⟨⟨lv, hb, ho, hnw⟩, hge, hf0⟩ := hl
  obtain ⟨A, c, rfl, _⟩ := id ha
  obtain ⟨A1, c1, rfl, _⟩ := own_form ho
  have hc0 := hb.one
  have HB := Lib.hid hb
  have HO := Lib.hid ho
  have HNW := Lib.hid hnw
  have HA := Lib.hid ha
  have HF0 := Lib.hid hf0
  clear hb ho hnw ha hf0
  go_enter Tryd.func39, Tryd.ntmps39
  go_wp2_with (at_builtin; refine wpList_app _ rfl str_elem _ _ rfl (.slice A1 xs.length c1) xs.length (strs xs) (by rfl) HO.out M (.slice A ys.length c) ys.length (strs ys) (by rfl) HA.out (strs_one _) (by omega) (by simp only [maxLen]; omega) ?_; intro v2 w2 hown hfa hat; obtain ⟨A2, c2, rfl, _⟩ := own_form hown; have hb2 := HB.out.fr hfa (by simpa using own_blk_ne HO.out HB.out (by decide)); have hc2 := hb2.one; have hfz := hb2.froz; have HB2 := Lib.hid hb2; clear hb2 hc0)
  have hf3 : Fr [L] w2 (w2.setCell ⟨L, 0, none⟩ (.slice A2 (xs.length + ys.length) c2)) := (Fr.refl _ _).setCell (by simp) _
  have hb3 := HB2.out.set_ 0 (.slice A2 (xs.length + ys.length) c2)
  have hne : (Value.slice A2 (xs.length + ys.length) c2).ownBlock ≠ some L := own_blk_ne hown HB2.out (by decide)
  have ho3 := hf3.own hown (fun g hg hx => by simp at hx; subst hx; exact hne hg)
  have hnw3 : NewFrom w0.heap.size (.slice A2 (xs.length + ys.length) c2) := fun g hg => by
    rcases hat with h | h
    · exact HNW.out g (by rw [← h]; exact hg)
    · rw [h] at hg; injection hg with hg; have := HF0.out.size; omega
  have key : PutSays w0 w (w2.setCell ⟨L, 0, none⟩ (.slice A2 (xs.length + ys.length) c2)) L (xs ++ ys) (.returned (.tuple #[])) := by
    refine ⟨rfl, ⟨⟨_, hb3, by rw [List.length_append, strs_append]; exact ho3, hnw3⟩, hge, ?_⟩, L :: (Value.slice A1 xs.length c1).ownBlock.toList, ?_, ?_⟩
    · refine (HF0.out.trans hfa (fun x hx hlt => ?_)).trans hf3 (fun x hx hlt => ?_)
      · simp at hx
        have := HNW.out x hx
        omega
      · simp at hx; omega
    · exact (hfa.mono (fun x hx _ => List.mem_cons_of_mem _ hx)).trans hf3 (fun x hx _ => by simp at hx; subst hx; simp)
    · intro g hg
      rcases List.mem_cons.1 hg with rfl | hg
      · exact .inl rfl
      · right
        exact own_blk HO.out (by simpa using hg)
  refine bodyPost_end (v := .tuple #[]) ?h1 rfl ?h2
  case h1 => simp [results, Tryd.results39, go_sem]
  case h2 => exact key
end Go.Proofs.YtcnmnfllchiehaaDoor
