/-
  numbers: words of numbers; which numbers are odd.
-/
import Derived.Test.YtcnmnfllchiehaaDoorTe
import Derived.Shelf.SlicesE.IndexFunc
import Derived.IntWalk
set_option linter.unusedSimpArgs false
set_option linter.unusedVariables false
namespace Go.Proofs.YtcnmnfllchiehaaDoor
open Go.RowKit
attribute [local go_sem] max_ints min_ints

def digs (zs : List Int) : List Str := zs.map Lib.itoa
theorem digs_length (zs : List Int) : (digs zs).length = zs.length := by simp [digs]
theorem rd_one_str (w : World) (l : Str) : Rd (w.alloc (.cells #[.string (bs l)] 9)) 1 [] (.slice (some ⟨w.heap.size, 0, none⟩) 1 1) 1 (strs [l]) := rd_new w 1 [] _ (strs [l]) 1 rfl (by decide) (by simp)

/-- Strings in a row of the call's own. -/
def OwnStrs (w w' : World) (xs : List Str) (v : Value) : Prop := w'.ownsRow 0 9 1 v xs.length (strs xs) ∧ NewFrom w.heap.size v ∧ Fr [] w w'
def GivesStrs (w w' : World) (xs : List Str) (e : Ending) : Prop := ∃ v, e = .returned v ∧ OwnStrs w w' xs v

set_option maxHeartbeats 1000000 in
set_option maxRecDepth 100000 in
theorem numbers_any (zs : List Int) (v : Value) (M : List Nat) (w : World) (h : Rd w 1 M v zs.length (ints zs)) (hlen : zs.length ≤ 1000000) (hok : ∀ x ∈ zs, I64 x) (hG : Glo w) :
    Calls Tryd.prog 27 #[v] w fun e w' => GivesStrs w w' (digs zs) e := by
  obtain ⟨A, c, rfl, _⟩ := id h
  have HR := Lib.hid h
  have HOK := Lib.hid hok
  have HG := Lib.hid hG
  clear h hok hG
  go_enter Tryd.func27, Tryd.ntmps27
  go_wp2
  go_loopw [3, 8] (fun vo vi wr => ∃ k : Nat, vi = .int .i64 k ∧ k ≤ zs.length ∧ Hid (OwnStrs w wr (digs (zs.take k)) vo)) (fun _ vi _ => zs.length - (intOf vi).toNat)
  case atStart => exact ⟨0, rfl, by omega, Lib.hid ⟨World.ownsRow_nil _ _ _ _, by simp [NewFrom, Value.ownBlock], Fr.refl _ _⟩⟩
  case round =>
    obtain ⟨k, rfl, hk, HO⟩ := hrel
    by_cases hlt : k < zs.length
    · obtain ⟨g, o, rfl, _, _, hc⟩ := (HR.out.fr HO.out.2.2 (by simp)).plain (by omega) (by omega)
      have hck := hc k _ (ints_get hlt)
      have hz := HOK.out zs[k] (List.getElem_mem hlt)
      have hsu : digs (zs.take (k + 1)) = digs (zs.take k) ++ [Lib.itoa zs[k]] := by
        unfold digs
        rw [List.take_succ_eq_append_getElem hlt, List.map_append]
        rfl
      generalize zs[k] = z at hck hz hsu
      have HSU := Lib.hid hsu
      have hl : (digs (zs.take k)).length ≤ 1000000 := by rw [digs_length, List.length_take]; omega
      clear hc hsu
      go_wp2_with fail
      refine (itoa_any z wr hz (HG.out.fr HO.out.2.2)).mono ?_
      rintro e w1 ⟨rfl, hf1⟩
      have ho1 := hf1.own HO.out.1 (by simp)
      have HF1 := Lib.hid hf1
      have HO1 := Lib.hid ho1
      clear hf1 ho1 hck
      go_wp2_with (at_builtin; refine wpList_app _ rfl str_elem _ _ rfl u3 (digs (zs.take k)).length (strs (digs (zs.take k))) (by rfl) (((Fr.refl [] w1).alloc _).own HO1.out (by simp)) [] (.slice (some ⟨w1.heap.size, 0, none⟩) 1 1) 1 (strs [Lib.itoa z]) (by rfl) (rd_one_str w1 _) (strs_one _) (by omega) (by simp only [maxLen]; omega) ?_; intro v1 w4 hown4 hfa hat)
      have hp := push_new (n := 0) (xs := []) (e := 0) (size := 0) HO.out.2.1 HO.out.2.2 (HF1.out.alloc _) hfa hat
      have HO4 := Lib.hid (show OwnStrs w w4 (digs (zs.take (k + 1))) v1 from ⟨by rw [HSU.out, strs_append, List.length_append]; exact hown4, hp.1, hp.2⟩)
      clear hown4 hfa hat hp
      go_roundw
      case rel => exact ⟨k + 1, by go_num, by omega, HO4⟩
      case measure => simp [intOf]; omega
    · have hkn : k = zs.length := by omega
      subst hkn
      have HO' := Lib.hid (show OwnStrs w wr (digs zs) u3 by have := HO.out; rw [List.take_length] at this; exact this)
      clear HO
      go_wp2
      go_ret
      exact ⟨_, rfl, HO'.out⟩

/-- A number that no line tells. -/
def oddB (n : Int) : Bool := decide (n < -9999999999) || decide (n > 9999999999)
theorem odd_any (n : Int) (w : World) : Calls Tryd.prog 31 #[.int .i64 n] w fun e w' => e = .returned (.bool (oddB n)) ∧ w = w' := by
  go_enter Tryd.func31, Tryd.ntmps31
  go_wp2
  · go_ret
    exact ⟨rfl, rfl⟩
  · rename_i h
    go_ret
    exact ⟨ret_bool (by simp [oddB, h]), rfl⟩

theorem anyOdd_any (zs : List Int) (v : Value) (M : List Nat) (w : World) (h : Rd w 1 M v zs.length (ints zs)) :
    Calls Tryd.prog 32 #[v, .func (.func 31) #[] #[]] w fun e w' => e = .returned (.bool (zs.any oddB)) ∧ Fr [] w w' := by
  obtain ⟨A, c, rfl, _⟩ := id h
  rcases Nat.eq_zero_or_pos zs.length with h0 | h0
  · have : zs = [] := List.eq_nil_of_length_eq_zero h0
    subst this
    refine (AnyE.slices_ContainsFunc_empty contL A c (.func (.func 31) #[] #[]) w).mono ?_
    rintro e w' ⟨rfl, rfl⟩
    exact ⟨rfl, Fr.refl _ _⟩
  · obtain ⟨g, o, rfl, _, hlt, hc⟩ := h.plain h0 (by omega)
    have eg : ∀ args w, (callFunc 31 args).run Tryd.prog w = .ok (.enter 31 args) w := enters_of Tryd.func31 (by kernel_rfl) rfl
    have hp : PredAt Tryd.prog 31 #[] (Value.int .i64) oddB w := fun W x _ => (odd_any x W).mono fun e w' ⟨he, hw⟩ => ⟨he, 0, by rw [← hw]; rfl⟩
    refine (AnyE.slices_ContainsFunc contL (Value.int .i64) oddB 31 #[] eg g o zs.length c zs w hp (Nat.le_refl _) (by have := h.max; omega) ?_).mono ?_
    · intro j hj
      rw [hc j _ (ints_get hj)]
      simp [hj]
    · rintro e w' ⟨rfl, q, rfl⟩
      rw [List.take_length]
      exact ⟨rfl, (Fr.refl _ _).drewN q⟩
end Go.Proofs.YtcnmnfllchiehaaDoor
