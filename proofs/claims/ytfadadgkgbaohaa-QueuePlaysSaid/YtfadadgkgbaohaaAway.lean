/-
  The contract of (*Port).away.
-/
import Derived.Test.YtfadadgkgbaohaaPort2
set_option linter.unusedSimpArgs false
set_option linter.unusedVariables false
namespace Go.Proofs.Ytfadadgkgbaohaa
open Go.RowKit
attribute [local go_sem] max_ints min_ints

def PS.lose (s : PS) (x : Int) : PS := { s with ws := drop1 x s.ws, row := rid x s.row }
def PS.loseAll (s : PS) (zs : List Int) : PS := zs.foldl PS.lose s
theorem PS.loseAll_snoc (s : PS) (zs : List Int) (x : Int) : s.loseAll (zs ++ [x]) = (s.loseAll zs).lose x := by simp [PS.loseAll]
theorem PS.loseAll_msgs (s : PS) (zs : List Int) : (s.loseAll zs).msgs = s.msgs ∧ (s.loseAll zs).hold = s.hold := by
  unfold PS.loseAll
  induction zs generalizing s with
  | nil => exact ⟨rfl, rfl⟩
  | cons a r ih => exact ih (s.lose a)

theorem Fr.set {w : World} (p i : Nat) (v : Value) : Fr [p] w (w.setCell ⟨p, i, none⟩ v) := (Fr.refl _ _).setCell (by simp) _

/-- One step of away, seen from outside: the wheel's map, the row, the field have turned. -/
theorem away_step {p : Nat} {s : PS} {F : List Nat} {w1 w2 w3 : World} {wh m : Nat} {lv rv v3 : Value} {ms : List (Msg × Value)} {z : Int}
    (hlt : ∀ x ∈ F, x < w1.heap.size) (helt : ∀ x ∈ s.ext, x < w1.heap.size) (hroom : (s.msgs.length : Int) ≤ s.hold ∧ s.hold ≤ 8)
    (hB : Blk w1 p 70 #[.pointer (some ⟨wh, 0, none⟩), .int .i64 s.hold, lv, rv]) (hRow : w1.ownsRow 0 3 1 rv s.row.length (ints s.row)) (hL : w1.ownsRow 0 29 5 lv s.msgs.length (mrow ms))
    (hms : ms.map (·.1) = s.msgs) (hwo : ∀ x ∈ ms, WordsAt w1 (F ++ s.ext) x.2 x.1) (hp : p ∈ F) (hwh : wh ∈ F) (hm : m ∈ F) (hl : ∀ g, lv.ownBlock = some g → g ∈ F) (hr : ∀ g, rv.ownBlock = some g → g ∈ F)
    (hmap : ∃ es ck, w1.heap[m]? = some (.map es ck)) (hW2 : WheelAt w2 wh m s.set (drop1 z s.ws)) (hf2 : Fr [m] w1 w2)
    (hown3 : w3.ownsRow 0 3 1 v3 (rid z s.row).length (ints (rid z s.row))) (hob3 : v3.ownBlock = rv.ownBlock) (hf3 : Fr rv.ownBlock.toList w2 w3) :
    PortAt (w3.setCell ⟨p, 3, none⟩ v3) p (s.lose z) F ∧ Fr F w1 (w3.setCell ⟨p, 3, none⟩ v3) := by
  obtain ⟨es, ck, hmap⟩ := hmap
  have hpm : p ≠ m := hB.ne_map hmap
  have hBp := hB.fr hf2 (by simp; exact hpm)
  have hpr : p ∉ rv.ownBlock.toList := by
    intro hx; simp at hx
    exact own_blk_ne hRow hB (by decide) hx
  have hBp3 := hBp.fr hf3 hpr
  have hF : Fr F w1 (w3.setCell ⟨p, 3, none⟩ v3) := by
    have h1 : Fr F w1 w2 := hf2.mono (by simp [hm])
    have h2 : Fr F w1 w3 := h1.trans hf3 (fun x hx _ => by simp at hx; exact hr x hx)
    exact h2.setCell (.inl hp) _
  have hL3 : ∀ g, lv.ownBlock = some g → g ∉ rv.ownBlock.toList := by
    intro g hg hx
    simp at hx
    obtain ⟨c1, h1⟩ := own_blk hL hg
    exact own_blk_ne hRow h1 (by decide) hx
  have hwm : ∀ g, lv.ownBlock = some g → g ≠ m := fun g hg => by obtain ⟨c1, h1⟩ := own_blk hL hg; exact h1.ne_map hmap
  obtain ⟨ck2, hmap2, hok2⟩ := hW2.map
  have hwr : wh ∉ rv.ownBlock.toList := by
    intro hx; simp at hx
    have hx3 := hx
    rw [← hob3] at hx3
    obtain ⟨c1, h1⟩ := own_blk hown3 hx3
    obtain ⟨c2, h2⟩ := own_blk hRow hx
    have h2' := h2.fr hf2 (by simp; exact h2.ne_map hmap)
    exact Blk.ne_ h2' hW2.blk (by decide) rfl
  have hmr : m ∉ rv.ownBlock.toList := by
    intro hx; simp at hx
    obtain ⟨c2, h2⟩ := own_blk hRow hx
    exact h2.ne_map hmap rfl
  have hW3 := hW2.fr hf3 hwr hmr
  obtain ⟨ck3, hmap3, _⟩ := hW3.map
  refine ⟨⟨⟨wh, m, lv, v3, ms, ?_, ?_, ?_, ?_, hms, fun x hx => (hwo x hx).fr hF (fun y hy _ => List.mem_append_left _ hy), hp, hwh, hm, hl, by rw [hob3]; exact hr⟩, fun x hx => Nat.lt_of_lt_of_le (hlt x hx) hF.size, hroom, fun x hx => Nat.lt_of_lt_of_le (helt x hx) hF.size⟩, hF⟩
  · exact hBp3.set_ 3 v3
  · exact hW3.fr (Fr.set p 3 v3) (by simp; exact (Blk.ne_ hW3.blk hBp3 (by decide))) (by simp; exact fun e => hBp3.ne_map hmap3 e.symm)
  · exact (Fr.set p 3 v3).own hown3 (fun g hg hx => by simp at hx; subst hx; exact own_blk_ne hown3 hBp3 (by decide) hg)
  · have h2 := hf2.own hL (fun g hg hx => hwm g hg (by simpa using hx))
    have h3 := hf3.own h2 hL3
    exact (Fr.set p 3 v3).own h3 (fun g hg hx => by simp at hx; subst hx; exact own_blk_ne h3 hBp3 (by decide) hg)

set_option maxHeartbeats 1000000 in
set_option maxRecDepth 100000 in
theorem away_any (p : Nat) (s : PS) (F : List Nat) (A : Option Addr) (n c : Nat) (zs : List Int) (w : World) (h : PortAt w p s F) (hR : Rd w 1 F (.slice A n c) n (ints zs)) :
    Calls Try.prog 31 #[.pointer (some ⟨p, 0, none⟩), .slice A n c] w fun e w' => e = .returned (.tuple #[]) ∧ PortAt w' p (s.loseAll zs) F ∧ Fr F w w' := by
  have hmax := hR.max
  have H0 := Lib.hid h
  have HR := Lib.hid hR
  have HL := Lib.hid hR.len1
  clear h hR
  go_enter Try.func31, Try.ntmps31
  go_wp2
  go_loopw [8] (fun vi wr => ∃ k : Nat, vi = .int .i64 k ∧ k ≤ n ∧ PortAt wr p (s.loseAll (zs.take k)) F ∧ Fr F w wr) (fun vi _ => n - (intOf vi).toNat)
  case atStart => exact ⟨0, rfl, by omega, H0.out, Fr.refl _ _⟩
  case round =>
    obtain ⟨k, rfl, hk, hP, hfr⟩ := hrel
    by_cases hlt : k < n
    · obtain ⟨ad, rfl, hl, hc⟩ := (HR.out.fr hfr (fun x hx _ => hx)).at1 hlt
      obtain ⟨z, hz⟩ : ∃ z, zs[k] = z := ⟨_, rfl⟩
      rw [hz] at hc
      have HZ := Lib.hid hz
      clear hz
      obtain ⟨w1, hw1⟩ : ∃ x, x = wr.alloc (.cells #[.int .i64 z] 3) := ⟨_, rfl⟩
      have hF1 : Fr [] wr w1 := by rw [hw1]; exact (Fr.refl _ _).alloc _
      have hP1 := hP.fr0 hF1
      have hBox : Blk w1 wr.heap.size 3 #[.int .i64 z] := by rw [hw1]; exact Blk.new _ _ _
      have hbox := hBox.one
      obtain ⟨wh, m, lv, rv, ms, hB, hW, hRow, hL, hms, hwo, hp, hwh, hm, hl', hr'⟩ := hP1.ex
      obtain ⟨b0, b1, b2, b3⟩ := hB.four
      obtain ⟨ck, hmap, hok⟩ := hW.map
      have hpm : wh ≠ m := hW.blk.ne_map hmap
      have hcan := cancel_any wh m _ _ z w1.drew ⟨hW.blk, hW.map⟩ hpm
      have HW1 := Lib.hid hw1
      clear hw1
      go_wp2_with fail
      rw [← HW1.out]
      refine wp_tail 5 (by kernel_rfl) (by kernel_rfl) ?_
      simp only [List.take_succ_cons, List.take_zero, List.drop_succ_cons, List.drop_zero]
      iterate 5 still_step
      refine wpStill_nil ?_
      go_wp2_with fail
      refine hcan.mono ?_
      rintro e w2 ⟨rfl, hW2, hf2⟩
      have hBp := (hB.drew.fr hf2 (by simp; exact hB.ne_map hmap))
      obtain ⟨d0, d1, d2, d3⟩ := hBp.four
      have dz := hBp.froz 3
      have hf2' : Fr [m] w1 w2 := (Fr.refl _ _).drew.trans' hf2
      have hmap2 : ∃ es ck, w2.heap[m]? = some (.map es ck) := by obtain ⟨ck, h1, _⟩ := hW2.map; exact ⟨_, _, h1⟩
      have hbx2 := hBox.fr hf2' (by simp; exact hBox.ne_map hmap)
      have hRow2 := hf2'.own hRow (fun g hg hx => by simp at hx; subst hx; obtain ⟨cur, hc⟩ := own_blk hRow hg; exact hc.ne_map hmap rfl)
      have hbn : rv.ownBlock ≠ some wr.heap.size := by
        intro e
        have h1 := hP.lt _ (hr' _ e)
        omega
      have hdel := deleteFunc_any wr.heap.size rv _ z w2 hRow2 hbx2.one hbn
      unfold isFn at hdel
      clear hcan b0 b1 b2 b3 hbox
      go_wp2_with fail
      refine hdel.mono ?_
      rintro e w3 ⟨v3, rfl, hown3, hob3, hf3⟩
      have hpn : p ∉ rv.ownBlock.toList := by
        intro hx
        simp at hx
        exact own_blk_ne hRow hB (by decide) hx
      have hBp3 := hBp.fr hf3 hpn
      obtain ⟨e0, e1, e2, e3⟩ := hBp3.four
      have ez := hBp3.froz 3
      obtain ⟨A3, c3, rfl, _⟩ := own_form hown3
      have HO3 := Lib.hid hown3
      have HB3 := Lib.hid hob3
      clear hown3 hob3 d0 d1 d2 d3 dz hdel
      go_wp2
      go_roundw
      case rel =>
        have hstep := away_step hP1.lt hP1.elt hP1.room hB hRow hL hms hwo hp hwh hm hl' hr' ⟨_, _, hmap⟩ hW2 hf2' HO3.out HB3.out hf3
        refine ⟨k + 1, by go_num, by omega, ?_, hfr.trans (hF1.of0.trans' hstep.2) (fun x hx _ => hx)⟩
        · have hzk : zs.take (k + 1) = zs.take k ++ [z] := by rw [List.take_succ_eq_append_getElem hl, HZ.out]
          rw [hzk, PS.loseAll_snoc]
          exact hstep.1
      case measure => simp [intOf]; omega
    · have hkn : k = n := by omega
      subst hkn
      go_wp2
      go_end0
      refine ⟨rfl, ?_, hfr⟩
      rw [List.take_of_length_le (by rw [HL.out]; omega)] at hP
      exact hP
end Go.Proofs.Ytfadadgkgbaohaa
