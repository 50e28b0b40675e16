/-
  The reference of the queue: Sweep.
-/
import Derived.Test.YtfadadgkgbaohaaR18c
import Derived.Test.YtfadadgkgbaohaaSweep
set_option linter.unusedSimpArgs false
set_option linter.unusedVariables false
namespace Go.Proofs.Ytfadadgkgbaohaa
open Go.RowKit
attribute [local go_sem] max_ints min_ints

/-- What Sweep of the reference gives. -/
def RefSweep (w w' : World) (M : List Nat) (a : AP) (t : Int) (e : Ending) : Prop :=
  ∃ lv' wv' v os, e = .returned (.tuple #[rval (a.sweep t).1 lv' wv', v]) ∧ RefAt w' M lv' wv' (a.sweep t).1 ∧ os.map (·.1) = (a.sweep t).2 ∧ w'.ownsRow 0 29 5 v os.length (mrow os) ∧ NewFrom w.heap.size v ∧ (∀ x ∈ os, WordsAt w' M x.2 x.1) ∧ Fr [] w w'

set_option maxHeartbeats 2000000 in
set_option maxRecDepth 100000 in
theorem refsweep_any (M : List Nat) (lv wv : Value) (a : AP) (t : Int) (w : World) (h : RefAt w M lv wv a) (hM : ∀ x ∈ M, x < w.heap.size) (hroom : a.msgs.length ≤ 8) :
    Calls Try.prog 25 #[rval a lv wv, .int .i64 t] w fun e w' => RefSweep w w' M a t e := by
  obtain ⟨A, c, rfl, _⟩ := id h.waits
  obtain ⟨ms, hms, hrl, hwo⟩ := h.msgs
  obtain ⟨n, hn⟩ : ∃ n, n = a.msgs.length := ⟨_, rfl⟩
  rw [← hn] at hrl hroom
  obtain ⟨A2, c2, rfl, _⟩ := id hrl
  have hmax := h.waits.max
  have hmax2 := hrl.max
  obtain ⟨w1, hw1⟩ : ∃ y, (w.alloc (.cells #[.int .i64 a.hold, .slice A2 n c2, .slice A a.waits.length c] 51)).alloc (.cells #[.int .i64 0, .slice none 0 0, .slice none 0 0] 51) = y := ⟨_, rfl⟩
  have hf1 : Fr [] w w1 := by rw [← hw1]; exact ((Fr.refl _ _).alloc _).alloc _
  have hB1 : Blk w1 w.heap.size 51 #[.int .i64 a.hold, .slice A2 n c2, .slice A a.waits.length c] := by rw [← hw1]; exact (Blk.new _ _ _).alloc _
  have hB2 : Blk w1 (w.heap.size + 1) 51 #[.int .i64 0, .slice none 0 0, .slice none 0 0] := by rw [← hw1]; exact Blk.new' _ _ _ (by simp)
  have hlt2 : w.heap.size + 1 < w1.heap.size := hB2.lt
  have hml : ms.length = n := by rw [hn, ← hms]; simp
  have H := Lib.hid h
  have HB := Lib.hid (And.intro hB1 hB2)
  have HF1 := Lib.hid hf1
  have HMS := Lib.hid hms
  have HR := Lib.hid (hrl.fr hf1 (by simp))
  have HWO := Lib.hid hwo
  have HL := Lib.hid hml
  have HN := Lib.hid hn
  clear hB1 hB2 hf1 hms hrl hwo h hn hml
  unfold rval
  go_enter Try.func25, Try.ntmps25
  go_wp2_with fail
  go_loopw [6, 7, 8] (fun vr vo vi wr => ∃ (k : Nat) (os rs : List (Msg × Value)), vi = .int .i64 k ∧ k ≤ n ∧ Hid (os = (ms.take k).filter (fun x => isLate t x.1)) ∧ Hid (rs = (ms.take k).filter (fun x => !isLate t x.1)) ∧
    KeptMs w1.heap.size wr vo os ∧ KeptMs w1.heap.size wr vr rs ∧ (∀ g, vo.ownBlock = some g → vr.ownBlock ≠ some g) ∧ Fr [] w1 wr) (fun _ _ vi _ => n - (intOf vi).toNat)
  case atStart => exact ⟨0, [], [], rfl, by omega, by simp [Hid], by simp [Hid], KeptMs.nil _ _, KeptMs.nil _ _, by simp [Value.ownBlock], Fr.refl _ _⟩
  case round =>
    obtain ⟨k, os, rs, rfl, hk, HO, HS, hko, hkr, hne, hfr⟩ := hrel
    obtain ⟨x0, x1, x2⟩ := (HB.out.1.fr hfr (by simp)).three
    by_cases hlt : k < n
    · obtain ⟨g, o, rfl, c0, c1, c2', c3, c4⟩ := (HR.out.fr hfr (by simp)).msg HL.out hlt
      have hkl : k < ms.length := by rw [HL.out]; exact hlt
      have hto := take_filter_succ (fun x : Msg × Value => isLate t x.1) hkl
      have htr := take_filter_succ (fun x : Msg × Value => !isLate t x.1) hkl
      obtain ⟨mk, hmk⟩ : ∃ x, ms[k] = x := ⟨_, rfl⟩
      rw [hmk] at c0 c1 c2' c3 c4 hto htr
      have hwk := HWO.out mk (by rw [← hmk]; exact List.getElem_mem hkl)
      have HTO := Lib.hid hto
      have HTR := Lib.hid htr
      clear hmk hto htr
      obtain ⟨⟨zs, l, st, la, sq⟩, mv⟩ := mk
      simp only at c0 c1 c2' c3 c4 hwk
      obtain ⟨A3, cc3, rfl, _⟩ := hwk.1
      clear hwk
      have hol : os.length ≤ n := by rw [HO.out]; exact Nat.le_trans (List.length_filter_le _ _) (by simp; omega)
      have hrl : rs.length ≤ n := by rw [HS.out]; exact Nat.le_trans (List.length_filter_le _ _) (by simp; omega)
      have HKO := Lib.hid hko
      have HKR := Lib.hid hkr
      have HNE := Lib.hid hne
      have HCC := Lib.hid (And.intro c0 (And.intro c1 (And.intro c2' (And.intro c3 c4))))
      have hcall := reflate_any ⟨zs, l, st, la, sq⟩ (.slice A3 zs.length cc3) t wr
      simp only [Msg.val] at hcall
      clear hko hkr hne
      by_cases hlate : isLate t ⟨zs, l, st, la, sq⟩ = true
      · have HLT := Lib.hid hlate
        rw [HLT.out] at hcall
        clear hlate
        go_wp2_with fail
        refine hcall.mono ?_
        rintro e w2 ⟨rfl, hf2⟩
        have HF2 := Lib.hid hf2
        obtain ⟨x0, x1, x2⟩ := (HB.out.1.fr (hfr.trans' hf2) (by simp)).three
        have d0 := hf2.cell0 HCC.out.1
        have d1 := hf2.cell0 HCC.out.2.1
        have d2 := hf2.cell0 HCC.out.2.2.1
        have d3 := hf2.cell0 HCC.out.2.2.2.1
        have d4 := hf2.cell0 HCC.out.2.2.2.2
        clear hcall hf2
        go_wp2_with (at_builtin; refine wpList_app _ rfl msg_elem _ _ rfl u7 os.length (mrow os) (by rfl) (((HKO.out.fr0 HF2.out).fr0 ((Fr.refl _ _).alloc _)).own) [] (.slice (some ⟨w2.heap.size, 0, none⟩) 1 1) 1 (Msg.cells ⟨zs, l, st, la, sq⟩ (.slice A3 zs.length cc3)) (by rfl) (rd_built w2 ⟨zs, l, st, la, sq⟩ _) (mcells_one _ rfl) (by omega) (by simp only [maxLen]; omega) ?_; intro v1 w3 hown hfa hat)
        have hsz := hfr.size
        have hsz2 := HF2.out.size
        obtain ⟨k1, k2, k3⟩ := kept_push ((HKO.out.fr0 HF2.out).fr0 ((Fr.refl _ _).alloc _)) ((HKR.out.fr0 HF2.out).fr0 ((Fr.refl _ _).alloc _)) HNE.out (by simp; omega) hown (by omega) hfa hat
        have hfr3 : Fr [] w1 w3 := by
          refine ((hfr.trans' HF2.out).alloc _).trans hfa ?_
          intro x hx hlt
          simp at hx
          have := HKO.out.new x hx
          omega
        go_roundw
        case rel =>
          refine ⟨k + 1, os ++ [(⟨zs, l, st, la, sq⟩, .slice A3 zs.length cc3)], rs, by go_num, by omega, ?_, ?_, k1, k2, k3, hfr3⟩
          · have h0 := HTO.out
            simp only [HLT.out, if_true] at h0
            rw [Hid, h0, HO.out]
          · have h0 := HTR.out
            simp only [HLT.out, Bool.not_true, Bool.false_eq_true, if_false, List.append_nil] at h0
            rw [Hid, h0, HS.out]
        case measure => simp [intOf]; omega
      · have hlate0 : isLate t ⟨zs, l, st, la, sq⟩ = false := by simpa using hlate
        have HLT := Lib.hid hlate0
        rw [HLT.out] at hcall
        clear hlate hlate0
        go_wp2_with fail
        refine hcall.mono ?_
        rintro e w2 ⟨rfl, hf2⟩
        have HF2 := Lib.hid hf2
        obtain ⟨x0, x1, x2⟩ := (HB.out.1.fr (hfr.trans' hf2) (by simp)).three
        have d0 := hf2.cell0 HCC.out.1
        have d1 := hf2.cell0 HCC.out.2.1
        have d2 := hf2.cell0 HCC.out.2.2.1
        have d3 := hf2.cell0 HCC.out.2.2.2.1
        have d4 := hf2.cell0 HCC.out.2.2.2.2
        clear hcall hf2
        go_wp2_with (at_builtin; refine wpList_app _ rfl msg_elem _ _ rfl u6 rs.length (mrow rs) (by rfl) (((HKR.out.fr0 HF2.out).fr0 ((Fr.refl _ _).alloc _)).own) [] (.slice (some ⟨w2.heap.size, 0, none⟩) 1 1) 1 (Msg.cells ⟨zs, l, st, la, sq⟩ (.slice A3 zs.length cc3)) (by rfl) (rd_built w2 ⟨zs, l, st, la, sq⟩ _) (mcells_one _ rfl) (by omega) (by simp only [maxLen]; omega) ?_; intro v1 w3 hown hfa hat)
        have hsz := hfr.size
        have hsz2 := HF2.out.size
        obtain ⟨k1, k2, k3⟩ := kept_push ((HKR.out.fr0 HF2.out).fr0 ((Fr.refl _ _).alloc _)) ((HKO.out.fr0 HF2.out).fr0 ((Fr.refl _ _).alloc _)) (fun g hg hx => HNE.out g hx hg) (by simp; omega) hown (by omega) hfa hat
        have hfr3 : Fr [] w1 w3 := by
          refine ((hfr.trans' HF2.out).alloc _).trans hfa ?_
          intro x hx hlt
          simp at hx
          have := HKR.out.new x hx
          omega
        go_roundw
        case rel =>
          refine ⟨k + 1, os, rs ++ [(⟨zs, l, st, la, sq⟩, .slice A3 zs.length cc3)], by go_num, by omega, ?_, ?_, k2, k1, fun g hg hx => k3 g hx hg, hfr3⟩
          · have h0 := HTO.out
            simp only [HLT.out, Bool.false_eq_true, if_false, List.append_nil] at h0
            rw [Hid, h0, HO.out]
          · have h0 := HTR.out
            simp only [HLT.out, Bool.not_false, if_true] at h0
            rw [Hid, h0, HS.out]
        case measure => simp [intOf]; omega
    · have hkn : k = n := by omega
      subst hkn
      have hfull : ms.take k = ms := List.take_of_length_le (by have := HL.out; omega)
      have hos := HO.out
      have hrs := HS.out
      rw [hfull] at hos hrs
      have e1 : os.map (·.1) = (a.sweep t).2 := by rw [hos]; show _ = a.msgs.filter (isLate t); rw [← HMS.out, List.filter_map]; rfl
      have e2 : rs.map (·.1) = (a.sweep t).1.msgs := by rw [hrs]; show _ = a.msgs.filter (fun m => !isLate t m); rw [← HMS.out, List.filter_map]; rfl
      have hmo : ∀ x ∈ os, x ∈ ms := fun x hx => by rw [hos] at hx; exact (List.mem_filter.1 hx).1
      have hmr : ∀ x ∈ rs, x ∈ ms := fun x hx => by rw [hrs] at hx; exact (List.mem_filter.1 hx).1
      obtain ⟨A6, c6, rfl, _⟩ := own_form hkr.own
      obtain ⟨A7, c7, rfl, _⟩ := own_form hko.own
      have hxr := HB.out.1.fr hfr (by simp)
      have hyr := HB.out.2.fr hfr (by simp)
      have fx := hxr.froz 1
      obtain ⟨y0, y1, y2⟩ := hyr.three
      have fy := hyr.froz
      have fin : ∀ W, Fr [w.heap.size, w.heap.size + 1] wr W → RefSweep w W M a t (.returned (.tuple #[.agg #[.int .i64 a.hold, .slice A6 rs.length c6, .slice A a.waits.length c], .slice A7 os.length c7])) := fun W hW => by
        have hsz := HF1.out.size
        have hfW : Fr [] w W := (HF1.out.trans' hfr).trans hW (fun y hy hlt => by simp at hy; omega)
        have hn6 : ∀ g, (Value.slice A6 rs.length c6).ownBlock = some g → g ∉ [w.heap.size, w.heap.size + 1] := fun g hg hx => by have := hkr.new g hg; simp at hx; omega
        have hn7 : ∀ g, (Value.slice A7 os.length c7).ownBlock = some g → g ∉ [w.heap.size, w.heap.size + 1] := fun g hg hx => by have := hko.new g hg; simp at hx; omega
        refine ⟨_, _, _, os, rfl, ⟨⟨rs, e2, ?_, fun x hx => (HWO.out x (hmr x hx)).fr hfW (by simp)⟩, H.out.waits.fr hfW (by simp)⟩, e1, hW.own hko.own hn7, fun g hg => by have := hko.new g hg; omega, fun x hx => (HWO.out x (hmo x hx)).fr hfW (by simp), hfW⟩
        rw [← e2, List.length_map]
        exact Rd.of_own (hW.own hkr.own hn6) (fun g hg hx => by have := hkr.new g hg; have := hM g hx; omega)
      have FIN := Lib.hid fin
      clear hos hrs e1 e2 hmo hmr hxr hyr fin hko hkr hne
      go_wp2
      refine bodyPost_ret (v := .tuple #[.agg #[.int .i64 a.hold, .slice A6 rs.length c6, .slice A a.waits.length c], .slice A7 os.length c7]) ?h1 rfl ?h2
      case h2 =>
        refine FIN.out _ ?_
        iterate 4 refine Fr.setCell ?_ (by simp) _
        exact Fr.refl _ _
      case h1 => simp [results, Try.results25, go_sem, *]
end Go.Proofs.Ytfadadgkgbaohaa
