/-
  The contract of (*Port).Sweep: the late messages are handed back in their row, the others stay in theirs.
-/
import Derived.Test.YtfadadgkgbaohaaFlush
import Derived.Test.YtfadadgkgbaohaaRef
set_option linter.unusedSimpArgs false
set_option linter.unusedVariables false
namespace Go.Proofs.Ytfadadgkgbaohaa
open Go.RowKit
attribute [local go_sem] max_ints min_ints

def isLate (now : Int) (m : Msg) : Bool := decide (cut m.late ≤ cut now)

/-- What Sweep gives. -/
def Swept (w w' : World) (p : Nat) (s : PS) (F : List Nat) (now : Int) (e : Ending) : Prop :=
  ∃ v ms, e = .returned v ∧ ms.map (·.1) = s.msgs.filter (isLate now) ∧ MsgsRd w' v ms ∧ Turned w w' p { s with msgs := s.msgs.filter (fun m => !isLate now m) } F

/-- A row that the call has made of messages that stood. -/
structure KeptMs (B : Nat) (w : World) (v : Value) (ms : List (Msg × Value)) : Prop where
  own : w.ownsRow 0 29 5 v ms.length (mrow ms)
  new : ∀ g, v.ownBlock = some g → B ≤ g
theorem KeptMs.nil (B : Nat) (w : World) : KeptMs B w (.slice none 0 0) [] := ⟨World.ownsRow_nil _ _ _ _, by simp [Value.ownBlock]⟩
theorem KeptMs.fr {B : Nat} {w w' : World} {v : Value} {ms : List (Msg × Value)} {F : List Nat} (h : KeptMs B w v ms) (hf : Fr F w w') (hn : ∀ g, v.ownBlock = some g → g ∉ F) : KeptMs B w' v ms := ⟨hf.own h.own hn, h.new⟩
theorem KeptMs.fr0 {B : Nat} {w w' : World} {v : Value} {ms : List (Msg × Value)} (h : KeptMs B w v ms) (hf : Fr [] w w') : KeptMs B w' v ms := h.fr hf (by simp)

/-- One more message in one row, the other as it was. -/
theorem kept_push {B n : Nat} {w w' : World} {v v' u : Value} {ms us : List (Msg × Value)} {m : Msg} {wv : Value} (h : KeptMs B w v ms) (hu : KeptMs B w u us) (hne : ∀ g, v.ownBlock = some g → u.ownBlock ≠ some g) (hB : B ≤ w.heap.size)
    (hown : w'.ownsRow 0 29 5 v' n (mrow ms ++ m.cells wv)) (hn : n = ms.length + 1) (hf : Fr v.ownBlock.toList w w') (hat : v'.ownBlock = v.ownBlock ∨ v'.ownBlock = some w.heap.size) :
    KeptMs B w' v' (ms ++ [(m, wv)]) ∧ KeptMs B w' u us ∧ (∀ g, v'.ownBlock = some g → u.ownBlock ≠ some g) := by
  subst hn
  refine ⟨⟨by rw [mrow_append]; simpa [mrow] using hown, fun g hg => ?_⟩, hu.fr hf (fun g hg hx => ?_), fun g hg hx => ?_⟩
  · rcases hat with h1 | h1
    · exact h.new g (by rw [← h1]; exact hg)
    · rw [h1] at hg; injection hg with hg; omega
  · simp at hx
    exact hne g hx hg
  · rcases hat with h1 | h1
    · exact hne g (by rw [← h1]; exact hg) hx
    · rw [h1] at hg; injection hg with hg
      obtain ⟨c, hc⟩ := own_blk hu.own hx
      have := hc.lt
      omega

theorem take_filter_succ {α : Type} (f : α → Bool) {l : List α} {k : Nat} (hk : k < l.length) : (l.take (k + 1)).filter f = (l.take k).filter f ++ (if f l[k] then [l[k]] else []) := by
  rw [List.take_succ_eq_append_getElem hk, List.filter_append]
  congr 1
  by_cases h : f l[k] <;> simp [h]

set_option maxHeartbeats 2000000 in
set_option maxRecDepth 100000 in
theorem sweep_any (p : Nat) (s : PS) (F : List Nat) (now : Int) (w : World) (h : PortAt w p s F) :
    Calls Try.prog 26 #[.pointer (some ⟨p, 0, none⟩), .int .i64 now] w fun e w' => Swept w w' p s F now e := by
  obtain ⟨wh, mm, lv, rv, ms, hB, hW, hRow, hL, hms, hwo, hp, hwh, hm, hl', hr'⟩ := h.ex
  obtain ⟨b0, b1, b2, b3⟩ := hB.four
  have HY := Lib.hid (And.intro hB (And.intro hW (And.intro hRow (And.intro hL (And.intro hms (And.intro hwo (And.intro hl' hr')))))))
  have hlen : ms.length = s.msgs.length := by rw [← hms]; simp
  have hRd := Rd.of_own (M := []) hL (fun g _ hx => by simp at hx)
  have hroom := h.room
  generalize hn : s.msgs.length = n at *
  obtain ⟨A, c, rfl, _⟩ := own_form hL
  have hmax := hRd.max
  have HR := Lib.hid hRd
  have HL := Lib.hid hlen
  have HN := Lib.hid hn
  have HP := Lib.hid h
  clear hB hW hRow hL hms hwo hl' hr' b0 b1 b3 hRd hlen hn h
  go_enter Try.func26, Try.ntmps26
  go_wp2
  go_loopw [5, 6, 16] (fun vo vr vi wr => ∃ (k : Nat) (os rs : List (Msg × Value)), vi = .int .i64 k ∧ k ≤ n ∧ Hid (os = (ms.take k).filter (fun x => isLate now x.1)) ∧ Hid (rs = (ms.take k).filter (fun x => !isLate now x.1)) ∧
    KeptMs w.heap.size wr vo os ∧ KeptMs w.heap.size wr vr rs ∧ (∀ g, vo.ownBlock = some g → vr.ownBlock ≠ some g) ∧ Fr [] w wr) (fun _ _ vi _ => n - (intOf vi).toNat)
  case atStart => exact ⟨0, [], [], rfl, by omega, by simp [Hid], by simp [Hid], KeptMs.nil _ _, KeptMs.nil _ _, by simp [Value.ownBlock], Fr.refl _ _⟩
  case round =>
    obtain ⟨k, os, rs, rfl, hk, HO, HS, hko, hkr, hne, hfr⟩ := hrel
    by_cases hlt : k < n
    · obtain ⟨g, o, rfl, c0, c1, c2, c3, c4⟩ := (HR.out.fr hfr (by simp)).msg HL.out hlt
      have hkl : k < ms.length := by rw [HL.out]; exact hlt
      have hto := take_filter_succ (fun x : Msg × Value => isLate now x.1) hkl
      have htr := take_filter_succ (fun x : Msg × Value => !isLate now x.1) hkl
      obtain ⟨mk, hmk⟩ : ∃ x, ms[k] = x := ⟨_, rfl⟩
      rw [hmk] at c0 c1 c2 c3 c4 hto htr
      have hwk := HY.out.2.2.2.2.2.1 mk (by rw [← hmk]; exact List.getElem_mem hkl)
      have HTO := Lib.hid hto
      have HTR := Lib.hid htr
      clear hmk hto htr
      obtain ⟨⟨zs, l, st, la, sq⟩, wv⟩ := mk
      simp only at c0 c1 c2 c3 c4 hwk
      obtain ⟨A2, cc2, rfl, _⟩ := hwk.1
      clear hwk
      have hsz := hfr.size
      have hol : os.length ≤ n := by rw [HO.out]; exact Nat.le_trans (List.length_filter_le _ _) (by simp; omega)
      have hrl : rs.length ≤ n := by rw [HS.out]; exact Nat.le_trans (List.length_filter_le _ _) (by simp; omega)
      obtain ⟨w1, hw1⟩ : ∃ x, wr.alloc (.cells #[.slice A2 zs.length cc2, .int .i64 l, .int .i64 st, .int .i64 la, .int .i64 sq] 29) = x := ⟨_, rfl⟩
      have hf1 : Fr [] wr w1 := by rw [← hw1]; exact (Fr.refl _ _).alloc _
      have hfr1 := hfr.trans0 hf1
      have hsz1 := hfr1.size
      have hB1 : Blk w1 wr.heap.size 29 #[.slice A2 zs.length cc2, .int .i64 l, .int .i64 st, .int .i64 la, .int .i64 sq] := by rw [← hw1]; exact Blk.new _ _ _
      obtain ⟨x0, x1, x2, x3, x4⟩ := hB1.five
      have hko := hko.fr0 hf1
      have hkr := hkr.fr0 hf1
      have HKO := Lib.hid hko
      have HKR := Lib.hid hkr
      have HNE := Lib.hid hne
      have HSZ := Lib.hid hsz1
      clear hko hkr hne hsz hsz1 hB1
      by_cases hlate : isLate now ⟨zs, l, st, la, sq⟩ = true
      · have hd : decide (cut la ≤ cut now) = true := hlate
        have HLT := Lib.hid hlate
        clear hlate
        go_wp2_with (first | (go_at_call 34; refine (late_any _ _ _).mono ?_; rintro e w' ⟨rfl, rfl⟩) | (at_builtin; refine wpList_app _ rfl msg_elem _ _ rfl u5 os.length (mrow os) (by rfl) (HKO.out.fr0 ((Fr.refl _ _).alloc _)).own [] (.slice (some ⟨w1.heap.size, 0, none⟩) 1 1) 1 (Msg.cells ⟨zs, l, st, la, sq⟩ (.slice A2 zs.length cc2)) (by rfl) (rd_built w1 ⟨zs, l, st, la, sq⟩ _) (mcells_one _ rfl) (by omega) (by simp only [maxLen]; omega) ?_; intro v1 w3 hown hfa hat))
        obtain ⟨k1, k2, k3⟩ := kept_push (HKO.out.fr0 ((Fr.refl _ _).alloc _)) (HKR.out.fr0 ((Fr.refl _ _).alloc _)) HNE.out (by have := HSZ.out; simp; omega) hown (by omega) hfa hat
        have hfr3 : Fr [] w w3 := by
          refine (hfr1.alloc _).trans hfa ?_
          intro x hx hlt
          simp at hx
          have := HKO.out.new x hx
          omega
        go_roundw
        case rel =>
          refine ⟨k + 1, os ++ [(⟨zs, l, st, la, sq⟩, .slice A2 zs.length cc2)], rs, by go_num, by omega, ?_, ?_, k1, k2, k3, hfr3⟩
          · have h0 := HTO.out
            simp only [HLT.out, if_true] at h0
            rw [Hid, h0, HO.out]
          · have h0 := HTR.out
            simp only [HLT.out, Bool.not_true, Bool.false_eq_true, if_false, List.append_nil] at h0
            rw [Hid, h0, HS.out]
        case measure => simp [intOf]; omega
      · have hlate0 : isLate now ⟨zs, l, st, la, sq⟩ = false := by simpa using hlate
        have hd : decide (cut la ≤ cut now) = false := hlate0
        have HLT := Lib.hid hlate0
        clear hlate hlate0
        go_wp2_with (first | (go_at_call 34; refine (late_any _ _ _).mono ?_; rintro e w' ⟨rfl, rfl⟩) | (at_builtin; refine wpList_app _ rfl msg_elem _ _ rfl u6 rs.length (mrow rs) (by rfl) (HKR.out.fr0 ((Fr.refl _ _).alloc _)).own [] (.slice (some ⟨w1.heap.size, 0, none⟩) 1 1) 1 (Msg.cells ⟨zs, l, st, la, sq⟩ (.slice A2 zs.length cc2)) (by rfl) (rd_built w1 ⟨zs, l, st, la, sq⟩ _) (mcells_one _ rfl) (by omega) (by simp only [maxLen]; omega) ?_; intro v1 w3 hown hfa hat))
        obtain ⟨k1, k2, k3⟩ := kept_push (HKR.out.fr0 ((Fr.refl _ _).alloc _)) (HKO.out.fr0 ((Fr.refl _ _).alloc _)) (fun g hg hx => HNE.out g hx hg) (by have := HSZ.out; simp; omega) hown (by omega) hfa hat
        have hfr3 : Fr [] w w3 := by
          refine (hfr1.alloc _).trans hfa ?_
          intro x hx hlt
          simp at hx
          have := HKR.out.new x hx
          omega
        go_roundw
        case rel =>
          refine ⟨k + 1, os, rs ++ [(⟨zs, l, st, la, sq⟩, .slice A2 zs.length cc2)], by go_num, by omega, ?_, ?_, k2, k1, fun g hg hx => k3 g hx hg, hfr3⟩
          · have h0 := HTO.out
            simp only [HLT.out, Bool.false_eq_true, if_false, List.append_nil] at h0
            rw [Hid, h0, HO.out]
          · have h0 := HTR.out
            simp only [HLT.out, Bool.not_false, if_true] at h0
            rw [Hid, h0, HS.out]
        case measure => simp [intOf]; omega
    · have hkn : k = n := by omega
      subst hkn
      obtain ⟨hB, hW, hRow, hL, hms, hwo, hl', hr'⟩ := HY.out
      have hfull : ms.take k = ms := List.take_of_length_le (by have := HL.out; omega)
      have hos := HO.out
      have hrs := HS.out
      rw [hfull] at hos hrs
      have e1 : os.map (·.1) = s.msgs.filter (isLate now) := by rw [hos, ← hms, List.filter_map]; rfl
      have e2 : rs.map (·.1) = s.msgs.filter (fun m => !isLate now m) := by rw [hrs, ← hms, List.filter_map]; rfl
      have hrn : rs.length = (s.msgs.filter (fun m => !isLate now m)).length := by rw [← e2]; simp
      have hrl : rs.length ≤ s.msgs.length := by rw [hrn]; exact List.length_filter_le _ _
      have hmo : ∀ x ∈ os, x ∈ ms := fun x hx => by rw [hos] at hx; exact (List.mem_filter.1 hx).1
      have hmr : ∀ x ∈ rs, x ∈ ms := fun x hx => by rw [hrs] at hx; exact (List.mem_filter.1 hx).1
      obtain ⟨A6, c6, rfl, _⟩ := own_form hkr.own
      have hks : Fr [p] wr (wr.setCell ⟨p, 2, none⟩ (.slice A6 rs.length c6)) := Fr.set p 2 _
      have hfW : Fr [p] w (wr.setCell ⟨p, 2, none⟩ (.slice A6 rs.length c6)) := hfr.of0.trans' hks
      have hpn : ∀ g, (Value.slice A6 rs.length c6).ownBlock = some g → g ∉ [p] := fun g hg hx => by simp at hx; have := hkr.new g hg; have := HP.out.lt p hp; omega
      have hpo : ∀ g, u5.ownBlock = some g → g ∉ [p] := fun g hg hx => by simp at hx; have := hko.new g hg; have := HP.out.lt p hp; omega
      have hmono : ∀ x ∈ ms, WordsAt (wr.setCell ⟨p, 2, none⟩ (.slice A6 rs.length c6)) (((Value.slice A6 rs.length c6).ownBlock.toList ++ F) ++ s.ext) x.2 x.1 := fun x hx => by
        refine ((hwo x hx).mono (M' := ((Value.slice A6 rs.length c6).ownBlock.toList ++ F) ++ s.ext) (fun y hy hlt => ?_)).fr hfW (fun y hy _ => ?_)
        · rw [List.append_assoc] at hy
          rcases List.mem_append.1 hy with hy | hy
          · have := hkr.new y (by simpa using hy); omega
          · exact hy
        · simp at hy; subst hy; exact List.mem_append_left _ (List.mem_append_right _ hp)
      have hst := msgs_step (F := F) (w := w) (W := wr.setCell ⟨p, 2, none⟩ (.slice A6 rs.length c6)) (v4 := .slice A6 rs.length c6) (ms' := rs) (rest := s.msgs.filter (fun m => !isLate now m)) (s := s)
        HP.out.lt HP.out.elt (by have := HN.out; rw [← hrn]; omega) hB hW hRow e2 hp hwh hm hr' hfW ((hB.fr hfr (by simp)).set_ 2 _)
        (by rw [← hrn]; exact hks.own hkr.own hpn) (fun g hg => .inr (hkr.new g hg)) (fun x hx => hmono x (hmr x hx))
      have hout : MsgsRd (wr.setCell ⟨p, 2, none⟩ (.slice A6 rs.length c6)) u5 os := ⟨Rd.of_own (hks.own hko.own hpo) (fun g _ hx => by simp at hx), fun x hx => (hmono x (hmo x hx)).mono (by simp)⟩
      have hBr := (hB.fr hfr (by simp))
      obtain ⟨y0, y1, y2, y3⟩ := hBr.four
      have df := hBr.froz 2
      have hfin : Swept w (wr.setCell ⟨p, 2, none⟩ (.slice A6 rs.length c6)) p s F now (.returned u5) := ⟨u5, os, rfl, e1, hout, _, hst.1, hst.2.1, fun x hx => List.mem_append_right _ hx, hst.2.2⟩
      have HFIN := Lib.hid hfin
      clear hB hW hRow hL hms hwo hl' hr' hos hrs e1 e2 hrn hrl hmo hmr hks hfW hpn hpo hmono hst hout hfin hBr
      go_wp2
      go_ret
      exact HFIN.out
end Go.Proofs.Ytfadadgkgbaohaa
