/-
  The reference of the queue: Put, Ask.
-/
import Derived.Test.YtfadadgkgbaohaaR18
set_option linter.unusedSimpArgs false
set_option linter.unusedVariables false
namespace Go.Proofs.Ytfadadgkgbaohaa
open Go.RowKit
attribute [local go_sem] max_ints min_ints

/-- A row without its first element. -/
theorem Rd.tail {w : World} {k n c g o : Nat} {M : List Nat} {hd tl : List Value} (h : Rd w k M (.slice (some ⟨g, o, none⟩) (n + 1) c) (n + 1) (hd ++ tl)) (hk : hd.length = k) : Rd w k M (.slice (some ⟨g, o + k, none⟩) n (c - 1)) n tl := by
  obtain ⟨A', c', e, hl, h1, h2, h4, h3⟩ := h
  injection e with e1 e2 e3
  subst e1 e3
  refine ⟨_, _, rfl, ?_, by omega, by omega, (fun e => nomatch e), fun hn => ?_⟩
  · rw [List.length_append, hk, Nat.add_mul] at hl; omega
  · obtain ⟨ad, ha, hb, hc⟩ := h3 (by omega)
    injection ha with ha
    subst ha
    refine ⟨_, rfl, hb, fun j u hu => ?_⟩
    have h5 := hc (k + j) u (by rw [List.getElem?_append_right (by omega)]; rw [hk]; simpa using hu)
    have : (⟨g, o, none⟩ : Addr).add (k + j) = (⟨g, o + k, none⟩ : Addr).add j := by by_cases hj : j = 0 <;> by_cases hk0 : k = 0 <;> simp [Addr.add, hj, hk0, Nat.add_assoc]
    rw [← this]; exact h5

/-- What Put of the reference gives. -/
def RefPut (w w' : World) (M : List Nat) (a : AP) (m : Msg) (e : Ending) : Prop :=
  ∃ lv' wv', e = .returned (.tuple #[rval (a.put m).1 lv' wv', .int .i64 (a.put m).2.1, .bool (a.put m).2.2.1, .int .i64 (a.put m).2.2.2]) ∧ RefAt w' M lv' wv' (a.put m).1 ∧ Fr [] w w'

set_option maxHeartbeats 2000000 in
set_option maxRecDepth 100000 in
theorem refput_any (M : List Nat) (lv wv mv : Value) (a : AP) (m : Msg) (w : World) (h : RefAt w M lv wv a) (hM : ∀ x ∈ M, x < w.heap.size) (hmv : WordsAt w M mv m) (hroom : (a.msgs.length : Int) ≤ a.hold ∧ a.hold ≤ 8) (hk : a.waits.length ≤ 1000000) :
    Calls Try.prog 22 #[rval a lv wv, m.val mv] w fun e w' => RefPut w w' M a m e := by
  obtain ⟨A, c, rfl, _⟩ := id h.waits
  obtain ⟨ms, hms, hrl, hwo⟩ := h.msgs
  obtain ⟨A2, c2, rfl, _⟩ := id hrl
  obtain ⟨A3, c3, rfl, _⟩ := id hmv.1
  have hmax := h.waits.max
  have hmax2 := hrl.max
  obtain ⟨hold, msgs, waits⟩ := a
  simp only at hms hrl hmax hmax2 hroom hk
  obtain ⟨w1, hw1⟩ : ∃ y, ((w.alloc (.cells #[.int .i64 hold, .slice A2 msgs.length c2, .slice A waits.length c] 51)).alloc (.cells #[.slice A3 m.words.length c3, .int .i64 m.lane, .int .i64 m.stamp, .int .i64 m.late, .int .i64 m.seq] 29)).alloc (.cells #[.int .i64 0, .slice none 0 0, .slice none 0 0] 51) = y := ⟨_, rfl⟩
  have hf1 : Fr [] w w1 := by rw [← hw1]; exact (((Fr.refl _ _).alloc _).alloc _).alloc _
  have hB1 : Blk w1 w.heap.size 51 #[.int .i64 hold, .slice A2 msgs.length c2, .slice A waits.length c] := by rw [← hw1]; exact ((Blk.new _ _ _).alloc _).alloc _
  have hB2 : Blk w1 (w.heap.size + 1) 29 #[.slice A3 m.words.length c3, .int .i64 m.lane, .int .i64 m.stamp, .int .i64 m.late, .int .i64 m.seq] := by rw [← hw1]; exact (Blk.new' _ _ _ (by simp)).alloc _
  have hB3 : Blk w1 (w.heap.size + 1 + 1) 51 #[.int .i64 0, .slice none 0 0, .slice none 0 0] := by rw [← hw1]; exact Blk.new' _ _ _ (by simp)
  have H := Lib.hid h
  cases waits with
  | cons e r =>
    simp only [List.length_cons] at hw1 hB1
    have hw := h.waits
    obtain ⟨g, o, _, rfl, hgM, c0, c1⟩ := (hw.fr hf1 (by simp)).wait (k := 0) rfl (by simp)
    simp only [Nat.zero_mul, Nat.add_zero, List.getElem_cons_zero] at c0 c1
    obtain ⟨x0, x1, x2⟩ := hB1.three
    obtain ⟨z0, z1, z2⟩ := hB3.three
    have fx := hB1.froz 2
    have fz := hB3.froz
    have hlen : (e :: r).length = r.length + 1 := rfl
    have htl := Rd.tail (hd := [.int .i64 e.1, .int .i64 e.2]) (tl := wrow r) hw rfl
    have hrc : r.length + 1 ≤ c := by
      obtain ⟨A', c', e', hl, h1, h2, _⟩ := hw
      injection e' with e1 e2 e3
      subst e3
      exact h1
    have key : ∀ wv' W, Rd w 2 M wv' r.length (wrow r) → Fr [w.heap.size, w.heap.size + 1 + 1] w1 W → RefPut w W M ⟨hold, msgs, e :: r⟩ m (.returned (.tuple #[.agg #[.int .i64 hold, .slice A2 msgs.length c2, wv'], .int .i64 e.1, .bool true, .int .i64 0])) := by
      intro wv' W hR hW
      have hfW : Fr [] w W := hf1.trans hW (fun x hx hlt => by simp at hx; omega)
      exact ⟨.slice A2 msgs.length c2, wv', rfl, ⟨⟨ms, hms, hrl.fr hfW (by simp), fun x hx => (hwo x hx).fr hfW (by simp)⟩, hR.fr hfW (by simp)⟩, hfW⟩
    have HTL := Lib.hid htl
    have KEY := Lib.hid key
    clear key
    clear htl hw h hms hrl hwo hmv hB1 hB2 hB3
    unfold rval Msg.val
    go_enter Try.func22, Try.ntmps22
    go_wp2
    · have hr0 : r.length = 0 := by omega
      have hr : r = [] := List.length_eq_zero_iff.1 hr0
      refine bodyPost_ret (v := .tuple #[.agg #[.int .i64 hold, .slice A2 msgs.length c2, .slice (some ⟨g, o, none⟩) r.length 0], .int .i64 e.1, .bool true, .int .i64 0]) ?h1 rfl ?h2
      case h2 =>
        refine KEY.out _ _ (by rw [hr]; exact ⟨_, 0, rfl, rfl, Nat.le_refl _, by simp [maxLen], (fun e => nomatch e), fun h => absurd h (by simp)⟩) ?_
        iterate 4 refine Fr.setCell ?_ (by simp) _
        exact Fr.refl _ _
      case h1 => simp [results, Try.results22, go_sem, *]
    · refine bodyPost_ret (v := .tuple #[.agg #[.int .i64 hold, .slice A2 msgs.length c2, .slice (some ⟨g, o + 2, none⟩) r.length (c - 1)], .int .i64 e.1, .bool true, .int .i64 0]) ?h1 rfl ?h2
      case h2 =>
        refine KEY.out _ _ HTL.out ?_
        iterate 4 refine Fr.setCell ?_ (by simp) _
        exact Fr.refl _ _
      case h1 => simp [results, Try.results22, go_sem, *]
  | nil =>
    simp only [List.length_nil] at hw1 hB1
    obtain ⟨x0, x1, x2⟩ := hB1.three
    obtain ⟨y0, y1, y2, y3, y4⟩ := hB2.five
    obtain ⟨z0, z1, z2⟩ := hB3.three
    have fx := hB1.froz 1
    have fz := hB3.froz
    have key : ∀ lv' W (ms' : List Msg), RefAt W M lv' (.slice A 0 c) ⟨hold, ms', []⟩ → Fr [] w W → (AP.put ⟨hold, msgs, []⟩ m).1 = ⟨hold, ms', []⟩ → RefPut w W M ⟨hold, msgs, []⟩ m (.returned (.tuple #[.agg #[.int .i64 hold, lv', .slice A 0 c], .int .i64 (AP.put ⟨hold, msgs, []⟩ m).2.1, .bool (AP.put ⟨hold, msgs, []⟩ m).2.2.1, .int .i64 (AP.put ⟨hold, msgs, []⟩ m).2.2.2])) := by
      intro lv' W ms' hR hW he
      refine ⟨lv', .slice A 0 c, ?_, by rw [he]; exact hR, hW⟩
      rw [he]; rfl
    have KEY := Lib.hid key
    have HB := Lib.hid (And.intro hB1 (And.intro hB2 hB3))
    have HF1 := Lib.hid hf1
    have HML := Lib.hid hrl
    have HMV := Lib.hid hmv
    have hml : ms.length = msgs.length := by rw [← hms]; simp
    have HML2 := Lib.hid hml
    have HMS := Lib.hid hms
    have HWO := Lib.hid hwo
    have hfn : ∀ W, Fr [w.heap.size, w.heap.size + 1 + 1] w1 W → Fr [] w W := fun W hW => hf1.trans hW (fun x hx hlt => by simp at hx; omega)
    have HFN := Lib.hid hfn
    clear key hB1 hB2 hB3 hf1 hrl hmv hml hms hwo hfn h
    by_cases hfull : (msgs.length : Int) = hold
    · have hput : AP.put ⟨hold, msgs, []⟩ m = (⟨hold, msgs, []⟩, 0, false, 10) := by simp [AP.put, hfull]
      have HPUT := Lib.hid hput
      have hge : hold ≤ (msgs.length : Int) := by omega
      have HFU := Lib.hid hfull
      clear hput hfull
      unfold rval Msg.val
      go_enter Try.func22, Try.ntmps22
      go_wp2
      refine bodyPost_ret (v := .tuple #[.agg #[.int .i64 hold, .slice A2 msgs.length c2, .slice A 0 c], .int .i64 0, .bool false, .int .i64 10]) ?h1 rfl ?h2
      case h2 =>
        have hk := KEY.out (.slice A2 msgs.length c2) ?W msgs ?hR (HFN.out ?W ?hF) (by rw [HPUT.out])
        rw [HPUT.out] at hk
        exact hk
        case hF =>
          iterate 3 refine Fr.setCell ?_ (by simp) _
          exact Fr.refl _ _
        case hR =>
          refine H.out.fr (HFN.out _ ?_) (by simp)
          iterate 3 refine Fr.setCell ?_ (by simp) _
          exact Fr.refl _ _
      case h1 => simp [results, Try.results22, go_sem, *]
    · have hput : AP.put ⟨hold, msgs, []⟩ m = (⟨hold, msgs ++ [m], []⟩, 0, false, 0) := by simp [AP.put, hfull]
      have HPUT := Lib.hid hput
      have hge : ¬ hold ≤ (msgs.length : Int) := by omega
      have hm8 : msgs.length ≤ 8 := by omega
      have HFU := Lib.hid hfull
      clear hput hfull
      unfold rval Msg.val
      go_enter Try.func22, Try.ntmps22
      go_wp2_with (at_builtin; first
        | (refine wpList_app _ rfl msg_elem _ _ rfl (.slice none 0 0) 0 [] (by rfl) (World.ownsRow_nil _ _ _ _) [] (.slice A2 msgs.length c2) msgs.length (mrow ms) (by rfl) ((HML.out.fr HF1.out (by simp)).mono (by simp) (by omega)) (mrow_one fun x hx => (HWO.out x hx).one) (by omega) (by simp only [maxLen]; omega) ?_
           intro v2 w2 hown2 hfa2 hat2
           have hf2 : Fr [] w1 w2 := by simpa [Value.ownBlock] using hfa2
           have HF2 := Lib.hid hf2
           have HB2 := Lib.hid (And.intro (HB.out.1.fr hf2 (by simp)) (And.intro (HB.out.2.1.fr hf2 (by simp)) (HB.out.2.2.fr hf2 (by simp))))
           have HN2 := Lib.hid (show ∀ g, v2.ownBlock = some g → w1.heap.size ≤ g from fun g hg => by
             rcases hat2 with h | h
             · rw [h] at hg; simp [Value.ownBlock] at hg
             · rw [h] at hg; injection hg with hg; omega)
           have HO2 := Lib.hid (show w2.ownsRow 0 29 5 v2 msgs.length (mrow ms) by simpa using hown2)
           clear hown2 hfa2 hat2 hf2 x0 x1 x2 y0 y1 y2 y3 y4 z0 z1 z2 fx fz
           obtain ⟨x0, x1, x2⟩ := HB2.out.1.three
           obtain ⟨y0, y1, y2, y3, y4⟩ := HB2.out.2.1.five
           obtain ⟨z0, z1, z2⟩ := HB2.out.2.2.three
           have fx := HB2.out.1.froz 1
           have fz := HB2.out.2.2.froz)
        | (refine wpList_app _ rfl msg_elem _ _ rfl v2 msgs.length (mrow ms) (by rfl) (((Fr.refl [] w2).alloc _).own HO2.out (by simp)) [] (.slice (some ⟨w2.heap.size, 0, none⟩) 1 1) 1 (m.cells (.slice A3 m.words.length c3)) (by rfl) (rd_built w2 m _) (mcells_one _ rfl) (by omega) (by simp only [maxLen]; omega) ?_
           intro v3 w3 hown3 hfa3 hat3
           have hlt3 := HB.out.2.2.lt
           have hnv : ∀ y, y < w1.heap.size → y ∉ v2.ownBlock.toList := fun y hy hx => by simp at hx; have := HN2.out y hx; omega
           have hf3 : Fr v2.ownBlock.toList w2 w3 := ((Fr.refl [] w2).alloc (.cells #[.slice A3 m.words.length c3, .int .i64 m.lane, .int .i64 m.stamp, .int .i64 m.late, .int .i64 m.seq] 29)).of0.trans' hfa3
           have HB3 := Lib.hid (And.intro (HB2.out.1.fr hf3 (hnv _ (by omega))) (HB2.out.2.2.fr hf3 (hnv _ (by omega))))
           have HF13 := Lib.hid (HF2.out.trans hf3 (fun y hy hlt => absurd hy (hnv y hlt)))
           have hn3 : ∀ g, v3.ownBlock = some g → w1.heap.size ≤ g := fun g hg => by
             have hs2 := HF2.out.size
             rcases hat3 with h | h
             · rw [h] at hg; exact HN2.out g hg
             · rw [h] at hg; injection hg with hg; simp at hg; omega
           have HN3 := Lib.hid hn3
           have HO3 := Lib.hid hown3
           obtain ⟨A4, c4, rfl, _⟩ := own_form hown3
           clear hown3 hfa3 hat3 hf3 x0 x1 x2 y0 y1 y2 y3 y4 z0 z1 z2 fx fz hnv hn3
           obtain ⟨x0, x1, x2⟩ := HB3.out.1.three
           obtain ⟨z0, z1, z2⟩ := HB3.out.2.three
           have fx := HB3.out.1.froz 1
           have fz := HB3.out.2.froz))
      have fin : ∀ W, Fr [w.heap.size, w.heap.size + 1 + 1] w3 W → RefPut w W M ⟨hold, msgs, []⟩ m (.returned (.tuple #[.agg #[.int .i64 hold, .slice A4 (msgs.length + 1) c4, .slice A 0 c], .int .i64 0, .bool false, .int .i64 0])) := by
        intro W hW
        have hb3 := HB.out.2.2.lt
        have hfW : Fr [] w W := HFN.out W (HF13.out.of0.trans' hW)
        have hnb : ∀ g, (Value.slice A4 (msgs.length + 1) c4).ownBlock = some g → g ∉ [w.heap.size, w.heap.size + 1 + 1] := fun g hg hx => by
          have := HN3.out g hg
          simp at hx
          omega
        have hR : RefAt W M (.slice A4 (msgs.length + 1) c4) (.slice A 0 c) ⟨hold, msgs ++ [m], []⟩ := by
          refine ⟨⟨ms ++ [(m, .slice A3 m.words.length c3)], by simp [HMS.out], ?_, fun x hx => ?_⟩, H.out.waits.fr hfW (by simp)⟩
          · have h1 := hW.own HO3.out hnb
            have h2 : (msgs ++ [m]).length = msgs.length + 1 := by simp
            rw [h2, mrow_append]
            refine Rd.of_own (by simpa [mrow] using h1) (fun g hg hx => ?_)
            have := HN3.out g hg
            have := hM g hx
            have := HF1.out.size
            omega
          · rcases List.mem_append.1 hx with hx | hx
            · exact (HWO.out x hx).fr hfW (by simp)
            · simp at hx; subst hx; exact HMV.out.fr hfW (by simp)
        have hk := KEY.out (.slice A4 (msgs.length + 1) c4) W (msgs ++ [m]) hR hfW (by rw [HPUT.out])
        rw [HPUT.out] at hk
        exact hk
      refine bodyPost_ret (v := .tuple #[.agg #[.int .i64 hold, .slice A4 (msgs.length + 1) c4, .slice A 0 c], .int .i64 0, .bool false, .int .i64 0]) ?h1 rfl ?h2
      case h2 =>
        refine fin _ ?_
        iterate 4 refine Fr.setCell ?_ (by simp) _
        exact Fr.refl _ _
      case h1 => simp [results, Try.results22, go_sem, *]
end Go.Proofs.Ytfadadgkgbaohaa
