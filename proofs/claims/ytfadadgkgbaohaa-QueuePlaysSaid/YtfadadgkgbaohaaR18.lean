/-
  The reference of the queue: Cut, Late, New, Waits, Waiting; its state as it lies in memory.
-/
import Derived.Test.YtfadadgkgbaohaaPA
import Derived.Test.YtfadadgkgbaohaaL4
set_option linter.unusedSimpArgs false
set_option linter.unusedVariables false
namespace Go.Proofs.Ytfadadgkgbaohaa
open Go.RowKit
attribute [local go_sem] max_ints min_ints

set_option maxHeartbeats 400000 in
theorem refcut_any (n : Int) (w : World) : Calls Try.prog 38 #[.int .i64 n] w fun e w' => e = .returned (.int .i64 (cut n)) ∧ w = w' := by
  go_enter Try.func38, Try.ntmps38
  go_wp2
  all_goals go_ret
  all_goals refine ⟨ret_int ?_, rfl⟩
  all_goals (unfold cut; omega)

set_option maxHeartbeats 1000000 in
set_option maxRecDepth 100000 in
theorem reflate_any (m : Msg) (wv : Value) (t : Int) (w : World) : Calls Try.prog 39 #[m.val wv, .int .i64 t] w fun e w' => e = .returned (.bool (isLate t m)) ∧ Fr [] w w' := by
  obtain ⟨w1, hw1⟩ : ∃ x, w.alloc (.cells #[wv, .int .i64 m.lane, .int .i64 m.stamp, .int .i64 m.late, .int .i64 m.seq] 29) = x := ⟨_, rfl⟩
  have hf1 : Fr [] w w1 := by rw [← hw1]; exact (Fr.refl _ _).alloc _
  have hB1 : Blk w1 w.heap.size 29 #[wv, .int .i64 m.lane, .int .i64 m.stamp, .int .i64 m.late, .int .i64 m.seq] := by rw [← hw1]; exact Blk.new _ _ _
  have q3 : ∀ W, Fr [] w1 W → W.cell? ⟨w.heap.size, 3, none⟩ = some (.int .i64 m.late) := fun W hW => hW.cell0 (hB1.cell 3)
  clear hB1
  unfold Msg.val
  go_enter Try.func39, Try.ntmps39
  go_wp2_with fail
  refine wp_sched 6 [(0, 0), (2, 0), (3, 0), (1, 1), (4, 1), (5, 0), (6, 2)] (fun W => Fr [] w1 W) (by kernel_rfl) (by kernel_rfl) (fun _ _ _ _ _ h => h) ((Fr.refl [] w1).drew) ?_
  iterate 3
    refine at_read (v := ?_) rfl (by first | rfl | kernel_rfl) ?_ ?_
    rotate_left
    · intro W hW
      go_simp
      try with_reducible rfl
    simp only [Act.put, List.setIfInBounds_toArray, List.set_cons_zero, List.set_cons_succ]
  refine at_eff rfl (fun K hK => ?_)
  go_simp
  refine (refcut_any _ _).mono ?_
  rintro e w2 ⟨rfl, rfl⟩
  go_simp
  refine hK _ _ ((Fr.refl [] w1).drew) ?_
  clear hK K
  try simp only [Act.put, List.setIfInBounds_toArray, List.set_cons_zero, List.set_cons_succ]
  refine at_eff rfl (fun K hK => ?_)
  go_simp
  refine (refcut_any _ _).mono ?_
  rintro e w2 ⟨rfl, rfl⟩
  go_simp
  refine hK _ _ ((Fr.refl [] w1).drew) ?_
  clear hK K
  try simp only [Act.put, List.setIfInBounds_toArray, List.set_cons_zero, List.set_cons_succ]
  iterate 1
    refine at_read (v := ?_) rfl (by first | rfl | kernel_rfl) ?_ ?_
    rotate_left
    · intro W hW
      go_simp
      try with_reducible rfl
    simp only [Act.put, List.setIfInBounds_toArray, List.set_cons_zero, List.set_cons_succ]
  refine at_last rfl (fun K hK => ?_)
  go_simp
  refine hK _ _ ?_
  clear hK K
  try simp only [Act.put, List.setIfInBounds_toArray, List.set_cons_zero, List.set_cons_succ]
  refine sched_nil ?_
  go_wp2
  refine bodyPost_ret (v := .bool (isLate t m)) ?h1 rfl ?h2
  case h2 => exact ⟨rfl, hf1.drew⟩
  case h1 => simp [results, Try.results39, go_sem, isLate]

/-- Who waits, until when, as the reference's row. -/
def wrow (l : List (Int × Int)) : List Value := l.flatMap fun x => [.int .i64 x.1, .int .i64 x.2]
theorem wrow_length (l : List (Int × Int)) : (wrow l).length = l.length * 2 := by
  unfold wrow
  induction l with
  | nil => rfl
  | cons a r ih => simp only [List.flatMap_cons, List.length_append, ih, List.length_cons, List.length_nil]; omega
theorem wrow_cons (a : Int × Int) (r : List (Int × Int)) : wrow (a :: r) = [.int .i64 a.1, .int .i64 a.2] ++ wrow r := rfl
theorem wrow_append (a b : List (Int × Int)) : wrow (a ++ b) = wrow a ++ wrow b := by simp [wrow]
theorem wrow_at {l : List (Int × Int)} {k : Nat} (hk : k < l.length) {j : Nat} (hj : j < 2) : (wrow l)[k * 2 + j]? = ([.int .i64 (l[k]).1, .int .i64 (l[k]).2] : List Value)[j]? := by
  induction l generalizing k with
  | nil => simp at hk
  | cons a r ih =>
    rw [wrow_cons]
    cases k with
    | zero => rw [List.getElem?_append_left (by simp; omega)]; simp
    | succ k =>
      rw [List.getElem?_append_right (by simp; omega)]
      have : (k + 1) * 2 + j - ([.int .i64 a.1, .int .i64 a.2] : List Value).length = k * 2 + j := by simp; omega
      rw [this]
      exact ih (by simpa using hk)
theorem Rd.wait {w : World} {M : List Nat} {A : Option Addr} {n c : Nat} {l : List (Int × Int)} (h : Rd w 2 M (.slice A n c) n (wrow l)) (hn : l.length = n) {k : Nat} (hk : k < n) :
    ∃ g o, ∃ hl : k < l.length, A = some ⟨g, o, none⟩ ∧ g ∉ M ∧ w.cell? ⟨g, o + k * 2, none⟩ = some (.int .i64 (l[k]).1) ∧ w.cell? ⟨g, o + k * 2 + 1, none⟩ = some (.int .i64 (l[k]).2) := by
  obtain ⟨A', c', e, hl, h1, h2, h4, h3⟩ := h
  obtain ⟨ad, rfl, hb, hc⟩ := h3 (by omega)
  injection e with e1 e2 e3
  have hk' : k < l.length := by omega
  have f : ∀ j u, j < 2 → ([.int .i64 (l[k]).1, .int .i64 (l[k]).2] : List Value)[j]? = some u → w.cell? (ad.add (k * 2 + j)) = some u := fun j u hj hu => hc _ _ (by rw [wrow_at hk' hj]; exact hu)
  have hs : ad.spot = none := by
    have hk0 : 0 < l.length := by omega
    have h0 := hc 0 (.int .i64 (l[0]).1) (by have := wrow_at hk0 (j := 0) (by omega); simpa using this)
    rw [add_zero_] at h0
    unfold World.cell? at h0
    cases hsp : ad.spot with
    | none => rfl
    | some x =>
      rw [hsp] at h0
      split at h0 <;> simp at h0
  obtain ⟨g, o, sp⟩ := ad
  simp only at hs
  subst hs
  have hadd : ∀ j, (⟨g, o, none⟩ : Addr).add j = ⟨g, o + j, none⟩ := fun j => by unfold Addr.add; split <;> simp_all
  simp only [hadd] at f
  exact ⟨g, o, hk', e1, hb, f 0 _ (by omega) rfl, f 1 _ (by omega) rfl⟩

/-- The reference's state, as it lies: its rows, and its messages' words, apart from M. -/
structure RefAt (w : World) (M : List Nat) (lv wv : Value) (a : AP) : Prop where
  msgs : ∃ ms : List (Msg × Value), ms.map (·.1) = a.msgs ∧ Rd w 5 M lv a.msgs.length (mrow ms) ∧ ∀ x ∈ ms, WordsAt w M x.2 x.1
  waits : Rd w 2 M wv a.waits.length (wrow a.waits)
def rval (a : AP) (lv wv : Value) : Value := .agg #[.int .i64 a.hold, lv, wv]

theorem RefAt.fr {w w' : World} {F M : List Nat} {lv wv : Value} {a : AP} (h : RefAt w M lv wv a) (hf : Fr F w w') (hs : ∀ x ∈ F, x < w.heap.size → x ∈ M) : RefAt w' M lv wv a := by
  obtain ⟨⟨ms, h1, h2, h3⟩, h4⟩ := h
  exact ⟨⟨ms, h1, h2.fr hf hs, fun x hx => (h3 x hx).fr hf hs⟩, h4.fr hf hs⟩
theorem RefAt.mono {w : World} {M M' : List Nat} {lv wv : Value} {a : AP} (h : RefAt w M lv wv a) (hs : ∀ x ∈ M', x < w.heap.size → x ∈ M) : RefAt w M' lv wv a := by
  obtain ⟨⟨ms, h1, h2, h3⟩, h4⟩ := h
  exact ⟨⟨ms, h1, h2.mono hs (by omega), fun x hx => (h3 x hx).mono hs⟩, h4.mono hs (by omega)⟩
theorem RefAt.none (w : World) (M : List Nat) (hold : Int) : RefAt w M (.slice none 0 0) (.slice none 0 0) ⟨hold, [], []⟩ := ⟨⟨[], rfl, Rd.nil _ _ _, by simp⟩, Rd.nil _ _ _⟩

theorem Blk.three {w : World} {b : Nat} {t : TypeId} {v0 v1 v2 : Value} (h : Blk w b t #[v0, v1, v2]) : w.cell? ⟨b, 0, none⟩ = some v0 ∧ w.cell? ⟨b, 1, none⟩ = some v1 ∧ w.cell? ⟨b, 2, none⟩ = some v2 := ⟨h.cell 0, h.cell 1, h.cell 2⟩

set_option maxHeartbeats 400000 in
theorem refnew_any (hold : Int) (w : World) : Calls Try.prog 21 #[.int .i64 hold] w fun e w' => e = .returned (rval (AP.new hold) (.slice none 0 0) (.slice none 0 0)) ∧ Fr [] w w' := by
  go_enter Try.func21, Try.ntmps21
  go_wp2
  refine bodyPost_ret (v := rval (AP.new hold) (.slice none 0 0) (.slice none 0 0)) ?h1 rfl ?h2
  case h2 => exact ⟨rfl, (Fr.refl _ _).alloc _⟩
  case h1 =>
    have hB := Blk.new w 51 #[.int .i64 (min (max hold 1) 8), .slice none 0 0, .slice none 0 0]
    obtain ⟨c0, c1, c2⟩ := hB.three
    simp [results, Try.results21, go_sem, rval, AP.new, *]

set_option maxHeartbeats 1000000 in
set_option maxRecDepth 100000 in
theorem refwaits_any (M : List Nat) (lv wv : Value) (a : AP) (x : Int) (w : World) (h : RefAt w M lv wv a) : Calls Try.prog 29 #[rval a lv wv, .int .i64 x] w fun e w' => e = .returned (.bool (a.who.contains x)) ∧ Fr [] w w' := by
  obtain ⟨A, c, rfl, _⟩ := id h.waits
  obtain ⟨w1, hw1⟩ : ∃ y, w.alloc (.cells #[.int .i64 a.hold, lv, .slice A a.waits.length c] 51) = y := ⟨_, rfl⟩
  have hf1 : Fr [] w w1 := by rw [← hw1]; exact (Fr.refl _ _).alloc _
  have hB1 : Blk w1 w.heap.size 51 #[.int .i64 a.hold, lv, .slice A a.waits.length c] := by rw [← hw1]; exact Blk.new _ _ _
  obtain ⟨x0, x1, x2⟩ := hB1.three
  have hR := h.waits.fr hf1 (by simp)
  have hmax := hR.max
  have HR := Lib.hid hR
  have hrd := fun k (hk : k < a.waits.length) => hR.wait rfl hk
  have HRD := Lib.hid hrd
  clear hR h hB1 hrd
  unfold rval
  go_enter Try.func29, Try.ntmps29
  go_wp2_with fail
  go_loop [5] (fun vi => ∃ k : Nat, vi = .int .i64 k ∧ k ≤ a.waits.length ∧ Hid (∀ j (hj : j < k) (hl : j < a.waits.length), ¬ x = (a.waits[j]).1)) (fun vi => a.waits.length - (intOf vi).toNat)
  case atStart => exact ⟨0, rfl, by omega, fun j hj => by omega⟩
  case round =>
    obtain ⟨k, rfl, hk, hno⟩ := hrel
    by_cases hlt : k < a.waits.length
    · obtain ⟨g, o, hl, rfl, _, c0, c1⟩ := HRD.out k hlt
      generalize hz : (a.waits[k]).1 = z at c0
      have HZ := Lib.hid hz
      clear c1 hz
      by_cases he : z = x
      · have HE := Lib.hid he
        have hb : (z == x) = true := by simpa using he
        clear he
        go_wp2
        go_ret
        refine ⟨ret_bool ?_, hf1⟩
        symm
        simp only [List.contains_eq_mem, decide_eq_true_eq]
        exact List.mem_map.2 ⟨a.waits[k], List.getElem_mem hl, HZ.out.trans HE.out⟩
      · have HE := Lib.hid he
        have hb : (z == x) = false := by simpa using he
        clear he
        go_wp2
        go_round
        case rel =>
          refine ⟨k + 1, by go_num, by omega, fun j hj hjl => ?_⟩
          by_cases hjk : j = k
          · subst hjk; rw [HZ.out]; exact fun h => HE.out h.symm
          · exact hno j (by omega) hjl
        case measure => simp [intOf]; omega
    · have hkn : k = a.waits.length := by omega
      subst hkn
      go_wp2
      go_ret
      refine ⟨ret_bool ?_, hf1⟩
      symm
      simp only [List.contains_eq_mem, decide_eq_false_iff_not]
      intro hx
      obtain ⟨y, hy, hyx⟩ := List.mem_map.1 hx
      obtain ⟨j, hj, rfl⟩ := List.getElem_of_mem hy
      exact hno j (by omega) hj hyx.symm

theorem rd_built_i (w : World) (x : Int) : Rd (w.alloc (.cells #[.int .i64 x] 3)) 1 [] (.slice (some ⟨w.heap.size, 0, none⟩) 1 1) 1 (ints [x]) := by
  refine ⟨_, 1, rfl, by simp [ints], Nat.le_refl _, by simp [maxLen], (fun e => nomatch e), fun _ => ⟨_, rfl, by simp, fun j u hu => ?_⟩⟩
  rw [add_head, (Blk.new w _ _).cell]
  simpa [ints] using hu

/-- One more number in a row that is new since w, seen from outside. -/
theorem int_push {w wr w4 : World} {u v1 : Value} {zs : List Int} {x : Int} (hown : wr.ownsRow 0 3 1 u zs.length (ints zs)) (hnw : NewFrom w.heap.size u) (hfr : Fr [] w wr)
    (hown4 : w4.ownsRow 0 3 1 v1 (zs.length + 1) (ints zs ++ ints [x])) (hfa : Fr u.ownBlock.toList (wr.alloc (.cells #[.int .i64 x] 3)) w4) (hat : v1.ownBlock = u.ownBlock ∨ v1.ownBlock = some (wr.alloc (.cells #[.int .i64 x] 3)).heap.size) :
    w4.ownsRow 0 3 1 v1 (zs ++ [x]).length (ints (zs ++ [x])) ∧ NewFrom w.heap.size v1 ∧ Fr [] w w4 := by
  have hs := hfr.size
  refine ⟨by simpa [ints] using hown4, fun g hg => ?_, (hfr.alloc _).trans hfa (fun y hy hlt => ?_)⟩
  · rcases hat with h1 | h1
    · exact hnw g (by rw [← h1]; exact hg)
    · rw [h1] at hg; injection hg with hg; simp at hg; omega
  · simp at hy; have := hnw y hy; omega

set_option maxHeartbeats 1000000 in
set_option maxRecDepth 100000 in
theorem refwaiting_any (M : List Nat) (lv wv : Value) (a : AP) (w : World) (h : RefAt w M lv wv a) (hk : a.waits.length ≤ 1000000) : Calls Try.prog 27 #[rval a lv wv] w fun e w' => (∃ v, e = .returned v ∧ w'.ownsRow 0 3 1 v a.who.length (ints a.who) ∧ NewFrom w.heap.size v) ∧ Fr [] w w' := by
  obtain ⟨A, c, rfl, _⟩ := id h.waits
  obtain ⟨w1, hw1⟩ : ∃ y, w.alloc (.cells #[.int .i64 a.hold, lv, .slice A a.waits.length c] 51) = y := ⟨_, rfl⟩
  have hf1 : Fr [] w w1 := by rw [← hw1]; exact (Fr.refl _ _).alloc _
  have hB1 : Blk w1 w.heap.size 51 #[.int .i64 a.hold, lv, .slice A a.waits.length c] := by rw [← hw1]; exact Blk.new _ _ _
  have hsz1 : w.heap.size < w1.heap.size := hB1.lt
  have hR := h.waits.fr hf1 (by simp)
  have hmax := hR.max
  have HRD := Lib.hid hR
  have HB := Lib.hid hB1
  have HF1 := Lib.hid hf1
  clear hR h hB1 hf1
  unfold rval
  go_enter Try.func27, Try.ntmps27
  go_wp2_with fail
  go_loopw [3, 4] (fun vo vi wr => ∃ k : Nat, vi = .int .i64 k ∧ k ≤ a.waits.length ∧ wr.ownsRow 0 3 1 vo (a.who.take k).length (ints (a.who.take k)) ∧ NewFrom w1.heap.size vo ∧ Fr [] w1 wr) (fun _ vi _ => a.waits.length - (intOf vi).toNat)
  case atStart => exact ⟨0, rfl, by omega, World.ownsRow_nil _ _ _ _, by simp [NewFrom, Value.ownBlock], Fr.refl _ _⟩
  case round =>
    obtain ⟨k, rfl, hk', hown, hnw, hfr⟩ := hrel
    obtain ⟨y0, y1, y2⟩ := (HB.out.fr hfr (by simp)).three
    by_cases hlt : k < a.waits.length
    · obtain ⟨g, o, hl, rfl, _, c0, c1⟩ := (HRD.out.fr hfr (by simp)).wait rfl hlt
      have hsucc : a.who.take (k + 1) = a.who.take k ++ [(a.waits[k]).1] := by
        unfold AP.who
        rw [List.take_succ_eq_append_getElem (by simpa using hl)]
        simp
      generalize (a.waits[k]).1 = z at c0 hsucc
      have HSU := Lib.hid hsucc
      have HO := Lib.hid hown
      have HNW := Lib.hid hnw
      have htl : (a.who.take k).length ≤ 1000000 := by simp; omega
      clear c1 hsucc hown hnw
      go_wp2_with (at_builtin; refine wpList_app _ rfl int_elem _ _ rfl u3 (a.who.take k).length (ints (a.who.take k)) (by rfl) (((Fr.refl [] wr).alloc _).own HO.out (by simp)) [] (.slice (some ⟨wr.heap.size, 0, none⟩) 1 1) 1 (ints [z]) (by rfl) (rd_built_i wr z) (ints_one _) (by omega) (by simp only [maxLen]; omega) ?_; intro v1 w4 hown4 hfa hat)
      obtain ⟨k1, k2, k3⟩ := int_push HO.out HNW.out hfr hown4 hfa hat
      go_roundw
      case rel => exact ⟨k + 1, by go_num, by omega, by rw [HSU.out]; exact k1, k2, k3⟩
      case measure => simp [intOf]; omega
    · have hkn : k = a.waits.length := by omega
      subst hkn
      have hfull : a.who.take a.waits.length = a.who := List.take_of_length_le (by simp [AP.who])
      rw [hfull] at hown
      have HO := Lib.hid hown
      have HNW := Lib.hid hnw
      clear hown hnw hfull
      go_wp2
      go_ret
      exact ⟨⟨_, rfl, HO.out, fun g hg => by have := HNW.out g hg; omega⟩, HF1.out.trans' hfr⟩
end Go.Proofs.Ytfadadgkgbaohaa
