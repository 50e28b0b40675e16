/-
  QueueFlushes, walked.
-/
import Derived.Test.YtfadadgkgbaohaaKind
set_option linter.unusedSimpArgs false
set_option linter.unusedVariables false
namespace Go.Proofs.Ytfadadgkgbaohaa
open Go.RowKit
attribute [local go_sem] max_ints min_ints

/-- The nine cells of a step where it lies in a row. -/
theorem step_cells {w : World} {g o k : Nat} {s : Stp} {wv : Value} (h : ∀ W, Fr [] w W → ∀ j u, (s.cells wv)[j]? = some u → W.cell? ⟨g, o + (k * 9 + j), none⟩ = some u) (W : World) (hW : Fr [] w W) :
    W.cell? ⟨g, o + k * 9, none⟩ = some (.int .i64 s.kind) ∧ W.cell? ⟨g, o + k * 9 + 1, none⟩ = some (.int .i64 s.proc) ∧ W.cell? ⟨g, o + k * 9 + 2, none⟩ = some (.int .i64 s.till) ∧ W.cell? ⟨g, o + k * 9 + 3, none⟩ = some (.int .i64 s.now) ∧ W.cell? ⟨g, o + k * 9 + 4, none⟩ = some wv ∧
      W.cell? ⟨g, o + k * 9 + 5, none⟩ = some (.int .i64 s.m.lane) ∧ W.cell? ⟨g, o + k * 9 + 6, none⟩ = some (.int .i64 s.m.stamp) ∧ W.cell? ⟨g, o + k * 9 + 7, none⟩ = some (.int .i64 s.m.late) ∧ W.cell? ⟨g, o + k * 9 + 8, none⟩ = some (.int .i64 s.m.seq) := by
  have f := h W hW
  simp only [← Nat.add_assoc] at f
  exact ⟨f 0 _ rfl, f 1 _ rfl, f 2 _ rfl, f 3 _ rfl, f 4 _ rfl, f 5 _ rfl, f 6 _ rfl, f 7 _ rfl, f 8 _ rfl⟩

theorem Blk.nine {w : World} {b : Nat} {t : TypeId} {v0 v1 v2 v3 v4 v5 v6 v7 v8 : Value} (h : Blk w b t #[v0, v1, v2, v3, v4, v5, v6, v7, v8]) :
    w.cell? ⟨b, 0, none⟩ = some v0 ∧ w.cell? ⟨b, 1, none⟩ = some v1 ∧ w.cell? ⟨b, 2, none⟩ = some v2 ∧ w.cell? ⟨b, 3, none⟩ = some v3 ∧ w.cell? ⟨b, 4, none⟩ = some v4 ∧ w.cell? ⟨b, 5, none⟩ = some v5 ∧ w.cell? ⟨b, 6, none⟩ = some v6 ∧ w.cell? ⟨b, 7, none⟩ = some v7 ∧ w.cell? ⟨b, 8, none⟩ = some v8 :=
  ⟨h.cell 0, h.cell 1, h.cell 2, h.cell 3, h.cell 4, h.cell 5, h.cell 6, h.cell 7, h.cell 8⟩

set_option maxHeartbeats 4000000 in
set_option maxRecDepth 100000 in
theorem flushes_walk (hold : Int) (v1 v2 : Value) (n1 n2 : Nat) (ss1 ss2 : List (Stp × Value)) (w : World) (h1 : StepsAt w v1 n1 ss1) (h2 : StepsAt w v2 n2 ss2) :
    Calls Try.prog 3 #[.int .i64 hold, v1, v2] w fun e w' => e = .returned (.bool true) ∧ Fr [] w w' := by
  obtain ⟨A1, c1, rfl, _⟩ := id h1.row
  obtain ⟨A2, c2, rfl, _⟩ := id h2.row
  have H1 := Lib.hid h1
  have H2 := Lib.hid h2
  clear h1 h2
  go_enter Try.func3, Try.ntmps3
  go_wp2_with fail
  refine (qlives w).mono ?_
  rintro e w1 ⟨rfl, hf1⟩
  go_wp2_with fail
  refine (pa_new hold w1).mono ?_
  rintro e w2 ⟨p, Fa, rfl, hpa, hf2, hn2⟩
  go_wp2_with fail
  refine (pa_new hold w2).mono ?_
  rintro e w3 ⟨q, Fb, rfl, hpb, hf3, hn3⟩
  have hT : Two w w3 p q (AP.new hold) (AP.new hold) 0 Fa Fb := Two.new (hf1.trans' hf2) hpa (fun x hx => by have := hn2 x hx; have := hf1.size; omega) hf3 hpb hn3
  have HT := Lib.hid hT
  have HF3 := Lib.hid hT.fr
  clear hpa hpb hf1 hf2 hf3 hn2 hn3 hT
  go_wp2_with fail
  refine (early_any A1 n1 c1 ss1 w3 (H1.out.fr0 HF3.out)).mono ?_
  rintro e w4 ⟨rfl, rfl⟩
  go_wp2_with fail
  refine (early_any A2 n2 c2 ss2 w3 (H2.out.fr0 HF3.out)).mono ?_
  rintro e w4 ⟨rfl, rfl⟩
  have E1 := Lib.hid (H1.out.take (min n1 80) (by omega))
  have E2 := Lib.hid (H2.out.take (min n2 80) (by omega))
  clear H1 H2
  generalize ss1.take (min n1 80) = s1 at E1
  generalize ss2.take (min n2 80) = s2 at E2
  have hm1 : min n1 80 ≤ 80 := by omega
  have hm2 : min n2 80 ≤ 80 := by omega
  generalize min n1 80 = m1 at *
  generalize min n2 80 = m2 at *
  go_wp2_with fail
  go_loopw [9] (fun vi wr => ∃ (k : Nat) (a : AP) (Fa' : List Nat), vi = .int .i64 k ∧ k ≤ m1 ∧ AP.Ok hold a ∧ Two w wr p q a (AP.new hold) k Fa' Fb) (fun vi _ => m1 - (intOf vi).toNat)
  case atStart => exact ⟨0, _, Fa, rfl, by omega, AP.ok_new hold, HT.out⟩
  case round =>
    obtain ⟨k, a, Fa', rfl, hk, hok, hT⟩ := hrel
    by_cases hlt : k < m1
    · obtain ⟨g, o, hkl, rfl, hc, hw, hwf⟩ := E1.out.at_ hlt
      generalize s1[k].1 = s at hc hw hwf
      generalize s1[k].2 = wv at hc hw
      obtain ⟨A, c, rfl, _⟩ := id hw
      have HW := Lib.hid (hw.fr hT.fr (by simp))
      have HC := Lib.hid (fun W (hW : Fr [] wr W) => step_cells hc W (hT.fr.trans' hW))
      obtain ⟨c0, c1, c2, c3, c4, c5, c6, c7, c8⟩ := HC.out wr (Fr.refl _ _)
      have HT2 := Lib.hid hT
      have HOK := Lib.hid hok
      clear hc hw hT hok
      go_wp2_with fail
      refine (kind_any s _ wr).mono ?_
      rintro e w4 ⟨rfl, hf4⟩
      obtain ⟨d0, d1, d2, d3, d4, d5, d6, d7, d8⟩ := HC.out w4 hf4
      have HT4 := Lib.hid (HT2.out.fr0 hf4)
      have HF4 := Lib.hid hf4
      clear c0 c1 c2 c3 c4 c5 c6 c7 c8
      by_cases hk3 : s.knd < 3
      · go_wp2_with fail
        refine (step_message s _ [] w4 (HW.out.fr hf4 (by simp))).mono ?_
        rintro e w5 ⟨wv5, rfl, hwv5, hf5⟩
        obtain ⟨A5, c5, rfl, _⟩ := hwv5.1
        simp only [Msg.val]
        have HT5 := Lib.hid (HT4.out.fr0 hf5)
        have HW5 := Lib.hid hwv5
        clear d0 d1 d2 d3 d4 d5 d6 d7 d8 hwv5 hf5 hf4
        go_wp2_with fail
        refine (pa_put p a k Fa' Fb s.msg _ w5 HT5.out.l (by omega) HW5.out).mono ?_
        rintro e w6 ⟨rfl, hto⟩
        obtain ⟨Fa6, hT6, _⟩ := HT5.out.left hto (Nat.le_refl k)
        have HT6 := Lib.hid hT6
        clear hto hT6
        go_wp2
        go_roundw
        case rel => exact ⟨k + 1, _, Fa6, by go_num, by omega, AP.ok_put HOK.out s.msg, ⟨HT6.out.l.mono (by omega), HT6.out.r.mono (by omega), HT6.out.ne, HT6.out.na, HT6.out.nb, HT6.out.fr⟩⟩
        case measure => simp [intOf]; omega
      · clear d0 d1 d2 d3 d4 d5 d6 d7 d8
        have q1 : ∀ W, Fr [] w4 W → W.cell? ⟨g, o + k * 9 + 1, none⟩ = some (.int .i64 s.proc) := fun W hW => (HC.out W (hf4.trans' hW)).2.1
        have q2 : ∀ W, Fr [] w4 W → W.cell? ⟨g, o + k * 9 + 2, none⟩ = some (.int .i64 s.till) := fun W hW => (HC.out W (hf4.trans' hW)).2.2.1
        have q3 : ∀ W, Fr [] w4 W → W.cell? ⟨g, o + k * 9 + 3, none⟩ = some (.int .i64 s.now) := fun W hW => (HC.out W (hf4.trans' hW)).2.2.2.1
        go_wp2_with fail
        refine wp_sched 16 [(0, 0), (1, 0), (2, 0), (3, 0), (4, 0), (5, 0), (6, 0), (7, 0), (8, 0), (9, 0), (10, 0), (11, 0), (12, 0), (13, 0), (14, 0), (15, 0), (16, 2)] (fun W => Fr [] w4 W) (by kernel_rfl) (by kernel_rfl) (fun _ _ _ _ _ h => h) ((Fr.refl [] w4).drew) ?_
        iterate 16
          refine at_read (v := ?_) rfl (by first | rfl | kernel_rfl) ?_ ?_
          rotate_left
          · intro W hW
            go_simp
            try with_reducible rfl
          simp only [Act.put, List.setIfInBounds_toArray, List.set_cons_zero, List.set_cons_succ]
        refine at_last rfl (fun K hK => ?_)
        go_simp
        refine (pa_ask p a k Fa' Fb s.proc s.till s.now w4.drew ((HT4.out.fr0 (Fr.refl [] w4).drew).l) (by omega) hwf).mono ?_
        rintro e w6 ⟨⟨wv6, rfl, _⟩, hto⟩
        obtain ⟨Fa6, hT6, _⟩ := (HT4.out.fr0 (Fr.refl [] w4).drew).left hto (Nat.le_succ k)
        have HT6 := Lib.hid hT6
        clear hto hT6 q1 q2 q3
        go_simp
        refine hK _ _ ?_
        clear hK K
        try simp only [Act.put, List.setIfInBounds_toArray, List.set_cons_zero, List.set_cons_succ]
        refine sched_nil ?_
        go_wp2
        go_roundw
        case rel => exact ⟨k + 1, _, Fa6, by go_num, by omega, AP.ok_ask HOK.out _ _ _, ⟨HT6.out.l, HT6.out.r, HT6.out.ne, HT6.out.na, HT6.out.nb, HT6.out.fr⟩⟩
        case measure => simp [intOf]; omega
    · have hkm : k = m1 := by omega
      subst hkm
      have HTB := Lib.hid hT
      have HOK := Lib.hid hok
      clear hT hok
      go_wp2_with fail
      refine (pa_all Fa' p a k Fa' Fb wr HTB.out.l HTB.out.l.lt).mono ?_
      rintro e w4 ⟨⟨v4, ms4, rfl, hms4, ho4⟩, hf4⟩
      have HO4 := Lib.hid ho4
      have HMS4 := Lib.hid hms4
      have HT4 := Lib.hid (HTB.out.fr0 hf4)
      have HF4 := Lib.hid hf4
      clear ho4 hms4 hf4
      go_wp2_with fail
      refine (pa_waiting p a k Fa' Fb w4 HT4.out.l (by omega)).mono ?_
      rintro e w5 ⟨⟨v5, rfl, hown5, hnew5⟩, hf5⟩
      have HO5 := Lib.hid hown5
      have HN5 := Lib.hid hnew5
      have HT5 := Lib.hid (HT4.out.fr0 hf5)
      have HF5 := Lib.hid hf5
      clear hown5 hnew5 hf5
      go_wp2_with fail
      refine (pa_flush p a k Fa' Fb w5 HT5.out.l (by omega)).mono ?_
      rintro e w6 ⟨⟨lv, rv, ms6, rfl, hms6, hL6, hR6⟩, Fa6, hP6, hf6, hsub6⟩
      have hlt4 := HTB.out.l.lt
      have hB4 := HF4.out.size
      have hB5 := HF5.out.size
      have hm4 : MsgsRd w6 v4 ms4 := (((HO4.out.fr0 HF5.out hB4)).fr hf6 (fun x hx _ => hx) (by omega)).rd
      have hr5 : Rd w6 1 [] v5 a.who.length (ints a.who) := Rd.of_own (hf6.own HO5.out (fun g hg hx => by have := HN5.out g hg; have := HT4.out.l.lt g hx; omega)) (fun g _ hx => by simp at hx)
      have hT6 : Two w w6 p q { a with msgs := [], waits := [] } (AP.new hold) k Fa6 Fb := ⟨hP6, HT5.out.r.frE hf6 HT5.out.ne (fun x hx => .inr hx) (fun x hx => .inl (hsub6 x hx)) hP6.lt, fun x hx => HT5.out.ne x (hsub6 x hx), fun x hx => HT5.out.na x (hsub6 x hx), HT5.out.nb, HT5.out.fr.trans hf6 (fun x hx hlt => absurd (HT5.out.na x hx) (by omega))⟩
      rw [AP.flushed HOK.out] at hT6
      have HT6 := Lib.hid hT6
      have HM4 := Lib.hid hm4
      have HM6 := Lib.hid hL6
      have HMS6 := Lib.hid hms6
      have HR5 := Lib.hid hr5
      have HR6 := Lib.hid hR6
      obtain ⟨A6, c6, rfl, _⟩ := id hL6.row
      obtain ⟨A7, c7, rfl, _⟩ := id hR6
      obtain ⟨A4, c4, rfl, _⟩ := id hm4.row
      obtain ⟨A5, c5, rfl, _⟩ := id hr5
      clear hP6 hf6 hsub6 hlt4 hB4 hB5 hm4 hr5 hT6 hL6 hR6 hms6
      go_wp2_with fail
      refine (msgs_true _ _ ms6 ms4 w6 HM6.out HM4.out (HMS6.out.trans HMS4.out.symm)).mono ?_
      rintro e w7 ⟨rfl, hf7⟩
      have HF7 := Lib.hid hf7
      clear hf7
      go_wp2_with fail
      refine (same_true [] [] A7 A5 a.who.length c7 c5 a.who w7 (HR6.out.fr HF7.out (by simp)) (HR5.out.fr HF7.out (by simp))).mono ?_
      rintro e w8 ⟨rfl, hf8⟩
      have hz : ms6.length = 0 ∨ (a.who.length = 0 ∧ 0 < ms6.length) := by
        by_cases h0 : ms6.length = 0
        · exact .inl h0
        · right
          refine ⟨?_, by omega⟩
          rcases HOK.out.2 with h | h
          · exfalso; have := congrArg List.length HMS6.out; rw [h] at this; simp at this; rw [this] at h0; simp at h0
          · unfold AP.who; rw [h]; rfl
      have hT8 : Two w w8 p q (AP.new hold) (AP.new hold) 80 Fa6 Fb := by
        have h := HT6.out.fr0 (HF7.out.trans' hf8)
        exact ⟨h.l.mono (by omega), h.r.mono (by omega), h.ne, h.na, h.nb, h.fr⟩
      have HT8 := Lib.hid hT8
      clear hf8 hT8 HM4 HM6 HMS6 HMS4 HR5 HR6 HT6 HF7 HO5 HN5 HT5 HF5 HO4 HT4 HF4 HTB
      generalize ms6.length = l6 at *
      generalize a.who.length = l7 at *
      rcases hz with hz | ⟨hz, hl6⟩ <;> subst hz <;> go_wp2_with fail
      all_goals
        go_loopw [14] (fun vi wr => ∃ (k' : Nat) (b : AP) (Ga Gb : List Nat), vi = .int .i64 k' ∧ k' ≤ m2 ∧ Two w wr p q b b (80 + 2 * k') Ga Gb) (fun vi _ => m2 - (intOf vi).toNat)
        case atStart => exact ⟨0, _, Fa6, Fb, rfl, by omega, HT8.out⟩
        case round =>
          obtain ⟨k', b, Ga, Gb, rfl, hk', hT⟩ := hrel
          by_cases hlt : k' < m2
          · obtain ⟨g, o, hkl, rfl, hc, hw, hwf⟩ := E2.out.at_ hlt
            generalize s2[k'].1 = s at hc hw hwf
            generalize s2[k'].2 = wv at hc hw
            obtain ⟨A, c, rfl, _⟩ := id hw
            have HW0 := Lib.hid hw
            have HW := Lib.hid (hw.fr hT.fr (by simp))
            have HC := Lib.hid (fun W (hW : Fr [] _ W) => step_cells hc W (hT.fr.trans' hW))
            obtain ⟨c0, c1, c2, c3, c4, c5, c6, c7, c8⟩ := HC.out _ (Fr.refl _ _)
            have HT2 := Lib.hid hT
            clear hc hw hT
            obtain ⟨x1, hx1⟩ : ∃ x, wr.alloc (.cells #[.int .i64 s.kind, .int .i64 s.proc, .int .i64 s.till, .int .i64 s.now, .slice A s.m.words.length c, .int .i64 s.m.lane, .int .i64 s.m.stamp, .int .i64 s.m.late, .int .i64 s.m.seq] 31) = x := ⟨_, rfl⟩
            have hg1 : Fr [] wr x1 := by rw [← hx1]; exact (Fr.refl _ _).alloc _
            have hD1 : Blk x1 wr.heap.size 31 #[.int .i64 s.kind, .int .i64 s.proc, .int .i64 s.till, .int .i64 s.now, .slice A s.m.words.length c, .int .i64 s.m.lane, .int .i64 s.m.stamp, .int .i64 s.m.late, .int .i64 s.m.seq] := by rw [← hx1]; exact Blk.new _ _ _
            have hT1 := HT2.out.fr0 hg1
            have hw1 := HW.out.fr hg1 (by simp)
            have hna : ∀ x ∈ Ga, x < wr.heap.size := HT2.out.l.lt
            have hnb : ∀ x ∈ Gb, x < wr.heap.size := HT2.out.r.lt
            have hbx : wr.heap.size < x1.heap.size := hD1.lt
            have HD1 := Lib.hid hD1
            have HT1 := Lib.hid hT1
            have HW1 := Lib.hid hw1
            have HG1 := Lib.hid hg1
            have HNA := Lib.hid hna
            have HNB := Lib.hid hnb
            have HBX := Lib.hid hbx
            obtain ⟨d0, d1, d2, d3, d4, d5, d6, d7, d8⟩ := hD1.nine
            clear HC HW HT2 hg1 hD1 hT1 hw1 hna hnb hbx
            go_wp2_with fail
            refine (kind_any s _ x1).mono ?_
            rintro e x2 ⟨rfl, hf2⟩
            have HF2 := Lib.hid hf2
            obtain ⟨e0, e1, e2, e3, e4, e5, e6, e7, e8⟩ := (HD1.out.fr hf2 (by simp)).nine
            clear c0 c1 c2 c3 c4 c5 c6 c7 c8 d0 d1 d2 d3 d4 d5 d6 d7 d8 hf2 hx1
            have HT2 := Lib.hid (HT1.out.fr0 HF2.out)
            have HD2 := Lib.hid (HD1.out.fr HF2.out (by simp))
            have hs2 := HF2.out.size
            have HS2 := Lib.hid hs2
            clear HT1 HD1 HW1 hs2
            by_cases hk3 : s.knd < 3
            · go_wp2_with fail
              refine (step_message s _ [] x2 (HW0.out.fr HT2.out.fr (by simp))).mono ?_
              rintro e x3 ⟨wv3, rfl, hwv3, hf3⟩
              obtain ⟨A3, c3, rfl, _⟩ := hwv3.1
              simp only [Msg.val]
              have HT3 := Lib.hid (HT2.out.fr0 hf3)
              have HD3 := Lib.hid (HD2.out.fr hf3 (by simp))
              have HV3 := Lib.hid hwv3
              clear e0 e1 e2 e3 e4 e5 e6 e7 e8 hwv3 hf3
              go_wp2_with fail
              refine (pa_put p b (80 + 2 * k') Ga Gb s.msg _ x3 HT3.out.l (by omega) HV3.out).mono ?_
              rintro e x4 ⟨rfl, hto⟩
              obtain ⟨Ga4, hT4, _⟩ := HT3.out.left hto (Nat.le_refl _)
              obtain ⟨_, _, hf4, _⟩ := hto
              have HT4 := Lib.hid hT4
              have hD4 := HD3.out.fr hf4 (fun hx => by have := HNA.out _ hx; omega)
              have HD4 := Lib.hid hD4
              obtain ⟨e0, e1, e2, e3, e4, e5, e6, e7, e8⟩ := hD4.nine
              clear hT4 hf4 hD4
              go_wp2_with fail
              refine (step_message s _ [] x4 (HW0.out.fr HT4.out.fr (by simp))).mono ?_
              rintro e x5 ⟨wv5, rfl, hwv5, hf5⟩
              obtain ⟨A5, c5, rfl, _⟩ := hwv5.1
              simp only [Msg.val]
              have HT5 := Lib.hid (HT4.out.fr0 hf5)
              have HV5 := Lib.hid hwv5
              clear e0 e1 e2 e3 e4 e5 e6 e7 e8 hwv5 hf5
              go_wp2_with fail
              refine (pa_put q b (80 + 2 * k') Gb Ga4 s.msg _ x5 HT5.out.r (by omega) HV5.out).mono ?_
              rintro e x6 ⟨rfl, hto⟩
              obtain ⟨Gb6, hT6, _⟩ := HT5.out.right hto (Nat.le_refl _)
              have HT6 := Lib.hid hT6
              clear hto hT6
              go_wp2
              go_roundw
              case rel => exact ⟨k' + 1, _, Ga4, Gb6, by go_num, by omega, ⟨HT6.out.l.mono (by omega), HT6.out.r.mono (by omega), HT6.out.ne, HT6.out.na, HT6.out.nb, HT6.out.fr⟩⟩
              case measure => simp [intOf]; omega
            · go_wp2_with fail
              have hA := pa_ask p b (80 + 2 * k') Ga Gb s.proc s.till s.now x2 HT2.out.l (by omega) hwf
              have hA2 := fun (W : World) (kk : Nat) (G1 G2 : List Nat) (h : PA W q b kk G1 G2) (hkk : kk ≤ 1000000) => pa_ask q b kk G1 G2 s.proc s.till s.now W h hkk hwf
              generalize b.ask s.proc s.till s.now = r at hA hA2
              obtain ⟨b1, mm, cc⟩ := r
              simp only at hA hA2
              have HA2 := Lib.hid hA2
              clear hA2
              refine hA.mono ?_
              clear hA
              rintro e x3 ⟨⟨mv, rfl, hmv⟩, hto⟩
              obtain ⟨Ga3, hT3, hga3⟩ := HT2.out.left hto (Nat.le_succ _)
              obtain ⟨_, _, hf3, _⟩ := hto
              have hD3 := HD2.out.fr hf3 (fun hx => by have := HNA.out _ hx; omega)
              obtain ⟨A3, c3, rfl, _⟩ := hmv.1
              obtain ⟨x4, hx4⟩ : ∃ x, x3.alloc (.cells #[.slice A3 mm.words.length c3, .int .i64 mm.lane, .int .i64 mm.stamp, .int .i64 mm.late, .int .i64 mm.seq] 29) = x := ⟨_, rfl⟩
              have hf4 : Fr [] x3 x4 := by rw [← hx4]; exact (Fr.refl _ _).alloc _
              have hM4 : Blk x4 x3.heap.size 29 #[.slice A3 mm.words.length c3, .int .i64 mm.lane, .int .i64 mm.stamp, .int .i64 mm.late, .int .i64 mm.seq] := by rw [← hx4]; exact Blk.new _ _ _
              have hT4 := hT3.fr0 hf4
              have hD4 := hD3.fr hf4 (by simp)
              have HT3 := Lib.hid hT3
              have HV4 := Lib.hid (hmv.fr0 hf4)
              have HGA3 := Lib.hid hga3
              have HX34 := Lib.hid hM4.lt
              have HS3 := Lib.hid hf3.size
              have HM4 := Lib.hid hM4
              have HD4 := Lib.hid hD4
              have HT4 := Lib.hid hT4
              clear e0 e1 e2 e3 e4 e5 e6 e7 e8 hT3 hf3 hmv hga3 hD3 hf4 hM4 hT4
              obtain ⟨e0, e1, e2, e3, e4, e5, e6, e7, e8⟩ := hD4.nine
              clear hD4
              simp only [Msg.val]
              go_wp2_with fail
              refine (HA2.out x4 _ Gb Ga3 HT4.out.r (by omega)).mono ?_
              rintro e x5 ⟨⟨nv, rfl, hnv⟩, hto⟩
              obtain ⟨Gb5, hT5, hgb5⟩ := HT4.out.right hto (Nat.le_succ _)
              obtain ⟨_, _, hf5, _⟩ := hto
              have hl3 := HT3.out.l.lt
              have hM5 := HM4.out.fr hf5 (fun hx => by have := HNB.out _ hx; have := HBX.out; have := HS2.out; have := HS3.out; omega)
              have hD5 := HD4.out.fr hf5 (fun hx => by have := HNB.out _ hx; omega)
              have hmv5 := HV4.out.fr hf5 (fun y hy _ => List.mem_append_right _ hy)
              obtain ⟨A5, c5, rfl, _⟩ := hnv.1
              obtain ⟨x6, hx6⟩ : ∃ x, x5.alloc (.cells #[.slice A5 mm.words.length c5, .int .i64 mm.lane, .int .i64 mm.stamp, .int .i64 mm.late, .int .i64 mm.seq] 29) = x := ⟨_, rfl⟩
              have hf6 : Fr [] x5 x6 := by rw [← hx6]; exact (Fr.refl _ _).alloc _
              have hM6 : Blk x6 x5.heap.size 29 #[.slice A5 mm.words.length c5, .int .i64 mm.lane, .int .i64 mm.stamp, .int .i64 mm.late, .int .i64 mm.seq] := by rw [← hx6]; exact Blk.new _ _ _
              have hT6 := hT5.fr0 hf6
              have hs5 := hf5.size
              have hng : wr.heap.size ∉ Ga3 ++ Gb5 := fun hx => by
                have h1 := HBX.out
                have h2 := HS2.out
                have h3 := HS3.out
                have h4 := HX34.out
                rcases List.mem_append.1 hx with hx | hx
                · rcases HGA3.out _ hx with h | h
                  · have := HNA.out _ h; omega
                  · omega
                · rcases hgb5 _ hx with h | h
                  · have := HNB.out _ h; omega
                  · omega
              have hng2 : x3.heap.size ∉ Ga3 ++ Gb5 := fun hx => by
                have h1 := HBX.out
                have h2 := HS2.out
                have h3 := HS3.out
                have h4 := HX34.out
                rcases List.mem_append.1 hx with hx | hx
                · have := hl3 _ hx; omega
                · rcases hgb5 _ hx with h | h
                  · have := HNB.out _ h; omega
                  · omega
              have hng3 : x5.heap.size ∉ Ga3 ++ Gb5 := fun hx => by
                have h4 := HX34.out
                rcases List.mem_append.1 hx with hx | hx
                · have := hl3 _ hx; omega
                · have := hT5.r.lt _ hx; omega
              have hM56 := hM5.fr hf6 (by simp)
              have q0 : ∀ W, Fr (Ga3 ++ Gb5) x6 W → W.cell? ⟨x3.heap.size, 0, none⟩ = some (.slice A3 mm.words.length c3) := fun W hW => hW.cell (hM56.cell 0) hng2
              have q1 : ∀ W, Fr (Ga3 ++ Gb5) x6 W → W.cell? ⟨x3.heap.size, 1, none⟩ = some (.int .i64 mm.lane) := fun W hW => hW.cell (hM56.cell 1) hng2
              have q2 : ∀ W, Fr (Ga3 ++ Gb5) x6 W → W.cell? ⟨x3.heap.size, 2, none⟩ = some (.int .i64 mm.stamp) := fun W hW => hW.cell (hM56.cell 2) hng2
              have q3 : ∀ W, Fr (Ga3 ++ Gb5) x6 W → W.cell? ⟨x3.heap.size, 3, none⟩ = some (.int .i64 mm.late) := fun W hW => hW.cell (hM56.cell 3) hng2
              have q4 : ∀ W, Fr (Ga3 ++ Gb5) x6 W → W.cell? ⟨x3.heap.size, 4, none⟩ = some (.int .i64 mm.seq) := fun W hW => hW.cell (hM56.cell 4) hng2
              have r0 : ∀ W, Fr (Ga3 ++ Gb5) x6 W → W.cell? ⟨x5.heap.size, 0, none⟩ = some (.slice A5 mm.words.length c5) := fun W hW => hW.cell (hM6.cell 0) hng3
              have r1 : ∀ W, Fr (Ga3 ++ Gb5) x6 W → W.cell? ⟨x5.heap.size, 1, none⟩ = some (.int .i64 mm.lane) := fun W hW => hW.cell (hM6.cell 1) hng3
              have r2 : ∀ W, Fr (Ga3 ++ Gb5) x6 W → W.cell? ⟨x5.heap.size, 2, none⟩ = some (.int .i64 mm.stamp) := fun W hW => hW.cell (hM6.cell 2) hng3
              have r3 : ∀ W, Fr (Ga3 ++ Gb5) x6 W → W.cell? ⟨x5.heap.size, 3, none⟩ = some (.int .i64 mm.late) := fun W hW => hW.cell (hM6.cell 3) hng3
              have r4 : ∀ W, Fr (Ga3 ++ Gb5) x6 W → W.cell? ⟨x5.heap.size, 4, none⟩ = some (.int .i64 mm.seq) := fun W hW => hW.cell (hM6.cell 4) hng3
              have t3 : ∀ W, Fr (Ga3 ++ Gb5) x6 W → W.cell? ⟨wr.heap.size, 3, none⟩ = some (.int .i64 s.now) := fun W hW => hW.cell ((hD5.fr hf6 (by simp)).cell 3) hng
              have hVm : WordsAt x6 [] (.slice A3 mm.words.length c3) mm := (hmv5.fr0 hf6).mono (by simp)
              have hVn : WordsAt x6 [] (.slice A5 mm.words.length c5) mm := (hnv.fr0 hf6).mono (by simp)
              have HT6 := Lib.hid hT6
              have HVM := Lib.hid hVm
              have HVN := Lib.hid hVn
              clear e0 e1 e2 e3 e4 e5 e6 e7 e8 hT5 hT6 hgb5 hf5 hl3 hM5 hD5 hmv5 hnv hf6 hM6 hM56 hs5 hng hng2 hng3 hVm hVn hx4
              simp only [Msg.val]
              go_wp2_with fail
              refine wp_sched 20 [(0, 0), (1, 0), (2, 1), (3, 0), (4, 0), (5, 0), (6, 0), (7, 0), (8, 0), (9, 0), (10, 0), (11, 0), (12, 0), (14, 0), (15, 0), (16, 0), (13, 1), (17, 1), (18, 1), (19, 0), (20, 2)] (fun W => Fr (Ga3 ++ Gb5) x6 W) (by kernel_rfl) (by kernel_rfl) (fun _ _ _ _ _ h => h) ((Fr.refl _ x6).drew) ?_
              iterate 2
                refine at_read (v := ?_) rfl (by first | rfl | kernel_rfl) ?_ ?_
                rotate_left
                · intro W hW
                  go_simp
                  try with_reducible rfl
                simp only [Act.put, List.setIfInBounds_toArray, List.set_cons_zero, List.set_cons_succ]
              refine at_eff rfl (fun K hK => ?_)
              go_simp
              refine (one_true [] [] mm (.slice A3 mm.words.length c3) (.slice A5 mm.words.length c5) x6.drew (HVM.out.fr0 (Fr.refl [] x6).drew) (HVN.out.fr0 (Fr.refl [] x6).drew)).mono ?_
              rintro e x7 ⟨rfl, hf7⟩
              have hf67 : Fr [] x6 x7 := (Fr.refl [] x6).drew.trans' hf7
              have HT7 := Lib.hid (HT6.out.fr0 hf67)
              have HF7 := Lib.hid hf67
              clear hf7 hf67
              go_simp
              refine hK _ _ (HF7.out.of0) ?_
              clear hK K
              try simp only [Act.put, List.setIfInBounds_toArray, List.set_cons_zero, List.set_cons_succ]
              iterate 13
                refine at_read (v := ?_) rfl (by first | rfl | kernel_rfl) ?_ ?_
                rotate_left
                · intro W hW
                  go_simp
                  try with_reducible rfl
                simp only [Act.put, List.setIfInBounds_toArray, List.set_cons_zero, List.set_cons_succ]
              refine at_eff rfl (fun K hK => ?_)
              go_simp
              refine (pa_expire p b1 _ Ga3 Gb5 s.now x7 HT7.out.l (by omega)).mono ?_
              rintro e x8 ⟨⟨v8, rfl, hv8⟩, hP8, hf8⟩
              obtain ⟨Ga8, hT8, hg8⟩ := HT7.out.left (a' := (b1.expire s.now).1) ⟨Ga3, hP8, hf8, fun _ h => h, fun _ h => .inl h⟩ (Nat.le_refl _)
              have hR8 := hv8 Gb5 HT7.out.r.lt
              have hS8 : Fr (Ga3 ++ Gb5) x6 x8 := HF7.out.of0.trans' (hf8.mono (fun x hx _ => List.mem_append_left _ hx))
              have HS8 := Lib.hid hS8
              have HR8 := Lib.hid hR8
              have HT8' := Lib.hid hT8
              clear hv8 hP8 hf8 hR8 hS8 hT8
              obtain ⟨A8, c8, rfl, _⟩ := id HR8.out
              go_simp
              refine hK _ _ (HS8.out) ?_
              clear hK K
              try simp only [Act.put, List.setIfInBounds_toArray, List.set_cons_zero, List.set_cons_succ]
              refine at_eff rfl (fun K hK => ?_)
              go_simp
              refine (pa_expire q b1 _ Gb5 Ga8 s.now x8 HT8'.out.r (by omega)).mono ?_
              rintro e x9 ⟨⟨v9, rfl, hv9⟩, hP9, hf9⟩
              obtain ⟨Gb9, hT9, _⟩ := HT8'.out.right (b' := (b1.expire s.now).1) ⟨Gb5, hP9, hf9, fun _ h => h, fun _ h => .inl h⟩ (Nat.le_refl _)
              have hR9 := hv9 [] (by simp)
              have HR9 := Lib.hid hR9
              have HR89 := Lib.hid ((HR8.out.fr hf9 (fun x hx _ => hx)).mono (M' := []) (by simp) (by omega))
              have HS9 := Lib.hid (HS8.out.trans' (hf9.mono (G := Ga3 ++ Gb5) (fun x hx _ => List.mem_append_right _ hx)))
              have HT9 := Lib.hid hT9
              obtain ⟨A9, c9, rfl, _⟩ := id hR9
              clear hv9 hP9 hf9 hR9 hT9
              go_simp
              refine hK _ _ (HS9.out) ?_
              clear hK K
              try simp only [Act.put, List.setIfInBounds_toArray, List.set_cons_zero, List.set_cons_succ]
              refine at_eff rfl (fun K hK => ?_)
              go_simp
              refine (same_true [] [] A8 A9 _ c8 c9 _ x9 HR89.out HR9.out).mono ?_
              rintro e x10 ⟨rfl, hf10⟩
              have HS10 := Lib.hid (HS9.out.trans' (hf10.of0 (F := Ga3 ++ Gb5)))
              have HT10 := Lib.hid (HT9.out.fr0 hf10)
              clear hf10
              go_simp
              refine hK _ _ (HS10.out) ?_
              clear hK K
              try simp only [Act.put, List.setIfInBounds_toArray, List.set_cons_zero, List.set_cons_succ]
              iterate 1
                refine at_read (v := ?_) rfl (by first | rfl | kernel_rfl) ?_ ?_
                rotate_left
                · intro W hW
                  go_simp
                  try with_reducible rfl
                simp only [Act.put, List.setIfInBounds_toArray, List.set_cons_zero, List.set_cons_succ]
              refine at_last rfl (fun K hK => ?_)
              go_simp
              refine hK _ _ ?_
              clear hK K
              try simp only [Act.put, List.setIfInBounds_toArray, List.set_cons_zero, List.set_cons_succ]
              refine sched_nil ?_
              go_wp2
              go_roundw
              case rel => exact ⟨k' + 1, _, Ga8, Gb9, by go_num, by omega, ⟨HT10.out.l.mono (by omega), HT10.out.r.mono (by omega), HT10.out.ne, HT10.out.na, HT10.out.nb, HT10.out.fr⟩⟩
              case measure => simp [intOf]; omega
          · have HT := Lib.hid hT
            clear hT
            go_wp2_with fail
            refine (pa_len p b _ Ga Gb wr HT.out.l).mono ?_
            rintro e x2 ⟨rfl, rfl⟩
            go_wp2_with fail
            refine (pa_len q b _ Gb Ga _ HT.out.r).mono ?_
            rintro e x2 ⟨rfl, rfl⟩
            go_wp2
            go_ret
            exact ⟨by simp, HT.out.fr⟩
end Go.Proofs.Ytfadadgkgbaohaa
