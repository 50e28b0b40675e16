/-
  The reference of the queue: Ask.
-/
import Derived.Test.YtfadadgkgbaohaaR18b
set_option linter.unusedSimpArgs false
set_option linter.unusedVariables false
namespace Go.Proofs.Ytfadadgkgbaohaa
open Go.RowKit
attribute [local go_sem] max_ints min_ints

/-- What Ask of the reference gives. -/
def RefAsk (w w' : World) (M : List Nat) (r : AP × Msg × Int) (e : Ending) : Prop :=
  ∃ lv' wv' mv, e = .returned (.tuple #[rval r.1 lv' wv', r.2.1.val mv, .int .i64 r.2.2]) ∧ RefAt w' M lv' wv' r.1 ∧ WordsAt w' M mv r.2.1 ∧ Fr [] w w'

theorem wrow_one (l : List (Int × Int)) : ∀ u ∈ wrow l, u.oneCell' = true := by
  intro u hu
  simp only [wrow, List.mem_flatMap] at hu
  obtain ⟨x, _, hu⟩ := hu
  simp only [List.mem_cons, List.not_mem_nil, or_false] at hu
  rcases hu with rfl | rfl <;> rfl
theorem w_info : (Try.prog.info? 78).map (fun i => (i.zero, i.size, i.bytes)) = some (some (.agg #[.int .i64 0, .int .i64 0]), 2, 16) := by kernel_rfl
theorem w_elem : Elem Try.prog 49 78 (.agg #[.int .i64 0, .int .i64 0]) 2 16 :=
  ⟨Try.underlying49, info_parts w_info, rfl, by omega⟩
theorem rd_built_w (w : World) (x : Int × Int) : Rd (w.alloc (.cells #[.int .i64 x.1, .int .i64 x.2] 78)) 2 [] (.slice (some ⟨w.heap.size, 0, none⟩) 1 1) 1 (wrow [x]) := by
  refine ⟨_, 1, rfl, by simp [wrow], Nat.le_refl _, by simp [maxLen], (fun e => nomatch e), fun _ => ⟨_, rfl, by simp, fun j u hu => ?_⟩⟩
  rw [add_head, (Blk.new w _ _).cell]
  simpa [wrow] using hu

theorem fr3 (X : World) (a b : Nat) (u0 u1 u2 : Value) : Fr [a, b] X (((X.setCell ⟨a, 0, none⟩ u0).setCell ⟨a, 1, none⟩ u1).setCell ⟨a, 2, none⟩ u2).drew := by
  refine Fr.drew ?_
  iterate 3 refine Fr.setCell ?_ (by simp) _
  exact Fr.refl _ _
theorem fr8 (X : World) (a b : Nat) (u0 u1 u2 v0 v1 v2 v3 v4 : Value) :
    Fr [a, b] X ((((((((X.setCell ⟨a, 0, none⟩ u0).setCell ⟨a, 1, none⟩ u1).setCell ⟨a, 2, none⟩ u2).setCell ⟨b, 0, none⟩ v0).setCell ⟨b, 1, none⟩ v1).setCell ⟨b, 2, none⟩ v2).setCell ⟨b, 3, none⟩ v3).setCell ⟨b, 4, none⟩ v4).drew := by
  refine Fr.drew ?_
  iterate 8 refine Fr.setCell ?_ (by simp) _
  exact Fr.refl _ _

set_option maxHeartbeats 2000000 in
set_option maxRecDepth 100000 in
theorem refask_any (M : List Nat) (lv wv : Value) (a : AP) (x u t : Int) (w : World) (h : RefAt w M lv wv a) (hM : ∀ x ∈ M, x < w.heap.size) (hroom : a.msgs.length ≤ 8) (hk : a.waits.length ≤ 1000000) :
    Calls Try.prog 23 #[rval a lv wv, .int .i64 x, .int .i64 u, .int .i64 t] w fun e w' => RefAsk w w' M (a.ask x u t) e := by
  obtain ⟨A, c, rfl, _⟩ := id h.waits
  obtain ⟨ms, hms, hrl, hwo⟩ := h.msgs
  obtain ⟨n, hn⟩ : ∃ n, n = a.msgs.length := ⟨_, rfl⟩
  rw [← hn] at hrl hroom
  obtain ⟨A2, c2, rfl, _⟩ := id hrl
  have hmax := h.waits.max
  have hmax2 := hrl.max
  obtain ⟨w1, hw1⟩ : ∃ y, ((w.alloc (.cells #[.int .i64 a.hold, .slice A2 n c2, .slice A a.waits.length c] 51)).alloc (.cells #[.int .i64 0, .slice none 0 0, .slice none 0 0] 51)).alloc (.cells #[.slice none 0 0, .int .i64 0, .int .i64 0, .int .i64 0, .int .i64 0] 29) = y := ⟨_, rfl⟩
  have hf1 : Fr [] w w1 := by rw [← hw1]; exact (((Fr.refl _ _).alloc _).alloc _).alloc _
  have hB1 : Blk w1 w.heap.size 51 #[.int .i64 a.hold, .slice A2 n c2, .slice A a.waits.length c] := by rw [← hw1]; exact ((Blk.new _ _ _).alloc _).alloc _
  have hB2 : Blk w1 (w.heap.size + 1) 51 #[.int .i64 0, .slice none 0 0, .slice none 0 0] := by rw [← hw1]; exact (Blk.new' _ _ _ (by simp)).alloc _
  have hB3 : Blk w1 (w.heap.size + 1 + 1) 29 #[.slice none 0 0, .int .i64 0, .int .i64 0, .int .i64 0, .int .i64 0] := by rw [← hw1]; exact Blk.new' _ _ _ (by simp)
  obtain ⟨x0, x1, x2⟩ := hB1.three
  have hlt3 : w.heap.size + 1 + 1 < w1.heap.size := hB3.lt
  have H := Lib.hid h
  have HB := Lib.hid (And.intro hB1 (And.intro hB2 hB3))
  have HF1 := Lib.hid hf1
  have HMS := Lib.hid hms
  have HRL := Lib.hid hrl
  have HWO := Lib.hid hwo
  have HN := Lib.hid hn
  have HFN := Lib.hid (fun wN W (h1 : Fr [] w1 wN) (h2 : Fr [w.heap.size, w.heap.size + 1, w.heap.size + 1 + 1] wN W) => (hf1.trans' h1).trans h2 (fun x hx hlt => by simp at hx; omega))
  clear hB1 hB2 hB3 hf1 hms hrl hwo h hn
  have hwt := refwaits_any M _ _ a x w1 (H.out.fr HF1.out (by simp))
  obtain ⟨r, hr⟩ : ∃ r, a.ask x u t = r := ⟨_, rfl⟩
  have HR := Lib.hid hr
  rw [hr]
  clear hr
  by_cases hc : a.who.contains x = true
  · have hr2 : r = (a, zmsg, 1) := by rw [← HR.out]; unfold AP.ask; rw [hc]; rfl
    have HR2 := Lib.hid hr2
    rw [hc] at hwt
    clear hc hr2
    unfold rval at hwt ⊢
    go_enter Try.func23, Try.ntmps23
    go_wp2_with fail
    refine hwt.mono ?_
    rintro e w2 ⟨rfl, hf2⟩
    obtain ⟨x0, x1, x2⟩ := (HB.out.1.fr hf2 (by simp)).three
    have y := HB.out.2.1.fr hf2 (by simp)
    have z := HB.out.2.2.fr hf2 (by simp)
    obtain ⟨y0, y1, y2⟩ := y.three
    have fy := y.froz
    obtain ⟨z0, z1, z2, z3, z4⟩ := z.five
    have fz := z.froz
    have fin : ∀ W, Fr [w.heap.size, w.heap.size + 1, w.heap.size + 1 + 1] w2 W → RefAsk w W M r (.returned (.tuple #[.agg #[.int .i64 a.hold, .slice A2 n c2, .slice A a.waits.length c], .agg #[.slice none 0 0, .int .i64 0, .int .i64 0, .int .i64 0, .int .i64 0], .int .i64 1])) := fun W hW => by
      have hfW := HFN.out w2 W hf2 hW
      rw [HR2.out]
      exact ⟨_, _, _, rfl, H.out.fr hfW (by simp), zmsg_words _ _, hfW⟩
    have FIN := Lib.hid fin
    clear y z hwt hf2 fin
    go_wp2
    refine bodyPost_ret (v := .tuple #[.agg #[.int .i64 a.hold, .slice A2 n c2, .slice A a.waits.length c], .agg #[.slice none 0 0, .int .i64 0, .int .i64 0, .int .i64 0, .int .i64 0], .int .i64 1]) ?h1 rfl ?h2
    case h2 =>
      refine FIN.out _ ?_
      iterate 8 refine Fr.setCell ?_ (by simp) _
      exact Fr.refl _ _
    case h1 => simp [results, Try.results23, go_sem, *]
  · have hcf : a.who.contains x = false := by simpa using hc
    have HC := Lib.hid hcf
    rw [hcf] at hwt
    clear hc hcf
    unfold rval at hwt ⊢
    by_cases hm0 : 0 < n
    · obtain ⟨n', rfl⟩ : ∃ n', n = n' + 1 := ⟨n - 1, by omega⟩
      have hml : ms.length = n' + 1 := by
        have h1 := congrArg List.length HMS.out
        have h2 := HN.out
        simp at h1
        omega
      obtain ⟨g, o, rfl, c0, c1, c2', c3, c4⟩ := (HRL.out.fr HF1.out (by simp)).msg hml (k := 0) (by omega)
      have hgl := World.block_lt_of_cell? w1 _ c0
      cases ms with
      | nil => simp at hml
      | cons p0 ms' =>
        obtain ⟨m, mv⟩ := p0
        have hmr : a.msgs = m :: ms'.map (·.1) := by rw [← HMS.out]; rfl
        have hwm : WordsAt w M mv m := HWO.out (m, mv) (by simp)
        obtain ⟨A5, c5, rfl, _⟩ := id hwm.1
        have htl : Rd w 5 M (.slice (some ⟨g, o + 5, none⟩) n' (c2 - 1)) n' (mrow ms') := Rd.tail (hd := Msg.cells m (.slice A5 m.words.length c5)) (tl := mrow ms') HRL.out rfl
        have hr2 : r = (⟨a.hold, ms'.map (·.1), a.waits⟩, m, 0) := by rw [← HR.out]; unfold AP.ask; rw [HC.out, hmr]; rfl
        have hn' : ms'.length = n' := by simpa using hml
        have hcc : n' + 1 ≤ c2 := by
          obtain ⟨A', c', e', hl, h1, h2, _⟩ := HRL.out
          injection e' with e1 e2 e3
          subst e3
          exact h1
        simp only [List.getElem_cons_zero, Nat.zero_mul, Nat.add_zero] at c0 c1 c2' c3 c4
        have HR2 := Lib.hid hr2
        have HTL := Lib.hid htl
        have HNM := Lib.hid hn'
        have HWM := Lib.hid hwm
        have HCL := Lib.hid (And.intro c0 (And.intro c1 (And.intro c2' (And.intro c3 c4))))
        have hfinal : ∀ lvX w2 W, Fr [] w1 w2 → Rd w 5 M lvX n' (mrow ms') → Fr [w.heap.size, w.heap.size + 1, w.heap.size + 1 + 1] w2 W → RefAsk w W M r (.returned (.tuple #[.agg #[.int .i64 a.hold, lvX, .slice A a.waits.length c], .agg #[.slice A5 m.words.length c5, .int .i64 m.lane, .int .i64 m.stamp, .int .i64 m.late, .int .i64 m.seq], .int .i64 0])) := fun lvX w2 W h1 hX h2 => by
          have hfW := HFN.out w2 W h1 h2
          rw [HR2.out]
          refine ⟨_, _, _, rfl, ⟨⟨ms', rfl, ?_, fun x hx => (HWO.out x (List.mem_cons_of_mem _ hx)).fr hfW (by simp)⟩, H.out.waits.fr hfW (by simp)⟩, HWM.out.fr hfW (by simp), hfW⟩
          show Rd W 5 M lvX (ms'.map (·.1)).length (mrow ms')
          rw [List.length_map, HNM.out]
          exact hX.fr hfW (by simp)
        have FIN := Lib.hid hfinal
        clear hml c0 c1 c2' c3 c4 hmr hwm htl hr2 hn' hfinal
        by_cases hc1 : c2 = 1
        · have hz0 : n' = 0 := by omega
          subst hc1
          subst hz0
          go_enter Try.func23, Try.ntmps23
          go_wp2_with fail
          refine hwt.mono ?_
          rintro e w2 ⟨rfl, hf2⟩
          have hx := HB.out.1.fr hf2 (by simp)
          obtain ⟨x0, x1, x2⟩ := hx.three
          have fx := hx.froz 1
          have k0 := hf2.cell0 HCL.out.1
          have k1 := hf2.cell0 HCL.out.2.1
          have k2 := hf2.cell0 HCL.out.2.2.1
          have k3 := hf2.cell0 HCL.out.2.2.2.1
          have k4 := hf2.cell0 HCL.out.2.2.2.2
          have HF2 := Lib.hid hf2
          have hs2 := hf2.size
          have HS2 := Lib.hid hs2
          have hgw : g ≠ w.heap.size := fun e => by
            subst e
            have hb := HRL.out
            obtain ⟨A', c', e', hl, h1, h2, h4, h3⟩ := hb
            obtain ⟨ad, ha, hbm, hcells⟩ := h3 (by omega)
            injection e' with e1
            rw [← e1] at ha
            injection ha with ha
            have h5 := World.block_lt_of_cell? w _ (hcells 0 _ rfl)
            rw [← ha] at h5
            simp [add_block] at h5
          clear hwt hf2 hs2 hx
          obtain ⟨x3, hx3⟩ : ∃ y, w2.alloc (.cells #[.slice A5 m.words.length c5, .int .i64 m.lane, .int .i64 m.stamp, .int .i64 m.late, .int .i64 m.seq] 29) = y := ⟨_, rfl⟩
          have hf3 : Fr [] w2 x3 := by rw [← hx3]; exact (Fr.refl _ _).alloc _
          have hM3 : Blk x3 w2.heap.size 29 #[.slice A5 m.words.length c5, .int .i64 m.lane, .int .i64 m.stamp, .int .i64 m.late, .int .i64 m.seq] := by rw [← hx3]; exact Blk.new _ _ _
          have hx := HB.out.1.fr (HF2.out.trans' hf3) (by simp)
          have hy := HB.out.2.1.fr (HF2.out.trans' hf3) (by simp)
          have hz := HB.out.2.2.fr (HF2.out.trans' hf3) (by simp)
          obtain ⟨a0, a1, a2⟩ := hx.three
          have fa := hx.froz 1
          obtain ⟨y0, y1, y2⟩ := hy.three
          have fy := hy.froz
          obtain ⟨z0, z1, z2, z3, z4⟩ := hz.five
          have fz := hz.froz
          have HF3 := Lib.hid (HF2.out.trans' hf3)
          have HM3 := Lib.hid hM3
          have HX3 := Lib.hid hx
          go_wp2_with fail
          generalize hX : x3.setCell ⟨w.heap.size, 1, none⟩ (.slice (some ⟨g, o, none⟩) 0 0) = X
          have hfX : Fr [w.heap.size] x3 X := by rw [← hX]; exact Fr.set _ _ _
          have hsl : w2.heap.size < x3.heap.size := hM3.lt
          have hxX : Blk X w.heap.size 51 #[.int .i64 a.hold, .slice (some ⟨g, o, none⟩) 0 0, .slice A a.waits.length c] := by rw [← hX]; exact hx.set_ 1 _
          have hyX := hy.fr hfX (by simp)
          have hzX := hz.fr hfX (by simp; omega)
          have hMX := hM3.fr hfX (by simp; have := HS2.out; omega)
          have hnb1 : w.heap.size ∉ [w.heap.size + 1, w.heap.size + 1 + 1] := by simp; omega
          have hnb2 : w2.heap.size ∉ [w.heap.size + 1, w.heap.size + 1 + 1] := by have := HS2.out; simp; omega
          have q0 : ∀ W, Fr [w.heap.size + 1, w.heap.size + 1 + 1] X W → W.cell? ⟨w.heap.size, 0, none⟩ = some (.int .i64 a.hold) := fun W hW => hW.cell (hxX.cell 0) hnb1
          have q1 : ∀ W, Fr [w.heap.size + 1, w.heap.size + 1 + 1] X W → W.cell? ⟨w.heap.size, 1, none⟩ = some (.slice (some ⟨g, o, none⟩) 0 0) := fun W hW => hW.cell (hxX.cell 1) hnb1
          have q2 : ∀ W, Fr [w.heap.size + 1, w.heap.size + 1 + 1] X W → W.cell? ⟨w.heap.size, 2, none⟩ = some (.slice A a.waits.length c) := fun W hW => hW.cell (hxX.cell 2) hnb1
          have r0 : ∀ W, Fr [w.heap.size + 1, w.heap.size + 1 + 1] X W → W.cell? ⟨w2.heap.size, 0, none⟩ = some (.slice A5 m.words.length c5) := fun W hW => hW.cell (hMX.cell 0) hnb2
          have r1 : ∀ W, Fr [w.heap.size + 1, w.heap.size + 1 + 1] X W → W.cell? ⟨w2.heap.size, 1, none⟩ = some (.int .i64 m.lane) := fun W hW => hW.cell (hMX.cell 1) hnb2
          have r2 : ∀ W, Fr [w.heap.size + 1, w.heap.size + 1 + 1] X W → W.cell? ⟨w2.heap.size, 2, none⟩ = some (.int .i64 m.stamp) := fun W hW => hW.cell (hMX.cell 2) hnb2
          have r3 : ∀ W, Fr [w.heap.size + 1, w.heap.size + 1 + 1] X W → W.cell? ⟨w2.heap.size, 3, none⟩ = some (.int .i64 m.late) := fun W hW => hW.cell (hMX.cell 3) hnb2
          have r4 : ∀ W, Fr [w.heap.size + 1, w.heap.size + 1 + 1] X W → W.cell? ⟨w2.heap.size, 4, none⟩ = some (.int .i64 m.seq) := fun W hW => hW.cell (hMX.cell 4) hnb2
          clear x0 x1 x2 fx k0 k1 k2 k3 k4 a0 a1 a2 fa y0 y1 y2 fy z0 z1 z2 z3 z4 fz
          obtain ⟨y0, y1, y2⟩ := hyX.three
          have fy := hyX.froz
          obtain ⟨z0, z1, z2, z3, z4⟩ := hzX.five
          have fz := hzX.froz
          have fin : ∀ W, Fr [w.heap.size + 1, w.heap.size + 1 + 1] X W → RefAsk w W M r (.returned (.tuple #[.agg #[.int .i64 a.hold, .slice (some ⟨g, o, none⟩) 0 0, .slice A a.waits.length c], .agg #[.slice A5 m.words.length c5, .int .i64 m.lane, .int .i64 m.stamp, .int .i64 m.late, .int .i64 m.seq], .int .i64 0])) := fun W hW => by
            refine FIN.out _ x3 W HF3.out (by rw [List.length_eq_zero_iff.1 HNM.out]; exact ⟨_, 0, rfl, rfl, Nat.le_refl _, by simp [maxLen], (fun e => nomatch e), fun h => absurd h (by simp)⟩) ((hfX.mono (fun y hy _ => by simp at hy; simp [hy])).trans' (hW.mono (fun y hy _ => by simp at hy ⊢; omega)))
          have FIN2 := Lib.hid fin
          clear hX hfX hxX hyX hzX hMX hx hy hz hM3 hf3 hx3 fin hnb1 hnb2
          refine wp_sched 4 [(0, 0), (1, 0), (2, 1), (3, 1), (4, 2)] (fun W => Fr [w.heap.size + 1, w.heap.size + 1 + 1] X W) (by kernel_rfl) (by kernel_rfl) (fun _ _ _ _ _ h => h) ((Fr.refl _ X).drew) ?_
          iterate 2
            refine at_read (v := ?_) rfl (by first | rfl | kernel_rfl) ?_ ?_
            rotate_left
            · intro W hW
              go_simp
              try with_reducible rfl
            simp only [Act.put, List.setIfInBounds_toArray, List.set_cons_zero, List.set_cons_succ]
          refine at_eff rfl (fun K hK => ?_)
          go_simp
          refine hK _ _ (fr3 X _ _ _ _ _) ?_
          clear hK K
          try simp only [Act.put, List.setIfInBounds_toArray, List.set_cons_zero, List.set_cons_succ]
          refine at_eff rfl (fun K hK => ?_)
          go_simp
          refine hK _ _ (fr8 X _ _ _ _ _ _ _ _ _ _) ?_
          clear hK K
          try simp only [Act.put, List.setIfInBounds_toArray, List.set_cons_zero, List.set_cons_succ]
          refine at_last rfl (fun K hK => ?_)
          go_simp
          refine hK _ _ ?_
          clear hK K
          try simp only [Act.put, List.setIfInBounds_toArray, List.set_cons_zero, List.set_cons_succ]
          refine sched_nil ?_
          go_wp2
          refine bodyPost_ret (v := .tuple #[.agg #[.int .i64 a.hold, .slice (some ⟨g, o, none⟩) 0 0, .slice A a.waits.length c], .agg #[.slice A5 m.words.length c5, .int .i64 m.lane, .int .i64 m.stamp, .int .i64 m.late, .int .i64 m.seq], .int .i64 0]) ?h1 rfl ?h2
          case h2 =>
            refine FIN2.out _ (Fr.drew ?_)
            iterate 8 refine Fr.setCell ?_ (by simp) _
            exact Fr.refl _ _
          case h1 => simp [results, Try.results23, go_sem, *]
        · go_enter Try.func23, Try.ntmps23
          go_wp2_with fail
          refine hwt.mono ?_
          rintro e w2 ⟨rfl, hf2⟩
          have hx := HB.out.1.fr hf2 (by simp)
          obtain ⟨x0, x1, x2⟩ := hx.three
          have fx := hx.froz 1
          have k0 := hf2.cell0 HCL.out.1
          have k1 := hf2.cell0 HCL.out.2.1
          have k2 := hf2.cell0 HCL.out.2.2.1
          have k3 := hf2.cell0 HCL.out.2.2.2.1
          have k4 := hf2.cell0 HCL.out.2.2.2.2
          have HF2 := Lib.hid hf2
          have hs2 := hf2.size
          have HS2 := Lib.hid hs2
          have hgw : g ≠ w.heap.size := fun e => by
            subst e
            have hb := HRL.out
            obtain ⟨A', c', e', hl, h1, h2, h4, h3⟩ := hb
            obtain ⟨ad, ha, hbm, hcells⟩ := h3 (by omega)
            injection e' with e1
            rw [← e1] at ha
            injection ha with ha
            have h5 := World.block_lt_of_cell? w _ (hcells 0 _ rfl)
            rw [← ha] at h5
            simp [add_block] at h5
          clear hwt hf2 hs2 hx
          obtain ⟨x3, hx3⟩ : ∃ y, w2.alloc (.cells #[.slice A5 m.words.length c5, .int .i64 m.lane, .int .i64 m.stamp, .int .i64 m.late, .int .i64 m.seq] 29) = y := ⟨_, rfl⟩
          have hf3 : Fr [] w2 x3 := by rw [← hx3]; exact (Fr.refl _ _).alloc _
          have hM3 : Blk x3 w2.heap.size 29 #[.slice A5 m.words.length c5, .int .i64 m.lane, .int .i64 m.stamp, .int .i64 m.late, .int .i64 m.seq] := by rw [← hx3]; exact Blk.new _ _ _
          have hx := HB.out.1.fr (HF2.out.trans' hf3) (by simp)
          have hy := HB.out.2.1.fr (HF2.out.trans' hf3) (by simp)
          have hz := HB.out.2.2.fr (HF2.out.trans' hf3) (by simp)
          obtain ⟨a0, a1, a2⟩ := hx.three
          have fa := hx.froz 1
          obtain ⟨y0, y1, y2⟩ := hy.three
          have fy := hy.froz
          obtain ⟨z0, z1, z2, z3, z4⟩ := hz.five
          have fz := hz.froz
          have HF3 := Lib.hid (HF2.out.trans' hf3)
          have HM3 := Lib.hid hM3
          have HX3 := Lib.hid hx
          go_wp2_with fail
          generalize hX : x3.setCell ⟨w.heap.size, 1, none⟩ (Value.slice (some ⟨g, o + 5, none⟩) n' (c2 - 1)) = X
          have hfX : Fr [w.heap.size] x3 X := by rw [← hX]; exact Fr.set _ _ _
          have hsl : w2.heap.size < x3.heap.size := hM3.lt
          have hxX : Blk X w.heap.size 51 #[.int .i64 a.hold, Value.slice (some ⟨g, o + 5, none⟩) n' (c2 - 1), .slice A a.waits.length c] := by rw [← hX]; exact hx.set_ 1 _
          have hyX := hy.fr hfX (by simp)
          have hzX := hz.fr hfX (by simp; omega)
          have hMX := hM3.fr hfX (by simp; have := HS2.out; omega)
          have hnb1 : w.heap.size ∉ [w.heap.size + 1, w.heap.size + 1 + 1] := by simp; omega
          have hnb2 : w2.heap.size ∉ [w.heap.size + 1, w.heap.size + 1 + 1] := by have := HS2.out; simp; omega
          have q0 : ∀ W, Fr [w.heap.size + 1, w.heap.size + 1 + 1] X W → W.cell? ⟨w.heap.size, 0, none⟩ = some (.int .i64 a.hold) := fun W hW => hW.cell (hxX.cell 0) hnb1
          have q1 : ∀ W, Fr [w.heap.size + 1, w.heap.size + 1 + 1] X W → W.cell? ⟨w.heap.size, 1, none⟩ = some (Value.slice (some ⟨g, o + 5, none⟩) n' (c2 - 1)) := fun W hW => hW.cell (hxX.cell 1) hnb1
          have q2 : ∀ W, Fr [w.heap.size + 1, w.heap.size + 1 + 1] X W → W.cell? ⟨w.heap.size, 2, none⟩ = some (.slice A a.waits.length c) := fun W hW => hW.cell (hxX.cell 2) hnb1
          have r0 : ∀ W, Fr [w.heap.size + 1, w.heap.size + 1 + 1] X W → W.cell? ⟨w2.heap.size, 0, none⟩ = some (.slice A5 m.words.length c5) := fun W hW => hW.cell (hMX.cell 0) hnb2
          have r1 : ∀ W, Fr [w.heap.size + 1, w.heap.size + 1 + 1] X W → W.cell? ⟨w2.heap.size, 1, none⟩ = some (.int .i64 m.lane) := fun W hW => hW.cell (hMX.cell 1) hnb2
          have r2 : ∀ W, Fr [w.heap.size + 1, w.heap.size + 1 + 1] X W → W.cell? ⟨w2.heap.size, 2, none⟩ = some (.int .i64 m.stamp) := fun W hW => hW.cell (hMX.cell 2) hnb2
          have r3 : ∀ W, Fr [w.heap.size + 1, w.heap.size + 1 + 1] X W → W.cell? ⟨w2.heap.size, 3, none⟩ = some (.int .i64 m.late) := fun W hW => hW.cell (hMX.cell 3) hnb2
          have r4 : ∀ W, Fr [w.heap.size + 1, w.heap.size + 1 + 1] X W → W.cell? ⟨w2.heap.size, 4, none⟩ = some (.int .i64 m.seq) := fun W hW => hW.cell (hMX.cell 4) hnb2
          clear x0 x1 x2 fx k0 k1 k2 k3 k4 a0 a1 a2 fa y0 y1 y2 fy z0 z1 z2 z3 z4 fz
          obtain ⟨y0, y1, y2⟩ := hyX.three
          have fy := hyX.froz
          obtain ⟨z0, z1, z2, z3, z4⟩ := hzX.five
          have fz := hzX.froz
          have fin : ∀ W, Fr [w.heap.size + 1, w.heap.size + 1 + 1] X W → RefAsk w W M r (.returned (.tuple #[.agg #[.int .i64 a.hold, Value.slice (some ⟨g, o + 5, none⟩) n' (c2 - 1), .slice A a.waits.length c], .agg #[.slice A5 m.words.length c5, .int .i64 m.lane, .int .i64 m.stamp, .int .i64 m.late, .int .i64 m.seq], .int .i64 0])) := fun W hW => by
            refine FIN.out _ x3 W HF3.out HTL.out ((hfX.mono (fun y hy _ => by simp at hy; simp [hy])).trans' (hW.mono (fun y hy _ => by simp at hy ⊢; omega)))
          have FIN2 := Lib.hid fin
          clear hX hfX hxX hyX hzX hMX hx hy hz hM3 hf3 hx3 fin hnb1 hnb2
          refine wp_sched 4 [(0, 0), (1, 0), (2, 1), (3, 1), (4, 2)] (fun W => Fr [w.heap.size + 1, w.heap.size + 1 + 1] X W) (by kernel_rfl) (by kernel_rfl) (fun _ _ _ _ _ h => h) ((Fr.refl _ X).drew) ?_
          iterate 2
            refine at_read (v := ?_) rfl (by first | rfl | kernel_rfl) ?_ ?_
            rotate_left
            · intro W hW
              go_simp
              try with_reducible rfl
            simp only [Act.put, List.setIfInBounds_toArray, List.set_cons_zero, List.set_cons_succ]
          refine at_eff rfl (fun K hK => ?_)
          go_simp
          refine hK _ _ (fr3 X _ _ _ _ _) ?_
          clear hK K
          try simp only [Act.put, List.setIfInBounds_toArray, List.set_cons_zero, List.set_cons_succ]
          refine at_eff rfl (fun K hK => ?_)
          go_simp
          refine hK _ _ (fr8 X _ _ _ _ _ _ _ _ _ _) ?_
          clear hK K
          try simp only [Act.put, List.setIfInBounds_toArray, List.set_cons_zero, List.set_cons_succ]
          refine at_last rfl (fun K hK => ?_)
          go_simp
          refine hK _ _ ?_
          clear hK K
          try simp only [Act.put, List.setIfInBounds_toArray, List.set_cons_zero, List.set_cons_succ]
          refine sched_nil ?_
          go_wp2
          refine bodyPost_ret (v := .tuple #[.agg #[.int .i64 a.hold, Value.slice (some ⟨g, o + 5, none⟩) n' (c2 - 1), .slice A a.waits.length c], .agg #[.slice A5 m.words.length c5, .int .i64 m.lane, .int .i64 m.stamp, .int .i64 m.late, .int .i64 m.seq], .int .i64 0]) ?h1 rfl ?h2
          case h2 =>
            refine FIN2.out _ (Fr.drew ?_)
            iterate 8 refine Fr.setCell ?_ (by simp) _
            exact Fr.refl _ _
          case h1 => simp [results, Try.results23, go_sem, *]
    · have hnz : n = 0 := by omega
      have hme : a.msgs = [] := List.length_eq_zero_iff.1 (by rw [← HN.out]; exact hnz)
      have HME := Lib.hid hme
      subst hnz
      clear hme hm0
      by_cases hl : cut u ≤ cut t
      · have hr2 : r = (a, zmsg, 2) := by rw [← HR.out]; unfold AP.ask; rw [HC.out, HME.out]; simp [hl]
        have HR2 := Lib.hid hr2
        clear hr2
        go_enter Try.func23, Try.ntmps23
        go_wp2_with fail
        refine hwt.mono ?_
        rintro e w2 ⟨rfl, hf2⟩
        obtain ⟨x0, x1, x2⟩ := (HB.out.1.fr hf2 (by simp)).three
        have y := HB.out.2.1.fr hf2 (by simp)
        have z := HB.out.2.2.fr hf2 (by simp)
        obtain ⟨y0, y1, y2⟩ := y.three
        have fy := y.froz
        obtain ⟨z0, z1, z2, z3, z4⟩ := z.five
        have fz := z.froz
        have fin : ∀ W, Fr [w.heap.size, w.heap.size + 1, w.heap.size + 1 + 1] w2 W → RefAsk w W M r (.returned (.tuple #[.agg #[.int .i64 a.hold, .slice A2 0 c2, .slice A a.waits.length c], .agg #[.slice none 0 0, .int .i64 0, .int .i64 0, .int .i64 0, .int .i64 0], .int .i64 2])) := fun W hW => by
          have hfW := HFN.out w2 W hf2 hW
          rw [HR2.out]
          exact ⟨_, _, _, rfl, H.out.fr hfW (by simp), zmsg_words _ _, hfW⟩
        have FIN := Lib.hid fin
        clear y z hwt hf2 fin
        go_wp2_with (go_at_call 38; refine (refcut_any _ _).mono ?_; rintro e w' ⟨rfl, rfl⟩)
        refine bodyPost_ret (v := .tuple #[.agg #[.int .i64 a.hold, .slice A2 0 c2, .slice A a.waits.length c], .agg #[.slice none 0 0, .int .i64 0, .int .i64 0, .int .i64 0, .int .i64 0], .int .i64 2]) ?h1 rfl ?h2
        case h2 =>
          refine FIN.out _ ?_
          iterate 8 refine Fr.setCell ?_ (by simp) _
          exact Fr.refl _ _
        case h1 => simp [results, Try.results23, go_sem, *]
      · have hr2 : r = (⟨a.hold, [], a.waits ++ [(x, cut u)]⟩, zmsg, 6) := by rw [← HR.out]; unfold AP.ask; rw [HC.out, HME.out]; simp [hl, HME.out]
        have HR2 := Lib.hid hr2
        clear hr2
        go_enter Try.func23, Try.ntmps23
        go_wp2_with fail
        refine hwt.mono ?_
        rintro e w2 ⟨rfl, hf2⟩
        obtain ⟨x0, x1, x2⟩ := (HB.out.1.fr hf2 (by simp)).three
        have HF2 := Lib.hid hf2
        have hs2 := hf2.size
        have HS2 := Lib.hid hs2
        clear hwt hf2 hs2
        go_wp2_with (first
          | (go_at_call 38; refine (refcut_any _ _).mono ?_; rintro e w' ⟨rfl, rfl⟩)
          | (at_builtin; first
            | (refine wpList_app _ rfl w_elem _ _ rfl (.slice none 0 0) 0 [] (by rfl) (World.ownsRow_nil _ _ _ _) [] (.slice A a.waits.length c) a.waits.length (wrow a.waits) (by rfl) ((H.out.waits.fr (HF1.out.trans' HF2.out) (by simp)).mono (by simp) (by omega)) (wrow_one _) (by omega) (by simp only [maxLen]; omega) ?_
               intro v3 w3 hown3 hfa3 hat3
               have hf3 : Fr [] w2 w3 := by simpa [Value.ownBlock] using hfa3
               have HF3 := Lib.hid hf3
               have HN3 := Lib.hid (show ∀ g, v3.ownBlock = some g → w2.heap.size ≤ g from fun g hg => by
                 rcases hat3 with h | h
                 · rw [h] at hg; simp [Value.ownBlock] at hg
                 · rw [h] at hg; injection hg with hg; omega)
               have HO3 := Lib.hid (show w3.ownsRow 0 78 2 v3 a.waits.length (wrow a.waits) by simpa using hown3)
               clear hown3 hfa3 hat3 x0 x1 x2
               obtain ⟨x0, x1, x2⟩ := (HB.out.1.fr (HF2.out.trans' hf3) (by simp)).three
               clear hf3)
            | (refine wpList_app _ rfl w_elem _ _ rfl v3 a.waits.length (wrow a.waits) (by rfl) (((Fr.refl [] w3).alloc _).own HO3.out (by simp)) [] (.slice (some ⟨w3.heap.size, 0, none⟩) 1 1) 1 (wrow [(x, cut u)]) (by rfl) (rd_built_w w3 (x, cut u)) (wrow_one _) (by omega) (by simp only [maxLen]; omega) ?_
               intro v4 w4 hown4 hfa4 hat4
               have hnv : ∀ y, y < w2.heap.size → y ∉ v3.ownBlock.toList := fun y hy hx => by simp at hx; have := HN3.out y hx; omega
               have hf4 : Fr v3.ownBlock.toList w3 w4 := ((Fr.refl [] w3).alloc (.cells #[.int .i64 x, .int .i64 (cut u)] 78)).of0.trans' hfa4
               have hf24 : Fr [] w2 w4 := HF3.out.trans hf4 (fun y hy hlt => absurd hy (hnv y hlt))
               have HF24 := Lib.hid hf24
               have HN4 := Lib.hid (show ∀ g, v4.ownBlock = some g → w2.heap.size ≤ g from fun g hg => by
                 have hs3 := HF3.out.size
                 rcases hat4 with h | h
                 · rw [h] at hg; exact HN3.out g hg
                 · rw [h] at hg; injection hg with hg; simp at hg; omega)
               have HO4 := Lib.hid (show w4.ownsRow 0 78 2 v4 (a.waits.length + 1) (wrow (a.waits ++ [(x, cut u)])) by rw [wrow_append]; exact hown4)
               obtain ⟨A4, c4, rfl, _⟩ := own_form hown4
               have hx4 := HB.out.1.fr (HF2.out.trans' hf24) (by simp)
               have hy4 := HB.out.2.1.fr (HF2.out.trans' hf24) (by simp)
               have hz4 := HB.out.2.2.fr (HF2.out.trans' hf24) (by simp)
               clear hown4 hfa4 hat4 hnv hf4 hf24 x0 x1 x2
               obtain ⟨x0, x1, x2⟩ := hx4.three
               have fx := hx4.froz 2
               obtain ⟨y0, y1, y2⟩ := hy4.three
               have fy := hy4.froz
               obtain ⟨z0, z1, z2, z3, z4⟩ := hz4.five
               have fz := hz4.froz
               clear hx4 hy4 hz4)))
        have fin : ∀ W, Fr [w.heap.size, w.heap.size + 1, w.heap.size + 1 + 1] w4 W → RefAsk w W M r (.returned (.tuple #[.agg #[.int .i64 a.hold, .slice A2 0 c2, .slice A4 (a.waits.length + 1) c4], .agg #[.slice none 0 0, .int .i64 0, .int .i64 0, .int .i64 0, .int .i64 0], .int .i64 6])) := fun W hW => by
          have hfW := HFN.out w4 W (HF2.out.trans' HF24.out) hW
          rw [HR2.out]
          refine ⟨_, _, _, rfl, ⟨⟨[], rfl, ?_, by simp⟩, ?_⟩, zmsg_words _ _, hfW⟩
          · have h0 := H.out.msgs
            obtain ⟨ms0, h1, h2, _⟩ := h0
            rw [HME.out] at h1 h2
            simp only [List.map_eq_nil_iff] at h1
            rw [h1] at h2
            exact h2.fr hfW (by simp)
          · have h1 := hW.own HO4.out (fun g hg hx => by have := HN4.out g hg; have := HS2.out; simp at hx; omega)
            have h2 : (a.waits ++ [(x, cut u)]).length = a.waits.length + 1 := by simp
            show Rd W 2 M _ (a.waits ++ [(x, cut u)]).length _
            rw [h2]
            exact Rd.of_own h1 (fun g hg hx => by have := HN4.out g hg; have := HS2.out; have := hM g hx; omega)
        refine bodyPost_ret (v := .tuple #[.agg #[.int .i64 a.hold, .slice A2 0 c2, .slice A4 (a.waits.length + 1) c4], .agg #[.slice none 0 0, .int .i64 0, .int .i64 0, .int .i64 0, .int .i64 0], .int .i64 6]) ?h1 rfl ?h2
        case h2 =>
          refine fin _ ?_
          iterate 9 refine Fr.setCell ?_ (by simp) _
          exact Fr.refl _ _
        case h1 => simp [results, Try.results23, go_sem, *]
end Go.Proofs.Ytfadadgkgbaohaa
