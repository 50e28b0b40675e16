/-
  Plain: whether an entry is what its line tells.
-/
import Derived.Test.YtcnmnfllchiehaaDoorTn
set_option linter.unusedSimpArgs false
set_option linter.unusedVariables false
namespace Go.Proofs.YtcnmnfllchiehaaDoor
open Go.RowKit
attribute [local go_sem] max_ints min_ints

/-- Numbers of which some are set to 0. -/
def zer (ns : List Int) (l : List Nat) : List Int := l.foldl (fun a i => a.set i 0) ns
theorem zer_length (ns : List Int) (l : List Nat) : (zer ns l).length = ns.length := by
  unfold zer
  induction l generalizing ns with
  | nil => rfl
  | cons i r ih => rw [List.foldl_cons, ih, List.length_set]
theorem zer_snoc (ns : List Int) (l : List Nat) (i : Nat) : zer ns (l ++ [i]) = (zer ns l).set i 0 := by
  unfold zer; rw [List.foldl_append]; rfl
theorem zer_get (ns : List Int) (l : List Nat) (i : Nat) (h : i ∉ l) : (zer ns l).getD i 0 = ns.getD i 0 := by
  unfold zer
  induction l generalizing ns with
  | nil => rfl
  | cons j r ih =>
    rw [List.foldl_cons, ih _ (fun hx => h (List.mem_cons_of_mem _ hx))]
    have : j ≠ i := fun e => h (by rw [e]; simp)
    simp [List.getD, List.getElem?_set, this]

/-- An entry's box. -/
def BoxAt (w : World) (b : Nat) (ns : List Int) (wv : Value) : Prop := Blk w b 24 (ns.map (Value.int .i64) ++ [wv]).toArray ∧ ns.length = 6
section
variable {w w' : World} {b : Nat} {ns : List Int} {wv : Value}
theorem BoxAt.get (h : BoxAt w b ns wv) {i : Nat} (hi : i < 6) : w.cell? ⟨b, i, none⟩ = some (.int .i64 (ns.getD i 0)) := by
  rw [h.1.cell i]
  have hl : i < ns.length := by rw [h.2]; exact hi
  rw [List.getElem?_toArray, List.getElem?_append_left (by simpa using hl)]
  simp [List.getD, hl]
theorem BoxAt.words (h : BoxAt w b ns wv) : w.cell? ⟨b, 6, none⟩ = some wv := by
  rw [h.1.cell 6, List.getElem?_toArray, List.getElem?_append_right (by simp [h.2])]
  simp [h.2]
theorem BoxAt.set_ (h : BoxAt w b ns wv) {i : Nat} (hi : i < 6) (x : Int) : BoxAt (w.setCell ⟨b, i, none⟩ (.int .i64 x)) b (ns.set i x) wv := by
  refine ⟨?_, by rw [List.length_set]; exact h.2⟩
  have h1 := h.1.set_ i (.int .i64 x)
  have hl : i < ns.length := by rw [h.2]; exact hi
  rw [List.setIfInBounds_toArray, List.set_append_left _ _ (by simpa using hl), ← List.map_set] at h1
  exact h1
theorem BoxAt.fr {F : List Nat} (h : BoxAt w b ns wv) (hf : Fr F w w') (hb : b ∉ F) : BoxAt w' b ns wv := ⟨h.1.fr hf hb, h.2⟩
end
theorem BoxAt.new (w : World) (o : Ent) (wv : Value) : BoxAt (w.alloc (.cells #[.int .i64 o.kind, .int .i64 o.part, .int .i64 o.proc, .int .i64 o.chan, .int .i64 o.lane, .int .i64 o.n, wv] 24)) w.heap.size o.nums wv := ⟨Blk.new _ _ _, rfl⟩

def Ent.told (o : Ent) : List Int := o.words ++ (fidx o.kind).map o.get
def Ent.rest (o : Ent) : List Int := zer o.nums (fidx o.kind)
def plainS (o : Ent) : Bool := decide (0 ≤ o.kind) && decide (o.kind < 8) && decide (o.words.length ≤ 8) && (hasW o.kind || decide (o.words.length = 0)) && !(o.told.any oddB) &&
  decide (o.rest.getD 1 0 = 0) && decide (o.rest.getD 3 0 = 0) && decide (o.rest.getD 4 0 = 0) && decide (o.rest.getD 2 0 = 0) && decide (o.rest.getD 5 0 = 0)

theorem plainS_low {o : Ent} (h : o.kind < 0) : plainS o = false := by
  have : decide (0 ≤ o.kind) = false := by simpa using h
  simp [plainS, this]
theorem plainS_high {o : Ent} (h : ¬ o.kind < 8) : plainS o = false := by
  have : decide (o.kind < 8) = false := by simpa using h
  simp [plainS, this]
theorem plainS_long {o : Ent} (h : ¬ o.words.length ≤ 8) : plainS o = false := by
  have : decide (o.words.length ≤ 8) = false := by simpa using h
  simp [plainS, this]

theorem fidx_lt (k : Int) : ∀ i ∈ fidx k, i < 6 := by
  unfold fidx; intro i hi
  repeat' split at hi
  all_goals (simp at hi; omega)
theorem fidx_nodup (k : Int) : (fidx k).Nodup := by
  unfold fidx
  repeat' split
  all_goals decide
theorem fidx_len (k : Int) : (fidx k).length ≤ 4 := by
  unfold fidx
  repeat' split
  all_goals decide

structure PlainInv (o : Ent) (wv : Value) (b : Nat) (x : World) (k : Nat) (v : Value) (wr : World) : Prop where
  box : BoxAt wr b (zer o.nums ((fidx o.kind).take k)) wv
  row : Rd wr 1 [b] v (o.words.length + k) (ints (o.words ++ ((fidx o.kind).take k).map o.get))
  fr : Fr [b] x wr

set_option maxHeartbeats 2000000 in
set_option maxRecDepth 100000 in
theorem plain_any (o : Ent) (wv : Value) (w : World) (hW : Rd w 1 [] wv o.words.length (ints o.words)) :
    Calls Tryd.prog 13 #[o.val wv] w fun e w' => e = .returned (.bool (plainS o)) ∧ Fr [] w w' := by
  obtain ⟨A, c, rfl, _⟩ := id hW
  have hmax := hW.max
  have hrm := hW.room
  obtain ⟨x1, hx1⟩ : ∃ y, w.alloc (.cells #[.int .i64 o.kind, .int .i64 o.part, .int .i64 o.proc, .int .i64 o.chan, .int .i64 o.lane, .int .i64 o.n, .slice A o.words.length c] 24) = y := ⟨_, rfl⟩
  have hB1 : BoxAt x1 w.heap.size o.nums (.slice A o.words.length c) := by rw [← hx1]; exact BoxAt.new _ _ _
  have hf1 : Fr [] w x1 := by rw [← hx1]; exact (Fr.refl _ _).alloc _
  have hW1 := hW.fr hf1 (by simp)
  have q0 : ∀ W, Fr [] x1 W → W.cell? ⟨w.heap.size, 0, none⟩ = some (.int .i64 o.kind) := fun W hw => (hB1.fr hw (by simp)).get (i := 0) (by omega)
  have q6 : ∀ W, Fr [] x1 W → W.cell? ⟨w.heap.size, 6, none⟩ = some (.slice A o.words.length c) := fun W hw => (hB1.fr hw (by simp)).words
  have HB1 := Lib.hid hB1
  have HF1 := Lib.hid hf1
  have HW := Lib.hid hW
  clear hB1 hf1 hW hW1
  unfold Ent.val
  by_cases h0 : o.kind < 0
  · have HP := Lib.hid (plainS_low h0)
    go_enter Tryd.func13, Tryd.ntmps13
    go_wp2_with fail
    refine wp_sched 15 [(0, 0), (1, 0), (2, 0), (3, 0), (4, 0), (5, 0), (6, 1), (7, 0), (8, 0), (9, 0), (10, 0), (11, 0), (12, 0), (13, 0), (14, 0), (15, 2)] (fun W => Fr [] x1 W) (by kernel_rfl) (by kernel_rfl) (fun _ _ _ _ _ h => h) ((Fr.refl [] x1).drew) ?_
    iterate 4
      refine at_read (v := ?_) rfl (by first | rfl | kernel_rfl) ?_ ?_
      rotate_left
      · intro W hW
        go_simp
        try with_reducible rfl
      simp only [Act.put, List.setIfInBounds_toArray, List.set_cons_zero, List.set_cons_succ]
    iterate 2
      refine at_skip rfl (by rfl) ?_
      simp only [Act.put, List.setIfInBounds_toArray, List.set_cons_zero, List.set_cons_succ]
    refine at_eff rfl (fun K hK => ?_)
    go_simp
    refine hK _ _ ((Fr.refl [] x1).drew) ?_
    clear hK K
    try simp only [Act.put, List.setIfInBounds_toArray, List.set_cons_zero, List.set_cons_succ]
    iterate 2
      refine at_skip rfl (by rfl) ?_
      simp only [Act.put, List.setIfInBounds_toArray, List.set_cons_zero, List.set_cons_succ]
    iterate 2
      refine at_read (v := ?_) rfl (by first | rfl | kernel_rfl) ?_ ?_
      rotate_left
      · intro W hW
        go_simp
        try with_reducible rfl
      simp only [Act.put, List.setIfInBounds_toArray, List.set_cons_zero, List.set_cons_succ]
    iterate 4
      refine at_skip rfl (by rfl) ?_
      simp only [Act.put, List.setIfInBounds_toArray, List.set_cons_zero, List.set_cons_succ]
    refine at_last rfl (fun K hK => ?_)
    go_simp
    refine hK _ _ ?_
    clear hK K
    try simp only [Act.put, List.setIfInBounds_toArray, List.set_cons_zero, List.set_cons_succ]
    refine sched_nil ?_
    clear q0 q6
    go_wp2_with fail
    go_ret
    exact ⟨ret_bool HP.out.symm, HF1.out.trans' (Fr.refl [] x1).drew⟩
  · by_cases h8 : o.kind < 8
    · by_cases hl : o.words.length ≤ 8
      · have hk0 : decide (o.kind < 0) = false := by simpa using h0
        have hk8 : decide (8 ≤ o.kind) = false := by simpa using h8
        have hl1 : decide (8 < o.words.length) = false := by simpa using hl
        have hl2 : decide ((8 : Int) < (o.words.length : Int)) = false := by simp; omega
        go_enter Tryd.func13, Tryd.ntmps13
        go_wp2_with fail
        refine wp_sched 15 [(0, 0), (1, 0), (2, 0), (3, 0), (4, 0), (5, 0), (6, 1), (7, 0), (8, 0), (9, 0), (10, 0), (11, 0), (12, 0), (13, 0), (14, 0), (15, 2)] (fun W => Fr [] x1 W) (by kernel_rfl) (by kernel_rfl) (fun _ _ _ _ _ h => h) ((Fr.refl [] x1).drew) ?_
        iterate 6
          refine at_read (v := ?_) rfl (by first | rfl | kernel_rfl) ?_ ?_
          rotate_left
          · intro W hW
            go_simp
            try with_reducible rfl
          simp only [Act.put, List.setIfInBounds_toArray, List.set_cons_zero, List.set_cons_succ]
        refine at_eff rfl (fun K hK => ?_)
        go_simp
        refine (kinds_any x1.drew).mono ?_
        rintro e x2 ⟨rfl, hx2⟩
        have hf2 : Fr [] x1 x2 := by rw [hx2]; exact (Fr.refl [] x1).drew.alloc _
        have HF2 := Lib.hid hf2
        clear hf2 hx2
        go_simp
        refine hK _ _ (HF2.out) ?_
        clear hK K
        try simp only [Act.put, List.setIfInBounds_toArray, List.set_cons_zero, List.set_cons_succ]
        iterate 8
          refine at_read (v := ?_) rfl (by first | rfl | kernel_rfl) ?_ ?_
          rotate_left
          · intro W hW
            go_simp
            try with_reducible rfl
          simp only [Act.put, List.setIfInBounds_toArray, List.set_cons_zero, List.set_cons_succ]
        refine at_last rfl (fun K hK => ?_)
        go_simp
        refine hK _ _ ?_
        clear hK K
        try simp only [Act.put, List.setIfInBounds_toArray, List.set_cons_zero, List.set_cons_succ]
        refine sched_nil ?_
        have hq0 := q0 x2 HF2.out
        have hq6 := q6 x2 HF2.out
        clear q0 q6
        go_wp2_with fail
        refine (fields_any w.heap.size o.kind x2 hq0).mono ?_
        rintro e x3 ⟨fv, rfl, hfr, hf3, _⟩
        have hblt : w.heap.size < x2.heap.size := Nat.lt_of_lt_of_le HB1.out.1.lt HF2.out.size
        have hfr1 := hfr [w.heap.size] (by simpa using hblt)
        obtain ⟨FA, fc, rfl, _⟩ := id hfr1
        have HFR := Lib.hid hfr1
        have HF3 := Lib.hid (HF2.out.trans' hf3)
        have hfl := fidx_len o.kind
        have hfpos : 0 < (fidx o.kind).length := by
          unfold fidx
          repeat' split
          all_goals decide
        clear hfr hf3 hq0 hq6 hfr1
        obtain ⟨fg, fo, rfl, _, _, hfc⟩ := HFR.out.plain hfpos (by omega)
        have HFC := Lib.hid hfc
        have HMAX := Lib.hid hmax
        clear hfc hmax
        go_wp2_with fail
        go_loopw [3, 33] (fun v3 vi wr => ∃ k : Nat, vi = .int .i64 k ∧ k ≤ (fidx o.kind).length ∧ Hid (PlainInv o (.slice A o.words.length c) w.heap.size x3 k v3 wr)) (fun _ vi _ => (fidx o.kind).length - (intOf vi).toNat)
        case atStart =>
          exact ⟨0, rfl, by omega, Lib.hid ⟨HB1.out.fr HF3.out (by simp), by
            have h := (HW.out.mono (M' := [w.heap.size]) (by simp) (by omega)).fr (HF1.out.trans' HF3.out) (by simp)
            simpa using h, Fr.refl _ _⟩⟩
        case round =>
          obtain ⟨k, rfl, hk, HI⟩ := hrel
          obtain ⟨A3, c3, rfl, _⟩ := id HI.out.row
          have hr3 := HI.out.row.room.1
          have hr3m := HI.out.row.room.2.1
          have hA3 : A3 = none → o.words.length + k = 0 := fun h => by
            subst h
            rcases Nat.eq_zero_or_pos (o.words.length + k) with h0 | h0
            · exact h0
            · obtain ⟨g, o', e, _⟩ := HI.out.row.plain h0 (by omega)
              cases e
          obtain ⟨n3, hn3⟩ : ∃ n, o.words.length + k = n := ⟨_, rfl⟩
          have hrow := HI.out.row
          rw [hn3] at hr3 hA3 hrow ⊢
          have hn12 : n3 ≤ 12 := by omega
          have HROW := Lib.hid hrow
          have HA3 := Lib.hid hA3
          have HN3 := Lib.hid hn3
          clear hrow hA3 hn3
          by_cases hlt : k < (fidx o.kind).length
          · have hi6 : (fidx o.kind)[k] < 6 := fidx_lt o.kind _ (List.getElem_mem hlt)
            have hno : (fidx o.kind)[k] ∉ (fidx o.kind).take k := by
              intro hx
              obtain ⟨j, hj, he⟩ := List.mem_take_iff_getElem.1 hx
              have := (List.getElem_inj (fidx_nodup o.kind)).1 he
              omega
            have hcp : wr.cell? ⟨fg, fo + k, none⟩ = some (.pointer (some ⟨w.heap.size, (fidx o.kind)[k], none⟩)) := by
              obtain ⟨g', o', e1, hng, _, hcc⟩ := (HFR.out.fr HI.out.fr (by simp)).plain hfpos (by omega)
              injection e1 with e1
              injection e1 with e1 e2
              subst e1 e2
              exact hcc k _ (by simp [ptrs, hlt])
            have hsu : (fidx o.kind).take (k + 1) = (fidx o.kind).take k ++ [(fidx o.kind)[k]] := List.take_succ_eq_append_getElem hlt
            generalize (fidx o.kind)[k] = i at hi6 hno hcp hsu
            have hgi : (zer o.nums ((fidx o.kind).take k)).getD i 0 = o.get i := zer_get _ _ _ hno
            have qb : ∀ W, Fr [] wr W → W.cell? ⟨w.heap.size, i, none⟩ = some (.int .i64 (o.get i)) := fun W hw => by
              have h := (HI.out.box.fr hw (by simp)).get hi6
              rw [hgi] at h
              exact h
            have HSU := Lib.hid hsu
            clear hno hsu hgi
            go_wp2_with fail
            refine wp_sched 11 [(0, 0), (1, 0), (2, 0), (3, 0), (4, 0), (5, 0), (6, 0), (7, 0), (8, 0), (9, 1), (10, 1), (11, 2)] (fun W => Fr [] wr W) (by kernel_rfl) (by kernel_rfl) (fun _ _ _ _ _ h => h) ((Fr.refl [] wr).drew) ?_
            iterate 5
              refine at_read (v := ?_) rfl (by first | rfl | kernel_rfl) ?_ ?_
              rotate_left
              · intro W hW
                go_simp
                try with_reducible rfl
              simp only [Act.put, List.setIfInBounds_toArray, List.set_cons_zero, List.set_cons_succ]
            refine at_read (v := .slice A3 n3 n3) rfl (by first | rfl | kernel_rfl) ?_ ?_
            · intro W hW
              go_simp
            simp only [Act.put, List.setIfInBounds_toArray, List.set_cons_zero, List.set_cons_succ]
            iterate 3
              refine at_read (v := ?_) rfl (by first | rfl | kernel_rfl) ?_ ?_
              rotate_left
              · intro W hW
                go_simp
                try with_reducible rfl
              simp only [Act.put, List.setIfInBounds_toArray, List.set_cons_zero, List.set_cons_succ]
            refine at_eff rfl (fun K hK => ?_)
            go_simp
            refine hK _ _ ((Fr.refl [] wr).drew.alloc _) ?_
            clear hK K
            try simp only [Act.put, List.setIfInBounds_toArray, List.set_cons_zero, List.set_cons_succ]
            refine at_eff rfl (fun K hK => ?_)
            refine step_grow _ rfl int_elem _ _ rfl A3 n3 n3 c3 (ints (o.words ++ ((fidx o.kind).take k).map o.get)) (by rfl) [w.heap.size] (HROW.out.fr ((Fr.refl [] wr).drew.alloc _) (by simp)) HA3.out [] (.slice (some ⟨wr.drew.heap.size, 0, none⟩) 1 1) 1 (ints [o.get i]) (by rfl) (rd_new wr.drew 1 [] _ (ints [o.get i]) 1 rfl (by decide) (by simp)) (by omega) (ints_one _) (by omega) (by omega) (by simp only [maxLen]; omega) ?_
            intro v' w4 hown hf4
            have hf4' : Fr [] wr w4 := ((Fr.refl [] wr).drew.alloc _).trans' hf4
            have hge : ∀ g, v'.ownBlock = some g → wr.heap.size ≤ g := fun g hg => by
              rcases hown.2 with ⟨rfl, _⟩ | ⟨g', cap, cur, rfl, hb, _⟩
              · simp [Value.ownBlock] at hg
              · simp [Value.ownBlock] at hg
                subst hg
                simp at hb
                omega
            have hrd := Rd.of_own (M := [w.heap.size]) hown (fun g hg hx => by
              have h1 := hge g hg
              have h2 := HI.out.box.1.lt
              simp at hx
              omega)
            have hbx := (HI.out.box.fr hf4' (by simp))
            have HF4 := Lib.hid hf4'
            have HRD := Lib.hid hrd
            have HBX := Lib.hid hbx
            have hbi := hbx.get hi6
            have hbf := hbx.1.froz
            obtain ⟨A4, c4, rfl, _⟩ := id hrd
            clear hown hf4 hf4' hge hrd hbx
            refine hK _ _ (HF4.out) ?_
            clear hK K
            try simp only [Act.put, List.setIfInBounds_toArray, List.set_cons_zero, List.set_cons_succ]
            refine at_last rfl (fun K hK => ?_)
            go_simp
            refine hK _ _ ?_
            clear hK K
            try simp only [Act.put, List.setIfInBounds_toArray, List.set_cons_zero, List.set_cons_succ]
            refine sched_nil ?_
            clear qb hcp
            go_wp2_with fail
            have hf5 : Fr [w.heap.size] w4 (w4.setCell ⟨w.heap.size, i, none⟩ (.int .i64 0)) := (Fr.refl _ _).setCell (by simp) _
            have hI : PlainInv o (.slice A o.words.length c) w.heap.size x3 (k + 1) (.slice A4 (n3 + 1) c4) (w4.setCell ⟨w.heap.size, i, none⟩ (.int .i64 0)) := by
              refine ⟨?_, ?_, (HI.out.fr.trans0 HF4.out).trans' hf5⟩
              · rw [HSU.out, zer_snoc]
                exact HBX.out.set_ hi6 0
              · have h := HRD.out.fr hf5 (fun x hx _ => hx)
                rw [HSU.out, List.map_append, ← List.append_assoc]
                have e : ints (o.words ++ ((fidx o.kind).take k).map o.get ++ [i].map o.get) = ints (o.words ++ ((fidx o.kind).take k).map o.get) ++ ints [o.get i] := by simp [ints]
                rw [e, show o.words.length + (k + 1) = n3 + 1 by have := HN3.out; omega]
                exact h
            have HI5 := Lib.hid hI
            clear hbi hbf hf5 hI
            go_roundw
            case rel => exact ⟨k + 1, by go_num, by omega, HI5⟩
            case measure => simp [intOf]; omega
          · have hkn : k = (fidx o.kind).length := by omega
            subst hkn
            have hbox := HI.out.box
            have hall : (fidx o.kind).take (fidx o.kind).length = fidx o.kind := List.take_length
            have hrw := HROW.out
            rw [hall] at hbox hrw
            have htl : o.told.length = n3 := by
              unfold Ent.told
              rw [List.length_append, List.length_map]
              exact HN3.out
            have hrw' : Rd wr 1 [w.heap.size] (.slice A3 n3 c3) o.told.length (ints o.told) := by rw [htl]; exact hrw
            have HRW := Lib.hid hrw'
            have HBOX := Lib.hid (show BoxAt wr w.heap.size o.rest (.slice A o.words.length c) from hbox)
            have hb6 := hbox.words
            have HFR := Lib.hid (HI.out.fr)
            have hp : plainS o = ((hasW o.kind || decide (o.words.length = 0)) && !(o.told.any oddB) && decide (o.rest.getD 1 0 = 0) && decide (o.rest.getD 3 0 = 0) && decide (o.rest.getD 4 0 = 0) && decide (o.rest.getD 2 0 = 0) && decide (o.rest.getD 5 0 = 0)) := by
              have e1 : decide (0 ≤ o.kind) = true := by simpa using h0
              have e2 : decide (o.kind < 8) = true := by simpa using h8
              have e3 : decide (o.words.length ≤ 8) = true := by simpa using hl
              simp only [plainS, e1, e2, e3, Bool.true_and]
            have HP := Lib.hid hp
            clear hbox hall hrw htl hrw' hp
            have hend : Fr [] w wr := by
              have h1 := HF1.out.trans' HF3.out
              refine h1.trans HFR.out (fun x hx hlt => ?_)
              simp at hx
              omega
            have HEND := Lib.hid hend
            clear hend
            cases hhw : hasW o.kind
            · by_cases hz : o.words.length = 0
              · have hzz : decide (o.words.length = 0) = true := by simpa using hz
                have HP2 := Lib.hid (show plainS o = (!(o.told.any oddB) && decide (o.rest.getD 1 0 = 0) && decide (o.rest.getD 3 0 = 0) && decide (o.rest.getD 4 0 = 0) && decide (o.rest.getD 2 0 = 0) && decide (o.rest.getD 5 0 = 0)) by rw [HP.out, hhw, hzz]; simp)
                have HHW := Lib.hid hhw
                clear hhw
                go_wp2_with fail
                refine (anyOdd_any o.told _ _ wr HRW.out).mono ?_
                rintro e w7 ⟨rfl, hf7⟩
                have hb7 := HBOX.out.fr hf7 (by simp)
                have hb1 := hb7.get (i := 1) (by omega)
                have hb2 := hb7.get (i := 2) (by omega)
                have hb3 := hb7.get (i := 3) (by omega)
                have hb4 := hb7.get (i := 4) (by omega)
                have hb5 := hb7.get (i := 5) (by omega)
                have HF7 := Lib.hid (HEND.out.trans' hf7)
                clear hb7 hf7 hb6
                generalize o.rest.getD 1 0 = z1 at hb1 HP2
                generalize o.rest.getD 2 0 = z2 at hb2 HP2
                generalize o.rest.getD 3 0 = z3 at hb3 HP2
                generalize o.rest.getD 4 0 = z4 at hb4 HP2
                generalize o.rest.getD 5 0 = z5 at hb5 HP2
                generalize o.told.any oddB = zo at HP2 ⊢
                cases zo
                all_goals
                  go_wp2_with fail
                  all_goals
                    go_ret
                    refine ⟨ret_bool ?_, HF7.out⟩
                    rw [HP2.out]
                    first | (simp [*]; done) | (simp [*] <;> rfl)
              · have hzz : decide (o.words.length = 0) = false := by simpa using hz
                have hzi : decide ((o.words.length : Int) = 0) = false := by simpa using hz
                have HP2 := Lib.hid (show plainS o = false by rw [HP.out, hhw, hzz]; simp)
                have HHW := Lib.hid hhw
                clear hhw
                go_wp2_with fail
                go_ret
                exact ⟨ret_bool HP2.out.symm, HEND.out⟩
            · have HP2 := Lib.hid (show plainS o = (!(o.told.any oddB) && decide (o.rest.getD 1 0 = 0) && decide (o.rest.getD 3 0 = 0) && decide (o.rest.getD 4 0 = 0) && decide (o.rest.getD 2 0 = 0) && decide (o.rest.getD 5 0 = 0)) by rw [HP.out, hhw]; simp)
              have HHW := Lib.hid hhw
              clear hhw
              go_wp2_with fail
              refine (anyOdd_any o.told _ _ wr HRW.out).mono ?_
              rintro e w7 ⟨rfl, hf7⟩
              have hb7 := HBOX.out.fr hf7 (by simp)
              have hb1 := hb7.get (i := 1) (by omega)
              have hb2 := hb7.get (i := 2) (by omega)
              have hb3 := hb7.get (i := 3) (by omega)
              have hb4 := hb7.get (i := 4) (by omega)
              have hb5 := hb7.get (i := 5) (by omega)
              have HF7 := Lib.hid (HEND.out.trans' hf7)
              clear hb7 hf7 hb6
              generalize o.rest.getD 1 0 = z1 at hb1 HP2
              generalize o.rest.getD 2 0 = z2 at hb2 HP2
              generalize o.rest.getD 3 0 = z3 at hb3 HP2
              generalize o.rest.getD 4 0 = z4 at hb4 HP2
              generalize o.rest.getD 5 0 = z5 at hb5 HP2
              generalize o.told.any oddB = zo at HP2 ⊢
              cases zo
              all_goals
                go_wp2_with fail
                all_goals
                  go_ret
                  refine ⟨ret_bool ?_, HF7.out⟩
                  rw [HP2.out]
                  first | (simp [*]; done) | (simp [*] <;> rfl)
      · have HP := Lib.hid (plainS_long hl)
        have hk0 : decide (o.kind < 0) = false := by simpa using h0
        have hk8 : decide (8 ≤ o.kind) = false := by simpa using h8
        have hl1 : decide (8 < o.words.length) = true := by simpa using hl
        have hl2 : decide ((8 : Int) < (o.words.length : Int)) = true := by simp; omega
        go_enter Tryd.func13, Tryd.ntmps13
        go_wp2_with fail
        refine wp_sched 15 [(0, 0), (1, 0), (2, 0), (3, 0), (4, 0), (5, 0), (6, 1), (7, 0), (8, 0), (9, 0), (10, 0), (11, 0), (12, 0), (13, 0), (14, 0), (15, 2)] (fun W => Fr [] x1 W) (by kernel_rfl) (by kernel_rfl) (fun _ _ _ _ _ h => h) ((Fr.refl [] x1).drew) ?_
        iterate 6
          refine at_read (v := ?_) rfl (by first | rfl | kernel_rfl) ?_ ?_
          rotate_left
          · intro W hW
            go_simp
            try with_reducible rfl
          simp only [Act.put, List.setIfInBounds_toArray, List.set_cons_zero, List.set_cons_succ]
        refine at_eff rfl (fun K hK => ?_)
        go_simp
        refine (kinds_any x1.drew).mono ?_
        rintro e x2 ⟨rfl, hx2⟩
        have hf2 : Fr [] x1 x2 := by rw [hx2]; exact (Fr.refl [] x1).drew.alloc _
        have HF2 := Lib.hid hf2
        clear hf2 hx2
        go_simp
        refine hK _ _ (HF2.out) ?_
        clear hK K
        try simp only [Act.put, List.setIfInBounds_toArray, List.set_cons_zero, List.set_cons_succ]
        iterate 8
          refine at_read (v := ?_) rfl (by first | rfl | kernel_rfl) ?_ ?_
          rotate_left
          · intro W hW
            go_simp
            try with_reducible rfl
          simp only [Act.put, List.setIfInBounds_toArray, List.set_cons_zero, List.set_cons_succ]
        refine at_last rfl (fun K hK => ?_)
        go_simp
        refine hK _ _ ?_
        clear hK K
        try simp only [Act.put, List.setIfInBounds_toArray, List.set_cons_zero, List.set_cons_succ]
        refine sched_nil ?_
        clear q0 q6
        go_wp2_with fail
        go_ret
        exact ⟨ret_bool HP.out.symm, HF1.out.trans' HF2.out⟩
    · have HP := Lib.hid (plainS_high h8)
      have hk0 : decide (o.kind < 0) = false := by simpa using h0
      have hk8 : decide (8 ≤ o.kind) = true := by simpa using h8
      go_enter Tryd.func13, Tryd.ntmps13
      go_wp2_with fail
      refine wp_sched 15 [(0, 0), (1, 0), (2, 0), (3, 0), (4, 0), (5, 0), (6, 1), (7, 0), (8, 0), (9, 0), (10, 0), (11, 0), (12, 0), (13, 0), (14, 0), (15, 2)] (fun W => Fr [] x1 W) (by kernel_rfl) (by kernel_rfl) (fun _ _ _ _ _ h => h) ((Fr.refl [] x1).drew) ?_
      iterate 6
        refine at_read (v := ?_) rfl (by first | rfl | kernel_rfl) ?_ ?_
        rotate_left
        · intro W hW
          go_simp
          try with_reducible rfl
        simp only [Act.put, List.setIfInBounds_toArray, List.set_cons_zero, List.set_cons_succ]
      refine at_eff rfl (fun K hK => ?_)
      go_simp
      refine (kinds_any x1.drew).mono ?_
      rintro e x2 ⟨rfl, hx2⟩
      have hf2 : Fr [] x1 x2 := by rw [hx2]; exact (Fr.refl [] x1).drew.alloc _
      have HF2 := Lib.hid hf2
      clear hf2 hx2
      go_simp
      refine hK _ _ (HF2.out) ?_
      clear hK K
      try simp only [Act.put, List.setIfInBounds_toArray, List.set_cons_zero, List.set_cons_succ]
      iterate 4
        refine at_read (v := ?_) rfl (by first | rfl | kernel_rfl) ?_ ?_
        rotate_left
        · intro W hW
          go_simp
          try with_reducible rfl
        simp only [Act.put, List.setIfInBounds_toArray, List.set_cons_zero, List.set_cons_succ]
      iterate 4
        refine at_skip rfl (by rfl) ?_
        simp only [Act.put, List.setIfInBounds_toArray, List.set_cons_zero, List.set_cons_succ]
      refine at_last rfl (fun K hK => ?_)
      go_simp
      refine hK _ _ ?_
      clear hK K
      try simp only [Act.put, List.setIfInBounds_toArray, List.set_cons_zero, List.set_cons_succ]
      refine sched_nil ?_
      clear q0 q6
      go_wp2_with fail
      go_ret
      exact ⟨ret_bool HP.out.symm, HF1.out.trans' HF2.out⟩
end Go.Proofs.YtcnmnfllchiehaaDoor
