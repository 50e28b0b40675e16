/-
  Op: an entry's line.
-/
import Derived.Test.YtcnmnfllchiehaaDoorTp
import Derived.Lib.ItoaLen
set_option linter.unusedSimpArgs false
set_option linter.unusedVariables false
namespace Go.Proofs.YtcnmnfllchiehaaDoor
open Go.RowKit
attribute [local go_sem] max_ints min_ints

/-- The words of a plain entry's line. -/
def Ent.line (o : Ent) : List Str := kindW.getD o.kind.toNat [] :: digs ((fidx o.kind).map o.get ++ o.words)
def opS (o : Ent) : Str := if plainS o then joinW o.line else []
def opE (o : Ent) : Int := if plainS o then 0 else 3

theorem itoa_len (n : Int) (h : I64 n) : (Lib.itoa n).length ≤ 21 := Lib.itoa_length_le n h.1 h.2
theorem joinW_len (xs : List Str) (m : Nat) (h : ∀ x ∈ xs, x.length ≤ m) : (joinW xs).length ≤ xs.length * (m + 1) := by
  induction xs with
  | nil => simp [joinW, Lib.join_nil]
  | cons x r ih =>
    cases r with
    | nil =>
      have := h x (by simp)
      rw [joinW_one]
      simp
      omega
    | cons y r =>
      rw [joinW_cons]
      have h1 := h x (by simp)
      have h2 := ih (fun z hz => h z (by simp [hz]))
      simp only [List.length_append, List.length_cons] at h2 ⊢
      rw [Nat.add_mul, Nat.one_mul]
      omega

structure OpInv (o : Ent) (wv : Value) (kw : Str) (w : World) (b fg k : Nat) (v : Value) (wr : World) : Prop where
  row : OwnStrs w wr (kw :: digs (((fidx o.kind).take k).map o.get)) v
  box : BoxAt wr b o.nums wv
  ptr : Blk wr fg 66 (ptrs b (fidx o.kind)).toArray
theorem OpInv.fr0 {o : Ent} {wv : Value} {kw : Str} {w : World} {b fg k : Nat} {v : Value} {wr w1 : World} (h : OpInv o wv kw w b fg k v wr) (hf : Fr [] wr w1) : OpInv o wv kw w b fg k v w1 :=
  ⟨⟨hf.own h.row.1 (by simp), h.row.2.1, h.row.2.2.trans' hf⟩, h.box.fr hf (by simp), h.ptr.fr hf (by simp)⟩
/-- What an append onto the row leaves alone. -/
theorem OpInv.far {o : Ent} {wv : Value} {kw : Str} {w : World} {b fg k : Nat} {v : Value} {wr w4 : World} (h : OpInv o wv kw w b fg k v wr) (hf : Fr v.ownBlock.toList wr w4) :
    BoxAt w4 b o.nums wv ∧ Blk w4 fg 66 (ptrs b (fidx o.kind)).toArray :=
  ⟨h.box.fr hf (by simpa using own_blk_ne h.row.1 h.box.1 (by decide)), h.ptr.fr hf (by simpa using own_blk_ne h.row.1 h.ptr (by decide))⟩

set_option maxHeartbeats 2000000 in
set_option maxRecDepth 100000 in
theorem op_any (o : Ent) (wv : Value) (w : World) (hW : Rd w 1 [] wv o.words.length (ints o.words)) (hok : o.Ok) (hG : Glo w) :
    Calls Tryd.prog 11 #[o.val wv] w fun e w' => e = .returned (.tuple #[.string (bs (opS o)), .int .i64 (opE o)]) ∧ Fr [] w w' := by
  obtain ⟨A, c, rfl, _⟩ := id hW
  obtain ⟨x1, hx1⟩ : ∃ y, w.alloc (.cells #[.int .i64 o.kind, .int .i64 o.part, .int .i64 o.proc, .int .i64 o.chan, .int .i64 o.lane, .int .i64 o.n, .slice A o.words.length c] 24) = y := ⟨_, rfl⟩
  have hB1 : BoxAt x1 w.heap.size o.nums (.slice A o.words.length c) := by rw [← hx1]; exact BoxAt.new _ _ _
  have hf1 : Fr [] w x1 := by rw [← hx1]; exact (Fr.refl _ _).alloc _
  have c0 := hB1.get (i := 0) (by omega)
  have c1 := hB1.get (i := 1) (by omega)
  have c2 := hB1.get (i := 2) (by omega)
  have c3 := hB1.get (i := 3) (by omega)
  have c4 := hB1.get (i := 4) (by omega)
  have c5 := hB1.get (i := 5) (by omega)
  have c6 := hB1.words
  have HB1 := Lib.hid hB1
  have HF1 := Lib.hid hf1
  have HW := Lib.hid hW
  have HG := Lib.hid hG
  have HOK := Lib.hid hok
  clear hB1 hf1 hW hG hok
  unfold Ent.val
  go_enter Tryd.func11, Tryd.ntmps11
  go_wp2_with fail
  refine (plain_any o (.slice A o.words.length c) x1 (HW.out.fr HF1.out (by simp))).mono ?_
  rintro e x2 ⟨rfl, hf2⟩
  have HF2 := Lib.hid hf2
  have HB2 := Lib.hid (HB1.out.fr hf2 (by simp))
  clear c0 c1 c2 c3 c4 c5 c6 hf2 hx1
  cases hp : plainS o
  · have HS := Lib.hid (And.intro (show opS o = [] by rw [opS, hp]; rfl) (show opE o = 3 by rw [opE, hp]; rfl))
    clear hp
    go_wp2_with fail
    go_ret2
    refine ⟨?_, HF1.out.trans' HF2.out⟩
    rw [HS.out.1, HS.out.2]
    rfl
  · have HS := Lib.hid (And.intro (show opS o = joinW o.line by rw [opS, hp]; rfl) (show opE o = 0 by rw [opE, hp]; rfl))
    have hk : 0 ≤ o.kind ∧ o.kind < 8 ∧ o.words.length ≤ 8 := by
      unfold plainS at hp
      simp only [Bool.and_eq_true, decide_eq_true_eq] at hp
      obtain ⟨⟨⟨⟨⟨⟨⟨⟨⟨h1, h2⟩, h3⟩, _⟩, _⟩, _⟩, _⟩, _⟩, _⟩, _⟩ := hp
      exact ⟨h1, h2, h3⟩
    obtain ⟨kk, hkk⟩ : ∃ kk : Nat, o.kind = kk := ⟨o.kind.toNat, by omega⟩
    have hk8 : kk < 8 := by omega
    have hwl := hk.2.2
    have q0 : ∀ W, Fr [] x2 W → W.cell? ⟨w.heap.size, 0, none⟩ = some (.int .i64 kk) := fun W hw => by
      have h := (HB2.out.fr hw (by simp)).get (i := 0) (by omega)
      rw [← hkk]
      exact h
    have HKK := Lib.hid hkk
    have HP := Lib.hid hp
    clear hp hk hkk
    go_wp2_with fail
    refine wp_sched 6 [(1, 0), (2, 0), (0, 1), (3, 1), (4, 1), (5, 1), (6, 2)] (fun W => Fr [] x2 W) (by kernel_rfl) (by kernel_rfl) (fun _ _ _ _ _ h => h) ((Fr.refl [] x2).drew) ?_
    iterate 2
      refine at_read (v := ?_) rfl (by first | rfl | kernel_rfl) ?_ ?_
      rotate_left
      · intro W hW
        go_simp
        try with_reducible rfl
      simp only [Act.put, List.setIfInBounds_toArray, List.set_cons_zero, List.set_cons_succ]
    refine at_eff rfl (fun K hK => ?_)
    go_simp
    refine (kinds_any x2.drew).mono ?_
    rintro e x3 ⟨rfl, hx3⟩
    have hf3 : Fr [] x2 x3 := by rw [hx3]; exact (Fr.refl [] x2).drew.alloc _
    obtain ⟨kw, hkw⟩ : ∃ y, kindW.getD kk [] = y := ⟨_, rfl⟩
    have hki : (kk : Int) < 8 := by omega
    have qk : x3.cell? ⟨x2.heap.size, kk, none⟩ = some (.string (bs kw)) := by
      rw [← hkw]
      have hb : Blk x3 x2.heap.size 9 (strs kindW).toArray := by rw [hx3]; exact Blk.new _ _ _
      rw [hb.cell kk]
      have hkl : kk < kindW.length := hk8
      simp [strs, List.getD, hkl]
    have HF3 := Lib.hid hf3
    clear hf3 hx3
    go_simp
    refine hK _ _ (HF3.out) ?_
    clear hK K
    try simp only [Act.put, List.setIfInBounds_toArray, List.set_cons_zero, List.set_cons_succ]
    iterate 2
      refine at_now (v := ?_) rfl (by first | rfl | kernel_rfl) ?_ (HF3.out) ?_
      rotate_left
      · go_simp
        try with_reducible rfl
      simp only [Act.put, List.setIfInBounds_toArray, List.set_cons_zero, List.set_cons_succ]
    refine at_eff rfl (fun K hK => ?_)
    go_simp
    obtain ⟨x4, hx4⟩ : ∃ y, x3.alloc (.cells #[.string (bs kw)] 9) = y := ⟨_, rfl⟩
    have hf4 : Fr [] x3 x4 := by rw [← hx4]; exact (Fr.refl _ _).alloc _
    have ho4 : x4.ownsRow 0 9 1 (.slice (some ⟨x3.heap.size, 0, none⟩) 1 1) 1 (strs [kw]) := by rw [← hx4]; exact own_new x3 1 _ (strs [kw]) 1 rfl (by decide)
    have hf14 := (HF1.out.trans' HF2.out).trans' (HF3.out.trans' hf4)
    have hinv : OwnStrs w x4 [kw] (.slice (some ⟨x3.heap.size, 0, none⟩) 1 1) := ⟨ho4, fun g hg => by
      simp [Value.ownBlock] at hg
      have h1 := ((HF1.out.trans' HF2.out).trans' HF3.out).size
      omega, hf14⟩
    have HO4 := Lib.hid hinv
    have HF4 := Lib.hid (HF3.out.trans' hf4)
    have HKW := Lib.hid hkw
    rw [hx4]
    clear hf4 ho4 hf14 hinv qk hx4 hkw hki
    refine hK _ _ (HF4.out) ?_
    clear hK K
    try simp only [Act.put, List.setIfInBounds_toArray, List.set_cons_zero, List.set_cons_succ]
    refine at_last rfl (fun K hK => ?_)
    go_simp
    refine hK _ _ ?_
    clear hK K
    try simp only [Act.put, List.setIfInBounds_toArray, List.set_cons_zero, List.set_cons_succ]
    refine sched_nil ?_
    have hq0 := q0 x4 HF4.out
    rw [← HKK.out] at hq0
    clear q0
    go_wp2_with fail
    refine (fields_any w.heap.size o.kind x4 hq0).mono ?_
    rintro e x5 ⟨fv, rfl, hfr, hf5, fg, rfl, hbf, _⟩
    have HBF := Lib.hid hbf
    have HF5 := Lib.hid (HF4.out.trans' hf5)
    have HF45 := Lib.hid hf5
    have hfl := fidx_len o.kind
    have hfpos : 0 < (fidx o.kind).length := by
      unfold fidx
      repeat' split
      all_goals decide
    clear hfr hf5 hq0 hbf
    go_wp2_with fail
    go_loopw [4, 24] (fun v4 vi wr => ∃ k : Nat, vi = .int .i64 k ∧ k ≤ (fidx o.kind).length ∧ Hid (OpInv o (.slice A o.words.length c) kw w w.heap.size fg k v4 wr)) (fun _ vi _ => (fidx o.kind).length - (intOf vi).toNat)
    case atStart =>
      exact ⟨0, rfl, by omega, Lib.hid ⟨⟨HF45.out.own HO4.out.1 (by simp), HO4.out.2.1, HO4.out.2.2.trans' HF45.out⟩, HB2.out.fr HF5.out (by simp), HBF.out⟩⟩
    case round =>
      obtain ⟨k, rfl, hk, HI⟩ := hrel
      have HO := Lib.hid HI.out.row
      by_cases hlt : k < (fidx o.kind).length
      · have hi6 : (fidx o.kind)[k] < 6 := fidx_lt o.kind _ (List.getElem_mem hlt)
        have hcp : wr.cell? ⟨fg, k, none⟩ = some (.pointer (some ⟨w.heap.size, (fidx o.kind)[k], none⟩)) := by rw [HI.out.ptr.cell k]; simp [ptrs, hlt]
        have hsu : digs (((fidx o.kind).take (k + 1)).map o.get) = digs (((fidx o.kind).take k).map o.get) ++ [Lib.itoa (o.get (fidx o.kind)[k])] := by
          rw [List.take_succ_eq_append_getElem hlt]
          simp only [digs, List.map_append, List.map_cons, List.map_nil]
        generalize (fidx o.kind)[k] = i at hi6 hcp hsu
        have qb : wr.cell? ⟨w.heap.size, i, none⟩ = some (.int .i64 (o.get i)) := HI.out.box.get hi6
        have hgi : I64 (o.get i) := HOK.out.1 _ (by
          unfold Ent.get
          have hl : i < o.nums.length := hi6
          simp only [List.getD, List.getElem?_eq_getElem hl, Option.getD_some]
          exact List.getElem_mem hl)
        have HSU := Lib.hid hsu
        have HGI := Lib.hid hgi
        have hkl : (kw :: digs (((fidx o.kind).take k).map o.get)).length = k + 1 := by simp [digs]; omega
        clear hsu hgi
        go_wp2_with fail
        have hgw := HG.out.fr ((HO.out.2.2).alloc (.cells #[.int .i64 (o.get i)] 3))
        refine (numbers_any [o.get i] _ [] _ (rd_new wr 1 [] 3 (ints [o.get i]) 1 rfl (by decide) (by simp)) (by simp) (by simpa using HGI.out) hgw).mono ?_
        rintro e w1 ⟨v1, rfl, ho1⟩
        obtain ⟨A9, c9, rfl, _⟩ := own_form ho1.1
        have hf1 : Fr [] wr w1 := ((Fr.refl [] wr).alloc _).trans' ho1.2.2
        have hu1 := hf1.own HO.out.1 (by simp)
        have hr1 : Rd w1 1 [] (.slice A9 1 c9) 1 (strs [Lib.itoa (o.get i)]) := Rd.of_own ho1.1 (fun g _ hx => by simp at hx)
        have HF1' := Lib.hid hf1
        have HU1 := Lib.hid hu1
        have HR1 := Lib.hid hr1
        clear hgw ho1 hf1 hu1 hr1 qb hcp
        go_wp2_with (at_builtin; refine wpList_app _ rfl str_elem _ _ rfl u4 (kw :: digs (((fidx o.kind).take k).map o.get)).length (strs (kw :: digs (((fidx o.kind).take k).map o.get))) (by rfl) HU1.out [] (.slice A9 1 c9) 1 (strs [Lib.itoa (o.get i)]) (by rfl) HR1.out (strs_one _) (by omega) (by simp only [maxLen]; omega) ?_; intro v2 w4 hown4 hfa hat)
        have hp := push_new (n := 0) (xs := []) (e := 0) (size := 0) HO.out.2.1 HO.out.2.2 HF1'.out hfa hat
        have hfar := (HI.out.fr0 HF1'.out).far hfa
        have HO4' := Lib.hid (show OpInv o (.slice A o.words.length c) kw w w.heap.size fg (k + 1) v2 w4 from ⟨⟨by rw [HSU.out, ← List.cons_append, strs_append, List.length_append]; exact hown4, hp.1, hp.2⟩, hfar.1, hfar.2⟩)
        clear hown4 hfa hat hp hfar
        go_roundw
        case rel => exact ⟨k + 1, by go_num, by omega, HO4'⟩
        case measure => simp [intOf]; omega
      · have hkn : k = (fidx o.kind).length := by omega
        subst hkn
        have hb6 := HI.out.box.words
        have hro := HI.out.row
        rw [List.take_length] at hro
        have HO2 := Lib.hid hro
        have hkl : (kw :: digs ((fidx o.kind).map o.get)).length ≤ 5 := by simp [digs]; omega
        have hwr := HW.out.fr hro.2.2 (by simp)
        have HWR := Lib.hid hwr
        clear hro hwr HO
        go_wp2_with fail
        refine (numbers_any o.words _ [] wr HWR.out (by omega) HOK.out.2 (HG.out.fr HO2.out.2.2)).mono ?_
        rintro e w1 ⟨v1, rfl, ho1⟩
        have HDL := Lib.hid (digs_length o.words)
        obtain ⟨A9, c9, rfl, _⟩ := own_form ho1.1
        have hu1 := ho1.2.2.own HO2.out.1 (by simp)
        have hr1 : Rd w1 1 [] (.slice A9 (digs o.words).length c9) (digs o.words).length (strs (digs o.words)) := Rd.of_own ho1.1 (fun g _ hx => by simp at hx)
        have HF1' := Lib.hid ho1.2.2
        have HU1 := Lib.hid hu1
        have HR1 := Lib.hid hr1
        clear ho1 hu1 hr1 hb6
        go_wp2_with (at_builtin; refine wpList_app _ rfl str_elem _ _ rfl u4 (kw :: digs ((fidx o.kind).map o.get)).length (strs (kw :: digs ((fidx o.kind).map o.get))) (by rfl) HU1.out [] (.slice A9 (digs o.words).length c9) (digs o.words).length (strs (digs o.words)) (by rfl) HR1.out (strs_one _) (by have := HDL.out; omega) (by have := HDL.out; simp only [maxLen]; omega) ?_; intro v2 w4 hown4 hfa hat)
        have hp := push_new (n := 0) (xs := []) (e := 0) (size := 0) HO2.out.2.1 HO2.out.2.2 HF1'.out hfa hat
        have hline : kw :: digs ((fidx o.kind).map o.get) ++ digs o.words = o.line := by
          unfold Ent.line
          have e : o.kind.toNat = kk := by rw [HKK.out]; rfl
          rw [e, HKW.out]
          simp [digs]
        have hjl : (kw :: digs ((fidx o.kind).map o.get)).length + (digs o.words).length = o.line.length := by rw [← hline, List.length_append]
        have hjr : Rd w4 1 [] v2 o.line.length (strs o.line) := by
          rw [← hline, strs_append, List.length_append]
          exact Rd.of_own hown4 (fun g _ hx => by simp at hx)
        have hll : o.line.length ≤ 13 := by have := HDL.out; omega
        have hjoin : (joinW o.line).length ≤ 140737488355328 := by
          have hw : ∀ x ∈ o.line, x.length ≤ 21 := by
            intro x hx
            unfold Ent.line at hx
            rcases List.mem_cons.1 hx with rfl | hx
            · have e : o.kind.toNat = kk := by rw [HKK.out]; rfl
              rw [e]
              have hall : ∀ j : Fin 8, (kindW.getD j.val []).length ≤ 21 := by decide
              exact hall ⟨kk, hk8⟩
            · unfold digs at hx
              obtain ⟨n, hn, rfl⟩ := List.mem_map.1 hx
              refine itoa_len n ?_
              rcases List.mem_append.1 hn with hn | hn
              · obtain ⟨i, hi, rfl⟩ := List.mem_map.1 hn
                have hl : i < o.nums.length := fidx_lt o.kind i hi
                refine HOK.out.1 _ ?_
                unfold Ent.get
                simp only [List.getD, List.getElem?_eq_getElem hl, Option.getD_some]
                exact List.getElem_mem hl
              · exact HOK.out.2 _ hn
          have := joinW_len o.line 21 hw
          omega
        have HJR := Lib.hid hjr
        have HJ := Lib.hid (And.intro hjoin hll)
        have HP4 := Lib.hid hp
        obtain ⟨A10, c10, rfl, _⟩ := id hjr
        clear hown4 hfa hat hp hline hjr hll hjoin hjl
        refine (join_any o.line _ [] w4 HJR.out HJ.out.1 (by have := HJ.out.2; omega)).mono ?_
        rintro e w5 ⟨rfl, hf5⟩
        go_wp2_with fail
        go_ret2
        refine ⟨?_, HP4.out.2.trans' hf5⟩
        rw [HS.out.1, HS.out.2]
        rfl
end Go.Proofs.YtcnmnfllchiehaaDoor
