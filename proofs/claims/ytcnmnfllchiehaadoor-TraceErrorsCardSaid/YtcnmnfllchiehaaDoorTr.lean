/-
  Parse: the entry of a line.
-/
import Derived.Test.YtcnmnfllchiehaaDoorTo
import Derived.Deep.DeepCutAuto
import Derived.Deep.CutBlock
set_option linter.unusedSimpArgs false
set_option linter.unusedVariables false
namespace Go.Proofs.YtcnmnfllchiehaaDoor
open Go.RowKit
attribute [local go_sem] max_ints min_ints

/-- Is a word a number of a line? -/
def numB (s : Str) : Bool := atoiB s && decide (Lib.itoa (atoiV s) = s) && decide ((trimMinus s).length ≤ 10)
theorem atoiV_i64 (s : Str) : I64 (atoiV s) := by
  unfold atoiV I64
  rcases h : Lib.atoiAll s with v | _ | _
  · exact Lib.atoiAll_bounds h
  · simp
  · exact Lib.atoiSat_bounds s

set_option maxHeartbeats 1000000 in
theorem number_any (s : Str) (w : World) (hs : s.length ≤ 281474976710656) (hG : Glo w) :
    Calls Tryd.prog 36 #[.string (bs s)] w fun e w' => e = .returned (.tuple #[.int .i64 (atoiV s), .bool (numB s)]) ∧ Fr [] w w' := by
  have HG := Lib.hid hG
  have HV := Lib.hid (atoiV_i64 s)
  clear hG
  go_enter Tryd.func36, Tryd.ntmps36
  go_wp2_with fail
  refine (atoi_any s w hs HG.out).mono ?_
  rintro e w1 ⟨ev, rfl, hev, hf1⟩
  rcases hev with ⟨hb, rfl⟩ | ⟨hb, t, N, rfl⟩
  · have HB := Lib.hid hb
    have HF1 := Lib.hid hf1
    clear hb hf1
    go_wp2_with fail
    refine (itoa_any (atoiV s) w1 HV.out (HG.out.fr HF1.out)).mono ?_
    rintro e w2 ⟨rfl, hf2⟩
    have HF2 := Lib.hid (HF1.out.trans' hf2)
    have hbq := bs_beq (Lib.itoa (atoiV s)) s
    clear hf2
    by_cases he : Lib.itoa (atoiV s) = s
    · have hb' : ((bs (Lib.itoa (atoiV s))).toList == (bs s).toList) = true := by rw [hbq]; simpa using he
      have HE := Lib.hid he
      clear hbq he
      go_wp2_with fail
      refine (trim_any s w2).mono ?_
      rintro e w3 ⟨rfl, rfl⟩
      have HN := Lib.hid (show numB s = decide (((bs (trimMinus s)).size : Int) ≤ 10) by
        unfold numB
        rw [HB.out, decide_eq_true HE.out, bs_size]
        rw [Bool.true_and, Bool.true_and]
        congr 1
        rw [eq_iff_iff]
        omega)
      go_wp2_with fail
      go_ret2
      refine ⟨?_, HF2.out⟩
      rw [HN.out]
      rfl
    · have hb' : ((bs (Lib.itoa (atoiV s))).toList == (bs s).toList) = false := by rw [hbq]; simpa using he
      have HN := Lib.hid (show numB s = false by unfold numB; rw [decide_eq_false he]; simp)
      clear hbq he
      go_wp2_with fail
      go_ret2
      refine ⟨?_, HF2.out⟩
      rw [HN.out]
      rfl
  · have HN := Lib.hid (show numB s = false by unfold numB; rw [hb]; rfl)
    have HF1 := Lib.hid hf1
    clear hb hf1
    go_wp2_with fail
    go_ret2
    refine ⟨?_, HF1.out⟩
    rw [HN.out]
    rfl

/-! ### Parse -/
/-- Numbers put into cells, one behind the other. -/
def puts (ns : List Int) : List Nat → List Int → List Int
  | i :: l, v :: r => puts (ns.set i v) l r
  | _, _ => ns
def kindOf (s : Str) : Int := Lib.idxOfS (kindW.map bs) (bs ((splitW s).getD 0 []))
def formB (s : Str) : Bool := decide (0 ≤ kindOf s) && decide ((fidx (kindOf s)).length < (splitW s).length) && decide ((splitW s).length ≤ (fidx (kindOf s)).length + 9) && (hasW (kindOf s) || decide ((splitW s).length ≤ (fidx (kindOf s)).length + 1))
def tailV (s : Str) : List Int := ((splitW s).drop 1).map atoiV
def parseN (s : Str) : List Int := puts [kindOf s, 0, 0, 0, 0, 0] (fidx (kindOf s)) ((tailV s).take (fidx (kindOf s)).length)
def entOf (ns : List Int) (ws : List Int) : Ent := ⟨ns.getD 0 0, ns.getD 1 0, ns.getD 2 0, ns.getD 3 0, ns.getD 4 0, ns.getD 5 0, ws⟩
def parseS (s : Str) : Option Ent := if formB s && ((splitW s).drop 1).all numB then some (entOf (parseN s) ((tailV s).drop (fidx (kindOf s)).length)) else none
def zent : Ent := ⟨0, 0, 0, 0, 0, 0, []⟩

def ParseSays (w w' : World) (r : Option Ent) (e : Ending) : Prop :=
  match r with
  | none => e = .returned (.tuple #[zent.val (.slice none 0 0), .int .i64 8]) ∧ Fr [] w w'
  | some o => ∃ wv, e = .returned (.tuple #[o.val wv, .int .i64 0]) ∧ Rd w' 1 [] wv o.words.length (ints o.words) ∧ Fr [] w w'

theorem puts_length (ns : List Int) (l : List Nat) (r : List Int) : (puts ns l r).length = ns.length := by
  induction l generalizing ns r with
  | nil => simp [puts]
  | cons i l ih =>
    cases r with
    | nil => simp [puts]
    | cons v r => simp [puts, ih]
theorem puts_snoc (ns : List Int) (l : List Nat) (r : List Int) (h : l.length = r.length) (i : Nat) (v : Int) : puts ns (l ++ [i]) (r ++ [v]) = (puts ns l r).set i v := by
  induction l generalizing ns r with
  | nil =>
    have : r = [] := List.eq_nil_of_length_eq_zero (by simpa using h.symm)
    subst this
    rfl
  | cons j l ih =>
    cases r with
    | nil => simp at h
    | cons u r =>
      simp only [List.cons_append, puts]
      exact ih _ _ (by simpa using h)

theorem idxS_range (zs : List ByteArray) (x : ByteArray) : -1 ≤ Lib.idxOfS zs x ∧ Lib.idxOfS zs x < zs.length := by
  have key : ∀ (zs : List ByteArray) (i : Nat), Lib.idxFromS zs x i = -1 ∨ (i ≤ Lib.idxFromS zs x i ∧ Lib.idxFromS zs x i < i + zs.length) := by
    intro zs
    induction zs with
    | nil => intro i; left; rfl
    | cons z r ih =>
      intro i
      unfold Lib.idxFromS
      split
      · right; simp only [List.length_cons]; omega
      · rcases ih (i + 1) with h | h
        · exact .inl h
        · right; simp only [List.length_cons]; omega
  rcases key zs 0 with h | h
  · unfold Lib.idxOfS; omega
  · unfold Lib.idxOfS; omega

theorem fr_seven (X : World) (b : Nat) (u0 u1 u2 u3 u4 u5 u6 : Value) : Fr [b] X (((((((X.setCell ⟨b, 0, none⟩ u0).setCell ⟨b, 1, none⟩ u1).setCell ⟨b, 2, none⟩ u2).setCell ⟨b, 3, none⟩ u3).setCell ⟨b, 4, none⟩ u4).setCell ⟨b, 5, none⟩ u5).setCell ⟨b, 6, none⟩ u6) := by
  iterate 7 refine Fr.setCell ?_ (by simp) _
  exact Fr.refl _ _
theorem box_fill {X : World} {b : Nat} {ns : List Int} {wv : Value} (h : BoxAt X b ns wv) (k0 k1 k2 k3 k4 k5 : Int) (wv' : Value) :
    BoxAt (((((((X.setCell ⟨b, 0, none⟩ (.int .i64 k0)).setCell ⟨b, 1, none⟩ (.int .i64 k1)).setCell ⟨b, 2, none⟩ (.int .i64 k2)).setCell ⟨b, 3, none⟩ (.int .i64 k3)).setCell ⟨b, 4, none⟩ (.int .i64 k4)).setCell ⟨b, 5, none⟩ (.int .i64 k5)).setCell ⟨b, 6, none⟩ wv') b [k0, k1, k2, k3, k4, k5] wv' := by
  have h1 := (((((h.set_ (i := 0) (by omega) k0).set_ (i := 1) (by omega) k1).set_ (i := 2) (by omega) k2).set_ (i := 3) (by omega) k3).set_ (i := 4) (by omega) k4).set_ (i := 5) (by omega) k5
  refine ⟨?_, rfl⟩
  have h2 := h1.1.set_ 6 wv'
  obtain ⟨hb, hl⟩ := h
  match ns, hl with
  | [a0, a1, a2, a3, a4, a5], _ => exact h2
theorem BoxAt.seven {w : World} {b : Nat} {k0 k1 k2 k3 k4 k5 : Int} {wv : Value} (h : BoxAt w b [k0, k1, k2, k3, k4, k5] wv) :
    w.cell? ⟨b, 0, none⟩ = some (.int .i64 k0) ∧ w.cell? ⟨b, 1, none⟩ = some (.int .i64 k1) ∧ w.cell? ⟨b, 2, none⟩ = some (.int .i64 k2) ∧ w.cell? ⟨b, 3, none⟩ = some (.int .i64 k3) ∧ w.cell? ⟨b, 4, none⟩ = some (.int .i64 k4) ∧ w.cell? ⟨b, 5, none⟩ = some (.int .i64 k5) ∧ w.cell? ⟨b, 6, none⟩ = some wv :=
  ⟨h.get (i := 0) (by omega), h.get (i := 1) (by omega), h.get (i := 2) (by omega), h.get (i := 3) (by omega), h.get (i := 4) (by omega), h.get (i := 5) (by omega), h.words⟩

theorem splitW_le : ∀ (s : Str), ∀ x ∈ splitW s, x.length ≤ s.length
  | [], x, hx => by simp [splitW] at hx; subst hx; simp
  | c :: r, x, hx => by
    have ih := splitW_le r
    unfold splitW at hx
    split at hx
    · rcases List.mem_cons.1 hx with rfl | hx
      · simp
      · have := ih x hx; simp; omega
    · cases hs : splitW r with
      | nil => exact absurd hs (splitW_ne r)
      | cons y ys =>
        rw [hs] at hx
        simp only at hx
        rcases List.mem_cons.1 hx with rfl | hx
        · have := ih y (by rw [hs]; simp); simp; omega
        · have := ih x (by rw [hs]; simp [hx]); simp; omega
theorem BoxAt.setw {w : World} {b : Nat} {ns : List Int} {wv : Value} (h : BoxAt w b ns wv) (wv' : Value) : BoxAt (w.setCell ⟨b, 6, none⟩ wv') b ns wv' := by
  refine ⟨?_, h.2⟩
  have h1 := h.1.set_ 6 wv'
  rw [List.setIfInBounds_toArray, List.set_append_right _ _ (by simp [h.2])] at h1
  simpa [h.2] using h1
theorem six_of {ns : List Int} (h : ns.length = 6) : ∃ a0 a1 a2 a3 a4 a5, ns = [a0, a1, a2, a3, a4, a5] := by
  match ns, h with
  | [a0, a1, a2, a3, a4, a5], _ => exact ⟨a0, a1, a2, a3, a4, a5, rfl⟩

structure ParseInv (s : Str) (kd : Int) (nf g : Nat) (x : World) (k : Nat) (wv : Value) (wr : World) : Prop where
  box : BoxAt wr g (puts [kd, 0, 0, 0, 0, 0] ((fidx kd).take k) ((tailV s).take (min k nf))) wv
  row : wr.ownsRow 0 3 1 wv (k - nf) (ints (((tailV s).take k).drop nf))
  new : NewFrom x.heap.size wv
  fr : Fr [g] x wr
  ok : ∀ y ∈ ((splitW s).drop 1).take k, numB y = true
theorem ParseInv.fr0 {s : Str} {kd : Int} {nf g : Nat} {x : World} {k : Nat} {wv : Value} {wr w1 : World} (h : ParseInv s kd nf g x k wv wr) (hf : Fr [] wr w1) : ParseInv s kd nf g x k wv w1 :=
  ⟨h.box.fr hf (by simp), hf.own h.row (by simp), h.new, h.fr.trans0 hf, h.ok⟩

set_option maxHeartbeats 4000000 in
set_option maxRecDepth 100000 in
theorem parse_any (s : Str) (w : World) (hs : s.length ≤ 1000000) (hG : Glo w) :
    Calls Tryd.prog 15 #[.string (bs s)] w fun e w' => ParseSays w w' (parseS s) e := by
  obtain ⟨x0, hx0⟩ : ∃ y, w.alloc (.cells #[.int .i64 0, .int .i64 0, .int .i64 0, .int .i64 0, .int .i64 0, .int .i64 0, .slice none 0 0] 24) = y := ⟨_, rfl⟩
  have hB0 : BoxAt x0 w.heap.size [0, 0, 0, 0, 0, 0] (.slice none 0 0) := by rw [← hx0]; exact ⟨Blk.new _ _ _, rfl⟩
  have hf0 : Fr [] w x0 := by rw [← hx0]; exact (Fr.refl _ _).alloc _
  have HB0 := Lib.hid hB0
  have HF0 := Lib.hid hf0
  have HG := Lib.hid hG
  clear hB0 hf0 hG
  go_enter Tryd.func15, Tryd.ntmps15
  go_wp2_with fail
  refine (split_any s x0 (by omega) (HG.out.fr HF0.out)).mono ?_
  rintro e x1 ⟨v1, rfl, hr1, hf1⟩
  obtain ⟨A1, c1, rfl, _⟩ := id hr1
  have hpos : 0 < (splitW s).length := List.length_pos_iff.2 (splitW_ne s)
  have hsl := splitW_len s
  have HR1 := Lib.hid hr1
  have HF1 := Lib.hid hf1
  obtain ⟨g1, o1, rfl, _, _, hc1⟩ := hr1.plain hpos (by omega)
  have hw0 := hc1 0 _ (strs_get hpos)
  have e0 : (splitW s)[0] = (splitW s).getD 0 [] := by simp [List.getD, hpos]
  rw [e0, Nat.add_zero] at hw0
  have q1 : ∀ W, Fr [] x1 W → W.cell? ⟨g1, o1, none⟩ = some (.string (bs ((splitW s).getD 0 []))) := fun W hw => hw.cell0 hw0
  obtain ⟨w0, hw0n⟩ : ∃ y, (splitW s).getD 0 [] = y := ⟨_, rfl⟩
  rw [hw0n] at q1
  have HW0 := Lib.hid hw0n
  clear hr1 hf1 hc1 hw0 e0 hw0n hx0
  obtain ⟨nw, hnw⟩ : ∃ n, (splitW s).length = n := ⟨_, rfl⟩
  rw [hnw] at hpos hsl ⊢
  have HNW := Lib.hid hnw
  clear hnw
  go_upto_region 2 with fail
  go_cut [5] (fun s5 wx => ∃ g, s5 = .pointer (some ⟨g, 0, none⟩) ∧ Hid (BoxAt wx g [kindOf s, 0, 0, 0, 0, 0] (.slice none 0 0)) ∧ Hid (Fr [] x1 wx) ∧ Hid (x1.heap.size ≤ g))
  case first =>
    refine wp_tree 7 (.rd 1 (.rd 2 (.rd 3 (.two 0 (.two 4 (.rd 5 (.eff 6 (.last 7 .fin))) 6 (.eff 4 (.rd 5 (.last 7 .fin)))) 6 (.eff 0 (.eff 4 (.rd 5 (.last 7 .fin)))))))) (fun W => Fr [] x1 W) (by kernel_rfl) (by kernel_rfl) (fun _ _ _ _ _ h => h) ((Fr.refl [] x1).drew) ?_
    iterate 3
      refine tree_read (v := ?_) rfl (by rfl) ?_ ?_
      rotate_left
      · intro W hW
        go_simp
        try with_reducible rfl
      simp only [Act.put, List.setIfInBounds_toArray, List.set_cons_zero, List.set_cons_succ]
    refine tree_two ?_ ?_
    · skip
      refine tree_eff rfl (fun K hK => ?_)
      go_simp
      refine (kinds_any x1.drew).mono ?_
      rintro e x2 ⟨rfl, hx2⟩
      have hf2 : Fr [] x1.drew x2 := by rw [hx2]; exact (Fr.refl [] _).alloc _
      have hr2 : Rd x2 1 [] (.slice (some ⟨(x1.drew).heap.size, 0, none⟩) 8 8) kindW.length (strs kindW) := by rw [hx2]; exact rd_new _ 1 [] _ _ 8 rfl (by decide) (by simp)
      have HR2 := Lib.hid hr2
      have HF2 := Lib.hid ((Fr.refl [] x1).drew.trans' hf2)
      clear hf2 hr2 hx2
      go_simp
      refine hK _ _ (HF2.out) ?_
      clear hK K
      try simp only [Act.put, List.setIfInBounds_toArray, List.set_cons_zero, List.set_cons_succ]
      refine tree_two ?_ ?_
      · skip
        refine tree_eff rfl (fun K hK => ?_)
        go_simp
        refine (blank_index_any kindW w0 _ [] x2 HR2.out).mono ?_
        rintro e x5 ⟨rfl, rfl⟩
        have hko : Lib.idxOfS (kindW.map bs) (bs w0) = kindOf s := by unfold kindOf; rw [HW0.out]
        rw [hko]
        clear hko
        go_simp
        refine hK _ _ (HF2.out) ?_
        clear hK K
        try simp only [Act.put, List.setIfInBounds_toArray, List.set_cons_zero, List.set_cons_succ]
        iterate 1
          refine tree_read (v := ?_) rfl (by rfl) ?_ ?_
          rotate_left
          · intro W hW
            go_simp
            try with_reducible rfl
          simp only [Act.put, List.setIfInBounds_toArray, List.set_cons_zero, List.set_cons_succ]
        refine tree_eff rfl (fun K hK => ?_)
        go_simp
        refine hK _ _ (HF2.out.alloc _) ?_
        clear hK K
        try simp only [Act.put, List.setIfInBounds_toArray, List.set_cons_zero, List.set_cons_succ]
        refine tree_last rfl (fun K hK => ?_)
        go_simp
        refine hK _ _ ?_
        clear hK K
        try simp only [Act.put, List.setIfInBounds_toArray, List.set_cons_zero, List.set_cons_succ]
        refine tree_fin ?_
        clear q1
        go_wp2_with fail
        go_meet
        case rel => exact ⟨_, rfl, Lib.hid ⟨Blk.new _ _ _, rfl⟩, Lib.hid (HF2.out.alloc _), Lib.hid HF2.out.size⟩
      · skip
        refine tree_eff rfl (fun K hK => ?_)
        go_simp
        obtain ⟨y3, hy3⟩ : ∃ y, x2.alloc (.cells #[.int .i64 0, .int .i64 0, .int .i64 0, .int .i64 0, .int .i64 0, .int .i64 0, .slice none 0 0] 24) = y := ⟨_, rfl⟩
        have hfy : Fr [] x2 y3 := by rw [← hy3]; exact (Fr.refl _ _).alloc _
        have hby : BoxAt y3 x2.heap.size [0, 0, 0, 0, 0, 0] (.slice none 0 0) := by rw [← hy3]; exact ⟨Blk.new _ _ _, rfl⟩
        rw [hy3]
        have HFY := Lib.hid (HF2.out.trans' hfy)
        have HRY := Lib.hid (HR2.out.fr hfy (by simp))
        have HBY := Lib.hid hby
        clear hy3 hfy hby
        refine hK _ _ (HFY.out) ?_
        clear hK K
        try simp only [Act.put, List.setIfInBounds_toArray, List.set_cons_zero, List.set_cons_succ]
        refine tree_eff rfl (fun K hK => ?_)
        go_simp
        refine (blank_index_any kindW w0 _ [] y3 HRY.out).mono ?_
        rintro e x5 ⟨rfl, rfl⟩
        have hko : Lib.idxOfS (kindW.map bs) (bs w0) = kindOf s := by unfold kindOf; rw [HW0.out]
        rw [hko]
        clear hko
        go_simp
        refine hK _ _ (HFY.out) ?_
        clear hK K
        try simp only [Act.put, List.setIfInBounds_toArray, List.set_cons_zero, List.set_cons_succ]
        iterate 1
          refine tree_read (v := ?_) rfl (by rfl) ?_ ?_
          rotate_left
          · intro W hW
            go_simp
            try with_reducible rfl
          simp only [Act.put, List.setIfInBounds_toArray, List.set_cons_zero, List.set_cons_succ]
        obtain ⟨b0, b1, b2, b3, b4, b5, b6⟩ := HBY.out.seven
        have bf := HBY.out.1.froz
        refine tree_last rfl (fun K hK => ?_)
        go_simp
        refine hK _ _ ?_
        clear hK K
        try simp only [Act.put, List.setIfInBounds_toArray, List.set_cons_zero, List.set_cons_succ]
        refine tree_fin ?_
        clear q1 b0 b1 b2 b3 b4 b5 b6 bf
        go_wp2_with fail
        go_meet
        case rel => exact ⟨_, rfl, Lib.hid (box_fill HBY.out _ _ _ _ _ _ _), Lib.hid (HFY.out.trans (fr_seven _ _ _ _ _ _ _ _ _) (fun x hx hlt => by simp at hx; have := HF2.out.size; omega)), Lib.hid HF2.out.size⟩
    · skip
      refine tree_eff rfl (fun K hK => ?_)
      go_simp
      obtain ⟨y3, hy3⟩ : ∃ y, (x1.alloc (.cells #[.int .i64 0, .int .i64 0, .int .i64 0, .int .i64 0, .int .i64 0, .int .i64 0, .slice none 0 0] 24)).drew = y := ⟨_, rfl⟩
      have hfy : Fr [] x1 y3 := by rw [← hy3]; exact ((Fr.refl [] x1).alloc _).drew
      have hby : BoxAt y3 x1.heap.size [0, 0, 0, 0, 0, 0] (.slice none 0 0) := by rw [← hy3]; exact ⟨(Blk.new _ _ _).drew, rfl⟩
      rw [hy3]
      have HFY := Lib.hid hfy
      have HBY := Lib.hid hby
      clear hy3 hfy hby
      refine hK _ _ (HFY.out) ?_
      clear hK K
      try simp only [Act.put, List.setIfInBounds_toArray, List.set_cons_zero, List.set_cons_succ]
      refine tree_eff rfl (fun K hK => ?_)
      go_simp
      refine (kinds_any y3).mono ?_
      rintro e x2 ⟨rfl, hx2⟩
      have hf2 : Fr [] y3 x2 := by rw [hx2]; exact (Fr.refl [] _).alloc _
      have hr2 : Rd x2 1 [] (.slice (some ⟨(y3).heap.size, 0, none⟩) 8 8) kindW.length (strs kindW) := by rw [hx2]; exact rd_new _ 1 [] _ _ 8 rfl (by decide) (by simp)
      have HR2 := Lib.hid hr2
      have HF2 := Lib.hid (HFY.out.trans' hf2)
      have HB2 := Lib.hid (HBY.out.fr hf2 (by simp))
      clear hf2 hr2 hx2
      go_simp
      refine hK _ _ (HF2.out) ?_
      clear hK K
      try simp only [Act.put, List.setIfInBounds_toArray, List.set_cons_zero, List.set_cons_succ]
      refine tree_eff rfl (fun K hK => ?_)
      go_simp
      refine (blank_index_any kindW w0 _ [] x2 HR2.out).mono ?_
      rintro e x5 ⟨rfl, rfl⟩
      have hko : Lib.idxOfS (kindW.map bs) (bs w0) = kindOf s := by unfold kindOf; rw [HW0.out]
      rw [hko]
      clear hko
      go_simp
      refine hK _ _ (HF2.out) ?_
      clear hK K
      try simp only [Act.put, List.setIfInBounds_toArray, List.set_cons_zero, List.set_cons_succ]
      iterate 1
        refine tree_read (v := ?_) rfl (by rfl) ?_ ?_
        rotate_left
        · intro W hW
          go_simp
          try with_reducible rfl
        simp only [Act.put, List.setIfInBounds_toArray, List.set_cons_zero, List.set_cons_succ]
      obtain ⟨b0, b1, b2, b3, b4, b5, b6⟩ := HB2.out.seven
      have bf := HB2.out.1.froz
      refine tree_last rfl (fun K hK => ?_)
      go_simp
      refine hK _ _ ?_
      clear hK K
      try simp only [Act.put, List.setIfInBounds_toArray, List.set_cons_zero, List.set_cons_succ]
      refine tree_fin ?_
      clear q1 b0 b1 b2 b3 b4 b5 b6 bf
      go_wp2_with fail
      go_meet
      case rel => exact ⟨_, rfl, Lib.hid (box_fill HB2.out _ _ _ _ _ _ _), Lib.hid (HF2.out.trans (fr_seven _ _ _ _ _ _ _ _ _) (fun x hx hlt => by simp at hx; omega)), Lib.hid (Nat.le_refl _)⟩
  case rest =>
    obtain ⟨g, rfl, HBX, HFX, HGE⟩ := hcut
    clear q1
    have hkr := idxS_range (kindW.map bs) (bs ((splitW s).getD 0 []))
    have hkr' : -1 ≤ kindOf s ∧ kindOf s < 8 := hkr
    obtain ⟨b0, b1, b2, b3, b4, b5, b6⟩ := HBX.out.seven
    clear hkr
    have hx01 := HF0.out.trans' HF1.out
    have HX := Lib.hid (hx01.trans' HFX.out)
    have HGW := Lib.hid (Nat.lt_of_lt_of_le HB0.out.1.lt HF1.out.size)
    clear hx01
    obtain ⟨kd, hkd⟩ : ∃ y, kindOf s = y := ⟨_, rfl⟩
    rw [hkd] at b0 hkr'
    have HKD := Lib.hid hkd
    clear hkd
    go_wp2_with fail
    refine (fields_any g kd wc b0).mono ?_
    rintro e x3 ⟨fv, rfl, _, hf3, fg, rfl, hbf, hfge⟩
    have hb3 := HBX.out.fr hf3 (by simp)
    have HB3 := Lib.hid hb3
    have HF3 := Lib.hid hf3
    have HBF := Lib.hid hbf
    have HFGE := Lib.hid hfge
    clear b0 b1 b2 b3 b4 b5 b6 hbf hf3 hfge
    rw [HKD.out] at hb3
    obtain ⟨b0, b1, b2, b3, b4, b5, b6⟩ := hb3.seven
    clear hb3
    have hfl := fidx_len kd
    have hfpos : 0 < (fidx kd).length := by
      unfold fidx
      repeat' split
      all_goals decide
    obtain ⟨nf, hnf⟩ : ∃ n, (fidx kd).length = n := ⟨_, rfl⟩
    rw [hnf] at hfl hfpos ⊢
    have HNF := Lib.hid hnf
    clear hnf
    have hform : formB s = (decide (0 ≤ kd) && decide (nf < nw) && decide (nw ≤ nf + 9) && (hasW kd || decide (nw ≤ nf + 1))) := by
      unfold formB
      rw [HKD.out, HNF.out, HNW.out]
    have HFO := Lib.hid hform
    clear hform
    go_upto_region 4 with fail
    go_cut [7, 54] (fun s7 s54 wx => s7 = .bool (hasW kd) ∧ s54 = .bool (!formB s) ∧ wx = x3)
    case first =>
      obtain ⟨hw, hhw⟩ : ∃ y, hasW kd = y := ⟨_, rfl⟩
      have hfo := HFO.out
      rw [hhw] at hfo ⊢
      have HHW := Lib.hid hhw
      clear hhw
      have e0 : decide (0 ≤ kd) = !decide (kd < 0) := by
        by_cases h : kd < 0
        · simp [h]
        · have : 0 ≤ kd := by omega
          simp [h, this]
      rw [e0] at hfo
      clear e0
      by_cases h1 : kd < 0
      · have e1 : decide (kd < 0) = true := by simpa using h1
        rw [e1] at hfo
        have HB := Lib.hid (show formB s = false by rw [hfo]; rfl)
        clear hfo
        go_wp2_with fail
        all_goals
          go_meet
          case rel => exact ⟨by rw [HHW.out], by rw [HB.out]; rfl, rfl⟩
      · have e1 : decide (kd < 0) = false := by simpa using h1
        rw [e1] at hfo
        clear h1
        by_cases h2 : nw ≤ nf
        · have e2 : decide (nf < nw) = false := by simpa using h2
          rw [e2] at hfo
          have HB := Lib.hid (show formB s = false by rw [hfo]; rfl)
          clear hfo e2
          go_wp2_with fail
          all_goals
            go_meet
            case rel => exact ⟨by rw [HHW.out], by rw [HB.out]; rfl, rfl⟩
        · have e2 : decide (nf < nw) = true := by simpa using h2
          have e3 : decide (nw ≤ nf) = false := by simpa using h2
          rw [e2] at hfo
          clear e2 h2
          by_cases h3 : nf + 9 < nw
          · have e2 : decide (nw ≤ nf + 9) = false := by simpa using h3
            have e4 : decide ((nf : Int) + 8 + 1 < (nw : Int)) = true := by simp; omega
            have e5 : decide ((nf : Int) + 9 < (nw : Int)) = true := by simp; omega
            rw [e2] at hfo
            have HB := Lib.hid (show formB s = false by rw [hfo]; rfl)
            clear hfo e2
            go_wp2_with fail
            all_goals
              go_meet
              case rel => exact ⟨by rw [HHW.out], by rw [HB.out]; rfl, rfl⟩
          · have e2 : decide (nw ≤ nf + 9) = true := by simpa using h3
            have e4 : decide ((nf : Int) + 8 + 1 < (nw : Int)) = false := by simp; omega
            have e5 : decide ((nf : Int) + 9 < (nw : Int)) = false := by simp; omega
            rw [e2] at hfo
            clear e2 h3
            by_cases h4 : nf + 1 < nw
            · have e2 : decide (nw ≤ nf + 1) = false := by simpa using h4
              have e6 : decide ((nf : Int) + 1 < (nw : Int)) = true := by simp; omega
              rw [e2] at hfo
              clear e2
              cases hw
              · have HB := Lib.hid (show formB s = false by rw [hfo]; rfl)
                clear hfo
                go_wp2_with fail
                all_goals
                  go_meet
                  case rel => exact ⟨by rw [HHW.out], by rw [HB.out]; rfl, rfl⟩
              · have HB := Lib.hid (show formB s = true by rw [hfo]; rfl)
                clear hfo
                go_wp2_with fail
                all_goals
                  go_meet
                  case rel => exact ⟨by rw [HHW.out], by rw [HB.out]; rfl, rfl⟩
            · have e2 : decide (nw ≤ nf + 1) = true := by simpa using h4
              have e6 : decide ((nf : Int) + 1 < (nw : Int)) = false := by simp; omega
              rw [e2] at hfo
              clear e2 h4
              cases hw
              · have HB := Lib.hid (show formB s = true by rw [hfo]; rfl)
                clear hfo
                go_wp2_with fail
                all_goals
                  go_meet
                  case rel => exact ⟨by rw [HHW.out], by rw [HB.out]; rfl, rfl⟩
              · have HB := Lib.hid (show formB s = true by rw [hfo]; rfl)
                clear hfo
                go_wp2_with fail
                all_goals
                  go_meet
                  case rel => exact ⟨by rw [HHW.out], by rw [HB.out]; rfl, rfl⟩
    case rest =>
      obtain ⟨rfl, rfl, hwc⟩ := hcut
      subst hwc
      have hz := ((HB0.out.fr HF1.out (by simp)).fr HFX.out (by simp)).fr HF3.out (by simp)
      obtain ⟨z0, z1, z2, z3, z4, z5, z6⟩ := hz.seven
      have zf := hz.1.froz
      have HZ := Lib.hid hz
      clear hz
      have hw3 := HX.out.trans' HF3.out
      have HW3 := Lib.hid hw3
      clear hw3
      by_cases hform : formB s = true
      · have hff := hform
        rw [HFO.out] at hff
        simp only [Bool.and_eq_true, Bool.or_eq_true, decide_eq_true_eq] at hff
        obtain ⟨⟨⟨h1, h2⟩, h3⟩, h4⟩ := hff
        have HFT := Lib.hid hform
        rw [hform]
        simp only [Bool.not_true]
        clear hform h4 h1 b0 b1 b2 b3 b4 b5 b6
        have hcr := HR1.out.room
        rw [HNW.out] at hcr
        have hc2 : 1 < c1 := by omega
        have hcm : c1 ≤ 9223372036854775807 := by have := hcr.2.1; unfold maxLen at this; omega
        obtain ⟨n1, hn1⟩ : ∃ n, nw = n + 1 := ⟨nw - 1, by omega⟩
        have hne : (nw : Int) - 1 = (n1 : Int) := by omega
        have htn : nw - 1 = n1 := by omega
        have htv : (tailV s).length = n1 := by unfold tailV; rw [List.length_map, List.length_drop, HNW.out]; omega
        have hdl : ((splitW s).drop 1).length = n1 := by rw [List.length_drop, HNW.out]; omega
        have HTV := Lib.hid htv
        have HDL := Lib.hid hdl
        have HN1 := Lib.hid hn1
        have hlow : g1 < x1.heap.size := by
          obtain ⟨g', o', e1, _, hl, _⟩ := HR1.out.plain (by rw [HNW.out]; omega) (by omega)
          cases e1
          exact hl
        have HLOW := Lib.hid hlow
        have HCR := Lib.hid hcr
        clear htv hdl hlow hcr
        go_wp2_with fail
        have hn1a : nw ≤ n1 + 1 := by omega
        have hn1b : n1 + 1 ≤ nw := by omega
        clear z0 z1 z2 z3 z4 z5 z6 zf hn1 hne htn
        have hgx := HGE.out
        have hrg := ((HR1.out.mono (M' := [g]) (fun x hx hlt => by simp at hx; subst hx; omega) (by omega)).fr HFX.out (by simp)).fr HF3.out (by simp)
        have HRG := Lib.hid hrg
        have hgw : w.heap.size ≤ g := Nat.le_trans (Nat.le_of_lt HGW.out) hgx
        have hgw1 : w.heap.size ≠ g := by have := HGW.out; omega
        have hgf : fg ≠ g := by have h1 := HFGE.out; have h2 := HBX.out.1.lt; omega
        have HGS := Lib.hid (And.intro hgw (And.intro hgw1 hgf))
        clear hrg hgw hgw1 hgf hgx
        go_loopw [59] (fun vi wr => ∃ (k : Nat) (wv : Value), vi = .int .i64 k ∧ k ≤ n1 ∧ Hid (ParseInv s kd nf g wc k wv wr)) (fun vi _ => n1 - (intOf vi).toNat)
        case atStart =>
          have hb := HB3.out
          rw [HKD.out] at hb
          exact ⟨0, .slice none 0 0, rfl, by omega, Lib.hid ⟨hb, by have h := World.ownsRow_nil wc 0 3 1; simpa [ints] using h, by simp [NewFrom, Value.ownBlock], Fr.refl _ _, by simp⟩⟩
        case round =>
          obtain ⟨k, wv, rfl, hk, HI⟩ := hrel
          have HW := Lib.hid (HW3.out.trans HI.out.fr (fun x hx hlt => by simp at hx; have := HGS.out.1; omega))
          by_cases hlt : k < n1
          · obtain ⟨y, hy⟩ : ∃ y, (splitW s)[k + 1]? = some y := ⟨_, List.getElem?_eq_getElem (by rw [HNW.out]; omega)⟩
            have hyd : ((splitW s).drop 1)[k]? = some y := by rw [List.getElem?_drop, Nat.add_comm]; exact hy
            have hyl : y.length ≤ 281474976710656 := by have := splitW_le s y (List.mem_of_getElem? hy); omega
            have hcell : wr.cell? ⟨g1, o1 + 1 + k, none⟩ = some (.string (bs y)) := by
              obtain ⟨g', o', e1, _, _, hcc⟩ := (HRG.out.fr HI.out.fr (by simp)).plain (by rw [HNW.out]; omega) (by omega)
              cases e1
              have h := hcc (k + 1) (.string (bs y)) (by simp [strs, hy])
              rw [show o1 + 1 + k = o1 + (k + 1) by omega]
              exact h
            have hts : (tailV s)[k]? = some (atoiV y) := by
              unfold tailV
              rw [List.getElem?_map, hyd]
              rfl
            have HTS := Lib.hid hts
            have HYD := Lib.hid hyd
            clear hy hyd hts
            go_wp2_with fail
            refine (number_any y wr hyl (HG.out.fr HW.out)).mono ?_
            rintro e w2 ⟨rfl, hf2⟩
            have HI2 := Lib.hid (HI.out.fr0 hf2)
            have HW2 := Lib.hid (HW.out.trans' hf2)
            clear hcell hf2
            by_cases hn : numB y = true
            · rw [hn]
              have HN := Lib.hid hn
              clear hn
              have htk : (tailV s).take (k + 1) = (tailV s).take k ++ [atoiV y] := by rw [List.take_add_one, HTS.out]; rfl
              have hok : ∀ z ∈ ((splitW s).drop 1).take (k + 1), numB z = true := by
                intro z hz
                rw [List.take_add_one, HYD.out] at hz
                rcases List.mem_append.1 hz with hz | hz
                · exact HI2.out.ok z hz
                · simp at hz; subst hz; exact HN.out
              have HTK := Lib.hid htk
              have HOKS := Lib.hid hok
              clear htk hok
              by_cases hkf : k < nf
              · obtain ⟨i, hi⟩ : ∃ i, (fidx kd)[k]? = some i := ⟨_, List.getElem?_eq_getElem (by rw [HNF.out]; exact hkf)⟩
                have hi6 : i < 6 := fidx_lt kd i (List.mem_of_getElem? hi)
                have hcp : w2.cell? ⟨fg, k, none⟩ = some (.pointer (some ⟨g, i, none⟩)) := by
                  rw [((HBF.out.fr HI2.out.fr (by simpa using HGS.out.2.2)).cell k)]
                  simp [ptrs, hi]
                have hfk : (fidx kd).take (k + 1) = (fidx kd).take k ++ [i] := by rw [List.take_add_one, hi]; rfl
                have hbi := HI2.out.box.get hi6
                have hbf := HI2.out.box.1.froz
                have HFK := Lib.hid hfk
                clear hfk hi
                go_wp2_with fail
                have hf4 : Fr [g] w2 (w2.setCell ⟨g, i, none⟩ (.int .i64 (atoiV y))) := (Fr.refl _ _).setCell (by simp) _
                have hne : wv.ownBlock ≠ some g := own_blk_ne HI2.out.row HI2.out.box.1 (by decide)
                have hI4 : ParseInv s kd nf g wc (k + 1) wv (w2.setCell ⟨g, i, none⟩ (.int .i64 (atoiV y))) := by
                  refine ⟨?_, ?_, HI2.out.new, HI2.out.fr.trans' hf4, HOKS.out⟩
                  · have h := HI2.out.box.set_ hi6 (atoiV y)
                    rw [Nat.min_eq_left (by omega)] at h ⊢
                    rw [HFK.out, HTK.out, puts_snoc]
                    · exact h
                    · rw [List.length_take, List.length_take, HNF.out, HTV.out]; omega
                  · have h := hf4.own HI2.out.row (fun g' hg hx => by simp at hx; subst hx; exact hne hg)
                    have e1 : k - nf = 0 := by omega
                    have e2 : k + 1 - nf = 0 := by omega
                    have e3 : ((tailV s).take k).drop nf = [] := List.drop_of_length_le (by rw [List.length_take]; omega)
                    have e4 : ((tailV s).take (k + 1)).drop nf = [] := List.drop_of_length_le (by rw [List.length_take]; omega)
                    rw [e1, e3] at h
                    rw [e2, e4]
                    exact h
                have HI4 := Lib.hid hI4
                clear hcp hbi hbf hf4 hne hI4
                go_roundw
                case rel => exact ⟨k + 1, wv, by go_num, by omega, HI4⟩
                case measure => simp [intOf]; omega
              · have hb6 := HI2.out.box.words
                have hbf := HI2.out.box.1.froz
                obtain ⟨A7, c7, rfl, _⟩ := own_form HI2.out.row
                have hnk : k - nf ≤ 1000000 := by omega
                go_wp2_with (at_builtin; refine wpList_app _ rfl int_elem _ _ rfl (.slice A7 (k - nf) c7) (k - nf) (ints (((tailV s).take k).drop nf)) (by rfl) (((Fr.refl [] w2).alloc _).own HI2.out.row (by simp)) [] (.slice (some ⟨w2.heap.size, 0, none⟩) 1 1) 1 (ints [atoiV y]) (by rfl) (rd_new w2 1 [] _ (ints [atoiV y]) 1 rfl (by decide) (by simp)) (ints_one _) (by omega) (by simp only [maxLen]; omega) ?_; intro v4 w4 hown4 hfa hat; obtain ⟨A8, c8, rfl, _⟩ := own_form hown4; have hal : Fr [] w2 (w2.alloc (.cells #[.int .i64 (atoiV y)] 3)) := (Fr.refl _ _).alloc _; have hb4 := (HI2.out.box.fr hal (by simp)).fr hfa (by simpa using own_blk_ne (hal.own HI2.out.row (by simp)) (HI2.out.box.fr hal (by simp)).1 (by decide)); have hb46 := hb4.words; have hb4f := hb4.1.froz; have HB4 := Lib.hid hb4; clear hb4 hb6 hbf hal)
                have hal : Fr [] w2 (w2.alloc (.cells #[.int .i64 (atoiV y)] 3)) := (Fr.refl _ _).alloc _
                have hf5 : Fr [g] w4 (w4.setCell ⟨g, 6, none⟩ (.slice A8 (k - nf + 1) c8)) := (Fr.refl _ _).setCell (by simp) _
                have hgl : g < w2.heap.size := HI2.out.box.1.lt
                have hown4' := hown4
                have hne : (Value.slice A8 (k - nf + 1) c8).ownBlock ≠ some g := own_blk_ne hown4 HB4.out.1 (by decide)
                have hI5 : ParseInv s kd nf g wc (k + 1) (.slice A8 (k - nf + 1) c8) (w4.setCell ⟨g, 6, none⟩ (.slice A8 (k - nf + 1) c8)) := by
                  refine ⟨?_, ?_, ?_, ?_, HOKS.out⟩
                  · have h := HB4.out.setw (.slice A8 (k - nf + 1) c8)
                    have e1 : min (k + 1) nf = min k nf := by omega
                    have e2 : (fidx kd).take (k + 1) = (fidx kd).take k := by
                      rw [List.take_of_length_le (by rw [HNF.out]; omega), List.take_of_length_le (by rw [HNF.out]; omega)]
                    rw [e1, e2]
                    exact h
                  · have h := hf5.own hown4 (fun g' hg hx => by simp at hx; subst hx; exact hne hg)
                    have e1 : k + 1 - nf = k - nf + 1 := by omega
                    have e2 : ((tailV s).take (k + 1)).drop nf = ((tailV s).take k).drop nf ++ [atoiV y] := by
                      rw [HTK.out, List.drop_append_of_le_length (by rw [List.length_take, HTV.out]; omega)]
                    rw [e1, e2]
                    have e3 : ints (((tailV s).take k).drop nf ++ [atoiV y]) = ints (((tailV s).take k).drop nf) ++ ints [atoiV y] := by simp [ints]
                    rw [e3]
                    exact h
                  · intro g' hg
                    rcases hat with h | h
                    · exact HI2.out.new g' (by rw [← h]; exact hg)
                    · rw [h] at hg
                      injection hg with hg
                      have h1 := HI2.out.fr.size
                      have h2 := hal.size
                      omega
                  · refine ((HI2.out.fr.trans0 hal).trans hfa (fun x hx hlt => ?_)).trans' hf5
                    simp at hx
                    have := HI2.out.new x hx
                    omega
                have HI5 := Lib.hid hI5
                clear hal hf5 hgl hown4' hne hI5 hown4 hfa hat hb46 hb4f
                go_roundw
                case rel => exact ⟨k + 1, _, by go_num, by omega, HI5⟩
                case measure => simp [intOf]; omega
            · have hn' : numB y = false := by simpa using hn
              have HPS := Lib.hid (show parseS s = none by
                unfold parseS
                have : ((splitW s).drop 1).all numB = false := by
                  rw [List.all_eq_false]
                  exact ⟨y, List.mem_of_getElem? HYD.out, by simp [hn']⟩
                rw [this]
                simp)
              obtain ⟨z0, z1, z2, z3, z4, z5, z6⟩ := (HZ.out.fr HI2.out.fr (by simpa using HGS.out.2.1)).seven
              have zf := (HZ.out.fr HI2.out.fr (by simpa using HGS.out.2.1)).1.froz
              rw [hn']
              clear hn hn'
              go_wp2_with fail
              refine bodyPost_ret (v := .tuple #[zent.val (.slice none 0 0), .int .i64 8]) ?h1 rfl ?h2
              case h1 => simp [results, Tryd.results15, go_sem, zent, Ent.val, *]
              case h2 =>
                rw [HPS.out]
                refine ⟨rfl, HW2.out.trans (fr_seven _ _ _ _ _ _ _ _ _) (fun x hx hlt => by simp at hx; omega)⟩
          · have hkn : k = n1 := by omega
            subst hkn
            obtain ⟨z0, z1, z2, z3, z4, z5, z6⟩ := (HZ.out.fr HI.out.fr (by simpa using HGS.out.2.1)).seven
            have zf := (HZ.out.fr HI.out.fr (by simpa using HGS.out.2.1)).1.froz
            have hns := puts_length [kd, 0, 0, 0, 0, 0] ((fidx kd).take k) ((tailV s).take (min k nf))
            obtain ⟨a0, a1, a2, a3, a4, a5, hnn⟩ := six_of (hns.trans rfl)
            have hbx := HI.out.box
            rw [hnn] at hbx
            obtain ⟨b0, b1, b2, b3, b4, b5, b6⟩ := hbx.seven
            obtain ⟨A7, c7, rfl, _⟩ := own_form HI.out.row
            have hrd := Rd.of_own (M := [w.heap.size]) HI.out.row (fun g' hg hx => by
              have h1 := HI.out.new g' hg
              have h2 := HZ.out.1.lt
              simp at hx
              omega)
            have hfk : k ≥ nf := by omega
            have htt : (tailV s).take k = tailV s := List.take_of_length_le (by rw [HTV.out]; omega)
            have hpn : parseN s = [a0, a1, a2, a3, a4, a5] := by
              have e1 : (fidx kd).take k = fidx kd := List.take_of_length_le (by rw [HNF.out]; exact hfk)
              unfold parseN
              rw [HKD.out, HNF.out, ← hnn, e1, Nat.min_eq_right hfk]
            have hps : parseS s = some ⟨a0, a1, a2, a3, a4, a5, (tailV s).drop nf⟩ := by
              unfold parseS
              have hall : ((splitW s).drop 1).all numB = true := by
                rw [List.all_eq_true]
                intro y hy
                refine HI.out.ok y ?_
                rw [List.take_of_length_le (by rw [HDL.out]; omega)]
                exact hy
              rw [HFT.out, hall, HKD.out, HNF.out, hpn]
              rfl
            rw [htt] at hrd
            have hwl : k - nf = ((tailV s).drop nf).length := by rw [List.length_drop, HTV.out]
            rw [hwl] at hrd
            have HRD := Lib.hid hrd
            have HPS := Lib.hid hps
            have HWL := Lib.hid hwl
            clear hns hnn hbx hrd htt hpn hps hwl
            go_wp2_with fail
            refine bodyPost_ret (v := .tuple #[(Ent.mk a0 a1 a2 a3 a4 a5 ((tailV s).drop nf)).val (.slice A7 (k - nf) c7), .int .i64 0]) ?h1 rfl ?h2
            case h1 => simp [results, Tryd.results15, go_sem, Ent.val, *]
            case h2 =>
              rw [HPS.out]
              refine ⟨_, rfl, ?_, HW.out.trans (fr_seven _ _ _ _ _ _ _ _ _) (fun x hx hlt => by simp at hx; omega)⟩
              rw [HWL.out]
              exact (HRD.out.fr (fr_seven _ _ _ _ _ _ _ _ _) (fun x hx _ => hx)).mono (by simp) (by omega)
      · have hform' : formB s = false := by simpa using hform
        have HPS := Lib.hid (show parseS s = none by unfold parseS; rw [hform']; rfl)
        rw [hform']
        clear hform hform' b0 b1 b2 b3 b4 b5 b6
        go_wp2_with fail
        refine bodyPost_ret (v := .tuple #[zent.val (.slice none 0 0), .int .i64 8]) ?h1 rfl ?h2
        case h1 => simp [results, Tryd.results15, go_sem, zent, Ent.val, *]
        case h2 =>
          rw [HPS.out]
          refine ⟨rfl, HW3.out.trans (fr_seven _ _ _ _ _ _ _ _ _) (fun x hx hlt => by simp at hx; omega)⟩
end Go.Proofs.YtcnmnfllchiehaaDoor
