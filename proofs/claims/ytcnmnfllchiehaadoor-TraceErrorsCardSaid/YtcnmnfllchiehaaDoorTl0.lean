/-
  Line, of a tick that told nothing but its return code; the document's example.
-/
import Derived.Test.YtcnmnfllchiehaaDoorTq
set_option linter.unusedSimpArgs false
set_option linter.unusedVariables false
namespace Go.Proofs.YtcnmnfllchiehaaDoor
open Go.RowKit
attribute [local go_sem] max_ints min_ints

theorem message_none (lane stamp late seq : Int) (wv : Value) (w : World) (h : seq ≤ 0) : Calls Tryd.prog 40 #[.agg #[wv, .int .i64 lane, .int .i64 stamp, .int .i64 late, .int .i64 seq]] w fun e w' => e = .returned (.slice none 0 0) ∧ Fr [] w w' := by
  go_enter Tryd.func40, Tryd.ntmps40
  go_wp2_with fail
  go_ret
  exact ⟨rfl, (Fr.refl _ _).alloc _⟩

theorem toldS_len (e : Int) : (toldS e).length ≤ 20 := by
  have hw : (wordS e).length ≤ 20 := by
    unfold wordS
    split
    · rename_i h
      have hall : ∀ j : Fin 12, (errW.getD j.val []).length ≤ 20 := by decide
      exact hall ⟨e.toNat, by omega⟩
    · simp
  unfold toldS
  split
  · simp
  · exact hw

def outE (e : Int) : Value := .agg #[.int .i64 e, .bool false, .slice none 0 0, .int .i64 0, .int .i64 0, .bool false, .bool false, .slice none 0 0, .int .i64 0, .int .i64 0, .int .i64 0, .int .i64 0, .slice none 0 0]
set_option maxHeartbeats 2000000 in
set_option maxRecDepth 100000 in
theorem line_told (e : Int) (w : World) : Calls Tryd.prog 17 #[outE e] w fun r w' => r = .returned (.string (bs (toldS e))) ∧ Fr [] w w' := by
  unfold outE
  go_enter Tryd.func17, Tryd.ntmps17
  go_wp2_with fail
  refine (told_any e _).mono ?_
  rintro r w1 ⟨rfl, hf1⟩
  have hb : Blk w1 w.heap.size 49 #[.int .i64 e, .bool false, .slice none 0 0, .int .i64 0, .int .i64 0, .bool false, .bool false, .slice none 0 0, .int .i64 0, .int .i64 0, .int .i64 0, .int .i64 0, .slice none 0 0] := (Blk.new _ _ _).fr hf1 (by simp)
  have hfw : Fr [] w w1 := ((Fr.refl [] w).alloc _).trans' hf1
  obtain ⟨x2, hx2⟩ : ∃ y, (w1.alloc (.cells #[.string (bs (toldS e))] 9)).alloc (.cells #[.slice (some ⟨w1.heap.size, 0, none⟩) 1 1] 60) = y := ⟨_, rfl⟩
  have hf2 : Fr [] w1 x2 := by rw [← hx2]; exact ((Fr.refl _ _).alloc _).alloc _
  have hl2 : Blk x2 (w1.heap.size + 1) 60 #[.slice (some ⟨w1.heap.size, 0, none⟩) 1 1] := by rw [← hx2]; exact Blk.new' _ _ _ (by simp)
  have ho2 : x2.ownsRow 0 9 1 (.slice (some ⟨w1.heap.size, 0, none⟩) 1 1) 1 (strs [toldS e]) := by
    rw [← hx2]
    exact ((Fr.refl [] _).alloc _).own (own_new w1 1 _ (strs [toldS e]) 1 rfl (by decide)) (by simp)
  have hb2 := hb.fr hf2 (by simp)
  obtain ⟨x3, hx3⟩ : ∃ y, x2.alloc (.cells #[.slice none 0 0, .int .i64 0, .int .i64 0, .bool false, .bool false] 46) = y := ⟨_, rfl⟩
  have hf3 : Fr [] x2 x3 := by rw [← hx3]; exact (Fr.refl _ _).alloc _
  have hv3 : Blk x3 x2.heap.size 46 #[.slice none 0 0, .int .i64 0, .int .i64 0, .bool false, .bool false] := by rw [← hx3]; exact Blk.new _ _ _
  obtain ⟨x4, hx4⟩ : ∃ y, ((((x3.setCell ⟨x2.heap.size, 0, none⟩ (.slice none 0 0)).setCell ⟨x2.heap.size, 1, none⟩ (.int .i64 0)).setCell ⟨x2.heap.size, 2, none⟩ (.int .i64 0)).setCell ⟨x2.heap.size, 3, none⟩ (.bool false)).setCell ⟨x2.heap.size, 4, none⟩ (.bool false) = y := ⟨_, rfl⟩
  have hf4 : Fr [x2.heap.size] x3 x4 := by
    rw [← hx4]
    iterate 5 refine Fr.setCell ?_ (by simp) _
    exact Fr.refl _ _
  have hv4 : Blk x4 x2.heap.size 46 #[.slice none 0 0, .int .i64 0, .int .i64 0, .bool false, .bool false] := by
    rw [← hx4]
    exact ((((hv3.set_ 0 _).set_ 1 _).set_ 2 _).set_ 3 _).set_ 4 _
  have hb3 := hb2.fr hf3 (by simp)
  have hl3 := hl2.fr hf3 (by simp)
  have ho3 := hf3.own ho2 (by simp)
  have hlt2 := hb2.lt
  have hlt3 := hl2.lt
  have hb4 := hb3.fr hf4 (by simp; omega)
  have hl4 := hl3.fr hf4 (by simp; omega)
  have ho4 := hf4.own ho3 (fun g hg hx => by simp [Value.ownBlock] at hg; simp at hx; omega)
  have d0 : x2.cell? ⟨w.heap.size, 0, none⟩ = some (.int .i64 e) := hb2.cell 0
  have d1 : x2.cell? ⟨w.heap.size, 1, none⟩ = some (.bool false) := hb2.cell 1
  have d2 : x2.cell? ⟨w.heap.size, 2, none⟩ = some (.slice none 0 0) := hb2.cell 2
  have d3 : x2.cell? ⟨w.heap.size, 3, none⟩ = some (.int .i64 0) := hb2.cell 3
  have d4 : x2.cell? ⟨w.heap.size, 4, none⟩ = some (.int .i64 0) := hb2.cell 4
  have d5 : x2.cell? ⟨w.heap.size, 5, none⟩ = some (.bool false) := hb2.cell 5
  have d6 : x2.cell? ⟨w.heap.size, 6, none⟩ = some (.bool false) := hb2.cell 6
  have d7 : x2.cell? ⟨w.heap.size, 7, none⟩ = some (.slice none 0 0) := hb2.cell 7
  have d8 : x2.cell? ⟨w.heap.size, 8, none⟩ = some (.int .i64 0) := hb2.cell 8
  have d9 : x2.cell? ⟨w.heap.size, 9, none⟩ = some (.int .i64 0) := hb2.cell 9
  have d10 : x2.cell? ⟨w.heap.size, 10, none⟩ = some (.int .i64 0) := hb2.cell 10
  have d11 : x2.cell? ⟨w.heap.size, 11, none⟩ = some (.int .i64 0) := hb2.cell 11
  have d12 : x2.cell? ⟨w.heap.size, 12, none⟩ = some (.slice none 0 0) := hb2.cell 12
  have c0 : x3.cell? ⟨w.heap.size, 0, none⟩ = some (.int .i64 e) := hb3.cell 0
  have b0 : x4.cell? ⟨w.heap.size, 0, none⟩ = some (.int .i64 e) := hb4.cell 0
  have c1 : x3.cell? ⟨w.heap.size, 1, none⟩ = some (.bool false) := hb3.cell 1
  have b1 : x4.cell? ⟨w.heap.size, 1, none⟩ = some (.bool false) := hb4.cell 1
  have c2 : x3.cell? ⟨w.heap.size, 2, none⟩ = some (.slice none 0 0) := hb3.cell 2
  have b2 : x4.cell? ⟨w.heap.size, 2, none⟩ = some (.slice none 0 0) := hb4.cell 2
  have c3 : x3.cell? ⟨w.heap.size, 3, none⟩ = some (.int .i64 0) := hb3.cell 3
  have b3 : x4.cell? ⟨w.heap.size, 3, none⟩ = some (.int .i64 0) := hb4.cell 3
  have c4 : x3.cell? ⟨w.heap.size, 4, none⟩ = some (.int .i64 0) := hb3.cell 4
  have b4 : x4.cell? ⟨w.heap.size, 4, none⟩ = some (.int .i64 0) := hb4.cell 4
  have c5 : x3.cell? ⟨w.heap.size, 5, none⟩ = some (.bool false) := hb3.cell 5
  have b5 : x4.cell? ⟨w.heap.size, 5, none⟩ = some (.bool false) := hb4.cell 5
  have c6 : x3.cell? ⟨w.heap.size, 6, none⟩ = some (.bool false) := hb3.cell 6
  have b6 : x4.cell? ⟨w.heap.size, 6, none⟩ = some (.bool false) := hb4.cell 6
  have c7 : x3.cell? ⟨w.heap.size, 7, none⟩ = some (.slice none 0 0) := hb3.cell 7
  have b7 : x4.cell? ⟨w.heap.size, 7, none⟩ = some (.slice none 0 0) := hb4.cell 7
  have c8 : x3.cell? ⟨w.heap.size, 8, none⟩ = some (.int .i64 0) := hb3.cell 8
  have b8 : x4.cell? ⟨w.heap.size, 8, none⟩ = some (.int .i64 0) := hb4.cell 8
  have c9 : x3.cell? ⟨w.heap.size, 9, none⟩ = some (.int .i64 0) := hb3.cell 9
  have b9 : x4.cell? ⟨w.heap.size, 9, none⟩ = some (.int .i64 0) := hb4.cell 9
  have c10 : x3.cell? ⟨w.heap.size, 10, none⟩ = some (.int .i64 0) := hb3.cell 10
  have b10 : x4.cell? ⟨w.heap.size, 10, none⟩ = some (.int .i64 0) := hb4.cell 10
  have c11 : x3.cell? ⟨w.heap.size, 11, none⟩ = some (.int .i64 0) := hb3.cell 11
  have b11 : x4.cell? ⟨w.heap.size, 11, none⟩ = some (.int .i64 0) := hb4.cell 11
  have c12 : x3.cell? ⟨w.heap.size, 12, none⟩ = some (.slice none 0 0) := hb3.cell 12
  have b12 : x4.cell? ⟨w.heap.size, 12, none⟩ = some (.slice none 0 0) := hb4.cell 12
  have w0 : x3.cell? ⟨x2.heap.size, 0, none⟩ = some (.slice none 0 0) := hv3.cell 0
  have w1' : x3.cell? ⟨x2.heap.size, 1, none⟩ = some (.int .i64 0) := hv3.cell 1
  have w2 : x3.cell? ⟨x2.heap.size, 2, none⟩ = some (.int .i64 0) := hv3.cell 2
  have w3 : x3.cell? ⟨x2.heap.size, 3, none⟩ = some (.bool false) := hv3.cell 3
  have w4 : x3.cell? ⟨x2.heap.size, 4, none⟩ = some (.bool false) := hv3.cell 4
  have vf := hv3.froz
  have v3 : x4.cell? ⟨x2.heap.size, 3, none⟩ = some (.bool false) := hv4.cell 3
  have HB := Lib.hid hb4
  have HL := Lib.hid hl4
  have HO := Lib.hid ho4
  have hf34 : Fr [] w x4 := ((hfw.trans' (hf2.trans' hf3))).trans hf4 (fun x hx hlt => by
    simp at hx
    have h1 := hfw.size
    have h2 := hf2.size
    omega)
  have HFW := Lib.hid hf34
  have hge : w.heap.size ≤ w1.heap.size := hfw.size
  have hlb : LineBox w x4 (w1.heap.size + 1) [toldS e] := ⟨⟨_, hl4, ho4, fun g hg => by simp [Value.ownBlock] at hg; omega⟩, by omega, hf34⟩
  have HLB := Lib.hid hlb
  have HGE := Lib.hid hge
  clear hf1 hb hfw hf2 hl2 ho2 hb2 hf3 hv3 hb3 hl3 ho3 hlt2 hlt3 hb4 hl4 ho4 hf4 hv4 hf34 hlb hge
  go_wp2_with fail
  refine (message_none _ _ _ _ _ _ (by omega)).mono ?_
  rintro r x5 ⟨rfl, hf5⟩
  have HLB5 := Lib.hid (HLB.out.fr0 hf5)
  have HB5 := Lib.hid (HB.out.fr hf5 (by simp))
  clear hf5 hx2 hx3 hx4 d0 d1 d2 d3 d4 d5 d6 d7 d8 d9 d10 d11 d12 c0 c1 c2 c3 c4 c5 c6 c7 c8 c9 c10 c11 c12 b0 b1 b2 b3 b4 b5 b6 b7 b8 b9 b10 b11 b12 w0 w1' w2 w3 w4 vf v3
  go_wp2_with fail
  refine (put_any w x5 (w1.heap.size + 1) [toldS e] [] (.slice none 0 0) [] HLB5.out (Rd.nil _ _ _) (by simp)).mono ?_
  rintro r x6 ⟨rfl, hlb6, hpf6⟩
  have hne : w.heap.size ≠ w1.heap.size + 1 := by have := HGE.out; omega
  have hb6 := hpf6.keep HB5.out hne (by decide)
  have w12 : x6.cell? ⟨w.heap.size, 12, none⟩ = some (.slice none 0 0) := hb6.cell 12
  have HLB6 := Lib.hid hlb6
  clear hb6 hpf6 hlb6
  go_wp2_with fail
  go_loopw [54] (fun vi wr => vi = .int .i64 0 ∧ wr = x6) (fun _ _ => 0)
  case atStart => exact ⟨rfl, rfl⟩
  case round =>
    obtain ⟨rfl, rfl⟩ := hrel
    obtain ⟨⟨lv, hb7, ho7, hn7⟩, _, hf7⟩ := HLB6.out
    have l7 := hb7.one
    obtain ⟨A8, c8, rfl, _⟩ := own_form ho7
    have hr8 : Rd wr 1 [] (.slice A8 ([toldS e] ++ []).length c8) [toldS e].length (strs [toldS e]) := Rd.of_own ho7 (fun g _ hx => by simp at hx)
    have HR8 := Lib.hid hr8
    have HF7 := Lib.hid hf7
    clear hb7 ho7 hn7 hf7 hr8
    go_wp2_with fail
    refine (join_any [toldS e] _ [] wr HR8.out (by rw [joinW_one]; have := toldS_len e; omega) (by simp)).mono ?_
    rintro r x7 ⟨rfl, hf9⟩
    rw [joinW_one]
    go_wp2_with fail
    go_ret
    exact ⟨rfl, HF7.out.trans' hf9⟩

/-! ### The document's example -/
def sEx : Str := [115, 101, 110, 100, 32, 48, 32, 49, 32, 48, 32, 55]
def oEx : Ent := ⟨4, 0, 0, 1, 0, 0, [7]⟩
theorem num_ex : ∀ d : Fin 10, numB [UInt8.ofNat (48 + d.val)] = true ∧ atoiV [UInt8.ofNat (48 + d.val)] = d.val := by
  intro d
  have h1 : ∀ d : Fin 10, Lib.atoiAll [UInt8.ofNat (48 + d.val)] = .ok (d.val : Int) := by decide
  have h2 : ∀ d : Fin 10, (trimMinus [UInt8.ofNat (48 + d.val)]).length ≤ 10 := by decide
  have hv : atoiV [UInt8.ofNat (48 + d.val)] = d.val := by unfold atoiV; rw [h1 d]
  have hi : Lib.itoa (d.val : Int) = [UInt8.ofNat (48 + d.val)] := by
    unfold Lib.itoa
    rw [if_neg (by omega), Int.toNat_natCast, Lib.decDigits_one d.isLt]
  refine ⟨?_, hv⟩
  unfold numB atoiB
  rw [hv, h1 d, hi, decide_eq_true (h2 d)]
  simp
theorem dig_ex (d : Nat) (h : d < 10) : Lib.itoa (d : Int) = [UInt8.ofNat (48 + d)] := by
  unfold Lib.itoa
  rw [if_neg (by omega), Int.toNat_natCast, Lib.decDigits_one h]
theorem parse_ex : parseS sEx = some oEx := by
  have hs : splitW sEx = [[115, 101, 110, 100], [48], [49], [48], [55]] := by decide
  have hk : kindOf sEx = 4 := by decide +kernel
  have hf : formB sEx = true := by
    unfold formB
    rw [hk, hs]
    decide
  have n0 := num_ex 0
  have n1 := num_ex 1
  have n7 := num_ex 7
  have e0 : ([UInt8.ofNat (48 + (0 : Fin 10).val)] : Str) = [48] := by decide
  have e1 : ([UInt8.ofNat (48 + (1 : Fin 10).val)] : Str) = [49] := by decide
  have e7 : ([UInt8.ofNat (48 + (7 : Fin 10).val)] : Str) = [55] := by decide
  rw [e0] at n0
  rw [e1] at n1
  rw [e7] at n7
  have ht : tailV sEx = [0, 1, 0, 7] := by
    unfold tailV
    rw [hs]
    simp only [List.drop_succ_cons, List.drop_zero, List.map_cons, List.map_nil, n0.2, n1.2, n7.2]
    decide
  unfold parseS parseN
  rw [hf, ht, hk, hs]
  have ha : (List.drop 1 [[115, 101, 110, 100], [48], [49], [48], [55]]).all numB = true := by
    simp only [List.drop_succ_cons, List.drop_zero, List.all_cons, List.all_nil, n0.1, n1.1, n7.1]
    decide
  rw [ha]
  rfl
theorem plain_ex : plainS oEx = true := by decide
theorem op_ex : opS oEx = sEx := by
  unfold opS
  rw [plain_ex, if_pos rfl]
  have h0 := dig_ex 0 (by omega)
  have h1 := dig_ex 1 (by omega)
  have h7 := dig_ex 7 (by omega)
  have e : oEx.line = [[115, 101, 110, 100], [48], [49], [48], [55]] := by
    have hl : (fidx oEx.kind).map oEx.get ++ oEx.words = [((0 : Nat) : Int), ((1 : Nat) : Int), ((0 : Nat) : Int), ((7 : Nat) : Int)] := by decide
    unfold Ent.line
    rw [hl]
    unfold digs
    simp only [List.map_cons, List.map_nil, h0, h1, h7]
    decide
  rw [e]
  decide
theorem opE_ex : opE oEx = 0 := by unfold opE; rw [plain_ex, if_pos rfl]

set_option maxHeartbeats 2000000 in
set_option maxRecDepth 100000 in
theorem lives_any (w : World) (hG : Glo w) : Calls Tryd.prog 8 #[] w fun r w' => r = .returned (.bool true) ∧ Fr [] w w' := by
  have HG := Lib.hid hG
  clear hG
  go_enter Tryd.func8, Tryd.ntmps8
  go_wp2_with fail
  refine (parse_any sEx w (by decide) HG.out).mono ?_
  rw [parse_ex]
  rintro e w1 ⟨wv, rfl, hr1, hf1⟩
  obtain ⟨A1, c1, rfl, _⟩ := id hr1
  have HR1 := Lib.hid hr1
  have HF1 := Lib.hid hf1
  clear hr1 hf1
  obtain ⟨x2, hx2⟩ : ∃ y, w1.alloc (.cells #[.int .i64 4, .int .i64 0, .int .i64 0, .int .i64 1, .int .i64 0, .int .i64 0, .slice A1 1 c1] 24) = y := ⟨_, rfl⟩
  have hB2 : BoxAt x2 w1.heap.size [4, 0, 0, 1, 0, 0] (.slice A1 1 c1) := by rw [← hx2]; exact ⟨Blk.new _ _ _, rfl⟩
  have hf2 : Fr [] w1 x2 := by rw [← hx2]; exact (Fr.refl _ _).alloc _
  obtain ⟨b0, b1, b2, b3, b4, b5, b6⟩ := hB2.seven
  have HB2 := Lib.hid hB2
  have HR2 := Lib.hid (HR1.out.fr hf2 (by simp))
  have HF2 := Lib.hid (HF1.out.trans' hf2)
  clear hB2 hf2
  have hov : oEx.val (.slice A1 oEx.words.length c1) = .agg #[.int .i64 4, .int .i64 0, .int .i64 0, .int .i64 1, .int .i64 0, .int .i64 0, .slice A1 1 c1] := rfl
  rw [hov]
  clear hov
  go_wp2_with fail
  have hok : oEx.Ok := by
    refine ⟨fun x hx => ?_, fun x hx => ?_⟩
    · simp [oEx, Ent.nums] at hx
      unfold I64
      omega
    · simp [oEx] at hx
      subst hx
      unfold I64; omega
  refine (op_any oEx (.slice A1 1 c1) x2 HR2.out hok (HG.out.fr HF2.out)).mono ?_
  rw [op_ex, opE_ex]
  rintro e w3 ⟨rfl, hf3⟩
  have HB3 := Lib.hid (HB2.out.fr hf3 (by simp))
  have HF3 := Lib.hid (HF2.out.trans' hf3)
  clear b0 b1 b2 b3 b4 b5 b6 hf3 hok hx2
  obtain ⟨b0, b1, b2, b3, b4, b5, b6⟩ := HB3.out.seven
  have hcmp : ((bs sEx).toList == [115, 101, 110, 100, 32, 48, 32, 49, 32, 48, 32, 55]) = true := by rw [bs_toList]; decide
  go_wp2_with fail
  refine (line_told 6 w3).mono ?_
  rintro e w4 ⟨rfl, hf4⟩
  have HF4 := Lib.hid (HF3.out.trans' hf4)
  have hcm2 : ((bs (toldS 6)).toList == [116, 105, 109, 101, 100, 111, 117, 116]) = true := by rw [bs_toList]; decide
  clear hf4 b0 b1 b2 b3 b4 b5 b6
  go_wp2_with fail
  go_ret
  exact ⟨rfl, HF4.out⟩
end Go.Proofs.YtcnmnfllchiehaaDoor
