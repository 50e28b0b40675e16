/-
  Contracts of the references' comparisons, where both sides hold the same: Same of ints, One, Same of messages.
-/
import Derived.Test.YtfadadgkgbaohaaL4
import Derived.Test.YtfadadgkgbaohaaPort2
import Derived.Test.YtfadadgkgbaohaaL3
import Derived.BigQuiet
import Derived.Deep.QuietTactic
set_option linter.unusedSimpArgs false
set_option linter.unusedVariables false
namespace Go.Proofs.Ytfadadgkgbaohaa
open Go.RowKit
attribute [local go_sem] max_ints min_ints

set_option maxHeartbeats 400000 in
set_option maxRecDepth 100000 in
theorem same_true (M M' : List Nat) (A A' : Option Addr) (n c c' : Nat) (zs : List Int) (w : World) (h : Rd w 1 M (.slice A n c) n (ints zs)) (h' : Rd w 1 M' (.slice A' n c') n (ints zs)) :
    Calls Try.prog 17 #[.slice A n c, .slice A' n c'] w fun e w' => e = .returned (.bool true) ∧ Fr [] w w' := by
  have hmax := h.max
  have HR := Lib.hid h
  have HR' := Lib.hid h'
  clear h h'
  go_enter Try.func17, Try.ntmps17
  go_wp2
  go_loopw [5] (fun i wr => ∃ k : Nat, k ≤ n ∧ i = .int .i64 k ∧ Fr [] w wr) (fun i _ => n - (intOf i).toNat)
  case atStart => exact ⟨0, by omega, rfl, Fr.refl _ _⟩
  case round =>
    obtain ⟨k, hk, rfl, hfr⟩ := hrel
    by_cases hlt : k < n
    · obtain ⟨ad, rfl, hl, hc⟩ := (HR.out.fr hfr (by simp)).at1 hlt
      obtain ⟨ad', rfl, hl', hc'⟩ := (HR'.out.fr hfr (by simp)).at1 hlt
      generalize zs[k] = z at *
      have hlt' : ((k : Nat) : Int) < (n : Int) := by omega
      have h0 : (0 : Int) ≤ ((k : Nat) : Int) := by omega
      go_wp2
      go_quiet (fail)
      go_wp2
      go_roundw
      case rel => exact ⟨k + 1, by omega, by go_num, hfr.drewN _⟩
      case measure => simp [intOf]; omega
    · go_wp2
      go_ret
      exact ⟨rfl, hfr⟩

set_option maxHeartbeats 400000 in
set_option maxRecDepth 100000 in
theorem one_true (M M' : List Nat) (m : Msg) (wv wv' : Value) (w : World) (h : WordsAt w M wv m) (h' : WordsAt w M' wv' m) :
    Calls Try.prog 18 #[m.val wv, m.val wv'] w fun e w' => e = .returned (.bool true) ∧ Fr [] w w' := by
  obtain ⟨A, c, rfl, _⟩ := h.1
  obtain ⟨A', c', rfl, _⟩ := h'.1
  obtain ⟨zs, l, st, la, sq⟩ := m
  have H := Lib.hid h.1
  have H' := Lib.hid h'.1
  clear h h'
  simp only [Msg.val] at *
  obtain ⟨w1, hw1⟩ : ∃ x, (w.alloc (.cells #[.slice A zs.length c, .int .i64 l, .int .i64 st, .int .i64 la, .int .i64 sq] 29)).alloc (.cells #[.slice A' zs.length c', .int .i64 l, .int .i64 st, .int .i64 la, .int .i64 sq] 29) = x := ⟨_, rfl⟩
  have hF1 : Fr [] w w1 := by rw [← hw1]; exact ((Fr.refl _ _).alloc _).alloc _
  have hB1 : Blk w1 w.heap.size 29 #[.slice A zs.length c, .int .i64 l, .int .i64 st, .int .i64 la, .int .i64 sq] := by rw [← hw1]; exact (Blk.new _ _ _).alloc _
  have hC1 : Blk w1 (w.heap.size + 1) 29 #[.slice A' zs.length c', .int .i64 l, .int .i64 st, .int .i64 la, .int .i64 sq] := by rw [← hw1]; exact Blk.new' _ _ _ (by simp)
  obtain ⟨b0, b1, b2, b3, b4⟩ := hB1.five
  obtain ⟨c0, c1, c2, c3, c4⟩ := hC1.five
  have H1 := Lib.hid (And.intro hB1 hC1)
  clear hB1 hC1
  go_enter Try.func18, Try.ntmps18
  go_wp2_with fail
  refine (same_true M M' A A' _ c c' zs w1 (H.out.fr hF1 (by simp)) (H'.out.fr hF1 (by simp))).mono ?_
  rintro e w2 ⟨rfl, hf2⟩
  have hB2 := H1.out.1.fr hf2 (by simp)
  have hC2 := H1.out.2.fr hf2 (by simp)
  clear b0 b1 b2 b3 b4 c0 c1 c2 c3 c4
  obtain ⟨b0, b1, b2, b3, b4⟩ := hB2.five
  obtain ⟨c0, c1, c2, c3, c4⟩ := hC2.five
  clear hB2 hC2
  go_wp2
  go_ret
  exact ⟨rfl, hF1.trans' hf2⟩

/-- A list of messages read: the row's cells, and each one's words. -/
structure MsgsRd (w : World) (v : Value) (ms : List (Msg × Value)) : Prop where
  row : Rd w 5 [] v ms.length (mrow ms)
  words : ∀ x ∈ ms, WordsAt w [] x.2 x.1
theorem MsgsRd.fr0 {w w' : World} {v : Value} {ms : List (Msg × Value)} (h : MsgsRd w v ms) (hf : Fr [] w w') : MsgsRd w' v ms := ⟨h.row.fr hf (by simp), fun x hx => (h.words x hx).fr0 hf⟩
theorem MOut.rd {B : Nat} {M : List Nat} {w : World} {v : Value} {ms : List (Msg × Value)} (h : MOut B M w v ms) : MsgsRd w v ms := ⟨Rd.of_own h.own (fun g _ hx => by simp at hx), fun x hx => (h.words x hx).mono (by simp)⟩

/-- A row of messages read in the middle of a region: the cells of the k-th in every later world. -/
theorem MsgsRd.at_ {w : World} {A : Option Addr} {n c : Nat} {ms : List (Msg × Value)} (h : MsgsRd w (.slice A n c) ms) {k : Nat} (hk : k < ms.length) :
    ∃ g o, A = some ⟨g, o, none⟩ ∧ WordsAt w [] (ms[k]).2 (ms[k]).1 ∧ (∀ W, Fr [] w W → W.cell? ⟨g, o + k * 5, none⟩ = some (ms[k]).2) ∧ (∀ W, Fr [] w W → W.cell? ⟨g, o + k * 5 + 1, none⟩ = some (.int .i64 (ms[k]).1.lane)) ∧ (∀ W, Fr [] w W → W.cell? ⟨g, o + k * 5 + 2, none⟩ = some (.int .i64 (ms[k]).1.stamp)) ∧
      (∀ W, Fr [] w W → W.cell? ⟨g, o + k * 5 + 3, none⟩ = some (.int .i64 (ms[k]).1.late)) ∧ (∀ W, Fr [] w W → W.cell? ⟨g, o + k * 5 + 4, none⟩ = some (.int .i64 (ms[k]).1.seq)) := by
  have hr := h.row
  obtain ⟨A', c', e, _⟩ := id hr
  injection e with e1 e2 e3
  subst e2
  obtain ⟨g, o, hA, c0, c1, c2, c3, c4⟩ := hr.msg rfl hk
  exact ⟨g, o, hA, h.words _ (List.getElem_mem hk), fun W hW => hW.cell0 c0, fun W hW => hW.cell0 c1, fun W hW => hW.cell0 c2, fun W hW => hW.cell0 c3, fun W hW => hW.cell0 c4⟩

set_option maxHeartbeats 1000000 in
set_option maxRecDepth 100000 in
theorem msgs_true (v v' : Value) (ms ms' : List (Msg × Value)) (w : World) (h : MsgsRd w v ms) (h' : MsgsRd w v' ms') (he : ms.map (·.1) = ms'.map (·.1)) :
    Calls Try.prog 16 #[v, v'] w fun e w' => e = .returned (.bool true) ∧ Fr [] w w' := by
  have hmax := h.row.max
  obtain ⟨A, c, rfl, _⟩ := id h.row
  obtain ⟨A', c', rfl, _⟩ := id h'.row
  have hlen : ms.length = ms'.length := by simpa using congrArg List.length he
  rw [← hlen] at h' ⊢
  have HR := Lib.hid h
  have HR' := Lib.hid h'
  have HE := Lib.hid he
  have HL := Lib.hid hlen
  generalize hn : ms.length = n at *
  have HN := Lib.hid hn
  clear h h' he hlen hn
  go_enter Try.func16, Try.ntmps16
  go_wp2
  go_loopw [5] (fun i wr => ∃ k : Nat, k ≤ n ∧ i = .int .i64 k ∧ Fr [] w wr) (fun i _ => n - (intOf i).toNat)
  case atStart => exact ⟨0, by omega, rfl, Fr.refl _ _⟩
  case round =>
    obtain ⟨k, hk, rfl, hfr⟩ := hrel
    by_cases hlt : k < n
    · have hk1 : k < ms.length := by have := HN.out; omega
      have hk2 : k < ms'.length := by have := HL.out; omega
      obtain ⟨g, o, rfl, hw1, a0, a1, a2, a3, a4⟩ := (HR.out.fr0 hfr).at_ hk1
      obtain ⟨g', o', rfl, hw2, d0, d1, d2, d3, d4⟩ := (HR'.out.fr0 hfr).at_ hk2
      have hm : (ms[k]).1 = (ms'[k]).1 := by
        have h1 := congrArg (fun l => l[k]?) HE.out
        simp only [List.getElem?_map, List.getElem?_eq_getElem hk1, List.getElem?_eq_getElem hk2, Option.map_some] at h1
        exact Option.some.inj h1
      rw [← hm] at hw2 d1 d2 d3 d4
      clear hm
      generalize (ms[k]).2 = wv at *
      generalize (ms'[k]).2 = wv' at *
      generalize (ms[k]).1 = m at *
      have hlt' : ((k : Nat) : Int) < (n : Int) := by omega
      have h0 : (0 : Int) ≤ ((k : Nat) : Int) := by omega
      go_wp2
      refine wp_sched 9 [(0, 0), (1, 0), (2, 0), (3, 0), (4, 0), (5, 0), (6, 0), (7, 0), (8, 1), (9, 2)] (fun W => Fr [] wr W) (by kernel_rfl) (by kernel_rfl) (fun _ _ _ _ _ h => h) ((Fr.refl [] wr).drew) ?_
      iterate 8
        refine at_read (v := ?_) rfl (by first | rfl | kernel_rfl) ?_ ?_
        rotate_left
        · intro W hW
          go_simp
          try with_reducible rfl
        simp only [Act.put, List.setIfInBounds_toArray, List.set_cons_zero, List.set_cons_succ]
      clear a0 a1 a2 a3 a4 d0 d1 d2 d3 d4
      refine at_eff rfl (fun K hK => ?_)
      go_simp
      refine (one_true [] [] m wv wv' wr.drew hw1 hw2).mono ?_
      rintro e w2 ⟨rfl, hf2⟩
      have hf2' : Fr [] wr w2 := (Fr.refl [] wr).drew.trans' hf2
      refine hK _ _ (hf2') ?_
      clear hK K
      try simp only [Act.put, List.setIfInBounds_toArray, List.set_cons_zero, List.set_cons_succ]
      refine at_last rfl (fun K hK => ?_)
      go_simp
      refine hK _ _ ?_
      clear hK K
      try simp only [Act.put, List.setIfInBounds_toArray, List.set_cons_zero, List.set_cons_succ]
      refine sched_nil ?_
      go_wp2
      go_roundw
      case rel => exact ⟨k + 1, by omega, by go_num, hfr.trans' hf2'⟩
      case measure => simp [intOf]; omega
    · go_wp2
      go_ret
      exact ⟨rfl, hfr⟩
end Go.Proofs.Ytfadadgkgbaohaa
