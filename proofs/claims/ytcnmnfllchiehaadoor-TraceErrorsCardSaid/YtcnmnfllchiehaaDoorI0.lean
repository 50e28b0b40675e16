/-
  Lists of ints as cells; messages as values.
-/
import Derived.Test.YtcnmnfllchiehaaDoorRows
import Derived.Test.YtcnmnfllchiehaaDoorL0
set_option linter.unusedSimpArgs false
set_option linter.unusedVariables false
namespace Go.Proofs.YtcnmnfllchiehaaDoor
open Go.RowKit

/-- A list of ints as cells. -/
def ints (zs : List Int) : List Value := zs.map (Value.int .i64)
theorem ints_length (zs : List Int) : (ints zs).length = zs.length := by simp [ints]
theorem ints_get {zs : List Int} {j : Nat} (h : j < zs.length) : (ints zs)[j]? = some (.int .i64 zs[j]) := by simp [ints, h]

theorem Rd.at1 {w : World} {M : List Nat} {A : Option Addr} {n c : Nat} {zs : List Int} (h : Rd w 1 M (.slice A n c) n (ints zs)) {j : Nat} (hj : j < n) :
    ∃ ad, A = some ad ∧ ∃ hl : j < zs.length, w.cell? (ad.add j) = some (.int .i64 zs[j]) := by
  obtain ⟨A', c', e, hl, h1, h2, h4, h3⟩ := h
  obtain ⟨ad, rfl, hb, hc⟩ := h3 (by omega)
  have hlen : j < zs.length := by rw [ints_length] at hl; omega
  injection e with e1 e2 e3
  exact ⟨ad, e1, hlen, hc j _ (ints_get hlen)⟩
theorem Rd.len1 {w : World} {M : List Nat} {v : Value} {n : Nat} {zs : List Int} (h : Rd w 1 M v n (ints zs)) : zs.length = n := by
  obtain ⟨A', c', e, hl, _⟩ := h
  simpa [ints_length] using hl
theorem Rd.max {w : World} {k : Nat} {M : List Nat} {v : Value} {n : Nat} {xs : List Value} (h : Rd w k M v n xs) : n ≤ 9223372036854775807 := by
  obtain ⟨A', c', e, hl, h1, h2, _⟩ := h
  simp only [maxLen] at h2
  omega

theorem int_elem : Elem Tryd.prog 22 3 (.int .i64 0) 1 8 :=
  ⟨Tryd.underlying22, info_parts (by kernel_rfl), rfl, by omega⟩
theorem ints_one (zs : List Int) : ∀ u ∈ ints zs, u.oneCell' = true := by
  intro u hu
  simp only [ints, List.mem_map] at hu
  obtain ⟨a, _, rfl⟩ := hu
  rfl

/-- A message. -/
structure Msg where
  words : List Int
  lane : Int
  stamp : Int
  late : Int
  seq : Int

/-- A message's cells, its words being the slice wv. -/
def Msg.cells (m : Msg) (wv : Value) : List Value := [wv, .int .i64 m.lane, .int .i64 m.stamp, .int .i64 m.late, .int .i64 m.seq]
def Msg.val (m : Msg) (wv : Value) : Value := .agg #[wv, .int .i64 m.lane, .int .i64 m.stamp, .int .i64 m.late, .int .i64 m.seq]

/-- wv reads as the words of m, in no block of M; not too many. -/
def WordsAt (w : World) (M : List Nat) (wv : Value) (m : Msg) : Prop := Rd w 1 M wv m.words.length (ints m.words) ∧ m.words.length ≤ 1048576

/-- A value whose row is new: its block (if any) is not below B. -/
def NewFrom (B : Nat) (v : Value) : Prop := ∀ g, v.ownBlock = some g → B ≤ g

theorem WordsAt.fr {w w' : World} {M F : List Nat} {wv : Value} {m : Msg} (h : WordsAt w M wv m) (hf : Fr F w w') (hs : ∀ x ∈ F, x < w.heap.size → x ∈ M) : WordsAt w' M wv m := ⟨h.1.fr hf hs, h.2⟩
theorem WordsAt.fr0 {w w' : World} {M : List Nat} {wv : Value} {m : Msg} (h : WordsAt w M wv m) (hf : Fr [] w w') : WordsAt w' M wv m := h.fr hf (fun _ hx => by simp at hx)
theorem WordsAt.mono {w : World} {M M' : List Nat} {wv : Value} {m : Msg} (h : WordsAt w M wv m) (hs : ∀ x ∈ M', x < w.heap.size → x ∈ M) : WordsAt w M' wv m := ⟨h.1.mono hs (by omega), h.2⟩

theorem msg_info : (Tryd.prog.info? 36).map (fun i => (i.zero, i.size, i.bytes)) = some (some (.agg #[.slice none 0 0, .int .i64 0, .int .i64 0, .int .i64 0, .int .i64 0]), 5, 56) := by kernel_rfl
end Go.Proofs.YtcnmnfllchiehaaDoor
