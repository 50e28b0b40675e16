/-
  Arguments opened: ints, slices of ints, messages.
-/
import Derived.Test.YtfadadgkgbaohaaMsg
import Derived.ProofKit
import Derived.Deep.Slices
set_option linter.unusedSimpArgs false
set_option linter.unusedVariables false
namespace Go.Proofs.Ytfadadgkgbaohaa
open Go.ChangeShapes Go.WideShapes Go.ChangeAt Go.RowKit Go.Deep

theorem c_int : Try.prog.cellsOf 3 = 1 := by kernel_rfl
theorem c_ints : Try.prog.cellsOf 27 = 1 := by kernel_rfl
theorem c_msg : Try.prog.cellsOf 29 = 5 := by kernel_rfl

section
variable {H : Type} {enc : TypeId × Value → H} {W : World} {base : Nat} {spare : Nat → Bool} {held : Bool} {fuel : Nat} {cs : List Value} {x : DataW H × List MemPlace}

theorem int_arg (h : DataW.trod enc Try.prog W base spare held fuel 3 cs = some x) : ∃ n, cs = [.int .i64 n] ∧ (Lit.int .i64 n).wf = true := by
  obtain ⟨n, h1, _, h2⟩ := DataW.trod_int Try.underlying3 h
  exact ⟨n, h1, h2⟩

theorem ints_arg (h : DataW.trod enc Try.prog W base spare held fuel 27 cs = some x) : ∃ v zs, cs = [v] ∧ Rd W 1 [] v zs.length (ints zs) ∧ ∀ z ∈ zs, (Lit.int .i64 z).wf = true := by
  rcases open_ints Try.underlying27 Try.underlying3 c_int h with ⟨rfl, _⟩ | ⟨a, len, cap, zs, rfl, _, hl, hm, hz, _, hc, hw⟩
  · exact ⟨_, [], rfl, Rd.nil _ _ _, by simp⟩
  · have hlz : len ≤ zs.length := by rw [hz]; split <;> omega
    have htl : (zs.take len).length = len := by simp; omega
    refine ⟨_, zs.take len, rfl, ⟨some a, cap, by rw [htl], by simp [ints], by omega, hm, (fun e => nomatch e), fun _ => ⟨a, rfl, by simp, fun j u hu => ?_⟩⟩, fun z hz => hw z (List.mem_of_mem_take hz)⟩
    have hj : j < len := by
      have := (List.getElem?_eq_some_iff.1 hu).1
      rw [ints_length] at this
      omega
    rw [hc j (by omega)]
    have h1 : (ints (zs.take len))[j]? = some (.int .i64 (zs.getD j 0)) := by
      have hj2 : j < zs.length := by omega
      simp [ints, List.getElem?_take, hj, hj2]
    rw [h1] at hu
    exact hu

set_option maxRecDepth 100000 in
theorem msg_arg (h : DataW.trod enc Try.prog W base spare held fuel 29 cs = some x) : ∃ m wv, cs = Msg.cells m wv ∧ Rd W 1 [] wv m.words.length (ints m.words) := by
  obtain ⟨xs, n, _, _, hl, hx, hf⟩ := DataW.trod_struct Try.underlying29 h
  rw [c_msg] at hl
  match cs, hl with
  | [c0, c1, c2, c3, c4], _ =>
    match xs, hx with
    | [x0, x1, x2, x3, x4], _ =>
      have h0 := hf 0 _ rfl
      have h1 := hf 1 _ rfl
      have h2 := hf 2 _ rfl
      have h3 := hf 3 _ rfl
      have h4 := hf 4 _ rfl
      simp [c_int, c_ints] at h0 h1 h2 h3 h4
      obtain ⟨v, zs, e0, hR, _⟩ := ints_arg h0
      obtain ⟨l, e1, _⟩ := int_arg h1
      obtain ⟨s, e2, _⟩ := int_arg h2
      obtain ⟨t, e3, _⟩ := int_arg h3
      obtain ⟨q, e4, _⟩ := int_arg h4
      simp only [List.cons.injEq, and_true] at e0 e1 e2 e3 e4
      subst e0 e1 e2 e3 e4
      exact ⟨⟨zs, l, s, t, q⟩, _, rfl, hR⟩
end
end Go.Proofs.Ytfadadgkgbaohaa
