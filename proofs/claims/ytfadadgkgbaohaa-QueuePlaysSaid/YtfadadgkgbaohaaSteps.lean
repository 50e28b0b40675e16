/-
  A script: a row of steps; opened out of an argument; its first 80.
-/
import Derived.Test.YtfadadgkgbaohaaQStep
import Derived.Deep.Slices
set_option linter.unusedSimpArgs false
set_option linter.unusedVariables false
namespace Go.Proofs.Ytfadadgkgbaohaa
open Go.ChangeShapes Go.WideShapes Go.ChangeAt Go.RowKit Go.Deep
attribute [local go_sem] max_ints min_ints

def srow (ss : List (Stp × Value)) : List Value := ss.flatMap fun x => x.1.cells x.2
theorem srow_length (ss : List (Stp × Value)) : (srow ss).length = ss.length * 9 := by
  unfold srow
  induction ss with
  | nil => rfl
  | cons a r ih => simp only [List.flatMap_cons, List.length_append, ih, List.length_cons]; simp [Stp.cells]; omega
theorem srow_cons (a : Stp × Value) (r : List (Stp × Value)) : srow (a :: r) = a.1.cells a.2 ++ srow r := rfl
theorem srow_at {ss : List (Stp × Value)} {k : Nat} (hk : k < ss.length) {j : Nat} (hj : j < 9) : (srow ss)[k * 9 + j]? = (ss[k].1.cells ss[k].2)[j]? := by
  induction ss generalizing k with
  | nil => simp at hk
  | cons a r ih =>
    rw [srow_cons]
    cases k with
    | zero => rw [List.getElem?_append_left (by simp [Stp.cells]; omega)]; simp
    | succ k =>
      rw [List.getElem?_append_right (by simp [Stp.cells]; omega)]
      have : (k + 1) * 9 + j - (a.1.cells a.2).length = k * 9 + j := by simp [Stp.cells]; omega
      rw [this]
      exact ih (by simpa using hk)

/-- A script as it lies. -/
structure StepsAt (w : World) (v : Value) (n : Nat) (ss : List (Stp × Value)) : Prop where
  row : Rd w 9 [] v n (srow ss)
  len : ss.length = n
  words : ∀ x ∈ ss, Rd w 1 [] x.2 x.1.m.words.length (ints x.1.m.words) ∧ (Lit.int .i64 x.1.proc).wf = true

theorem StepsAt.fr0 {w w' : World} {v : Value} {n : Nat} {ss : List (Stp × Value)} (h : StepsAt w v n ss) (hf : Fr [] w w') : StepsAt w' v n ss :=
  ⟨h.row.fr hf (by simp), h.len, fun x hx => ⟨(h.words x hx).1.fr hf (by simp), (h.words x hx).2⟩⟩

theorem srow_mk (f : Nat → Stp × Value) (n i j : Nat) (hi : i < n) (hj : j < 9) : (srow ((List.range n).map f))[i * 9 + j]? = ((f i).1.cells (f i).2)[j]? := by
  rw [srow_at (by simpa using hi) hj]
  simp

section
variable {H : Type} {enc : TypeId × Value → H} {W : World} {base : Nat} {spare : Nat → Bool} {held : Bool} {fuel : Nat} {cs : List Value} {x : DataW H × List MemPlace}
set_option maxRecDepth 100000 in
theorem steps_arg (h : DataW.trod enc Try.prog W base spare held fuel 22 cs = some x) : ∃ v n ss, cs = [v] ∧ StepsAt W v n ss := by
  rcases open_slice Try.underlying22 h with ⟨rfl, _⟩ | ⟨a, len, cap, m, n, D, Pl, rfl, _, hl, hm, hmm, _, hx⟩
  · exact ⟨_, 0, [], rfl, Rd.nil _ _ _, rfl, by simp⟩
  · rw [c_step] at hx
    have hlm : len ≤ m := by rw [hmm]; split <;> omega
    have hex : ∀ i, ∃ y : Stp × Value, i < len → (∀ j u, (y.1.cells y.2)[j]? = some u → W.cell? (a.add (i * 9 + j)) = some u) ∧ Rd W 1 [] y.2 y.1.m.words.length (ints y.1.m.words) ∧ (Lit.int .i64 y.1.proc).wf = true := by
      intro i
      by_cases hi : i < len
      · obtain ⟨cs', hc, ht⟩ := hx i (by omega)
        obtain ⟨s, wv, rfl, hR, hw⟩ := step_arg ht
        refine ⟨(s, wv), fun _ => ⟨fun j u hu => ?_, hR, hw⟩⟩
        obtain ⟨_, hcl, hat⟩ := World.cells?_some hc
        have hj : j < 9 := by
          have := (List.getElem?_eq_some_iff.1 hu).1
          simpa [Stp.cells] using this
        have := hat j hj
        rw [← Go.Deep.add_add, this]
        exact hu
      · exact ⟨(⟨0, 0, 0, 0, ⟨[], 0, 0, 0, 0⟩⟩, .nilFunc), fun h => absurd h hi⟩
    have hall := fun i => (hex i).choose_spec
    generalize hfd : (fun i => (hex i).choose) = f
    have hall : ∀ i, i < len → (∀ j u, ((f i).1.cells (f i).2)[j]? = some u → W.cell? (a.add (i * 9 + j)) = some u) ∧ Rd W 1 [] (f i).2 (f i).1.m.words.length (ints (f i).1.m.words) ∧ (Lit.int .i64 (f i).1.proc).wf = true := fun i hi => by
      rw [← hfd]; exact hall i hi
    refine ⟨_, len, (List.range len).map f, rfl, ⟨some a, cap, rfl, by rw [srow_length]; simp, hl, hm, (fun e => nomatch e), fun _ => ⟨a, rfl, by simp, fun j u hu => ?_⟩⟩, by simp, fun y hy => ?_⟩
    · have hj : j < len * 9 := by
        have := (List.getElem?_eq_some_iff.1 hu).1
        rw [srow_length] at this
        simpa using this
      have hd : j = (j / 9) * 9 + j % 9 := by omega
      have hi : j / 9 < len := by omega
      rw [hd] at hu ⊢
      rw [srow_mk f len _ _ hi (by omega)] at hu
      exact (hall _ hi).1 _ u hu
    · obtain ⟨i, hi, rfl⟩ := List.mem_map.1 hy
      exact (hall i (by simpa using hi)).2
end

/-- The nine cells of the k-th step. -/
theorem StepsAt.at_ {w : World} {A : Option Addr} {n c : Nat} {ss : List (Stp × Value)} (h : StepsAt w (.slice A n c) n ss) {k : Nat} (hk : k < n) :
    ∃ g o, ∃ hl : k < ss.length, A = some ⟨g, o, none⟩ ∧ (∀ W, Fr [] w W → ∀ j u, (ss[k].1.cells ss[k].2)[j]? = some u → W.cell? ⟨g, o + (k * 9 + j), none⟩ = some u) ∧ Rd w 1 [] (ss[k]).2 (ss[k]).1.m.words.length (ints (ss[k]).1.m.words) ∧ (Lit.int .i64 (ss[k]).1.proc).wf = true := by
  obtain ⟨A', c', e, hl, h1, h2, h4, h3⟩ := h.row
  have hk' : k < ss.length := by rw [h.len]; exact hk
  obtain ⟨ad, rfl, hb, hc⟩ := h3 (by omega)
  injection e with e1 e2 e3
  have hs : ad.spot = none := by
    have hk0 : 0 < ss.length := by omega
    have h0 := hc 0 (.int .i64 ss[0].1.kind) (by have := srow_at hk0 (j := 0) (by omega); simpa [Stp.cells] using this)
    rw [add_zero_] at h0
    unfold World.cell? at h0
    cases hsp : ad.spot with
    | none => rfl
    | some x =>
      rw [hsp] at h0
      split at h0 <;> simp at h0
  obtain ⟨g, o, sp⟩ := ad
  simp only at hs
  subst hs
  have hadd : ∀ j, (⟨g, o, none⟩ : Addr).add j = ⟨g, o + j, none⟩ := fun j => by unfold Addr.add; split <;> simp_all
  simp only [hadd] at hc
  refine ⟨g, o, hk', e1, fun W hW j u hu => hW.cell0 (hc _ _ ?_), (h.words _ (List.getElem_mem hk')).1, (h.words _ (List.getElem_mem hk')).2⟩
  have hj : j < 9 := by have := (List.getElem?_eq_some_iff.1 hu).1; simpa [Stp.cells] using this
  rw [srow_at hk' hj]
  exact hu

theorem StepsAt.take {w : World} {A : Option Addr} {n c : Nat} {ss : List (Stp × Value)} (h : StepsAt w (.slice A n c) n ss) (k : Nat) (hk : k ≤ n) : StepsAt w (.slice A k c) k (ss.take k) := by
  obtain ⟨A', c', e, hl, h1, h2, h4, h3⟩ := h.row
  injection e with e1 e2 e3
  subst e1 e3
  have hlen : (ss.take k).length = k := by simp; have := h.len; omega
  refine ⟨⟨A, c, rfl, by rw [srow_length, hlen], by omega, h2, h4, fun hn => ?_⟩, hlen, fun x hx => h.words x (List.mem_of_mem_take hx)⟩
  obtain ⟨ad, ha, hb, hc⟩ := h3 (by omega)
  refine ⟨ad, ha, hb, fun j u hu => hc j u ?_⟩
  have e0 : srow ss = srow (ss.take k) ++ srow (ss.drop k) := by unfold srow; rw [← List.flatMap_append, List.take_append_drop]
  rw [e0, List.getElem?_append_left (List.getElem?_eq_some_iff.1 hu).1]
  exact hu

set_option maxHeartbeats 400000 in
theorem early_any (A : Option Addr) (n c : Nat) (ss : List (Stp × Value)) (w : World) (h : StepsAt w (.slice A n c) n ss) :
    Calls Try.prog 8 #[.slice A n c] w fun e w' => e = .returned (.slice A (min n 80) c) ∧ w = w' := by
  have hmax := h.row.max
  obtain ⟨A', c', e, hl, h1, h2, h4, h3⟩ := h.row
  injection e with e1 e2 e3
  subst e1 e3
  simp only [maxLen] at h2
  clear hl h4 h3 h
  go_enter Try.func8, Try.ntmps8
  go_wp2
  go_ret
  have : (min (n : Int) 80).toNat = min n 80 := by omega
  refine ⟨?_, rfl⟩
  simp [this]
end Go.Proofs.Ytfadadgkgbaohaa
