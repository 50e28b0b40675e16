/-
  A port and its reference side by side, in memory.
-/
import Derived.Test.YtfadadgkgbaohaaR18e
import Derived.Test.YtfadadgkgbaohaaQFl
import Derived.Test.YtfadadgkgbaohaaL5
import Derived.IntWalk
set_option linter.unusedSimpArgs false
set_option linter.unusedVariables false
namespace Go.Proofs.Ytfadadgkgbaohaa
open Go.RowKit

/-- The port at p stands for a, the reference in the box R for b. -/
structure QP (w0 w : World) (p R : Nat) (a b : AP) (k : Nat) (F : List Nat) (lv wv : Value) : Prop where
  pa : PA w p a k F [R]
  ref : RefAt w (R :: F) lv wv b
  box : Blk w R 51 #[.int .i64 b.hold, lv, wv]
  nr : R ∉ F
  nf : ∀ x ∈ F, w0.heap.size ≤ x
  ge : w0.heap.size ≤ R
  fr : Fr [] w0 w
section
variable {w0 w w' : World} {p R : Nat} {a a' b b' : AP} {k k' : Nat} {F : List Nat} {lv wv lv' wv' : Value}
theorem QP.fr0 (h : QP w0 w p R a b k F lv wv) (hf : Fr [] w w') : QP w0 w' p R a b k F lv wv :=
  ⟨h.pa.fr0 hf, h.ref.fr hf (by simp), h.box.fr hf (by simp), h.nr, h.nf, h.ge, h.fr.trans' hf⟩
theorem QP.low (h : QP w0 w p R a b k F lv wv) : ∀ x ∈ R :: F, x < w.heap.size := fun x hx => by
  rcases List.mem_cons.1 hx with rfl | hx
  · exact h.box.lt
  · exact h.pa.lt x hx
theorem QP.mono (h : QP w0 w p R a b k F lv wv) (hk : k ≤ k') : QP w0 w p R a b k' F lv wv := ⟨h.pa.mono hk, h.ref, h.box, h.nr, h.nf, h.ge, h.fr⟩
theorem QP.port (h : QP w0 w p R a b k F lv wv) (hto : PAto w w' p a' k' F [R]) : ∃ F', QP w0 w' p R a' b k' F' lv wv ∧ (∀ x ∈ F', x ∈ F ∨ w.heap.size ≤ x) := by
  obtain ⟨F', hP, hf, hsub, hnew⟩ := hto
  have hR := h.box.lt
  have hs := h.fr.size
  refine ⟨F', ⟨hP, ?_, h.box.fr hf h.nr, fun hx => ?_, fun x hx => ?_, h.ge, h.fr.trans hf (fun x hx hlt => absurd (h.nf x hx) (by omega))⟩, hnew⟩
  · refine (h.ref.mono (M' := R :: F') (fun x hx hlt => ?_)).fr hf (fun x hx _ => List.mem_cons_of_mem _ (hsub x hx))
    rcases List.mem_cons.1 hx with rfl | hx
    · simp
    · rcases hnew x hx with h1 | h1
      · exact List.mem_cons_of_mem _ h1
      · omega
  · rcases hnew R hx with h1 | h1
    · exact h.nr h1
    · omega
  · rcases hnew x hx with h1 | h1
    · exact h.nf x h1
    · omega
/-- The reference's box holds another state. -/
theorem QP.store (h : QP w0 w p R a b k F lv wv) (hr : RefAt w (R :: F) lv' wv' b') (hf : Fr [R] w w') (hb : Blk w' R 51 #[.int .i64 b'.hold, lv', wv']) : QP w0 w' p R a b' k F lv' wv' :=
  ⟨h.pa.fr hf (fun x hx => by simp at hx; subst hx; exact h.nr) (fun x hx => .inr hx), hr.fr hf (fun x hx _ => by simp at hx; subst hx; simp), hb, h.nr, h.nf, h.ge, h.fr.trans hf (fun x hx hlt => by simp at hx; subst hx; exact absurd h.ge (by omega))⟩
end

/-- What each step keeps. -/
structure QOk (hold : Int) (a : AP) : Prop where
  h : a.hold = (AP.new hold).hold
  room : (a.msgs.length : Int) ≤ a.hold ∧ a.hold ≤ 8
  tills : ∀ e ∈ a.waits, cut e.2 = e.2
theorem QOk.new (hold : Int) : QOk hold (AP.new hold) := ⟨rfl, by simp only [AP.new, List.length_nil]; omega, by simp [AP.new]⟩
theorem QOk.put {hold : Int} {a : AP} (h : QOk hold a) (m : Msg) : QOk hold (a.put m).1 := by
  obtain ⟨h1, h2, h3⟩ := h
  unfold AP.put
  split
  · rename_i e r hw
    exact ⟨h1, h2, fun e he => h3 e (by rw [hw]; exact List.mem_cons_of_mem _ he)⟩
  · split
    · exact ⟨h1, h2, h3⟩
    · exact ⟨h1, by simp only [List.length_append, List.length_singleton]; omega, h3⟩
theorem QOk.ask {hold : Int} {a : AP} (h : QOk hold a) (x u t : Int) : QOk hold (a.ask x u t).1 := by
  obtain ⟨h1, h2, h3⟩ := h
  unfold AP.ask
  split
  · exact ⟨h1, h2, h3⟩
  · split
    · rename_i m r hm
      refine ⟨h1, ?_, h3⟩
      rw [hm] at h2
      simp only [List.length_cons] at h2 ⊢
      omega
    · split
      · exact ⟨h1, h2, h3⟩
      · refine ⟨h1, h2, fun e he => ?_⟩
        rcases List.mem_append.1 he with he | he
        · exact h3 e he
        · simp at he; subst he; exact cut_cut u
theorem QOk.expire {hold : Int} {a : AP} (h : QOk hold a) (t : Int) : QOk hold (a.expire t).1 :=
  ⟨h.h, h.room, fun e he => h.tills e (List.mem_filter.1 he).1⟩
theorem QOk.sweep {hold : Int} {a : AP} (h : QOk hold a) (t : Int) : QOk hold (a.sweep t).1 := by
  refine ⟨h.h, ?_, h.tills⟩
  have h1 : (a.sweep t).1.msgs.length ≤ a.msgs.length := List.length_filter_le _ _
  have := h.room
  show ((a.sweep t).1.msgs.length : Int) ≤ a.hold ∧ a.hold ≤ 8
  omega
theorem QOk.flush {hold : Int} {a : AP} (h : QOk hold a) : QOk hold { a with msgs := [], waits := [] } := by
  have := h.room
  exact ⟨h.h, by simp only [List.length_nil]; omega, by simp⟩

/-- A step's kind is one of nine. -/
theorem knd_range (s : Stp) : 0 ≤ s.knd ∧ s.knd ≤ 8 := by
  unfold Stp.knd
  have h0 : 0 ≤ IntKind.u64.wrap s.kind := by
    have e : IntKind.u64.wrap s.kind = s.kind % 18446744073709551616 := IntKind.wrap_u64 _
    omega
  have h1 : 0 ≤ (IntKind.u64.wrap s.kind).tmod 9 := Int.tmod_nonneg _ h0
  have h2 : (IntKind.u64.wrap s.kind).tmod 9 < 9 := Int.tmod_lt_of_pos _ (by omega)
  generalize (IntKind.u64.wrap s.kind).tmod 9 = z at *
  have : wrap64 z = z := IntWalk.wrap64_in z (by omega)
  omega
end Go.Proofs.Ytfadadgkgbaohaa
