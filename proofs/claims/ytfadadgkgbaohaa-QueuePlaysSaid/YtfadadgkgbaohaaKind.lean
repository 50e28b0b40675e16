/-
  A step's kind; two ports that lie apart.
-/
import Derived.Test.YtfadadgkgbaohaaSteps
import Derived.Test.YtfadadgkgbaohaaPA
set_option linter.unusedSimpArgs false
set_option linter.unusedVariables false
namespace Go.Proofs.Ytfadadgkgbaohaa
open Go.RowKit
attribute [local go_sem] max_ints min_ints

def Stp.knd (s : Stp) : Int := wrap64 ((IntKind.u64.wrap s.kind).tmod 9)

set_option maxHeartbeats 1000000 in
theorem kind_any (s : Stp) (wv : Value) (w : World) : Calls Try.prog 9 #[s.val wv] w fun e w' => e = .returned (.int .i64 s.knd) ∧ Fr [] w w' := by
  unfold Stp.val
  go_enter Try.func9, Try.ntmps9
  go_wp2
  go_ret
  exact ⟨rfl, (Fr.refl _ _).alloc _⟩

/-- Two ports that lie apart; all of theirs is new since w0. -/
structure Two (w0 w : World) (p q : Nat) (a b : AP) (k : Nat) (Fa Fb : List Nat) : Prop where
  l : PA w p a k Fa Fb
  r : PA w q b k Fb Fa
  ne : ∀ x ∈ Fa, x ∉ Fb
  na : ∀ x ∈ Fa, w0.heap.size ≤ x
  nb : ∀ x ∈ Fb, w0.heap.size ≤ x
  fr : Fr [] w0 w
section
variable {w0 w w' : World} {p q : Nat} {a b a' b' : AP} {k k' : Nat} {Fa Fb : List Nat}
theorem Two.swap (h : Two w0 w p q a b k Fa Fb) : Two w0 w q p b a k Fb Fa := ⟨h.r, h.l, fun x hx hy => h.ne x hy hx, h.nb, h.na, h.fr⟩
theorem Two.fr0 (h : Two w0 w p q a b k Fa Fb) (hf : Fr [] w w') : Two w0 w' p q a b k Fa Fb := ⟨h.l.fr0 hf, h.r.fr0 hf, h.ne, h.na, h.nb, h.fr.trans' hf⟩
theorem Two.left (h : Two w0 w p q a b k Fa Fb) (hto : PAto w w' p a' k' Fa Fb) (hk : k ≤ k') : ∃ Fa', Two w0 w' p q a' b k' Fa' Fb ∧ (∀ x ∈ Fa', x ∈ Fa ∨ w.heap.size ≤ x) := by
  obtain ⟨Fa', hP, hf, hsub, hnew⟩ := hto
  have hsz := h.fr.size
  refine ⟨Fa', ⟨hP, ((h.r.frE hf h.ne (fun x hx => .inr hx) hnew hP.lt)).mono hk, fun x hx hy => ?_, fun x hx => ?_, h.nb, h.fr.trans hf (fun x hx hlt => absurd (h.na x hx) (by omega))⟩, hnew⟩
  · rcases hnew x hx with h1 | h1
    · exact h.ne x h1 hy
    · have := h.r.lt x hy; omega
  · rcases hnew x hx with h1 | h1
    · exact h.na x h1
    · omega
theorem Two.right (h : Two w0 w p q a b k Fa Fb) (hto : PAto w w' q b' k' Fb Fa) (hk : k ≤ k') : ∃ Fb', Two w0 w' p q a b' k' Fa Fb' ∧ (∀ x ∈ Fb', x ∈ Fb ∨ w.heap.size ≤ x) := by
  obtain ⟨F, h1, h2⟩ := h.swap.left hto hk
  exact ⟨F, h1.swap, h2⟩
theorem PA.ext_nil {E E' : List Nat} (h : PA w p a k Fa E) (ha : a.msgs = []) (hE : ∀ x ∈ E', x < w.heap.size) : PA w p a k Fa E' := by
  obtain ⟨s, ⟨hP, rfl⟩, h1, h2, hr⟩ := h
  obtain ⟨wh, m, lv, rv, ms, hB, hW, hR, hL, hms, hwo, hrest⟩ := hP.ex
  have hz : ms = [] := by rw [h2, ha] at hms; simpa using hms
  exact ⟨{ s with ext := E' }, ⟨⟨⟨wh, m, lv, rv, ms, hB, hW, hR, hL, hms, fun x hx => by rw [hz] at hx; simp at hx, hrest⟩, hP.lt, hP.room, hE⟩, rfl⟩, h1, h2, hr⟩
theorem Two.new {w1 w2 : World} {hold : Int} (hf1 : Fr [] w w1) (h1 : PA w1 p (AP.new hold) 0 Fa []) (hn1 : ∀ x ∈ Fa, w.heap.size ≤ x) (hf2 : Fr [] w1 w2) (h2 : PA w2 q (AP.new hold) 0 Fb []) (hn2 : ∀ x ∈ Fb, w1.heap.size ≤ x) :
    Two w w2 p q (AP.new hold) (AP.new hold) 0 Fa Fb := by
  have hs1 := hf1.size
  have hs2 := hf2.size
  exact ⟨(h1.fr0 hf2).ext_nil rfl h2.lt, h2.ext_nil rfl (fun x hx => by have := h1.lt x hx; omega), fun x hx hy => by have := h1.lt x hx; have := hn2 x hy; omega, hn1, fun x hx => by have := hn2 x hx; omega, hf1.trans' hf2⟩
end

/-- What a run of Puts and Asks keeps. -/
def AP.Ok (hold : Int) (a : AP) : Prop := a.hold = (AP.new hold).hold ∧ (a.msgs = [] ∨ a.waits = [])
theorem AP.ok_new (hold : Int) : AP.Ok hold (AP.new hold) := ⟨rfl, .inl rfl⟩
theorem AP.ok_put {hold : Int} {a : AP} (h : AP.Ok hold a) (m : Msg) : AP.Ok hold (a.put m).1 := by
  obtain ⟨h1, h2⟩ := h
  unfold AP.put
  split
  · rename_i e r hw
    refine ⟨h1, .inl ?_⟩
    rcases h2 with h2 | h2
    · exact h2
    · rw [hw] at h2; simp at h2
  · rename_i hw
    split
    · exact ⟨h1, .inr hw⟩
    · exact ⟨h1, .inr hw⟩
theorem AP.ok_ask {hold : Int} {a : AP} (h : AP.Ok hold a) (x u t : Int) : AP.Ok hold (a.ask x u t).1 := by
  obtain ⟨h1, h2⟩ := h
  unfold AP.ask
  split
  · exact ⟨h1, h2⟩
  · split
    · rename_i m r hm
      refine ⟨h1, .inr ?_⟩
      rcases h2 with h2 | h2
      · rw [hm] at h2; simp at h2
      · exact h2
    · rename_i hm
      split
      · exact ⟨h1, .inl hm⟩
      · exact ⟨h1, .inl hm⟩
theorem AP.ok_expire {hold : Int} {a : AP} (h : AP.Ok hold a) (t : Int) : AP.Ok hold (a.expire t).1 := by
  obtain ⟨h1, h2⟩ := h
  refine ⟨h1, ?_⟩
  rcases h2 with h2 | h2
  · exact .inl h2
  · right; show a.waits.filter _ = []; rw [h2]; rfl
theorem AP.flushed {hold : Int} {a : AP} (h : AP.Ok hold a) : ({ a with msgs := [], waits := [] } : AP) = AP.new hold := by
  obtain ⟨hd, ms, ws⟩ := a
  have := h.1
  simp only at this
  subst this
  rfl
end Go.Proofs.Ytfadadgkgbaohaa
