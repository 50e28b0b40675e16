/-
  A schedule that branches: two operations with effects may stand ready at once, and either comes first. Own work; nothing here names the program.
-/
import Derived.Test.YtcnmnfllchiehaaDoorL4
set_option linter.unusedSimpArgs false
set_option linter.unusedVariables false
namespace Go.Proofs.YtcnmnfllchiehaaDoor
open Go.RowKit

inductive Sch where
  | fin : Sch
  | rd : Nat → Sch → Sch
  | eff : Nat → Sch → Sch
  | last : Nat → Sch → Sch
  | two : Nat → Sch → Nat → Sch → Sch

section
variable {P : Program} {ops : Array Oper} {Q : Exit → Act → World → Prop} {md : Region.Mode} {S : World → Prop}

def wpT (P : Program) (ops : Array Oper) (Q : Exit → Act → World → Prop) (S : World → Prop) : Sch → Act → World → Prop
  | .fin, a, w => Q .normal a w
  | .rd k σ, a, w => ∃ o, ops[k]? = some o ∧ (if Region.wanted o (yielded ops a.tmps) then ∃ v, (∀ W, S W → (execOp a.eval o).run P W = .ok (.value v) W) ∧ wpT P ops Q S σ (a.put o.dst v) w else wpT P ops Q S σ (a.put o.dst undef) w)
  | .eff k σ, a, w => wpOp P ops Q k (fun a' w' => S w' ∧ wpT P ops Q S σ a' w') a w
  | .last k σ, a, w => wpOp P ops Q k (fun a' w' => wpT P ops Q S σ a' w') a w
  | .two k1 σ1 k2 σ2, a, w => wpOp P ops Q k1 (fun a' w' => S w' ∧ wpT P ops Q S σ1 a' w') a w ∧ wpOp P ops Q k2 (fun a' w' => S w' ∧ wpT P ops Q S σ2 a' w') a w

def checkT (md : Region.Mode) (ops : Array Oper) (c : Nat) : Nat → Sch → Array Bool → Bool
  | 0, .fin, L => (Region.ready md ops L).isEmpty
  | n + 1, .rd k σ, L => (Region.ready md ops L).contains k && Region.free md ops L k && decide (k < c) && checkT md ops c n σ (L.setIfInBounds k true)
  | n + 1, .eff k σ, L => decide (Region.ready md ops L = [k]) && checkT md ops c n σ (L.setIfInBounds k true)
  | n + 1, .last k σ, L => decide (Region.ready md ops L = [k]) && (L.setIfInBounds k true).getD c false && checkT md ops c n σ (L.setIfInBounds k true)
  | n + 1, .two k1 σ1 k2 σ2, L => decide (Region.ready md ops L = [k1, k2]) && checkT md ops c n σ1 (L.setIfInBounds k1 true) && checkT md ops c n σ2 (L.setIfInBounds k2 true)
  | _, _, _ => false

def treeOk (md : Region.Mode) (ops : Array Oper) (c : Nat) (σ : Sch) : Bool :=
  Region.noSelect ops && sinksTo md ops c && checkT md ops c ops.size σ (Array.replicate ops.size false)

theorem wpAnyC_tree {c : Nat} (hsel : Region.noSelect ops = true) (hs : sinksTo md ops c = true) (hQ : ∀ c a (t : Tmp) v w, Q (.panic c) (Act.put a (some t) v) w → Q (.panic c) a w) :
    ∀ (n : Nat) (σ : Sch) (L : Array Bool) (a : Act) (w : World), Closed md ops L → checkT md ops c n σ L = true → (L.getD c false = false → S w) → wpT P ops Q S σ a w → wpAnyC P md ops Q S c n L a w := by
  intro n
  induction n with
  | zero =>
    intro σ L a w hcl hB hS h
    cases σ with
    | fin => exact ⟨by simpa [checkT] using hB, h⟩
    | rd k σ => simp [checkT] at hB
    | eff k σ => simp [checkT] at hB
    | last k σ => simp [checkT] at hB
    | two k1 σ1 k2 σ2 => simp [checkT] at hB
  | succ n ih =>
    intro σ L a w hcl hB hS h
    cases σ with
    | fin => simp [checkT] at hB
    | rd k σ =>
      simp only [checkT, Bool.and_eq_true, decide_eq_true_eq] at hB
      obtain ⟨⟨⟨hr, hf⟩, hkc⟩, hB'⟩ := hB
      have hr' : k ∈ Region.ready md ops L := by simpa using hr
      unfold wpT at h
      obtain ⟨o, ho, h⟩ := h
      obtain ⟨v, hy, hK⟩ : ∃ v, YieldsIf P ops S o v a ∧ wpT P ops Q S σ (a.put o.dst v) w := by
        by_cases hwn : Region.wanted o (yielded ops a.tmps) = true
        · rw [if_pos hwn] at h
          obtain ⟨v, h1, h2⟩ := h
          exact ⟨v, .inl ⟨hwn, h1⟩, h2⟩
        · rw [if_neg hwn] at h
          exact ⟨undef, .inr ⟨by simpa using hwn, rfl⟩, h⟩
      have hun : L.getD k false = false := getD_both (mem_ready.1 hr').1
      have hSw : S w := hS (sink_unlisted hs hcl _ k rfl (by omega) hun)
      refine wpAnyC_first ho (Region.noSelect_spec hsel) (fun c a w hp => ?_) hs hkc n L a w hcl (Region.free_spec ho hf) hr' hy hSw (ih σ _ _ w (hcl.set hr') hB' (fun _ => hSw) hK)
      cases hd : o.dst with
      | none => rw [hd] at hp; exact hp
      | some t => rw [hd] at hp; exact hQ c a t v w hp
    | eff k σ =>
      simp only [checkT, Bool.and_eq_true, decide_eq_true_eq] at hB
      refine ⟨fun h1 => (by rw [hB.1] at h1; cases h1), fun i hi => ?_⟩
      have hri := hi
      rw [hB.1] at hi
      have hik : i = k := by simpa using hi
      subst hik
      unfold wpT at h
      exact wpOp_mono (fun a' w' h' => ⟨fun _ => h'.1, ih σ _ a' w' (hcl.set hri) hB.2 (fun _ => h'.1) h'.2⟩) h
    | last k σ =>
      simp only [checkT, Bool.and_eq_true, decide_eq_true_eq] at hB
      refine ⟨fun h1 => (by rw [hB.1.1] at h1; cases h1), fun i hi => ?_⟩
      have hri := hi
      rw [hB.1.1] at hi
      have hik : i = k := by simpa using hi
      subst hik
      unfold wpT at h
      have hno : ¬ ((L.setIfInBounds i true).getD c false = false) := by rw [hB.1.2]; simp
      exact wpOp_mono (fun a' w' h' => ⟨fun hf => absurd hf hno, ih σ _ a' w' (hcl.set hri) hB.2 (fun hf => absurd hf hno) h'⟩) h
    | two k1 σ1 k2 σ2 =>
      simp only [checkT, Bool.and_eq_true, decide_eq_true_eq] at hB
      refine ⟨fun h1 => (by rw [hB.1.1] at h1; cases h1), fun i hi => ?_⟩
      have hri := hi
      rw [hB.1.1] at hi
      unfold wpT at h
      have hik : i = k1 ∨ i = k2 := by simpa using hi
      rcases hik with rfl | rfl
      · exact wpOp_mono (fun a' w' h' => ⟨fun _ => h'.1, ih σ1 _ a' w' (hcl.set hri) hB.1.2 (fun _ => h'.1) h'.2⟩) h.1
      · exact wpOp_mono (fun a' w' h' => ⟨fun _ => h'.1, ih σ2 _ a' w' (hcl.set hri) hB.2 (fun _ => h'.1) h'.2⟩) h.2

theorem wp_tree {id : Nat} {a : Act} {w : World} {l : List Oper} (c : Nat) (σ : Sch) (S : World → Prop) (hm : P.follows .mixedOrders = true) (hB : treeOk .any l.toArray c σ = true)
    (hQ : ∀ c a (t : Tmp) v w, Q (.panic c) (Act.put a (some t) v) w → Q (.panic c) a w) (hS : S w.drew) (h : wpT P l.toArray Q S σ a w.drew) : (Code.region id l.toArray true).wp P Q a w := by
  simp only [treeOk, Bool.and_eq_true] at hB
  obtain ⟨⟨hsel, hs⟩, hlex⟩ := hB
  refine wp_region_any hm ?_
  exact wpAny_of_C _ _ _ _ (wpAnyC_tree (md := .any) (Q := Q) (S := S) hsel hs hQ l.toArray.size σ (Array.replicate l.toArray.size false) a w.drew (fun j oj _ hl => (by rw [getD_replicate_false] at hl; cases hl)) hlex (fun _ => hS) h)

theorem tree_read {k : Nat} {σ : Sch} {o : Oper} {a : Act} {w : World} (v : Value) (ho : ops.toList[k]? = some o) (hg : Region.wanted o (yielded ops a.tmps) = true) (hy : ∀ W, S W → (execOp a.eval o).run P W = .ok (.value v) W)
    (h : wpT P ops Q S σ (a.put o.dst v) w) : wpT P ops Q S (.rd k σ) a w := by
  unfold wpT
  refine ⟨o, by rw [← Array.getElem?_toList]; exact ho, ?_⟩
  rw [if_pos hg]
  exact ⟨v, hy, h⟩
theorem wpOp_of_step {k : Nat} {o : Oper} {a : Act} {w : World} {K : Act → World → Prop} (ho : ops.toList[k]? = some o)
    (h : if Region.wanted o (yielded ops a.tmps) then o.wp P a w K Q else K (a.put o.dst undef) w) : wpOp P ops Q k K a w := by
  have ho' : ops[k]? = some o := by rw [← Array.getElem?_toList]; exact ho
  unfold wpOp
  simp only [ho']
  by_cases hw : Region.wanted o (yielded ops a.tmps) = true
  · rw [if_pos hw] at h ⊢; exact .inl h
  · rw [if_neg hw] at h ⊢; exact h
theorem tree_eff {k : Nat} {σ : Sch} {o : Oper} {a : Act} {w : World} (ho : ops.toList[k]? = some o)
    (h : ∀ K : Act → World → Prop, (∀ a' w', S w' → wpT P ops Q S σ a' w' → K a' w') → if Region.wanted o (yielded ops a.tmps) then o.wp P a w K Q else K (a.put o.dst undef) w) : wpT P ops Q S (.eff k σ) a w := by
  unfold wpT
  exact wpOp_of_step ho (h (fun a' w' => S w' ∧ wpT P ops Q S σ a' w') (fun a' w' hS hc => ⟨hS, hc⟩))
theorem tree_last {k : Nat} {σ : Sch} {o : Oper} {a : Act} {w : World} (ho : ops.toList[k]? = some o)
    (h : ∀ K : Act → World → Prop, (∀ a' w', wpT P ops Q S σ a' w' → K a' w') → if Region.wanted o (yielded ops a.tmps) then o.wp P a w K Q else K (a.put o.dst undef) w) : wpT P ops Q S (.last k σ) a w := by
  unfold wpT
  exact wpOp_of_step ho (h (fun a' w' => wpT P ops Q S σ a' w') (fun a' w' hc => hc))
theorem tree_two {k1 k2 : Nat} {σ1 σ2 : Sch} {a : Act} {w : World} (h1 : wpT P ops Q S (.eff k1 σ1) a w) (h2 : wpT P ops Q S (.eff k2 σ2) a w) : wpT P ops Q S (.two k1 σ1 k2 σ2) a w := by
  unfold wpT at *
  exact ⟨h1, h2⟩
theorem tree_fin {a : Act} {w : World} (h : Q .normal a w) : wpT P ops Q S .fin a w := by
  unfold wpT
  exact h
end
end Go.Proofs.YtcnmnfllchiehaaDoor
