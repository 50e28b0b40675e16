/-
  A region that draws its order: n operations that only read, then a chain; the reads may come behind the first N operations of the chain, as long as a condition S holds there. After the library's theorems on regions (Orders, OrdersHeld, StillTail). Own work; nothing here names the program.
-/
import Derived.Test.YtcnmnfllchiehaaDoorL0
import Derived.OrdersHeld
set_option linter.unusedSimpArgs false
set_option linter.unusedVariables false
namespace Go.Proofs.YtcnmnfllchiehaaDoor
open Go.RowKit

section
variable {P : Program} {ops : Array Oper} {Q : Exit → Act → World → Prop} {md : Region.Mode} {S : World → Prop}

/-- Whose operations have been listed has been listed whole: what an operation waits for is listed ahead of it. -/
def Closed (md : Region.Mode) (ops : Array Oper) (L : Array Bool) : Prop :=
  ∀ j oj, ops[j]? = some oj → L.getD j false = true → ∀ e ∈ oj.after, Region.binds md e = true → L.getD e.on false = true

theorem Closed.set {L : Array Bool} {i : Nat} (h : Closed md ops L) (hi : i ∈ Region.ready md ops L) : Closed md ops (L.setIfInBounds i true) := by
  obtain ⟨_, oi, hoi, hall⟩ := mem_ready.1 hi
  intro j oj hj hl e he hb
  by_cases hij : i = j
  · subst hij
    have : oj = oi := Option.some.inj (hj.symm.trans hoi)
    subst this
    exact getD_set_true (hall e he hb)
  · rw [getD_set_ne false hij] at hl
    exact getD_set_true (h j oj hj hl e he hb)

/-- Each operation ahead of place c is waited for by a later one, c at most. -/
def sinksTo (md : Region.Mode) (ops : Array Oper) (c : Nat) : Bool :=
  (List.range c).all fun i => (List.range (c + 1)).any fun j => decide (i < j) && Region.waitsFor md ops j i

theorem sink_unlisted {c : Nat} {L : Array Bool} (hs : sinksTo md ops c = true) (hc : Closed md ops L) : ∀ (d i : Nat), c - i = d → i ≤ c → L.getD i false = false → L.getD c false = false := by
  intro d
  induction d using Nat.strongRecOn with
  | _ d ih =>
    intro i hd hi hun
    by_cases hic : i = c
    · subst hic; exact hun
    · have h1 := List.all_eq_true.1 hs i (List.mem_range.2 (by omega))
      obtain ⟨j, hj, hj2⟩ := List.any_eq_true.1 h1
      simp only [Bool.and_eq_true, decide_eq_true_eq] at hj2
      obtain ⟨oj, hoj, e, he, hb, hon⟩ := Region.waitsFor_spec hj2.2
      have hjc : j ≤ c := by have := List.mem_range.1 hj; omega
      cases hl : L.getD j false with
      | true =>
        have h2 := hc j oj hoj hl e he hb
        rw [hon, hun] at h2
        cases h2
      | false => exact ih (c - j) (by omega) j rfl hjc hl

/-- Whatever order is picked from here on, S holding behind every operation that is carried out as long as c has not come up. -/
def wpAnyC (P : Program) (md : Region.Mode) (ops : Array Oper) (Q : Exit → Act → World → Prop) (S : World → Prop) (c : Nat) : Nat → Array Bool → Act → World → Prop
  | 0, listed, a, w => Region.ready md ops listed = [] ∧ Q .normal a w
  | fuel + 1, listed, a, w =>
    (Region.ready md ops listed = [] → Q .normal a w) ∧
    ∀ i ∈ Region.ready md ops listed, wpOp P ops Q i (fun a' w' => ((listed.setIfInBounds i true).getD c false = false → S w') ∧ wpAnyC P md ops Q S c fuel (listed.setIfInBounds i true) a' w') a w

theorem wpAny_of_C {c : Nat} : ∀ (fuel : Nat) (listed : Array Bool) (a : Act) (w : World), wpAnyC P md ops Q S c fuel listed a w → wpAny P md ops Q fuel listed a w
  | 0, _, _, _, h => h
  | fuel + 1, _, _, _, h => ⟨h.1, fun i hi => wpOp_mono (fun a' w' h' => wpAny_of_C fuel _ a' w' h'.2) (h.2 i hi)⟩

theorem wpAnyC_first {c i : Nat} {oi : Oper} {v : Value} (hi : ops[i]? = some oi) (hsel : ∀ (j : Nat) (o : Oper) cs b, ops[j]? = some o → o.op ≠ .select cs b)
    (hQ : ∀ c a w, Q (.panic c) (a.put oi.dst v) w → Q (.panic c) a w) (hs : sinksTo md ops c = true) (hic : i < c) :
    ∀ (fuel : Nat) (listed : Array Bool) (a : Act) (w : World), Closed md ops listed →
      (∀ j oj, ops[j]? = some oj → j ≠ i → listed.getD j true = false → (∀ e ∈ oj.after, Region.binds md e = true → e.on ≠ i) → oi.apart ops oj = true) →
      i ∈ Region.ready md ops listed → YieldsIf P ops S oi v a → S w →
      wpAnyC P md ops Q S c fuel (listed.setIfInBounds i true) (a.put oi.dst v) w → wpAnyC P md ops Q S c (fuel + 1) listed a w := by
  intro fuel
  induction fuel with
  | zero =>
    intro listed a w hcl _ hr hy hS H
    refine ⟨fun h => (by rw [h] at hr; cases hr), fun j hj => ?_⟩
    by_cases hji : j = i
    · subst hji; exact hy.wpOp hi hS ⟨fun _ => hS, H⟩
    · have := ready_mono hj hji
      rw [H.1] at this
      cases this
  | succ fuel ih =>
    intro listed a w hcl hfree hr hy hS H
    refine ⟨fun h => (by rw [h] at hr; cases hr), fun j hj => ?_⟩
    by_cases hji : j = i
    · subst hji; exact hy.wpOp hi hS ⟨fun _ => hS, H⟩
    · have h1 := H.2 j (ready_mono hj hji)
      obtain ⟨hjun, oj, hoj, hall⟩ := mem_ready.1 hj
      have hun : listed.getD i false = false := getD_both (mem_ready.1 hr).1
      have hnot : ∀ e ∈ oj.after, Region.binds md e = true → e.on ≠ i := fun e he hb heq => by
        have h1 := hall e he hb
        rw [heq, hun] at h1
        cases h1
      have hcl' := hcl.set hj
      have hunj : (listed.setIfInBounds j true).getD i false = false := by rw [getD_set_ne false hji]; exact hun
      have hcun : (listed.setIfInBounds j true).getD c false = false := sink_unlisted hs hcl' _ i rfl (by omega) hunj
      have h2 := wpOp_putIf hoj (hfree j oj hoj hji hjun hnot) (fun cs b => hsel i oi cs b hi) (fun cs b => hsel j oj cs b hoj) hQ hy h1
      have hfree' : ∀ k ok, ops[k]? = some ok → k ≠ i → (listed.setIfInBounds j true).getD k true = false →
          (∀ e ∈ ok.after, Region.binds md e = true → e.on ≠ i) → oi.apart ops ok = true := fun k ok hk hki hun hno => by
        refine hfree k ok hk hki ?_ hno
        by_cases hjk : j = k
        · subst hjk; exact hjun
        · rw [getD_set_ne true hjk] at hun; exact hun
      refine wpOp_mono (fun a' w' h3 => ?_) h2
      have hSw : S w' := h3.2.1 (by
        rw [← Array.setIfInBounds_comm _ _ hji, getD_set_ne false (by omega)]
        exact hcun)
      refine ⟨fun _ => hSw, ih (listed.setIfInBounds j true) a' w' hcl' hfree' (ready_mono hr (Ne.symm hji)) h3.1 hSw ?_⟩
      rw [Array.setIfInBounds_comm _ _ hji]
      exact h3.2.2

/-- The chain, S shown behind its first N operations. -/
def wpChain (P : Program) (ops : Array Oper) (Q : Exit → Act → World → Prop) (S : World → Prop) : Nat → List Oper → Act → World → Prop
  | 0, l, a, w => wpList P ops Q l a w
  | _ + 1, [], a, w => Q .normal a w
  | N + 1, o :: l, a, w => if Region.wanted o (yielded ops a.tmps) then o.wp P a w (fun a' w' => S w' ∧ wpChain P ops Q S N l a' w') Q else S w ∧ wpChain P ops Q S N l (a.put o.dst undef) w

theorem wpChain_step {N : Nat} {o : Oper} {l : List Oper} {a : Act} {w : World}
    (h : ∀ K : Act → World → Prop, (∀ a' w', S w' → wpChain P ops Q S N l a' w' → K a' w') → if Region.wanted o (yielded ops a.tmps) then o.wp P a w K Q else K (a.put o.dst undef) w) : wpChain P ops Q S (N + 1) (o :: l) a w := by
  have h1 := h (fun a' w' => S w' ∧ wpChain P ops Q S N l a' w') (fun a' w' hS hc => ⟨hS, hc⟩)
  unfold wpChain
  exact h1

theorem wpAnyC_of_seq {c : Nat} : ∀ (N : Nat) (l : List Oper) (k : Nat) (listed : Array Bool) (a : Act) (w : World), (∀ j, l[j]? = ops[k + j]?) → c ≤ k + N →
    Region.seqB md ops l.length k listed = true → (∀ j, j < k → listed.getD j false = true) → wpChain P ops Q S N l a w → wpAnyC P md ops Q S c l.length listed a w
  | 0, [], k, listed, a, w, hl, hc, hB, hd, h => ⟨by simpa [Region.seqB] using hB, h⟩
  | N + 1, [], k, listed, a, w, hl, hc, hB, hd, h => ⟨by simpa [Region.seqB] using hB, h⟩
  | 0, o :: l, k, listed, a, w, hl, hc, hB, hd, h => by
    have h0 : ops[k]? = some o := by simpa using (hl 0).symm
    have hk : k < ops.size := (Array.getElem?_eq_some_iff.1 h0).1
    simp only [List.length_cons, Region.seqB, Bool.and_eq_true, decide_eq_true_eq] at hB
    refine ⟨fun h1 => (by rw [hB.1] at h1; cases h1), fun i hi => ?_⟩
    have hri := hi
    rw [hB.1] at hi
    have hik : i = k := by simpa using hi
    subst hik
    have hw : wpOp P ops Q i (wpList P ops Q l) a w := by unfold wpOp; simp only [h0]; exact h
    have hd' : ∀ j, j < i + 1 → (listed.setIfInBounds i true).getD j false = true := fun j hj => by
      by_cases hji : i = j
      · subst hji
        have hun := (mem_ready.1 hri).1
        have : i < listed.size := by
          rcases Nat.lt_or_ge i listed.size with h' | h'
          · exact h'
          · simp [Array.getElem?_eq_none h'] at hun
        simp [this]
      · rw [getD_set_ne false hji]; exact hd j (by omega)
    refine wpOp_mono (fun a' w' h' => ⟨fun hf => ?_, wpAnyC_of_seq 0 l (i + 1) _ a' w' (fun j => by have := hl (j + 1); simpa [Nat.add_assoc, Nat.add_comm 1 j] using this) (by omega) hB.2 hd' h'⟩) hw
    have := hd' c (by omega)
    rw [this] at hf
    cases hf
  | N + 1, o :: l, k, listed, a, w, hl, hc, hB, hd, h => by
    have h0 : ops[k]? = some o := by simpa using (hl 0).symm
    simp only [List.length_cons, Region.seqB, Bool.and_eq_true, decide_eq_true_eq] at hB
    refine ⟨fun h1 => (by rw [hB.1] at h1; cases h1), fun i hi => ?_⟩
    have hri := hi
    rw [hB.1] at hi
    have hik : i = k := by simpa using hi
    subst hik
    have hw : wpOp P ops Q i (fun a' w' => S w' ∧ wpChain P ops Q S N l a' w') a w := by
      unfold wpOp; simp only [h0]
      unfold wpChain at h
      by_cases hwn : Region.wanted o (yielded ops a.tmps) = true
      · rw [if_pos hwn] at h ⊢; exact .inl h
      · rw [if_neg hwn] at h ⊢; exact h
    have hd' : ∀ j, j < i + 1 → (listed.setIfInBounds i true).getD j false = true := fun j hj => by
      by_cases hji : i = j
      · subst hji
        have hun := (mem_ready.1 hri).1
        have : i < listed.size := by
          rcases Nat.lt_or_ge i listed.size with h' | h'
          · exact h'
          · simp [Array.getElem?_eq_none h'] at hun
        simp [this]
      · rw [getD_set_ne false hji]; exact hd j (by omega)
    exact wpOp_mono (fun a' w' h' => ⟨fun _ => h'.1, wpAnyC_of_seq N l (i + 1) _ a' w' (fun j => by have := hl (j + 1); simpa [Nat.add_assoc, Nat.add_comm 1 j] using this) (by omega) hB.2 hd' h'.2⟩) hw

/-- The reads, in the text's order: each yields one value in every world of S. -/
def wpReads (P : Program) (ops : Array Oper) (S : World → Prop) (K : Act → Prop) : List Oper → Act → Prop
  | [], a => K a
  | o :: l, a => if Region.wanted o (yielded ops a.tmps) then ∃ v, (∀ w, S w → (execOp a.eval o).run P w = .ok (.value v) w) ∧ wpReads P ops S K l (a.put o.dst v) else wpReads P ops S K l (a.put o.dst undef)

theorem wpReads_nil {K : Act → Prop} {a : Act} (h : K a) : wpReads P ops S K [] a := h
theorem wpReads_take {K : Act → Prop} {o : Oper} {l : List Oper} {a : Act} (v : Value) (hg : Region.wanted o (yielded ops a.tmps) = true) (hy : ∀ w, S w → (execOp a.eval o).run P w = .ok (.value v) w)
    (h : wpReads P ops S K l (a.put o.dst v)) : wpReads P ops S K (o :: l) a := by
  unfold wpReads
  rw [if_pos hg]
  exact ⟨v, hy, h⟩

def mixHead (md : Region.Mode) (ops : Array Oper) (g : Nat) : Nat → Nat → Array Bool → Bool
  | 0, k, listed => Region.seqB md ops g k listed && (List.range k).all fun j => listed.getD j false
  | f + 1, k, listed => (Region.ready md ops listed).contains k && Region.free md ops listed k && mixHead md ops g f (k + 1) (listed.setIfInBounds k true)

/-- The Bool over the region: n reads, then a chain; the reads come ahead of the chain's operation N. -/
def mixB (md : Region.Mode) (ops : Array Oper) (n N : Nat) : Bool :=
  Region.noSelect ops && decide (n + N < ops.size) && sinksTo md ops (n + N) && mixHead md ops (ops.size - n) n 0 (Array.replicate ops.size false)

theorem wpAnyC_lex {c N : Nat} (hsel : Region.noSelect ops = true) (hs : sinksTo md ops c = true) (hQ : ∀ c a (t : Tmp) v w, Q (.panic c) (Act.put a (some t) v) w → Q (.panic c) a w) (tl : List Oper) (n : Nat) (hcn : c = n + N) (htl : ∀ j, tl[j]? = ops[n + j]?) :
    ∀ (l : List Oper) (k : Nat) (listed : Array Bool) (a : Act) (w : World), (∀ j, j < l.length → l[j]? = ops[k + j]?) → k + l.length = n → Closed md ops listed →
    mixHead md ops tl.length l.length k listed = true → S w → wpReads P ops S (fun a' => wpChain P ops Q S N tl a' w) l a →
    wpAnyC P md ops Q S c (l.length + tl.length) listed a w
  | [], k, listed, a, w, _, hk, _, hB, hS, h => by
    have : k = n := by simpa using hk
    subst this
    simp only [List.length_nil, mixHead, Bool.and_eq_true] at hB
    rw [List.length_nil, Nat.zero_add]
    exact wpAnyC_of_seq N tl k listed a w htl (by omega) hB.1 (fun j hj => List.all_eq_true.1 hB.2 j (List.mem_range.2 hj)) h
  | o :: l, k, listed, a, w, hl, hk, hcl, hB, hS, h => by
    have h0 : ops[k]? = some o := by simpa using (hl 0 (by simp)).symm
    simp only [List.length_cons, mixHead, Bool.and_eq_true] at hB
    obtain ⟨⟨hr, hf⟩, hB'⟩ := hB
    have hr' : k ∈ Region.ready md ops listed := by simpa using hr
    have hkn : k < n := by simp only [List.length_cons] at hk; omega
    obtain ⟨v, hy, hK⟩ : ∃ v, YieldsIf P ops S o v a ∧ wpReads P ops S (fun a' => wpChain P ops Q S N tl a' w) l (a.put o.dst v) := by
      unfold wpReads at h
      by_cases hwn : Region.wanted o (yielded ops a.tmps) = true
      · rw [if_pos hwn] at h
        obtain ⟨v, h1, h2⟩ := h
        exact ⟨v, .inl ⟨hwn, h1⟩, h2⟩
      · rw [if_neg hwn] at h
        exact ⟨undef, .inr ⟨by simpa using hwn, rfl⟩, h⟩
    have e : (o :: l).length + tl.length = (l.length + tl.length) + 1 := by simp only [List.length_cons]; omega
    rw [e]
    exact wpAnyC_first h0 (Region.noSelect_spec hsel) (fun c a w hp => by
        cases hd : o.dst with
        | none => rw [hd] at hp; exact hp
        | some t => rw [hd] at hp; exact hQ c a t v w hp) hs (by omega) _ listed a w hcl (Region.free_spec h0 hf) hr' hy hS
      (wpAnyC_lex hsel hs hQ tl n hcn htl l (k + 1) _ _ w (fun j hj => by have := hl (j + 1) (by simp; omega); simpa [Nat.add_assoc, Nat.add_comm 1 j] using this) (by simp only [List.length_cons] at hk; omega) (hcl.set hr') hB' hS hK)

theorem wp_mix {id : Nat} {a : Act} {w : World} {l : List Oper} (n N : Nat) (S : World → Prop) (hm : P.follows .mixedOrders = true) (hB : mixB .any l.toArray n N = true) (hQ : ∀ c a (t : Tmp) v w, Q (.panic c) (Act.put a (some t) v) w → Q (.panic c) a w) (hS : S w.drew)
    (h : wpReads P l.toArray S (fun a' => wpChain P l.toArray Q S N (l.drop n) a' w.drew) (l.take n) a) : (Code.region id l.toArray true).wp P Q a w := by
  simp only [mixB, Bool.and_eq_true, decide_eq_true_eq] at hB
  obtain ⟨⟨⟨hsel, hn⟩, hs⟩, hlex⟩ := hB
  have hn' : n + N < l.length := by simpa using hn
  have htl : (l.take n).length = n := by simp; omega
  have hdl : (l.drop n).length = l.toArray.size - n := by simp
  have H := wpAnyC_lex (md := .any) (Q := Q) (S := S) (N := N) hsel hs hQ (l.drop n) n rfl (fun j => by simp [List.getElem?_drop]) (l.take n) 0 (Array.replicate l.toArray.size false) a w.drew (fun j hj => by
    have hj' : j < n := by rw [htl] at hj; exact hj
    simp [hj']) (by simpa using htl) (fun j oj _ hl => (by rw [getD_replicate_false] at hl; cases hl)) (by rw [htl, hdl]; exact hlex) hS h
  refine wp_region_any hm ?_
  have H2 := wpAny_of_C _ _ _ _ H
  rw [htl, hdl, show n + (l.toArray.size - n) = l.toArray.size by simp; omega] at H2
  exact H2
theorem wpChain_zero {l : List Oper} {a : Act} {w : World} (h : wpList P ops Q l a w) : wpChain P ops Q S 0 l a w := h

/-! ### Any order that the prover names: reads (0), operations that come up alone and behind which S holds (1), and such behind which nothing is asked (2) -/
def wpSched (P : Program) (ops : Array Oper) (Q : Exit → Act → World → Prop) (S : World → Prop) : List (Nat × Nat) → Act → World → Prop
  | [], a, w => Q .normal a w
  | (k, 0) :: σ, a, w => ∃ o, ops[k]? = some o ∧ (if Region.wanted o (yielded ops a.tmps) then ∃ v, (∀ W, S W → (execOp a.eval o).run P W = .ok (.value v) W) ∧ wpSched P ops Q S σ (a.put o.dst v) w else wpSched P ops Q S σ (a.put o.dst undef) w)
  | (k, 1) :: σ, a, w => wpOp P ops Q k (fun a' w' => S w' ∧ wpSched P ops Q S σ a' w') a w
  | (k, _ + 2) :: σ, a, w => wpOp P ops Q k (fun a' w' => wpSched P ops Q S σ a' w') a w

def schedB (md : Region.Mode) (ops : Array Oper) (c : Nat) : List (Nat × Nat) → Array Bool → Bool
  | [], L => (Region.ready md ops L).isEmpty
  | (k, 0) :: σ, L => (Region.ready md ops L).contains k && Region.free md ops L k && decide (k < c) && schedB md ops c σ (L.setIfInBounds k true)
  | (k, 1) :: σ, L => decide (Region.ready md ops L = [k]) && schedB md ops c σ (L.setIfInBounds k true)
  | (k, _ + 2) :: σ, L => decide (Region.ready md ops L = [k]) && (L.setIfInBounds k true).getD c false && schedB md ops c σ (L.setIfInBounds k true)

def schedOk (md : Region.Mode) (ops : Array Oper) (c : Nat) (σ : List (Nat × Nat)) : Bool :=
  Region.noSelect ops && decide (σ.length = ops.size) && sinksTo md ops c && schedB md ops c σ (Array.replicate ops.size false)

theorem wpAnyC_sched {c : Nat} (hsel : Region.noSelect ops = true) (hs : sinksTo md ops c = true) (hQ : ∀ c a (t : Tmp) v w, Q (.panic c) (Act.put a (some t) v) w → Q (.panic c) a w) :
    ∀ (σ : List (Nat × Nat)) (L : Array Bool) (a : Act) (w : World), Closed md ops L → schedB md ops c σ L = true → (L.getD c false = false → S w) → wpSched P ops Q S σ a w → wpAnyC P md ops Q S c σ.length L a w
  | [], L, a, w, _, hB, _, h => ⟨by simpa [schedB] using hB, h⟩
  | (k, 0) :: σ, L, a, w, hcl, hB, hS, h => by
    simp only [schedB, Bool.and_eq_true, decide_eq_true_eq] at hB
    obtain ⟨⟨⟨hr, hf⟩, hkc⟩, hB'⟩ := hB
    have hr' : k ∈ Region.ready md ops L := by simpa using hr
    unfold wpSched at h
    obtain ⟨o, ho, h⟩ := h
    obtain ⟨v, hy, hK⟩ : ∃ v, YieldsIf P ops S o v a ∧ wpSched P ops Q S σ (a.put o.dst v) w := by
      by_cases hwn : Region.wanted o (yielded ops a.tmps) = true
      · rw [if_pos hwn] at h
        obtain ⟨v, h1, h2⟩ := h
        exact ⟨v, .inl ⟨hwn, h1⟩, h2⟩
      · rw [if_neg hwn] at h
        exact ⟨undef, .inr ⟨by simpa using hwn, rfl⟩, h⟩
    have hun : L.getD k false = false := getD_both (mem_ready.1 hr').1
    have hSw : S w := hS (sink_unlisted hs hcl _ k rfl (by omega) hun)
    refine wpAnyC_first ho (Region.noSelect_spec hsel) (fun c a w hp => ?_) hs hkc σ.length L a w hcl (Region.free_spec ho hf) hr' hy hSw
      (wpAnyC_sched hsel hs hQ σ _ _ w (hcl.set hr') hB' (fun _ => hSw) hK)
    cases hd : o.dst with
    | none => rw [hd] at hp; exact hp
    | some t => rw [hd] at hp; exact hQ c a t v w hp
  | (k, 1) :: σ, L, a, w, hcl, hB, hS, h => by
    simp only [schedB, Bool.and_eq_true, decide_eq_true_eq] at hB
    refine ⟨fun h1 => (by rw [hB.1] at h1; cases h1), fun i hi => ?_⟩
    have hri := hi
    rw [hB.1] at hi
    have hik : i = k := by simpa using hi
    subst hik
    unfold wpSched at h
    exact wpOp_mono (fun a' w' h' => ⟨fun _ => h'.1, wpAnyC_sched hsel hs hQ σ _ a' w' (hcl.set hri) hB.2 (fun _ => h'.1) h'.2⟩) h
  | (k, _ + 2) :: σ, L, a, w, hcl, hB, hS, h => by
    simp only [schedB, Bool.and_eq_true, decide_eq_true_eq] at hB
    refine ⟨fun h1 => (by rw [hB.1.1] at h1; cases h1), fun i hi => ?_⟩
    have hri := hi
    rw [hB.1.1] at hi
    have hik : i = k := by simpa using hi
    subst hik
    unfold wpSched at h
    have hno : ¬ ((L.setIfInBounds i true).getD c false = false) := by rw [hB.1.2]; simp
    exact wpOp_mono (fun a' w' h' => ⟨fun hf => absurd hf hno, wpAnyC_sched hsel hs hQ σ _ a' w' (hcl.set hri) hB.2 (fun hf => absurd hf hno) h'⟩) h

theorem wp_sched {id : Nat} {a : Act} {w : World} {l : List Oper} (c : Nat) (σ : List (Nat × Nat)) (S : World → Prop) (hm : P.follows .mixedOrders = true) (hB : schedOk .any l.toArray c σ = true)
    (hQ : ∀ c a (t : Tmp) v w, Q (.panic c) (Act.put a (some t) v) w → Q (.panic c) a w) (hS : S w.drew) (h : wpSched P l.toArray Q S σ a w.drew) : (Code.region id l.toArray true).wp P Q a w := by
  simp only [schedOk, Bool.and_eq_true, decide_eq_true_eq] at hB
  obtain ⟨⟨⟨hsel, hn⟩, hs⟩, hlex⟩ := hB
  have H := wpAnyC_sched (md := .any) (Q := Q) (S := S) hsel hs hQ σ (Array.replicate l.toArray.size false) a w.drew (fun j oj _ hl => (by rw [getD_replicate_false] at hl; cases hl)) hlex (fun _ => hS) h
  refine wp_region_any hm ?_
  have H2 := wpAny_of_C _ _ _ _ H
  rw [hn] at H2
  exact H2

theorem sched_read {k : Nat} {σ : List (Nat × Nat)} {o : Oper} {a : Act} {w : World} (v : Value) (ho : ops[k]? = some o) (hg : Region.wanted o (yielded ops a.tmps) = true) (hy : ∀ W, S W → (execOp a.eval o).run P W = .ok (.value v) W)
    (h : wpSched P ops Q S σ (a.put o.dst v) w) : wpSched P ops Q S ((k, 0) :: σ) a w := by
  unfold wpSched
  refine ⟨o, ho, ?_⟩
  rw [if_pos hg]
  exact ⟨v, hy, h⟩
theorem sched_skip {k : Nat} {σ : List (Nat × Nat)} {o : Oper} {a : Act} {w : World} (ho : ops[k]? = some o) (hg : Region.wanted o (yielded ops a.tmps) = false)
    (h : wpSched P ops Q S σ (a.put o.dst undef) w) : wpSched P ops Q S ((k, 0) :: σ) a w := by
  unfold wpSched
  refine ⟨o, ho, ?_⟩
  rw [if_neg (by rw [hg]; simp)]
  exact h
theorem sched_eff {k : Nat} {σ : List (Nat × Nat)} {o : Oper} {a : Act} {w : World} (ho : ops[k]? = some o)
    (h : ∀ K : Act → World → Prop, (∀ a' w', S w' → wpSched P ops Q S σ a' w' → K a' w') → if Region.wanted o (yielded ops a.tmps) then o.wp P a w K Q else K (a.put o.dst undef) w) : wpSched P ops Q S ((k, 1) :: σ) a w := by
  have h1 := h (fun a' w' => S w' ∧ wpSched P ops Q S σ a' w') (fun a' w' hS hc => ⟨hS, hc⟩)
  unfold wpSched wpOp
  simp only [ho]
  by_cases hw : Region.wanted o (yielded ops a.tmps) = true
  · rw [if_pos hw] at h1 ⊢; exact .inl h1
  · rw [if_neg hw] at h1 ⊢; exact h1
theorem sched_last {k : Nat} {σ : List (Nat × Nat)} {o : Oper} {a : Act} {w : World} (ho : ops[k]? = some o)
    (h : ∀ K : Act → World → Prop, (∀ a' w', wpSched P ops Q S σ a' w' → K a' w') → if Region.wanted o (yielded ops a.tmps) then o.wp P a w K Q else K (a.put o.dst undef) w) : wpSched P ops Q S ((k, 2) :: σ) a w := by
  have h1 := h (fun a' w' => wpSched P ops Q S σ a' w') (fun a' w' hc => hc)
  unfold wpSched wpOp
  simp only [ho]
  by_cases hw : Region.wanted o (yielded ops a.tmps) = true
  · rw [if_pos hw] at h1 ⊢; exact .inl h1
  · rw [if_neg hw] at h1 ⊢; exact h1
theorem sched_nil {a : Act} {w : World} (h : Q .normal a w) : wpSched P ops Q S [] a w := by
  unfold wpSched
  exact h
end
end Go.Proofs.YtcnmnfllchiehaaDoor
