/-
  Plain: the first of the least of those that are due, again and again, gives them in the row of their ticks.
-/
import Derived.Test.YtfadadgkgbaohaaPlain
set_option linter.unusedSimpArgs false
set_option linter.unusedVariables false
namespace Go.Proofs.Ytfadadgkgbaohaa

theorem dueT_le {t : Int} {e a : Int × Int} (h : e.2 ≤ a.2) (ha : dueT t a = true) : dueT t e = true := by
  unfold dueT at *
  simp only [decide_eq_true_eq] at *
  have : cut e.2 ≤ cut a.2 := by unfold cut; omega
  omega
theorem insT_nil (e : Int × Int) : insT e [] = [e] := rfl
theorem insT_cons (e a : Int × Int) (r : List (Int × Int)) : insT e (a :: r) = if e.2 ≤ a.2 then e :: a :: r else a :: insT e r := rfl
theorem mem_insT (e x : Int × Int) : ∀ l : List (Int × Int), x ∈ insT e l ↔ x = e ∨ x ∈ l
  | [] => by simp [insT_nil]
  | a :: r => by
    rw [insT_cons]
    split
    · simp
    · simp only [List.mem_cons, mem_insT e x r]
      constructor <;> (intro h; rcases h with h | h | h <;> simp [h])
theorem mem_srtT (x : Int × Int) : ∀ l : List (Int × Int), x ∈ srtT l ↔ x ∈ l
  | [] => by simp [srtT]
  | a :: r => by rw [srtT, mem_insT, mem_srtT x r, List.mem_cons]
theorem insT_sorted (e : Int × Int) : ∀ l : List (Int × Int), l.Pairwise (fun a b => a.2 ≤ b.2) → (insT e l).Pairwise (fun a b => a.2 ≤ b.2)
  | [], _ => by simp [insT_nil]
  | a :: r, h => by
    obtain ⟨h1, h2⟩ := List.pairwise_cons.1 h
    rw [insT_cons]
    split
    · rename_i hle
      refine List.pairwise_cons.2 ⟨fun b hb => ?_, h⟩
      rcases List.mem_cons.1 hb with rfl | hb
      · exact hle
      · have := h1 b hb; omega
    · rename_i hle
      refine List.pairwise_cons.2 ⟨fun b hb => ?_, insT_sorted e r h2⟩
      rcases (mem_insT e b r).1 hb with rfl | hb
      · omega
      · exact h1 b hb
theorem srtT_sorted : ∀ l : List (Int × Int), (srtT l).Pairwise (fun a b => a.2 ≤ b.2)
  | [] => by simp [srtT]
  | a :: r => insT_sorted a _ (srtT_sorted r)
theorem insT_least {e : Int × Int} : ∀ {l : List (Int × Int)}, (∀ a ∈ l, e.2 ≤ a.2) → insT e l = e :: l
  | [], _ => rfl
  | a :: r, h => by rw [insT_cons, if_pos (h a (by simp))]

theorem filter_insT (t : Int) (e : Int × Int) : ∀ l : List (Int × Int), l.Pairwise (fun a b => a.2 ≤ b.2) → (insT e l).filter (dueT t) = if dueT t e then insT e (l.filter (dueT t)) else l.filter (dueT t)
  | [], _ => by by_cases h : dueT t e <;> simp [insT_nil, h]
  | a :: r, h => by
    obtain ⟨h1, h2⟩ := List.pairwise_cons.1 h
    rw [insT_cons]
    by_cases hle : e.2 ≤ a.2
    · rw [if_pos hle]
      by_cases he : dueT t e = true
      · rw [if_pos he, List.filter_cons, if_pos he]
        refine (insT_least fun b hb => ?_).symm
        rcases List.mem_cons.1 (List.mem_filter.1 hb).1 with rfl | hb
        · exact hle
        · have := h1 b hb; omega
      · rw [if_neg he, List.filter_cons, if_neg he]
    · rw [if_neg hle, List.filter_cons, filter_insT t e r h2]
      by_cases he : dueT t e = true
      · have ha : dueT t a = true := dueT_le (by omega) he
        rw [if_pos ha, if_pos he, if_pos he, List.filter_cons, if_pos ha, insT_cons, if_neg hle]
      · rw [if_neg he, if_neg he, List.filter_cons]
theorem filter_srtT (t : Int) : ∀ l : List (Int × Int), (srtT l).filter (dueT t) = srtT (l.filter (dueT t))
  | [] => rfl
  | a :: r => by
    rw [srtT, filter_insT t a _ (srtT_sorted r), filter_srtT t r, List.filter_cons]
    split
    · rfl
    · rfl

theorem srtT_pick (x : Int × Int) (q : List (Int × Int)) (hq : ∀ y ∈ q, x.2 ≤ y.2) : ∀ p : List (Int × Int), (∀ y ∈ p, x.2 < y.2) → srtT (p ++ x :: q) = x :: srtT (p ++ q)
  | [], _ => by
    show insT x (srtT q) = x :: srtT q
    exact insT_least fun a ha => hq a ((mem_srtT a q).1 ha)
  | y :: p, h => by
    show insT y (srtT (p ++ x :: q)) = x :: insT y (srtT (p ++ q))
    rw [srtT_pick x q hq p (fun z hz => h z (by simp [hz])), insT_cons, if_neg (by have := h y (by simp); omega)]

/-- The j-th is due, none is less, none ahead of it as little. -/
structure Least (t : Int) (l : List (Int × Int)) (k j : Nat) : Prop where
  lt : j < k
  le : k ≤ l.length
  due : ∀ h : j < l.length, dueT t (l[j]) = true
  first : ∀ i (hi : i < j) (h : j < l.length), dueT t (l[i]'(by omega)) = true → (l[j]).2 < (l[i]'(by omega)).2
  least : ∀ i (hi : i < k) (h : j < l.length) (h' : i < l.length), dueT t (l[i]) = true → (l[j]).2 ≤ (l[i]).2
def NoneDue (t : Int) (l : List (Int × Int)) (k : Nat) : Prop := ∀ i (hi : i < k) (h : i < l.length), dueT t (l[i]) = false

theorem NoneDue.filter {t : Int} {l : List (Int × Int)} (h : NoneDue t l l.length) : l.filter (dueT t) = [] ∧ l.filter (fun e => !dueT t e) = l := by
  have hall : ∀ e ∈ l, dueT t e = false := fun e he => by
    obtain ⟨i, hi, rfl⟩ := List.getElem_of_mem he
    exact h i hi hi
  exact ⟨List.filter_eq_nil_iff.2 fun e he => by rw [hall e he]; simp, List.filter_eq_self.2 fun e he => by rw [hall e he]; rfl⟩
theorem Least.pick {t : Int} {l : List (Int × Int)} {j : Nat} (h : Least t l l.length j) (hj : j < l.length) :
    (srtT l).filter (dueT t) = l[j] :: (srtT (l.take j ++ l.drop (j + 1))).filter (dueT t) ∧ (l.take j ++ l.drop (j + 1)).filter (fun e => !dueT t e) = l.filter (fun e => !dueT t e) := by
  have e0 : l = l.take j ++ l[j] :: l.drop (j + 1) := by rw [← List.drop_eq_getElem_cons hj, List.take_append_drop]
  have hd := h.due hj
  constructor
  · rw [filter_srtT, filter_srtT]
    conv => lhs; rw [e0]
    rw [List.filter_append, List.filter_cons, if_pos hd, List.filter_append]
    refine srtT_pick _ _ (fun y hy => ?_) _ (fun y hy => ?_)
    · obtain ⟨hy1, hy2⟩ := List.mem_filter.1 hy
      obtain ⟨i, hi, rfl⟩ := List.getElem_of_mem (List.mem_of_mem_drop hy1)
      exact h.least i hi hj hi hy2
    · obtain ⟨hy1, hy2⟩ := List.mem_filter.1 hy
      obtain ⟨i, hi, rfl⟩ := List.getElem_of_mem hy1
      have hij : i < j := by simp at hi; omega
      rw [List.getElem_take] at hy2 ⊢
      exact h.first i hij hj hy2
  · conv => rhs; rw [e0]
    rw [List.filter_append, List.filter_append, List.filter_cons, if_neg (by rw [hd]; simp)]
theorem Least.start {t : Int} {l : List (Int × Int)} {k : Nat} (h : NoneDue t l k) (hk : k < l.length) (hd : dueT t (l[k]) = true) : Least t l (k + 1) k := by
  refine ⟨by omega, hk, fun _ => hd, fun i hi h' hx => ?_, fun i hi h' h'' hx => ?_⟩
  · rw [h i hi (by omega)] at hx; simp at hx
  · by_cases hik : i = k
    · subst hik; omega
    · rw [h i (by omega) h''] at hx; simp at hx
theorem Least.keep {t : Int} {l : List (Int × Int)} {k j : Nat} (h : Least t l k j) (hk : k < l.length) (hd : dueT t (l[k]) = true → (l[j]'(by have := h.lt; omega)).2 ≤ (l[k]).2) : Least t l (k + 1) j := by
  have := h.lt
  refine ⟨by omega, hk, h.due, h.first, fun i hi h' h'' hx => ?_⟩
  by_cases hik : i = k
  · subst hik; exact hd hx
  · exact h.least i (by omega) h' h'' hx
theorem Least.next {t : Int} {l : List (Int × Int)} {k j : Nat} (h : Least t l k j) (hk : k < l.length) (hd : dueT t (l[k]) = true) (hlt : (l[k]).2 < (l[j]'(by have := h.lt; omega)).2) : Least t l (k + 1) k := by
  have hjk := h.lt
  refine ⟨by omega, hk, fun _ => hd, fun i hi h' hx => ?_, fun i hi h' h'' hx => ?_⟩
  · have := h.least i (by omega) (by omega) (by omega) hx; omega
  · by_cases hik : i = k
    · subst hik; omega
    · have := h.least i (by omega) (by omega) h'' hx; omega
theorem NoneDue.next {t : Int} {l : List (Int × Int)} {k : Nat} (h : NoneDue t l k) (hk : k < l.length) (hd : dueT t (l[k]) = false) : NoneDue t l (k + 1) := by
  intro i hi h'
  by_cases hik : i = k
  · subst hik; exact hd
  · exact h i (by omega) h'
end Go.Proofs.Ytfadadgkgbaohaa
