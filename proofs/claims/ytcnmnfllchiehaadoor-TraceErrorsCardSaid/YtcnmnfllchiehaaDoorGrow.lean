/-
  append onto a slice that has no room left: the result lies in a new row. Own work; nothing here names the program.
-/
import Derived.Test.YtcnmnfllchiehaaDoorS0
import Derived.Test.YtcnmnfllchiehaaDoorL4
import Derived.ArgAppend
set_option linter.unusedSimpArgs false
set_option linter.unusedVariables false
namespace Go.Proofs.YtcnmnfllchiehaaDoor
open Go.RowKit

/-- An operation that only reads, taken in its turn. -/
theorem at_now {P : Program} {ops : Array Oper} {Q : Exit → Act → World → Prop} {S : World → Prop} {k : Nat} {σ : List (Nat × Nat)} {o : Oper} {a : Act} {w : World} (v : Value) (ho : ops.toList[k]? = some o) (hg : Region.wanted o (yielded ops a.tmps) = true)
    (hy : (execOp a.eval o).run P w = .ok (.value v) w) (hS : S w) (h : wpSched P ops Q S σ (a.put o.dst v) w) : wpSched P ops Q S ((k, 1) :: σ) a w :=
  at_eff ho fun K hK => by
    rw [if_pos hg]
    unfold Oper.wp
    rw [hy]
    exact hK _ _ hS h

section
variable {P : Program} (w : World)
theorem run_grow {t e : TypeId} {z : Value} {size bytes : Nat} (E : Elem P t e z size bytes) (ty : TypeId) (A : Option Addr) (n cap c0 : Nat) (xs : List Value) (M : List Nat) (hr : Rd w size M (.slice A n c0) n xs) (hA : A = none → cap = 0)
    (M' : List Nat) (x : Value) (m : Nat) (news : List Value) (hx : Rd w size M' x m news) (hm : 0 < m) (h1 : ∀ u ∈ news, u.oneCell' = true) (hfull : cap < n + m) (hb : (n + m) * bytes ≤ 140737488355328) (h63 : n + m ≤ maxLen) :
    ∃ v' w', (Builtin.append_ #[t, t] ty #[.slice A n cap, x]).run P w = .ok v' w' ∧ w'.ownsRow w.heap.size e size v' (n + m) (xs ++ news) ∧ Fr [] w w' := by
  obtain ⟨i, hi, hz, hs, hby⟩ := E.info
  obtain ⟨A2, c2, rfl, hl2, _, _, _, hc2⟩ := hx
  obtain ⟨ad, rfl, _, hcells⟩ := hc2 hm
  obtain ⟨A1, c1, e1, hl1, _, _, hz1, hc1⟩ := hr
  injection e1 with e1 e2 e3
  subst e1 e3
  cases A with
  | some b =>
    have holds : ∀ j u, xs[j]? = some u → w.cell? (b.add j) = some u := by
      intro j u hu
      rcases Nat.eq_zero_or_pos n with h0 | h0
      · subst h0
        have : xs = [] := List.eq_nil_of_length_eq_zero (by simpa using hl1)
        subst this
        simp at hu
      · obtain ⟨b', e, _, hc⟩ := hc1 h0
        injection e with e
        subst e
        exact hc j u hu
    obtain ⟨v', w', hrun, r1, r2⟩ := run_append_arg_grows (P := P) w t ty e i z size bytes E.slice hi hz hs hby E.zs E.pos b n cap xs hl1 holds ad m c2 news hl2 hcells hfull h63 hb
    exact ⟨v', w', hrun, r1, by simpa using Fr.of_grown r2⟩
  | none =>
    have hc0 := hA rfl
    subst hc0
    have hn : n = 0 := by
      rcases Nat.eq_zero_or_pos n with h0 | h0
      · exact h0
      · obtain ⟨b', e, _⟩ := hc1 h0
        cases e
    subst hn
    have : xs = [] := List.eq_nil_of_length_eq_zero (by simpa using hl1)
    subst this
    obtain ⟨v', w', hrun, r1, r2, _⟩ := run_append_own (P := P) w w.heap.size t ty e i z size bytes E.slice hi hz hs hby E.zs E.pos (.slice none 0 0) 0 [] (World.ownsRow_nil w _ e size) ad m c2 news hl2 hcells h1 h63 hb (Nat.le_refl _)
    exact ⟨v', w', hrun, r1, by simpa [Value.ownBlock] using Fr.of_grown r2⟩

theorem step_grow {ops : Array Oper} {o : Oper} {a : Act} {K : Act → World → Prop} {Q : Exit → Act → World → Prop} {F : Prop} (hgd : o.guard = none) {t e : TypeId} {z : Value} {size bytes : Nat} (E : Elem P t e z size bytes) (s y : Operand)
    (ho : o.op = .call { callee := .builtin .append, args := #[s, y], argTypes := #[t, t] })
    (A : Option Addr) (n cap c0 : Nat) (xs : List Value) (hs : a.eval s = .slice A n cap) (M : List Nat) (hr : Rd w size M (.slice A n c0) n xs) (hA : A = none → cap = 0)
    (M' : List Nat) (x : Value) (m : Nat) (news : List Value) (hx : a.eval y = x) (hr' : Rd w size M' x m news) (hm : 0 < m) (h1 : ∀ u ∈ news, u.oneCell' = true) (hfull : cap < n + m) (hb : (n + m) * bytes ≤ 140737488355328) (h63 : n + m ≤ maxLen)
    (h : ∀ v' w', w'.ownsRow w.heap.size e size v' (n + m) (xs ++ news) → Fr [] w w' → K (a.put o.dst v') w') :
    if Region.wanted o (yielded ops a.tmps) = true then Oper.wp P o a w K Q else F := by
  have hw : Region.wanted o (yielded ops a.tmps) = true := by simp [Region.wanted, hgd]
  rw [if_pos hw]
  obtain ⟨v', w', hrun, h2, h3⟩ := run_grow w E o.type A n cap c0 xs M hr hA M' x m news hr' hm h1 hfull hb h63
  unfold Oper.wp execOp
  simp only [ho, resolve, invoke, builtin, Sem.run_bind, Sem.run_pure, Result.andThen_ok, List.map_toArray, List.map_cons, List.map_nil, hs, hx, hrun]
  exact h v' w' h2 h3
end
end Go.Proofs.YtcnmnfllchiehaaDoor
