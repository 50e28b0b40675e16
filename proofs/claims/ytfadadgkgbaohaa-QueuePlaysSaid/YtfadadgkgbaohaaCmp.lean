/-
  The comparison that a wheel sorts its keys by: what it answers, and what it leaves.
-/
import Derived.Test.YtfadadgkgbaohaaWh1
import Derived.Test.YtfadadgkgbaohaaL4
import Derived.Sort.Grow
import Derived.Lib.Small
set_option linter.unusedSimpArgs false
set_option linter.unusedVariables false
namespace Go.Proofs.Ytfadadgkgbaohaa
open Go.RowKit Go.Sort
attribute [local go_sem] max_ints min_ints

theorem run_look_ents {P : Program} {t k e : TypeId} {q : IntKind} (ht : P.underlying t = some (.map k e)) (hk : P.underlying k = some (.int q))
    (hz : ∀ w, (zeroValue e).run P w = .ok (.agg #[.int .i64 0, .int .i64 0]) w) (p : Int) (ws : List WE) (m ck : Nat) (w : World) (hm : w.heap[m]? = some (.map (ents ws) ck)) :
    (Instr.lookup t (.map (some m)) (.int .i64 p) false).run P w = .ok (.agg #[.int .i64 ((look p ws).elim 0 (·.till)), .int .i64 ((look p ws).elim 0 (·.set))]) w := by
  have hg : (getObj m).run P w = .ok (.map (ents ws) ck) w := by simp [getObj, Sem.run, hm]
  rw [← findIdx_look]
  simp only [Instr.lookup, run_underlying ht, Sem.run_bind, Result.andThen_ok, hg, Sem.run_pure, run_checkKey_int hk, run_findKey_ents hk]
  cases hx : ws.findIdx? (fun e => p == e.proc) with
  | none => simp [hz]
  | some j =>
    cases hj : ws[j]? with
    | none => simp [hj, hz]
    | some x => simp [hj, WE.val]

def orI (x y : Int) : Int := if x = 0 then y else x
def tillOf (ws : List WE) (x : Int) : Int := (look x ws).elim 0 (·.till)
def setOf_ (ws : List WE) (x : Int) : Int := (look x ws).elim 0 (·.set)
/-- The comparison of two keys. -/
def cmpK (ws : List WE) (x y : Int) : Int := orI (Lib.compareInt (tillOf ws x) (tillOf ws y)) (Lib.compareInt (setOf_ ws x) (setOf_ ws y))

set_option maxHeartbeats 400000 in
theorem isNaN_any (x : Int) (w : World) : Calls Try.prog 57 #[.int .i64 x] w fun e w' => e = .returned (.bool false) ∧ w = w' := by
  go_enter Try.func57, Try.ntmps57
  go_wp2
  go_ret
  exact ⟨by simp, rfl⟩

set_option maxHeartbeats 400000 in
theorem compare_any (x y : Int) (w : World) : Calls Try.prog 53 #[.int .i64 x, .int .i64 y] w fun e w' => e = .returned (.int .i64 (Lib.compareInt x y)) ∧ w = w' := by
  have hn := fun x W => isNaN_any x W
  go_enter Try.func53, Try.ntmps53
  go_wp2_with (go_at_call 57; refine (hn _ _).mono ?_; rintro e w' ⟨rfl, rfl⟩)
  all_goals go_ret
  all_goals refine ⟨?_, rfl⟩
  all_goals unfold Lib.compareInt
  · rename_i h; simp [h]
  · rename_i h1 h2; simp [h1, h2]; omega
  · rename_i h1 h2; simp [h1, h2]; omega

set_option maxHeartbeats 400000 in
theorem or_any (b : Nat) (x y : Int) (w : World) (c0 : w.cell? ⟨b, 0, none⟩ = some (.int .i64 x)) (c1 : w.cell? ⟨b, 1, none⟩ = some (.int .i64 y)) :
    Calls Try.prog 52 #[.slice (some ⟨b, 0, none⟩) 2 2] w fun e w' => e = .returned (.int .i64 (orI x y)) ∧ w = w' := by
  unfold orI
  by_cases hx : x = 0
  · subst hx
    simp only [if_pos]
    by_cases hy : y = 0
    · subst hy
      go_enter Try.func52, Try.ntmps52
      go_wp2
      refine wp_loop_rounds 3 ?_
      rw [rounds_succ]
      go_wp2
      rw [rounds_succ]
      go_wp2
      rw [rounds_succ]
      go_wp2
      go_ret
      exact ⟨rfl, rfl⟩
    · have hy' : (y == 0) = false := by simpa using hy
      go_enter Try.func52, Try.ntmps52
      go_wp2
      refine wp_loop_rounds 3 ?_
      rw [rounds_succ]
      go_wp2
      rw [rounds_succ]
      go_wp2
      go_ret
      exact ⟨rfl, rfl⟩
  · have hx' : (x == 0) = false := by simpa using hx
    simp only [if_neg hx]
    go_enter Try.func52, Try.ntmps52
    go_wp2
    refine wp_loop_rounds 3 ?_
    rw [rounds_succ]
    go_wp2
    go_ret
    exact ⟨rfl, rfl⟩

theorem cell_grow_of {w : World} {os : Array Obj} {a : Addr} {v : Value} (h : w.cell? a = some v) : (grow w os).cell? a = some v := by
  have hlt := World.block_lt_of_cell? w _ h
  exact (World.cell?_of_block (heap_grow_old _ _ hlt)).trans h
theorem heap_grow_of {w : World} {os : Array Obj} {m : Nat} {o : Obj} (h : w.heap[m]? = some o) : (grow w os).heap[m]? = some o :=
  (heap_grow_old _ _ (Array.getElem?_eq_some_iff.1 h).1).trans h

set_option maxHeartbeats 2000000 in
set_option maxRecDepth 100000 in
theorem keys_cmp_any (b p m ck : Nat) (set : Int) (ws : List WE) (x y : Int) (w : World) (hb : w.cell? ⟨b, 0, none⟩ = some (.pointer (some ⟨p, 0, none⟩))) (hp : w.cell? ⟨p, 0, none⟩ = some (.map (some m))) (hm : w.heap[m]? = some (.map (ents ws) ck)) :
    Calls Try.prog 51 #[.int .i64 x, .int .i64 y, .pointer (some ⟨b, 0, none⟩)] w fun e w' => e = .returned (.int .i64 (cmpK ws x y)) ∧ ∃ os, w' = grow (w.drewN 1) os := by
  have e0 : ∀ W, (∃ os, W = grow (w.drewN 1) os) → W.cell? ⟨b, 0, none⟩ = some (.pointer (some ⟨p, 0, none⟩)) := fun W ⟨os, h⟩ => by rw [h]; exact cell_grow_of hb
  have e1 : ∀ W, (∃ os, W = grow (w.drewN 1) os) → W.cell? ⟨p, 0, none⟩ = some (.map (some m)) := fun W ⟨os, h⟩ => by rw [h]; exact cell_grow_of hp
  have e2 : ∀ W, (∃ os, W = grow (w.drewN 1) os) → ∀ z, (Instr.lookup 82 (.map (some m)) (.int .i64 z) false).run Try.prog W = .ok (.agg #[.int .i64 (tillOf ws z), .int .i64 (setOf_ ws z)]) W := fun W ⟨os, h⟩ z => by
    have h1 : W.heap[m]? = some (.map (ents ws) ck) := by rw [h]; exact heap_grow_of hm
    exact run_look_ents (P := Try.prog) (t := 82) Try.underlying82 Try.underlying3 zero_wait z ws m ck W h1
  have f0 : ∀ (W : World) (a c : Int), (Instr.field 87 (.agg #[.int .i64 a, .int .i64 c]) 0).run Try.prog W = .ok (.int .i64 a) W := fun _ _ _ => by kernel_rfl
  have f1 : ∀ (W : World) (a c : Int), (Instr.field 87 (.agg #[.int .i64 a, .int .i64 c]) 1).run Try.prog W = .ok (.int .i64 c) W := fun _ _ _ => by kernel_rfl
  clear hb hp hm
  go_enter Try.func51, Try.ntmps51
  go_wp2
  refine wp_sched 32 [(0, 0), (1, 0), (2, 0), (3, 0), (4, 0), (5, 0), (6, 0), (7, 0), (8, 0), (9, 0), (10, 0), (11, 0), (12, 0), (13, 0), (15, 0), (16, 0), (17, 0), (18, 0), (19, 0), (20, 0), (21, 0), (22, 0), (23, 0), (24, 0), (25, 0), (26, 0), (27, 0), (28, 0), (14, 1), (29, 1), (30, 1), (31, 1), (32, 2)] (fun W => ∃ os, W = grow (w.drewN 1) os) (by kernel_rfl) (by kernel_rfl) (fun _ _ _ _ _ h => h) (⟨#[], by rw [grow_empty]; rfl⟩) ?_
  iterate 28
    refine at_read (v := ?_) rfl (by first | rfl | kernel_rfl) ?_ ?_
    rotate_left
    · intro W hW
      go_simp
      try with_reducible rfl
    simp only [Act.put, List.setIfInBounds_toArray, List.set_cons_zero, List.set_cons_succ]
  refine at_eff rfl (fun K hK => ?_)
  go_simp
  refine (compare_any _ _ _).mono ?_
  rintro e w8 ⟨rfl, rfl⟩
  go_simp
  refine hK _ _ (⟨#[], by rw [grow_empty]; rfl⟩) ?_
  clear hK K
  try simp only [Act.put, List.setIfInBounds_toArray, List.set_cons_zero, List.set_cons_succ]
  refine at_eff rfl (fun K hK => ?_)
  go_simp
  refine (compare_any _ _ _).mono ?_
  rintro e w8 ⟨rfl, rfl⟩
  go_simp
  refine hK _ _ (⟨#[], by rw [grow_empty]; rfl⟩) ?_
  clear hK K
  try simp only [Act.put, List.setIfInBounds_toArray, List.set_cons_zero, List.set_cons_succ]
  refine at_eff rfl (fun K hK => ?_)
  go_simp
  refine hK _ _ (⟨_, by rw [alloc_eq_grow]; rfl⟩) ?_
  clear hK K
  try simp only [Act.put, List.setIfInBounds_toArray, List.set_cons_zero, List.set_cons_succ]
  refine at_eff rfl (fun K hK => ?_)
  go_simp
  have hblk := Blk.new w 3 #[.int .i64 (Lib.compareInt (tillOf ws x) (tillOf ws y)), .int .i64 (Lib.compareInt (setOf_ ws x) (setOf_ ws y))]
  refine (or_any _ _ _ _ (hblk.drew.cell 0) (hblk.drew.cell 1)).mono ?_
  clear hblk
  rintro e w8 ⟨rfl, rfl⟩
  go_simp
  refine hK _ _ (⟨_, by rw [alloc_eq_grow]; rfl⟩) ?_
  clear hK K
  try simp only [Act.put, List.setIfInBounds_toArray, List.set_cons_zero, List.set_cons_succ]
  refine at_last rfl (fun K hK => ?_)
  go_simp
  refine hK _ _ ?_
  clear hK K
  try simp only [Act.put, List.setIfInBounds_toArray, List.set_cons_zero, List.set_cons_succ]
  refine sched_nil ?_
  go_wp2
  refine bodyPost_ret (v := .int .i64 (cmpK ws x y)) ?h1 rfl ?h2
  case h2 => exact ⟨rfl, _, by rw [alloc_eq_grow]; rfl⟩
  case h1 => simp [results, Try.results51, go_sem, cmpK]
end Go.Proofs.Ytfadadgkgbaohaa
