/-
  Entries as values; the numbers of an entry (fields).
-/
import Derived.Test.YtcnmnfllchiehaaDoorTw
import Derived.Test.YtcnmnfllchiehaaDoorGrow
import Derived.Test.YtcnmnfllchiehaaDoorL5
import Derived.Deep.QuietTactic
import Derived.BigQuiet
set_option linter.unusedSimpArgs false
set_option linter.unusedVariables false
namespace Go.Proofs.YtcnmnfllchiehaaDoor
open Go.RowKit
attribute [local go_sem] max_ints min_ints

/-- An entry: Kind, Partition, Process, Channel, Lane, N, and words. -/
structure Ent where
  kind : Int
  part : Int
  proc : Int
  chan : Int
  lane : Int
  n : Int
  words : List Int

def Ent.nums (o : Ent) : List Int := [o.kind, o.part, o.proc, o.chan, o.lane, o.n]
def Ent.get (o : Ent) (i : Nat) : Int := o.nums.getD i 0
def Ent.cells (o : Ent) (wv : Value) : List Value := [.int .i64 o.kind, .int .i64 o.part, .int .i64 o.proc, .int .i64 o.chan, .int .i64 o.lane, .int .i64 o.n, wv]
def Ent.val (o : Ent) (wv : Value) : Value := .agg #[.int .i64 o.kind, .int .i64 o.part, .int .i64 o.proc, .int .i64 o.chan, .int .i64 o.lane, .int .i64 o.n, wv]
/-- All its numbers are ints. -/
def Ent.Ok (o : Ent) : Prop := (∀ x ∈ o.nums, I64 x) ∧ ∀ x ∈ o.words, I64 x

/-- Which cells the numbers of an entry are, behind its Kind. -/
def fidx (kind : Int) : List Nat :=
  if kind = 1 then [1, 3] else if kind = 2 ∨ kind = 3 then [1, 3] else if kind = 4 then [1, 3, 4] else if kind = 5 then [1, 3, 2, 5] else if kind = 6 then [1, 5] else [1]
def hasW (kind : Int) : Bool := kind = 1 ∨ kind = 4
def ptrs (b : Nat) (l : List Nat) : List Value := l.map fun i => .pointer (some ⟨b, i, none⟩)

def FieldsAt (b : Nat) (kind : Int) (w w' : World) (e : Ending) : Prop :=
  ∃ v, e = .returned (.tuple #[v, .bool (hasW kind)]) ∧ (∀ M : List Nat, (∀ x ∈ M, x < w.heap.size) → Rd w' 1 M v (fidx kind).length (ptrs b (fidx kind))) ∧ Fr [] w w' ∧ ∃ g, v = .slice (some ⟨g, 0, none⟩) (fidx kind).length (fidx kind).length ∧ Blk w' g 66 (ptrs b (fidx kind)).toArray ∧ w.heap.size ≤ g

set_option maxRecDepth 100000 in
set_option maxHeartbeats 1000000 in
theorem fields_any (b : Nat) (kind : Int) (w : World) (hb : w.cell? ⟨b, 0, none⟩ = some (.int .i64 kind)) :
    Calls Tryd.prog 26 #[.pointer (some ⟨b, 0, none⟩)] w fun e w' => FieldsAt b kind w w' e := by
  by_cases h1 : kind = 1
  · subst h1
    go_enter Tryd.func26, Tryd.ntmps26
    go_wp2_with fail
    refine wp_sched 8 [(0, 0), (1, 0), (2, 0), (3, 0), (4, 0), (5, 0), (6, 1), (7, 0), (8, 2)] (fun W => Fr [] w W) (by kernel_rfl) (by kernel_rfl) (fun _ _ _ _ _ h => h) ((Fr.refl [] w).drew) ?_
    iterate 6
      refine at_read (v := ?_) rfl (by first | rfl | kernel_rfl) ?_ ?_
      rotate_left
      · intro W hW
        go_simp
        try with_reducible rfl
      simp only [Act.put, List.setIfInBounds_toArray, List.set_cons_zero, List.set_cons_succ]
    refine at_eff rfl (fun K hK => ?_)
    go_simp
    refine hK _ _ ((Fr.refl [] w).drew.alloc _) ?_
    clear hK K
    try simp only [Act.put, List.setIfInBounds_toArray, List.set_cons_zero, List.set_cons_succ]
    iterate 1
      refine at_read (v := ?_) rfl (by first | rfl | kernel_rfl) ?_ ?_
      rotate_left
      · intro W hW
        go_simp
        try with_reducible rfl
      simp only [Act.put, List.setIfInBounds_toArray, List.set_cons_zero, List.set_cons_succ]
    refine at_last rfl (fun K hK => ?_)
    go_simp
    refine hK _ _ ?_
    clear hK K
    try simp only [Act.put, List.setIfInBounds_toArray, List.set_cons_zero, List.set_cons_succ]
    refine sched_nil ?_
    go_wp2_with fail
    go_ret2
    exact ⟨_, rfl, fun M hM => rd_new w.drew 1 M _ _ 2 rfl (by decide) (fun hx => absurd (hM _ hx) (Nat.lt_irrefl _)), (Fr.refl [] w).drew.alloc _, _, rfl, Blk.new _ _ _, Nat.le_refl _⟩
  by_cases h2 : kind = 2
  · subst h2
    go_enter Tryd.func26, Tryd.ntmps26
    go_wp2_with fail
    refine wp_sched 8 [(0, 0), (1, 0), (2, 0), (3, 0), (4, 0), (5, 0), (6, 1), (7, 0), (8, 2)] (fun W => Fr [] w W) (by kernel_rfl) (by kernel_rfl) (fun _ _ _ _ _ h => h) ((Fr.refl [] w).drew) ?_
    iterate 6
      refine at_read (v := ?_) rfl (by first | rfl | kernel_rfl) ?_ ?_
      rotate_left
      · intro W hW
        go_simp
        try with_reducible rfl
      simp only [Act.put, List.setIfInBounds_toArray, List.set_cons_zero, List.set_cons_succ]
    refine at_eff rfl (fun K hK => ?_)
    go_simp
    refine hK _ _ ((Fr.refl [] w).drew.alloc _) ?_
    clear hK K
    try simp only [Act.put, List.setIfInBounds_toArray, List.set_cons_zero, List.set_cons_succ]
    iterate 1
      refine at_read (v := ?_) rfl (by first | rfl | kernel_rfl) ?_ ?_
      rotate_left
      · intro W hW
        go_simp
        try with_reducible rfl
      simp only [Act.put, List.setIfInBounds_toArray, List.set_cons_zero, List.set_cons_succ]
    refine at_last rfl (fun K hK => ?_)
    go_simp
    refine hK _ _ ?_
    clear hK K
    try simp only [Act.put, List.setIfInBounds_toArray, List.set_cons_zero, List.set_cons_succ]
    refine sched_nil ?_
    go_wp2_with fail
    go_ret2
    exact ⟨_, rfl, fun M hM => rd_new w.drew 1 M _ _ 2 rfl (by decide) (fun hx => absurd (hM _ hx) (Nat.lt_irrefl _)), (Fr.refl [] w).drew.alloc _, _, rfl, Blk.new _ _ _, Nat.le_refl _⟩
  by_cases h3 : kind = 3
  · subst h3
    go_enter Tryd.func26, Tryd.ntmps26
    go_wp2_with fail
    refine wp_sched 8 [(0, 0), (1, 0), (2, 0), (3, 0), (4, 0), (5, 0), (6, 1), (7, 0), (8, 2)] (fun W => Fr [] w W) (by kernel_rfl) (by kernel_rfl) (fun _ _ _ _ _ h => h) ((Fr.refl [] w).drew) ?_
    iterate 6
      refine at_read (v := ?_) rfl (by first | rfl | kernel_rfl) ?_ ?_
      rotate_left
      · intro W hW
        go_simp
        try with_reducible rfl
      simp only [Act.put, List.setIfInBounds_toArray, List.set_cons_zero, List.set_cons_succ]
    refine at_eff rfl (fun K hK => ?_)
    go_simp
    refine hK _ _ ((Fr.refl [] w).drew.alloc _) ?_
    clear hK K
    try simp only [Act.put, List.setIfInBounds_toArray, List.set_cons_zero, List.set_cons_succ]
    iterate 1
      refine at_read (v := ?_) rfl (by first | rfl | kernel_rfl) ?_ ?_
      rotate_left
      · intro W hW
        go_simp
        try with_reducible rfl
      simp only [Act.put, List.setIfInBounds_toArray, List.set_cons_zero, List.set_cons_succ]
    refine at_last rfl (fun K hK => ?_)
    go_simp
    refine hK _ _ ?_
    clear hK K
    try simp only [Act.put, List.setIfInBounds_toArray, List.set_cons_zero, List.set_cons_succ]
    refine sched_nil ?_
    go_wp2_with fail
    go_ret2
    exact ⟨_, rfl, fun M hM => rd_new w.drew 1 M _ _ 2 rfl (by decide) (fun hx => absurd (hM _ hx) (Nat.lt_irrefl _)), (Fr.refl [] w).drew.alloc _, _, rfl, Blk.new _ _ _, Nat.le_refl _⟩
  by_cases h4 : kind = 4
  · subst h4
    go_enter Tryd.func26, Tryd.ntmps26
    go_wp2_with fail
    refine wp_sched 11 [(0, 0), (1, 0), (2, 0), (3, 0), (4, 0), (5, 0), (6, 0), (7, 0), (8, 0), (9, 1), (10, 0), (11, 2)] (fun W => Fr [] w W) (by kernel_rfl) (by kernel_rfl) (fun _ _ _ _ _ h => h) ((Fr.refl [] w).drew) ?_
    iterate 9
      refine at_read (v := ?_) rfl (by first | rfl | kernel_rfl) ?_ ?_
      rotate_left
      · intro W hW
        go_simp
        try with_reducible rfl
      simp only [Act.put, List.setIfInBounds_toArray, List.set_cons_zero, List.set_cons_succ]
    refine at_eff rfl (fun K hK => ?_)
    go_simp
    refine hK _ _ ((Fr.refl [] w).drew.alloc _) ?_
    clear hK K
    try simp only [Act.put, List.setIfInBounds_toArray, List.set_cons_zero, List.set_cons_succ]
    iterate 1
      refine at_read (v := ?_) rfl (by first | rfl | kernel_rfl) ?_ ?_
      rotate_left
      · intro W hW
        go_simp
        try with_reducible rfl
      simp only [Act.put, List.setIfInBounds_toArray, List.set_cons_zero, List.set_cons_succ]
    refine at_last rfl (fun K hK => ?_)
    go_simp
    refine hK _ _ ?_
    clear hK K
    try simp only [Act.put, List.setIfInBounds_toArray, List.set_cons_zero, List.set_cons_succ]
    refine sched_nil ?_
    go_wp2_with fail
    go_ret2
    exact ⟨_, rfl, fun M hM => rd_new w.drew 1 M _ _ 3 rfl (by decide) (fun hx => absurd (hM _ hx) (Nat.lt_irrefl _)), (Fr.refl [] w).drew.alloc _, _, rfl, Blk.new _ _ _, Nat.le_refl _⟩
  by_cases h5 : kind = 5
  · subst h5
    go_enter Tryd.func26, Tryd.ntmps26
    go_wp2_with fail
    refine wp_sched 14 [(0, 0), (1, 0), (2, 0), (3, 0), (4, 0), (5, 0), (6, 0), (7, 0), (8, 0), (9, 0), (10, 0), (11, 0), (12, 1), (13, 0), (14, 2)] (fun W => Fr [] w W) (by kernel_rfl) (by kernel_rfl) (fun _ _ _ _ _ h => h) ((Fr.refl [] w).drew) ?_
    iterate 12
      refine at_read (v := ?_) rfl (by first | rfl | kernel_rfl) ?_ ?_
      rotate_left
      · intro W hW
        go_simp
        try with_reducible rfl
      simp only [Act.put, List.setIfInBounds_toArray, List.set_cons_zero, List.set_cons_succ]
    refine at_eff rfl (fun K hK => ?_)
    go_simp
    refine hK _ _ ((Fr.refl [] w).drew.alloc _) ?_
    clear hK K
    try simp only [Act.put, List.setIfInBounds_toArray, List.set_cons_zero, List.set_cons_succ]
    iterate 1
      refine at_read (v := ?_) rfl (by first | rfl | kernel_rfl) ?_ ?_
      rotate_left
      · intro W hW
        go_simp
        try with_reducible rfl
      simp only [Act.put, List.setIfInBounds_toArray, List.set_cons_zero, List.set_cons_succ]
    refine at_last rfl (fun K hK => ?_)
    go_simp
    refine hK _ _ ?_
    clear hK K
    try simp only [Act.put, List.setIfInBounds_toArray, List.set_cons_zero, List.set_cons_succ]
    refine sched_nil ?_
    go_wp2_with fail
    go_ret2
    exact ⟨_, rfl, fun M hM => rd_new w.drew 1 M _ _ 4 rfl (by decide) (fun hx => absurd (hM _ hx) (Nat.lt_irrefl _)), (Fr.refl [] w).drew.alloc _, _, rfl, Blk.new _ _ _, Nat.le_refl _⟩
  by_cases h6 : kind = 6
  · subst h6
    go_enter Tryd.func26, Tryd.ntmps26
    go_wp2_with fail
    refine wp_sched 8 [(0, 0), (1, 0), (2, 0), (3, 0), (4, 0), (5, 0), (6, 1), (7, 0), (8, 2)] (fun W => Fr [] w W) (by kernel_rfl) (by kernel_rfl) (fun _ _ _ _ _ h => h) ((Fr.refl [] w).drew) ?_
    iterate 6
      refine at_read (v := ?_) rfl (by first | rfl | kernel_rfl) ?_ ?_
      rotate_left
      · intro W hW
        go_simp
        try with_reducible rfl
      simp only [Act.put, List.setIfInBounds_toArray, List.set_cons_zero, List.set_cons_succ]
    refine at_eff rfl (fun K hK => ?_)
    go_simp
    refine hK _ _ ((Fr.refl [] w).drew.alloc _) ?_
    clear hK K
    try simp only [Act.put, List.setIfInBounds_toArray, List.set_cons_zero, List.set_cons_succ]
    iterate 1
      refine at_read (v := ?_) rfl (by first | rfl | kernel_rfl) ?_ ?_
      rotate_left
      · intro W hW
        go_simp
        try with_reducible rfl
      simp only [Act.put, List.setIfInBounds_toArray, List.set_cons_zero, List.set_cons_succ]
    refine at_last rfl (fun K hK => ?_)
    go_simp
    refine hK _ _ ?_
    clear hK K
    try simp only [Act.put, List.setIfInBounds_toArray, List.set_cons_zero, List.set_cons_succ]
    refine sched_nil ?_
    go_wp2_with fail
    go_ret2
    exact ⟨_, rfl, fun M hM => rd_new w.drew 1 M _ _ 2 rfl (by decide) (fun hx => absurd (hM _ hx) (Nat.lt_irrefl _)), (Fr.refl [] w).drew.alloc _, _, rfl, Blk.new _ _ _, Nat.le_refl _⟩
  have hf : fidx kind = [1] := by
    unfold fidx
    rw [if_neg h1, if_neg (by omega), if_neg h4, if_neg h5, if_neg h6]
  have hw : hasW kind = false := by simp [hasW, h1, h4]
  have HX := Lib.hid (And.intro hf hw)
  clear hf hw
  go_enter Tryd.func26, Tryd.ntmps26
  go_wp2_with fail
  go_ret2
  unfold FieldsAt
  rw [HX.out.1, HX.out.2]
  exact ⟨_, rfl, fun M hM => rd_new w 1 M _ _ 1 rfl (by decide) (fun hx => absurd (hM _ hx) (Nat.lt_irrefl _)), (Fr.refl [] w).alloc _, _, rfl, Blk.new _ _ _, Nat.le_refl _⟩
end Go.Proofs.YtcnmnfllchiehaaDoor
