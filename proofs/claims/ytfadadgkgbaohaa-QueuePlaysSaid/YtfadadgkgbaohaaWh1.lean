/-
  Contracts of package wheel: New, Until, Set, Cancel.
-/
import Derived.Test.YtfadadgkgbaohaaSat
import Derived.Test.YtfadadgkgbaohaaL1
import Derived.StillTailTactics
import Derived.BigQuiet
import Derived.Deep.QuietTactic
import Derived.Deep.RegionHeld3
set_option linter.unusedSimpArgs false
set_option linter.unusedVariables false
namespace Go.Proofs.Ytfadadgkgbaohaa
open Go.RowKit
attribute [local go_sem] max_ints min_ints

/-- What holds of a wheel's entries: keys differ, sets and births rise. -/
structure WOk (set : Int) (ws : List WE) (ck : Nat) : Prop where
  keys : (ws.map (·.proc)).Nodup
  sets : ws.Pairwise (fun a b => a.set < b.set)
  le : ∀ e ∈ ws, 0 < e.set ∧ e.set ≤ set
  tills : ∀ e ∈ ws, 0 ≤ e.till ∧ e.till ≤ 4611686018427387904
  born : ws.Pairwise (fun a b => a.born < b.born)
  clock : ∀ e ∈ ws, e.born < ck
  wf : ∀ e ∈ ws, (Lit.int .i64 e.proc).wf = true
  set0 : 0 ≤ set

structure WheelAt (w : World) (p m : Nat) (set : Int) (ws : List WE) : Prop where
  blk : Blk w p 84 #[.map (some m), .int .i64 set]
  map : ∃ ck, w.heap[m]? = some (.map (ents ws) ck) ∧ WOk set ws ck

theorem zero_wait (w : World) : (zeroValue 87).run Try.prog w = .ok (.agg #[.int .i64 0, .int .i64 0]) w := by kernel_rfl

theorem WheelAt.fr {w w' : World} {F : List Nat} {p m : Nat} {set : Int} {ws : List WE} (h : WheelAt w p m set ws) (hf : Fr F w w') (hp : p ∉ F) (hm : m ∉ F) : WheelAt w' p m set ws := by
  obtain ⟨ck, h1, h2⟩ := h.map
  exact ⟨h.blk.fr hf hp, ck, (hf.block m (Array.getElem?_eq_some_iff.1 h1).1 hm).trans h1, h2⟩
theorem WheelAt.mlt {w : World} {p m : Nat} {set : Int} {ws : List WE} (h : WheelAt w p m set ws) : m < w.heap.size := by
  obtain ⟨ck, h1, h2⟩ := h.map
  exact (Array.getElem?_eq_some_iff.1 h1).1

set_option maxHeartbeats 400000 in
theorem wheel_New_any (w : World) : Calls Try.prog 30 #[] w fun e w' => e = .returned (.pointer (some ⟨w.heap.size + 1, 0, none⟩)) ∧ WheelAt w' (w.heap.size + 1) w.heap.size 0 [] ∧ Fr [] w w' ∧ w'.heap.size = w.heap.size + 2 := by
  have hmm := @run_makeMap Try.prog
  go_enter Try.func30, Try.ntmps30
  go_wp2
  go_ret
  refine ⟨rfl, ⟨Blk.new' _ _ _ (by simp), 0, ?_, ⟨by simp, by simp, by simp, by simp, by simp, by simp, by simp, by simp⟩⟩, ((Fr.refl _ _).alloc _).alloc _, by simp⟩
  rw [Below.heap_alloc _ _ _ (by simp)]
  exact heap_alloc_new _ _

theorem wait_info : (Try.prog.info? 87).map (fun i => (i.zero, i.size, i.bytes)) = some (some (.agg #[.int .i64 0, .int .i64 0]), 2, 16) := by kernel_rfl

set_option maxHeartbeats 400000 in
theorem until_any (p m : Nat) (set : Int) (ws : List WE) (key : Int) (w : World) (h : WheelAt w p m set ws) :
    Calls Try.prog 46 #[.pointer (some ⟨p, 0, none⟩), .int .i64 key] w fun e w' =>
      e = .returned (.tuple #[.int .i64 ((look key ws).elim 0 (·.till)), .bool (look key ws).isSome]) ∧ Fr [] w w' := by
  obtain ⟨ck, hm, hok⟩ := h.map
  have hp := h.blk.lt
  have c0 : w.cell? ⟨p, 0, none⟩ = some (.map (some m)) := h.blk.cell 0
  have hl := run_lookup_ents (P := Try.prog) (t := 82) Try.underlying82 Try.underlying3 zero_wait key ws m ck w hm
  clear h hm
  cases ho : look key ws with
  | none =>
    simp only [ho] at hl
    clear ho
    go_enter Try.func46, Try.ntmps46
    go_wp2
    go_ret2
    exact ⟨rfl, ((Fr.refl _ _).alloc _)⟩
  | some x =>
    simp only [ho] at hl
    unfold WE.val at hl
    clear ho
    go_enter Try.func46, Try.ntmps46
    go_wp2
    go_ret2
    exact ⟨rfl, ((Fr.refl _ _).alloc _)⟩

theorem drop1_sub (p : Int) (ws : List WE) : (drop1 p ws).Sublist ws := List.eraseP_sublist
theorem WOk.drop {set : Int} {ws : List WE} {ck : Nat} (h : WOk set ws ck) (p : Int) : WOk set (drop1 p ws) ck := by
  have hs := drop1_sub p ws
  exact ⟨h.keys.sublist (hs.map _), h.sets.sublist hs, fun e he => h.le e (hs.subset he), fun e he => h.tills e (hs.subset he), h.born.sublist hs, fun e he => h.clock e (hs.subset he), fun e he => h.wf e (hs.subset he), h.set0⟩
theorem look_none_notin {p : Int} {ws : List WE} (h : look p ws = none) : p ∉ ws.map (·.proc) := by
  unfold look at h
  simp only [List.find?_eq_none, beq_iff_eq] at h
  simp only [List.mem_map, not_exists, not_and]
  exact fun x hx e => h x hx e.symm
theorem WOk.push {set : Int} {ws : List WE} {ck : Nat} (h : WOk set ws ck) (p t : Int) (hn : look p ws = none) (h0 : 0 ≤ t) (h1 : t ≤ 4611686018427387904) (hw : (Lit.int .i64 p).wf = true) : WOk (set + 1) (ws ++ [⟨p, t, set + 1, ck⟩]) (ck + 1) := by
  have hs := h.set0
  refine ⟨?_, ?_, ?_, ?_, ?_, ?_, ?_, by omega⟩
  · have := look_none_notin hn
    rw [List.map_append, List.nodup_append]
    refine ⟨h.keys, by simp, ?_⟩
    intro a ha b hb e
    simp at hb
    subst hb
    subst e
    exact this ha
  · rw [List.pairwise_append]
    exact ⟨h.sets, by simp, fun a ha b hb => by simp at hb; subst hb; have := h.le a ha; simp only; omega⟩
  · intro e he
    rcases List.mem_append.1 he with he | he
    · have := h.le e he; omega
    · simp at he; subst he; simp only; omega
  · intro e he
    rcases List.mem_append.1 he with he | he
    · exact h.tills e he
    · simp at he; subst he; exact ⟨h0, h1⟩
  · rw [List.pairwise_append]
    exact ⟨h.born, by simp, fun a ha b hb => by simp at hb; subst hb; exact h.clock a ha⟩
  · intro e he
    rcases List.mem_append.1 he with he | he
    · have := h.clock e he; omega
    · simp at he; subst he; simp only; omega
  · intro e he
    rcases List.mem_append.1 he with he | he
    · exact h.wf e he
    · simp at he; subst he; exact hw

set_option maxHeartbeats 400000 in
theorem cancel_any (p m : Nat) (set : Int) (ws : List WE) (key : Int) (w : World) (h : WheelAt w p m set ws) (hpm : p ≠ m) :
    Calls Try.prog 41 #[.pointer (some ⟨p, 0, none⟩), .int .i64 key] w fun e w' =>
      e = .returned (.bool (look key ws).isSome) ∧ WheelAt w' p m set (drop1 key ws) ∧ Fr [m] w w' := by
  have hu := until_any p m set ws key w h
  have hmlt := h.mlt
  cases ho : look key ws with
  | none =>
    simp only [ho] at hu
    have hd : drop1 key ws = ws := by
      unfold look at ho
      unfold drop1
      rw [List.eraseP_of_forall_not]
      intro a ha
      simpa using List.find?_eq_none.1 ho a ha
    have Hd := Lib.hid hd
    clear hd ho
    go_enter Try.func41, Try.ntmps41
    go_wp2_with (go_at_call 46; refine hu.mono ?_; rintro e w1 ⟨rfl, hf⟩)
    go_ret
    rw [Hd.out]
    exact ⟨rfl, h.fr hf (by simp) (by simp), hf.of0⟩
  | some x =>
    simp only [ho] at hu
    clear ho
    go_enter Try.func41, Try.ntmps41
    go_wp2_with fail
    refine hu.mono ?_
    rintro e w1 ⟨rfl, hf⟩
    have h1 := h.fr hf (by simp) (by simp)
    obtain ⟨ck, hm1, hok⟩ := h1.map
    have c0 : w1.cell? ⟨p, 0, none⟩ = some (.map (some m)) := h1.blk.cell 0
    have hdel := fun ty => run_delete_ents (P := Try.prog) (t := 82) (t' := 3) (ty := ty) Try.underlying82 Try.underlying3 key ws m ck w1 hm1
    go_wp2
    go_ret
    refine ⟨rfl, ⟨?_, ck, putObj_heap hm1, hok.drop key⟩, hf.of0.trans (putObj_fr _ _ _) (by simp)⟩
    exact h1.blk.fr (putObj_fr _ _ _) (by simp [hpm])

set_option maxHeartbeats 400000 in
set_option maxRecDepth 100000 in
theorem set_new (p m : Nat) (set : Int) (ws : List WE) (key till : Int) (w : World) (h : WheelAt w p m set ws) (hpm : p ≠ m) (hn : look key ws = none) (hs : set < 4611686018427387904) (hw : (Lit.int .i64 key).wf = true) :
    Calls Try.prog 35 #[.pointer (some ⟨p, 0, none⟩), .int .i64 key, .int .i64 till] w fun e w' =>
      e = .returned (.bool false) ∧ (∃ ck, WheelAt w' p m (set + 1) (ws ++ [⟨key, cut till, set + 1, ck⟩])) ∧ Fr [p, m] w w' := by
  obtain ⟨ck, hm, hok⟩ := h.map
  have hp := h.blk.lt
  have hmlt := h.mlt
  have c0 : w.cell? ⟨p, 0, none⟩ = some (.map (some m)) := h.blk.cell 0
  have c1 : w.cell? ⟨p, 1, none⟩ = some (.int .i64 set) := h.blk.cell 1
  have f1 : w.frozen? ⟨p, 1, none⟩ = false := h.blk.froz 1
  have hs0 := hok.set0
  have hl := run_lookup_ents (P := Try.prog) (t := 82) Try.underlying82 Try.underlying3 zero_wait key ws m ck w hm
  simp only [hn] at hl
  have Hn := Lib.hid hn
  clear hn
  go_enter Try.func35, Try.ntmps35
  go_wp2
  obtain ⟨w1, hw1⟩ : ∃ x, x = (w.setCell ⟨p, 1, none⟩ (.int .i64 (set + 1))).alloc (.cells #[.int .i64 0, .int .i64 0] 87) := ⟨_, rfl⟩
  have hB1 : Blk w1 p 84 #[.map (some m), .int .i64 (set + 1)] := by rw [hw1]; exact (h.blk.set_ 1 _).alloc _
  have hF1 : Fr [p, m] w w1 := by rw [hw1]; exact ((Fr.refl _ _).setCell (by simp) _).alloc _
  have hM1 : w1.heap[m]? = some (.map (ents ws) ck) := by
    rw [hw1, Below.heap_alloc _ _ _ (by simpa using hmlt), Below.heap_setCell _ _ _ _ (Ne.symm hpm)]
    exact hm
  rw [← hw1]
  clear hw1
  have d0 : w1.cell? ⟨p, 0, none⟩ = some (.map (some m)) := hB1.cell 0
  have d1 : w1.cell? ⟨p, 1, none⟩ = some (.int .i64 (set + 1)) := hB1.cell 1
  clear c0 c1 f1 hl hm hp
  have hn' := Hn.out
  have hup := run_update_ents (P := Try.prog) (t := 82) Try.underlying82 Try.underlying3 key (cut till) (set + 1) ws m ck w1.drew hM1 hn'
  clear hn'
  have hk : ∀ i o, (putObj w1.drew m o).cell? ⟨p, i, none⟩ = w1.cell? ⟨p, i, none⟩ := fun i o => putObj_cell _ _ _ hpm
  go_region_held3 (fun w' => w'.cell? ⟨p, 0, none⟩ = some (.map (some m)) ∧ w'.cell? ⟨p, 1, none⟩ = some (.int .i64 (set + 1))) (go_keep)
    (first | (go_at_call 44; refine (cut_any _ _).mono ?_; rintro e w' ⟨rfl, rfl⟩))
  go_wp2
  go_ret
  refine ⟨rfl, ⟨ck, ?_, ck + 1, putObj_heap (w := w1.drew) hM1, hok.push key (cut till) Hn.out (cut_lo _) (cut_hi _) hw⟩, hF1.drew.trans (putObj_fr _ _ _) (by simp)⟩
  exact hB1.drew.fr (putObj_fr _ _ _) (by simp [hpm])
end Go.Proofs.Ytfadadgkgbaohaa
