/-
  The contract of (*Wheel).Due: the keys whose ticks are come to, in the wheel's row; they wait no more.
-/
import Derived.Test.YtfadadgkgbaohaaKeys
set_option linter.unusedSimpArgs false
set_option linter.unusedVariables false
namespace Go.Proofs.Ytfadadgkgbaohaa
open Go.RowKit Go.Lib
attribute [local go_sem] max_ints min_ints

theorem look_mem {ws : List WE} (hn : (ws.map (·.proc)).Nodup) {e : WE} (he : e ∈ ws) : look e.proc ws = some e := by
  unfold look
  induction ws with
  | nil => simp at he
  | cons a r ih =>
    simp only [List.map_cons, List.nodup_cons, List.mem_map, not_exists, not_and] at hn
    rw [List.find?_cons]
    by_cases hea : e = a
    · subst hea; simp
    · have her : e ∈ r := by simpa [hea] using he
      have : (e.proc == a.proc) = false := by
        have := hn.1 e her
        simpa using this
      simp only [this]
      exact ih hn.2 her
theorem look_some {ws : List WE} {x : Int} {e : WE} (h : look x ws = some e) : e ∈ ws ∧ x = e.proc := by
  unfold look at h
  exact ⟨List.mem_of_find?_eq_some h, by simpa using List.find?_some h⟩
theorem drop1_filter {ws : List WE} (hn : (ws.map (·.proc)).Nodup) (x : Int) : drop1 x ws = ws.filter (fun e => !(x == e.proc)) := by
  unfold drop1
  induction ws with
  | nil => rfl
  | cons a r ih =>
    simp only [List.map_cons, List.nodup_cons, List.mem_map, not_exists, not_and] at hn
    by_cases hx : x = a.proc
    · subst hx
      have : r.filter (fun e => !(a.proc == e.proc)) = r := List.filter_eq_self.2 fun e he => by
        have := hn.1 e he
        simpa using fun h => this h.symm
      simp [this]
    · have hx' : (x == a.proc) = false := by simpa using hx
      simp only [List.eraseP_cons, hx', List.filter_cons, Bool.not_false, if_true, cond_false, ih hn.2]

/-- The tick is come to. -/
def dueE (now : Int) (e : WE) : Bool := decide (cut e.till ≤ cut now)
def dueK (ws : List WE) (now : Int) (x : Int) : Bool := decide (cut (tillOf ws x) ≤ cut now)
/-- Who waits still, the keys l having been gone through. -/
def stay (ws : List WE) (now : Int) (l : List Int) : List WE := ws.filter (fun e => !(dueE now e && l.contains e.proc))

theorem dueK_mem {ws : List WE} (hn : (ws.map (·.proc)).Nodup) {e : WE} (he : e ∈ ws) (now : Int) : dueK ws now e.proc = dueE now e := by
  unfold dueK dueE tillOf
  simp only [look_mem hn he, Option.elim_some]
theorem stay_nil (ws : List WE) (now : Int) : stay ws now [] = ws := by
  unfold stay
  exact List.filter_eq_self.2 fun e _ => by simp
theorem stay_keys {ws : List WE} (hn : (ws.map (·.proc)).Nodup) (now : Int) (l : List Int) : ((stay ws now l).map (·.proc)).Nodup := hn.sublist ((List.filter_sublist).map _)
theorem look_stay {ws : List WE} (hn : (ws.map (·.proc)).Nodup) (now : Int) {l : List Int} {x : Int} (hx : x ∉ l) : look x (stay ws now l) = look x ws := by
  cases h : look x ws with
  | none =>
    unfold look stay at *
    rw [List.find?_eq_none] at *
    exact fun e he => h e (List.mem_filter.1 he).1
  | some e =>
    obtain ⟨he, rfl⟩ := look_some h
    refine look_mem (stay_keys hn now l) (List.mem_filter.2 ⟨he, ?_⟩)
    simp [hx]
theorem stay_due {ws : List WE} (hn : (ws.map (·.proc)).Nodup) {now : Int} {l : List Int} {x : Int} (hd : dueK ws now x = true) : drop1 x (stay ws now l) = stay ws now (l ++ [x]) := by
  rw [drop1_filter (stay_keys hn now l)]
  unfold stay
  rw [List.filter_filter]
  refine List.filter_congr fun e he => ?_
  by_cases hx : x = e.proc
  · subst hx
    rw [dueK_mem hn he] at hd
    simp [hd]
  · have hx1 : (x == e.proc) = false := by simpa using hx
    have hx2 : (e.proc == x) = false := by simpa using fun h => hx h.symm
    have hx3 : ¬ e.proc = x := fun h => hx h.symm
    simp [hx1, hx2, hx3]
theorem stay_not {ws : List WE} (hn : (ws.map (·.proc)).Nodup) {now : Int} {l : List Int} {x : Int} (hd : dueK ws now x = false) : stay ws now (l ++ [x]) = stay ws now l := by
  unfold stay
  refine List.filter_congr fun e he => ?_
  by_cases hx : x = e.proc
  · subst hx
    rw [dueK_mem hn he] at hd
    simp [hd]
  · have hx2 : (e.proc == x) = false := by simpa using fun h => hx h.symm
    have hx3 : ¬ e.proc = x := fun h => hx h.symm
    simp [hx2, hx3]
theorem stay_all {ws : List WE} {now : Int} {L : List Int} (h : ∀ e ∈ ws, e.proc ∈ L) : stay ws now L = ws.filter (fun e => !dueE now e) := by
  unfold stay
  refine List.filter_congr fun e he => ?_
  simp [h e he]

/-- What Due gives. -/
def DueOut (w w' : World) (p m : Nat) (set : Int) (ws : List WE) (now : Int) (e : Ending) : Prop :=
  ∃ v L, e = .returned v ∧ Sorted ws L ∧ w'.ownsRow 0 3 1 v (L.filter (dueK ws now)).length (ints (L.filter (dueK ws now))) ∧ NewFrom w.heap.size v ∧ WheelAt w' p m set (ws.filter (fun e => !dueE now e)) ∧ Fr [m] w w'

theorem rd_built_one (w : World) (x : Int) : Rd (w.alloc (.cells #[.int .i64 x] 3)) 1 [] (.slice (some ⟨w.heap.size, 0, none⟩) 1 1) 1 (ints [x]) := by
  refine ⟨_, 1, rfl, by simp [ints], Nat.le_refl _, by simp [maxLen], (fun e => nomatch e), fun _ => ⟨_, rfl, by simp, fun j u hu => ?_⟩⟩
  rw [add_head, (Blk.new w _ _).cell]
  simpa [ints] using hu
/-- One more key in the row of those that are due, seen from outside. -/
theorem due_push {w wr w3 w4 : World} {p m n : Nat} {set : Int} {ws3 : List WE} {u v1 kv : Value} {zs L : List Int} {x : Int} (hp : p < w.heap.size) (hm : m < w.heap.size)
    (hown : wr.ownsRow 0 3 1 u zs.length (ints zs)) (hnw : NewFrom w.heap.size u) (hrd : Rd wr 1 (u.ownBlock.toList ++ [m]) kv n (ints L)) (hfr : Fr [m] w wr) (hf3 : Fr [m] wr w3) (hw3 : WheelAt w3 p m set ws3)
    (hown4 : w4.ownsRow 0 3 1 v1 (zs.length + 1) (ints zs ++ ints [x])) (hfa : Fr u.ownBlock.toList (w3.alloc (.cells #[.int .i64 x] 3)) w4) (hat : v1.ownBlock = u.ownBlock ∨ v1.ownBlock = some (w3.alloc (.cells #[.int .i64 x] 3)).heap.size) :
    w4.ownsRow 0 3 1 v1 (zs ++ [x]).length (ints (zs ++ [x])) ∧ NewFrom w.heap.size v1 ∧ WheelAt w4 p m set ws3 ∧ Rd w4 1 (v1.ownBlock.toList ++ [m]) kv n (ints L) ∧ Fr [m] w w4 := by
  have hs1 := hfr.size
  have hs3 := hf3.size
  have hnu : ∀ y, y < w.heap.size → y ∉ u.ownBlock.toList := fun y hy hx => by simp at hx; have := hnw y hx; omega
  have hfw : Fr [m] w w4 := ((hfr.trans' hf3).alloc _).trans hfa (fun y hy hlt => absurd hy (hnu y hlt))
  refine ⟨by simpa [ints] using hown4, fun g hg => ?_, ?_, ?_, hfw⟩
  · rcases hat with h1 | h1
    · exact hnw g (by rw [← h1]; exact hg)
    · rw [h1] at hg; injection hg with hg; simp at hg; omega
  · exact (hw3.fr ((Fr.refl [] _).alloc _) (by simp) (by simp)).fr hfa (hnu p hp) (hnu m hm)
  · have r3 : Rd w3 1 (u.ownBlock.toList ++ [m]) kv n (ints L) := hrd.fr hf3 (fun y hy _ => List.mem_append_right _ hy)
    have r4 : Rd w3 1 (v1.ownBlock.toList ++ (u.ownBlock.toList ++ [m])) kv n (ints L) := r3.mono (fun y hy hlt => by
      rcases List.mem_append.1 hy with hy | hy
      · rcases hat with h1 | h1
        · rw [h1] at hy; exact List.mem_append_left _ hy
        · rw [h1] at hy; simp at hy; omega
      · exact hy) (by omega)
    refine ((r4.fr ((Fr.refl [] _).alloc _) (by simp)).fr hfa (fun y hy _ => List.mem_append_right _ (List.mem_append_left _ hy))).mono (fun y hy _ => ?_) (by omega)
    rcases List.mem_append.1 hy with hy | hy
    · exact List.mem_append_left _ hy
    · exact List.mem_append_right _ (List.mem_append_right _ hy)

set_option maxHeartbeats 2000000 in
set_option maxRecDepth 100000 in
theorem due_any (p m : Nat) (set : Int) (ws : List WE) (now : Int) (w : World) (h : WheelAt w p m set ws) (hlen : ws.length ≤ 1048576) :
    Calls Try.prog 37 #[.pointer (some ⟨p, 0, none⟩), .int .i64 now] w fun e w' => DueOut w w' p m set ws now e := by
  obtain ⟨ck, hm, hok⟩ := h.map
  have hpm : p ≠ m := h.blk.ne_map hm
  have hmlt := h.mlt
  have HN := Lib.hid hok.keys
  have HC := Lib.hid (fun x W (hW : WheelAt W p m set (stay ws now x)) k => cancel_any p m set (stay ws now x) k W hW hpm)
  have hK := keys_any p m set ws w h hlen
  have h0 : p < w.heap.size ∧ m < w.heap.size := ⟨h.blk.lt, hmlt⟩
  clear hok hm
  go_enter Try.func37, Try.ntmps37
  go_wp2_with fail
  refine hK.mono ?_
  clear hK
  rintro e w1 ⟨kv, L, rfl, hL, hrow, hnew, hf1⟩
  have hW1 := h.fr hf1 (by simp) (by simp)
  have hLl : L.length = ws.length := by rw [hL.1.length_eq]; simp
  have hRd : Rd w1 1 [m] kv L.length (ints L) := Rd.of_own hrow (fun g hg hx => by have := hnew g hg; simp at hx; omega)
  have hLnd : L.Nodup := hL.1.nodup_iff.2 HN.out
  have HL := Lib.hid hL
  have HLN := Lib.hid hLnd
  have HR := Lib.hid hRd
  have HW := Lib.hid hW1
  generalize hn : L.length = n at *
  have hn8 : n ≤ 1048576 := by omega
  have hmax := hRd.max
  obtain ⟨A, c, rfl, _⟩ := own_form hrow
  have HLL := Lib.hid hn
  have HF1 := Lib.hid hf1
  clear hL hrow hnew hW1 hLl hRd hLnd hn h hf1
  go_wp2
  go_loopw [5, 13] (fun vo vi wr => ∃ (k : Nat), vi = .int .i64 k ∧ k ≤ n ∧ wr.ownsRow 0 3 1 vo ((L.take k).filter (dueK ws now)).length (ints ((L.take k).filter (dueK ws now))) ∧ NewFrom w.heap.size vo ∧
    WheelAt wr p m set (stay ws now (L.take k)) ∧ Rd wr 1 (vo.ownBlock.toList ++ [m]) (.slice A n c) n (ints L) ∧ Fr [m] w wr) (fun _ vi _ => n - (intOf vi).toNat)
  case atStart => exact ⟨0, rfl, by omega, World.ownsRow_nil _ _ _ _, by simp [NewFrom, Value.ownBlock], by simpa [stay_nil] using HW.out, by simpa [Value.ownBlock] using HR.out, HF1.out.of0⟩
  case round =>
    obtain ⟨k, rfl, hk, hown, hnw, hwh, hrd, hfr⟩ := hrel
    by_cases hlt : k < n
    · obtain ⟨ad, rfl, hkl, hce⟩ := hrd.at1 hlt
      have hxt : L[k] ∉ L.take k := fun hx => by
        have h1 := HLN.out
        rw [← List.take_append_drop k L, List.drop_eq_getElem_cons hkl] at h1
        exact (List.nodup_append.1 h1).2.2 _ hx _ (by rw [← List.drop_eq_getElem_cons hkl]; rw [List.drop_eq_getElem_cons hkl]; exact List.mem_cons_self ..) rfl
      have htk : L.take (k + 1) = L.take k ++ [L[k]] := List.take_succ_eq_append_getElem hkl
      generalize L[k] = x at hce hxt htk
      have hut := until_any p m set (stay ws now (L.take k)) x wr hwh
      rw [look_stay HN.out now hxt] at hut
      change Calls _ _ _ _ (fun e w' => e = .returned (.tuple #[.int .i64 (tillOf ws x), .bool _]) ∧ Fr [] wr w') at hut
      have hol : ((L.take k).filter (dueK ws now)).length ≤ n := Nat.le_trans (List.length_filter_le _ _) (by simp; omega)
      have HT := Lib.hid htk
      have HO := Lib.hid hown
      have HNW := Lib.hid hnw
      have HWH := Lib.hid hwh
      have HRD := Lib.hid hrd
      clear hxt htk hown hnw hwh hrd
      by_cases hd : dueK ws now x = true
      · have hd' : decide (cut (tillOf ws x) ≤ cut now) = true := hd
        have HD := Lib.hid hd
        clear hd
        go_wp2_with fail
        refine hut.mono ?_
        clear hut
        rintro e w2 ⟨rfl, hf2⟩
        have hWH2 := HWH.out.fr hf2 (by simp) (by simp)
        go_wp2_with (go_at_call 34; refine (late_any _ _ _).mono ?_; rintro e w' ⟨rfl, rfl⟩)
        refine (HC.out _ w2 hWH2 x).mono ?_
        rintro e w3 ⟨rfl, hw3, hf3⟩
        rw [stay_due HN.out HD.out, ← HT.out] at hw3
        have hf3' : Fr [m] wr w3 := hf2.of0.trans' hf3
        have hom : ∀ g, u5.ownBlock = some g → g ∉ [m] := fun g hg hx => by simp at hx; have := HNW.out g hg; omega
        have HO3 := Lib.hid (hf3'.own HO.out hom)
        have HF3 := Lib.hid hf3'
        have HW3 := Lib.hid hw3
        clear hf2 hf3 hf3' hw3 hWH2
        go_wp2_with (at_builtin; refine wpList_app _ rfl int_elem _ _ rfl u5 ((L.take k).filter (dueK ws now)).length (ints ((L.take k).filter (dueK ws now))) (by rfl) (((Fr.refl [] w3).alloc _).own HO3.out (by simp)) [] (.slice (some ⟨w3.heap.size, 0, none⟩) 1 1) 1 (ints [x]) (by rfl) (rd_built_one w3 x) (ints_one _) (by omega) (by simp only [maxLen]; omega) ?_; intro v1 w4 hown4 hfa hat)
        have hpu := due_push h0.1 h0.2 HO.out HNW.out HRD.out hfr HF3.out HW3.out hown4 hfa hat
        obtain ⟨k1, k2, k3, k4, k5⟩ := hpu
        have hsucc : (L.take (k + 1)).filter (dueK ws now) = (L.take k).filter (dueK ws now) ++ [x] := by rw [HT.out, List.filter_append]; simp [HD.out]
        go_roundw
        case rel => exact ⟨k + 1, by go_num, by omega, by rw [hsucc]; exact k1, k2, k3, k4, k5⟩
        case measure => simp [intOf]; omega
      · have hd' : dueK ws now x = false := by simpa using hd
        have HD := Lib.hid hd'
        have hdd : decide (cut (tillOf ws x) ≤ cut now) = false := hd'
        clear hd hd'
        go_wp2_with fail
        refine hut.mono ?_
        clear hut
        rintro e w2 ⟨rfl, hf2⟩
        have hWH2 := HWH.out.fr hf2 (by simp) (by simp)
        rw [← stay_not HN.out HD.out, ← HT.out] at hWH2
        go_wp2_with (go_at_call 34; refine (late_any _ _ _).mono ?_; rintro e w' ⟨rfl, rfl⟩)
        have hsucc : (L.take (k + 1)).filter (dueK ws now) = (L.take k).filter (dueK ws now) := by rw [HT.out, List.filter_append]; have := HD.out; simp [dueK] at this ⊢; omega
        go_roundw
        case rel => exact ⟨k + 1, by go_num, by omega, by rw [hsucc]; exact hf2.own HO.out (by simp), HNW.out, hWH2, HRD.out.fr hf2 (by simp), hfr.trans0 hf2⟩
        case measure => simp [intOf]; omega
    · have hkn : k = n := by omega
      subst hkn
      have htk : L.take k = L := List.take_of_length_le (by have := HLL.out; omega)
      rw [htk] at hown hwh
      rw [stay_all (fun e he => HL.out.1.symm.subset (List.mem_map.2 ⟨e, he, rfl⟩))] at hwh
      have hfin : DueOut w wr p m set ws now (.returned u5) := ⟨u5, L, rfl, HL.out, hown, hnw, hwh, hfr⟩
      have HFIN := Lib.hid hfin
      clear hfin hown hnw hwh hrd hfr htk
      go_wp2
      go_ret
      exact HFIN.out
end Go.Proofs.Ytfadadgkgbaohaa
