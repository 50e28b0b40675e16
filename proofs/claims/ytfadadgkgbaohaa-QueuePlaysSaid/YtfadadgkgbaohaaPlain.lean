/-
  A port as lists: how many it holds, messages, who waits until when; the plain laws that lead the port in memory to it.
-/
import Derived.Test.YtfadadgkgbaohaaExpire
import Derived.Test.YtfadadgkgbaohaaSweep
set_option linter.unusedSimpArgs false
set_option linter.unusedVariables false
namespace Go.Proofs.Ytfadadgkgbaohaa
open Go.RowKit Go.Lib

/-- A port as lists. -/
structure AP where
  hold : Int
  msgs : List Msg
  waits : List (Int × Int)

def AP.new (hold : Int) : AP := ⟨min (max hold 1) 8, [], []⟩
def AP.who (a : AP) : List Int := a.waits.map (·.1)
/-- Who is told, whether one is, and the return code. -/
def AP.put (a : AP) (m : Msg) : AP × Int × Bool × Int :=
  match a.waits with
  | e :: r => ({ a with waits := r }, e.1, true, 0)
  | [] => if (a.msgs.length : Int) = a.hold then (a, 0, false, 10) else ({ a with msgs := a.msgs ++ [m] }, 0, false, 0)
def AP.ask (a : AP) (x u t : Int) : AP × Msg × Int :=
  if a.who.contains x then (a, zmsg, 1) else
  match a.msgs with
  | m :: r => ({ a with msgs := r }, m, 0)
  | [] => if cut u ≤ cut t then (a, zmsg, 2) else ({ a with waits := a.waits ++ [(x, cut u)] }, zmsg, 6)
def AP.sweep (a : AP) (t : Int) : AP × List Msg := ({ a with msgs := a.msgs.filter (fun m => !isLate t m) }, a.msgs.filter (isLate t))
def dueT (t : Int) (e : Int × Int) : Bool := decide (cut e.2 ≤ cut t)
def insT (e : Int × Int) : List (Int × Int) → List (Int × Int)
  | [] => [e]
  | a :: r => if e.2 ≤ a.2 then e :: a :: r else a :: insT e r
def srtT : List (Int × Int) → List (Int × Int)
  | [] => []
  | e :: r => insT e (srtT r)
def AP.expire (a : AP) (t : Int) : AP × List Int := ({ a with waits := a.waits.filter (fun e => !dueT t e) }, ((srtT a.waits).filter (dueT t)).map (·.1))

/-! ### The sort -/
def insW (e : WE) : List WE → List WE
  | [] => [e]
  | a :: r => if e.till ≤ a.till then e :: a :: r else a :: insW e r
def srtW : List WE → List WE
  | [] => []
  | e :: r => insW e (srtW r)
def WE.pt (e : WE) : Int × Int := (e.proc, e.till)
theorem insW_map (e : WE) : ∀ l : List WE, (insW e l).map WE.pt = insT e.pt (l.map WE.pt)
  | [] => rfl
  | a :: r => by
    unfold insW
    simp only [List.map_cons, insT]
    by_cases h : e.till ≤ a.till
    · simp [h, WE.pt]
    · simp [h, WE.pt, insW_map e r]
theorem srtW_map : ∀ l : List WE, (srtW l).map WE.pt = srtT (l.map WE.pt)
  | [] => rfl
  | e :: r => by simp only [srtW, List.map_cons, srtT, insW_map, srtW_map r]
theorem insW_perm (e : WE) : ∀ l : List WE, (insW e l).Perm (e :: l)
  | [] => List.Perm.refl _
  | a :: r => by
    unfold insW
    split
    · exact List.Perm.refl _
    · exact ((insW_perm e r).cons a).trans (.swap e a r)
theorem srtW_perm : ∀ l : List WE, (srtW l).Perm l
  | [] => List.Perm.refl _
  | e :: r => (insW_perm e _).trans ((srtW_perm r).cons e)

def Ahead (a b : WE) : Prop := a.till < b.till ∨ (a.till = b.till ∧ a.set < b.set)
theorem insW_sorted (e : WE) : ∀ l : List WE, (∀ a ∈ l, e.set < a.set) → l.Pairwise Ahead → (insW e l).Pairwise Ahead
  | [], _, _ => by simp [insW]
  | a :: r, h, hp => by
    obtain ⟨h1, h2⟩ := List.pairwise_cons.1 hp
    unfold insW
    split
    · rename_i hle
      refine List.pairwise_cons.2 ⟨fun b hb => ?_, hp⟩
      have hbs := h b hb
      unfold Ahead at *
      rcases List.mem_cons.1 hb with rfl | hb
      · omega
      · have := h1 b hb; omega
    · rename_i hle
      refine List.pairwise_cons.2 ⟨fun b hb => ?_, insW_sorted e r (fun b hb => h b (List.mem_cons_of_mem _ hb)) h2⟩
      rcases List.mem_cons.1 ((insW_perm e r).mem_iff.1 hb) with rfl | hb
      · unfold Ahead; omega
      · exact h1 b hb
theorem srtW_sorted : ∀ l : List WE, l.Pairwise (fun a b => a.set < b.set) → (srtW l).Pairwise Ahead
  | [], _ => by simp [srtW]
  | e :: r, h => by
    obtain ⟨h1, h2⟩ := List.pairwise_cons.1 h
    exact insW_sorted e _ (fun a ha => h1 a ((srtW_perm r).mem_iff.1 ha)) (srtW_sorted r h2)

theorem tillOf_mem {ws : List WE} (hn : (ws.map (·.proc)).Nodup) {e : WE} (he : e ∈ ws) : tillOf ws e.proc = e.till ∧ setOf_ ws e.proc = e.set := by
  unfold tillOf setOf_
  simp only [look_mem hn he, Option.elim_some, and_self]

theorem set_inj : ∀ {ws : List WE}, ws.Pairwise (fun a b => a.set < b.set) → ∀ {a b : WE}, a ∈ ws → b ∈ ws → a.set = b.set → a = b
  | [], _, _, _, ha, _, _ => by simp at ha
  | e :: r, hs, a, b, ha, hb, h => by
    obtain ⟨h1, h2⟩ := List.pairwise_cons.1 hs
    rcases List.mem_cons.1 ha with rfl | ha' <;> rcases List.mem_cons.1 hb with rfl | hb'
    · rfl
    · have := h1 b hb'; omega
    · have := h1 a ha'; omega
    · exact set_inj h2 ha' hb' h

theorem sorted_is {ws : List WE} (hn : (ws.map (·.proc)).Nodup) (hs : ws.Pairwise (fun a b => a.set < b.set)) {L : List Int} (h : Sorted ws L) : L = (srtW ws).map (·.proc) := by
  have hp2 : ((srtW ws).map (·.proc)).Perm (ws.map (·.proc)) := (srtW_perm ws).map _
  refine List.Perm.eq_of_pairwise (le := fun x y => ltOf (cmpK ws) y x = false) (fun x y hx hy h1 h2 => ?_) h.2 ?_ (h.1.trans hp2.symm)
  · obtain ⟨a, ha, rfl⟩ := List.mem_map.1 (h.1.mem_iff.1 hx)
    obtain ⟨b, hb, rfl⟩ := List.mem_map.1 (hp2.mem_iff.1 hy)
    rw [lt_cmpK, (tillOf_mem hn ha).1, (tillOf_mem hn ha).2, (tillOf_mem hn hb).1, (tillOf_mem hn hb).2] at h1 h2
    simp only [decide_eq_false_iff_not] at h1 h2
    have he : a.set = b.set := by omega
    rw [set_inj hs ha hb he]
  · rw [List.pairwise_map]
    refine (srtW_sorted ws hs).imp_of_mem fun {a b} ha hb hab => ?_
    have ha := (srtW_perm ws).mem_iff.1 ha
    have hb := (srtW_perm ws).mem_iff.1 hb
    rw [lt_cmpK, (tillOf_mem hn ha).1, (tillOf_mem hn ha).2, (tillOf_mem hn hb).1, (tillOf_mem hn hb).2]
    unfold Ahead at hab
    simp only [decide_eq_false_iff_not]
    omega

theorem due_is {ws : List WE} (hn : (ws.map (·.proc)).Nodup) (hs : ws.Pairwise (fun a b => a.set < b.set)) {L : List Int} (h : Sorted ws L) (t : Int) :
    L.filter (dueK ws t) = ((srtT (ws.map WE.pt)).filter (dueT t)).map (·.1) := by
  rw [sorted_is hn hs h, ← srtW_map, List.filter_map, List.filter_map, List.map_map]
  have : (srtW ws).filter (dueK ws t ∘ fun x => x.proc) = (srtW ws).filter (dueT t ∘ WE.pt) := List.filter_congr fun e he => by
    have he := (srtW_perm ws).mem_iff.1 he
    simp only [Function.comp]
    rw [dueK_mem hn he]
    rfl
  rw [this]
  rfl

theorem rid_all (zs row : List Int) : zs.foldl (fun r x => rid x r) row = row.filter (fun y => !zs.contains y) := by
  induction zs generalizing row with
  | nil => exact (List.filter_eq_self.2 (by simp)).symm
  | cons z r ih =>
    rw [List.foldl_cons, ih, rid, List.filter_filter]
    refine List.filter_congr fun y _ => ?_
    by_cases h : y = z <;> simp [h]
theorem loseAll_row (s : PS) (zs : List Int) : (s.loseAll zs).row = s.row.filter (fun y => !zs.contains y) := by
  rw [← rid_all]
  unfold PS.loseAll
  induction zs generalizing s with
  | nil => rfl
  | cons z r ih => simp only [List.foldl_cons]; rw [ih]; rfl
theorem loseAll_ws (s : PS) (zs : List Int) (hn : (s.ws.map (·.proc)).Nodup) : (s.loseAll zs).ws = s.ws.filter (fun e => !zs.contains e.proc) := by
  unfold PS.loseAll
  induction zs generalizing s with
  | nil => exact (List.filter_eq_self.2 (by simp)).symm
  | cons z r ih =>
    simp only [List.foldl_cons]
    have h1 : (s.lose z).ws = s.ws.filter (fun e => !(z == e.proc)) := drop1_filter hn z
    rw [ih _ (by rw [h1]; exact hn.sublist ((List.filter_sublist).map _)), h1, List.filter_filter]
    refine List.filter_congr fun e _ => ?_
    by_cases h : z = e.proc
    · simp [h]
    · have h2 : ¬ e.proc = z := fun x => h x.symm
      simp [h, h2]
theorem loseAll_set (s : PS) (zs : List Int) : (s.loseAll zs).set = s.set := by
  unfold PS.loseAll
  induction zs generalizing s with
  | nil => rfl
  | cons z r ih => simp only [List.foldl_cons]; rw [ih]; rfl
end Go.Proofs.Ytfadadgkgbaohaa
