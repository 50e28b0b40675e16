/-
  A port in memory that stands for lists: what each method answers, and what it stands for afterwards.
-/
import Derived.Test.YtfadadgkgbaohaaPlain
set_option linter.unusedSimpArgs false
set_option linter.unusedVariables false
namespace Go.Proofs.Ytfadadgkgbaohaa
open Go.RowKit Go.Lib

/-- The port at p stands for a; k: more have not asked; F: where it may write; E: where none of its messages' words lie. -/
def PA (w : World) (p : Nat) (a : AP) (k : Nat) (F E : List Nat) : Prop :=
  ∃ s : PS, (PortAt w p s F ∧ s.ext = E) ∧ s.hold = a.hold ∧ s.msgs = a.msgs ∧ s.ws.map WE.pt = a.waits ∧ s.row = a.who ∧ s.set ≤ (k : Int) ∧ a.waits.length ≤ k
/-- The port stands for a now; only F, and what is new, has turned. -/
def PAto (w w' : World) (p : Nat) (a : AP) (k : Nat) (F E : List Nat) : Prop :=
  ∃ F', PA w' p a k F' E ∧ Fr F w w' ∧ (∀ x ∈ F, x ∈ F') ∧ (∀ x ∈ F', x ∈ F ∨ w.heap.size ≤ x)

theorem PA.fr {w w' : World} {G F E : List Nat} {p k : Nat} {a : AP} (h : PA w p a k F E) (hf : Fr G w w') (hG : ∀ x ∈ G, x ∉ F) (hw : ∀ x ∈ G, w.heap.size ≤ x ∨ x ∈ E) : PA w' p a k F E := by
  obtain ⟨s, ⟨hP, rfl⟩, hr⟩ := h
  exact ⟨s, ⟨hP.fr hf hG hw, rfl⟩, hr⟩
theorem PA.fr0 {w w' : World} {F E : List Nat} {p k : Nat} {a : AP} (h : PA w p a k F E) (hf : Fr [] w w') : PA w' p a k F E := h.fr hf (by simp) (by simp)
theorem PA.lt {w : World} {F E : List Nat} {p k : Nat} {a : AP} (h : PA w p a k F E) : ∀ x ∈ F, x < w.heap.size := by
  obtain ⟨s, ⟨hP, rfl⟩, hr⟩ := h
  exact hP.lt
theorem PA.mono {w : World} {F E : List Nat} {p k k' : Nat} {a : AP} (h : PA w p a k F E) (hk : k ≤ k') : PA w p a k' F E := by
  obtain ⟨s, ⟨hP, rfl⟩, h1, h2, h3, h4, h5, h6⟩ := h
  exact ⟨s, ⟨hP, rfl⟩, h1, h2, h3, h4, by omega, by omega⟩
/-- Blocks that came later are kept apart from too. -/
theorem PA.ext {w : World} {F E E' : List Nat} {p k : Nat} {a : AP} (h : PA w p a k F E) (hE : ∀ x ∈ E', x ∈ E) : PA w p a k F E' := by
  obtain ⟨s, ⟨hP, rfl⟩, hr⟩ := h
  obtain ⟨wh, m, lv, rv, ms, hB, hW, hR, hL, hms, hwo, hrest⟩ := hP.ex
  refine ⟨{ s with ext := E' }, ⟨⟨⟨wh, m, lv, rv, ms, hB, hW, hR, hL, hms, fun x hx => (hwo x hx).mono (fun y hy _ => ?_), hrest⟩, hP.lt, hP.room, fun x hx => hP.elt x (hE x hx)⟩, rfl⟩, hr⟩
  rcases List.mem_append.1 hy with hy | hy
  · exact List.mem_append_left _ hy
  · exact List.mem_append_right _ (hE y hy)
theorem PA.frE {w w' : World} {G F E E' : List Nat} {p k : Nat} {a : AP} (h : PA w p a k F E) (hf : Fr G w w') (hG : ∀ x ∈ G, x ∉ F) (hw : ∀ x ∈ G, w.heap.size ≤ x ∨ x ∈ E) (hE : ∀ x ∈ E', x ∈ E ∨ w.heap.size ≤ x) (hlt : ∀ x ∈ E', x < w'.heap.size) : PA w' p a k F E' := by
  obtain ⟨s, ⟨hP, rfl⟩, hr⟩ := h
  have hP' := hP.fr hf hG hw
  obtain ⟨wh, m, lv, rv, ms, hB, hW, hR, hL, hms, hwo, hrest⟩ := hP.ex
  have hn : ∀ x, x ∈ F → x ∉ G := fun x hx hg => hG x hg hx
  obtain ⟨hp, hwh, hm, hl, hr2⟩ := hrest
  refine ⟨{ s with ext := E' }, ⟨⟨⟨wh, m, lv, rv, ms, hB.fr hf (hn p hp), hW.fr hf (hn _ hwh) (hn _ hm), hf.own hR (fun g hg => hn g (hr2 g hg)), hf.own hL (fun g hg => hn g (hl g hg)), hms, fun x hx => ?_, hp, hwh, hm, hl, hr2⟩, hP'.lt, hP.room, hlt⟩, rfl⟩, hr⟩
  have h1 : WordsAt w (G ++ (F ++ E')) x.2 x.1 := (hwo x hx).mono (fun y hy hlt => by
    rcases List.mem_append.1 hy with hy | hy
    · rcases hw y hy with h | h
      · omega
      · exact List.mem_append_right _ h
    · rcases List.mem_append.1 hy with hy | hy
      · exact List.mem_append_left _ hy
      · rcases hE y hy with h | h
        · exact List.mem_append_right _ h
        · omega)
  exact (h1.fr hf (fun y hy _ => List.mem_append_left _ hy)).mono (fun y hy _ => List.mem_append_right _ hy)
theorem PortAt.wok {w : World} {p : Nat} {s : PS} {F : List Nat} (h : PortAt w p s F) : ∃ ck, WOk s.set s.ws ck := by
  obtain ⟨wh, m, lv, rv, ms, hB, hW, _⟩ := h.ex
  obtain ⟨ck, _, hok⟩ := hW.map
  exact ⟨ck, hok⟩

theorem loseAll_ext (s : PS) (zs : List Int) : (s.loseAll zs).ext = s.ext := by
  unfold PS.loseAll
  induction zs generalizing s with
  | nil => rfl
  | cons z r ih => simp only [List.foldl_cons]; rw [ih]; rfl
theorem pa_new (hold : Int) (w : World) : Calls Try.prog 7 #[.int .i64 hold] w fun e w' => ∃ p F, e = .returned (.pointer (some ⟨p, 0, none⟩)) ∧ PA w' p (AP.new hold) 0 F [] ∧ Fr [] w w' ∧ (∀ x ∈ F, w.heap.size ≤ x) := by
  refine (queue_New_any hold w).mono ?_
  rintro e w' ⟨rfl, hP, hf, _⟩
  exact ⟨_, _, rfl, ⟨_, ⟨hP, rfl⟩, rfl, rfl, rfl, rfl, by simp [newPS], by simp [AP.new]⟩, hf, by simp⟩

theorem who_of {ws : List WE} {l : List (Int × Int)} (h : ws.map WE.pt = l) : ws.map (·.proc) = l.map (·.1) := by
  rw [← h, List.map_map]; rfl

theorem pa_put (p : Nat) (a : AP) (k : Nat) (F E : List Nat) (m : Msg) (wv : Value) (w : World) (h : PA w p a k F E) (hk : k ≤ 1000000) (hwv : WordsAt w [] wv m) :
    Calls Try.prog 10 #[.pointer (some ⟨p, 0, none⟩), m.val wv] w fun e w' => e = .returned (.tuple #[.int .i64 (a.put m).2.1, .bool (a.put m).2.2.1, .int .i64 (a.put m).2.2.2]) ∧ PAto w w' p (a.put m).1 k F E := by
  obtain ⟨s, ⟨hP, rfl⟩, h1, h2, h3, h4, h5, h6⟩ := h
  obtain ⟨ck, hok⟩ := hP.wok
  obtain ⟨hold, msgs, waits⟩ := a
  simp only at h1 h2 h3 h6
  cases waits with
  | cons e r =>
    have hrow : s.row = e.1 :: r.map (·.1) := h4
    refine (put_wakes p s F m wv e.1 (r.map (·.1)) w hP hrow (by simp at h6 ⊢; omega)).mono ?_
    rintro e' w' ⟨rfl, hP', hf⟩
    refine ⟨rfl, F, ⟨s.lose e.1, ⟨hP', rfl⟩, h1, h2, ?_, ?_, h5, by simp [AP.put] at h6 ⊢; omega⟩, hf, fun _ h => h, fun _ h => .inl h⟩
    · cases hws : s.ws with
      | nil => rw [hws] at h3; simp at h3
      | cons e0 r0 =>
        rw [hws] at h3
        simp only [List.map_cons, List.cons.injEq] at h3
        show (drop1 e.1 s.ws).map WE.pt = r
        rw [hws, ← h3.1]
        simp only [drop1, List.eraseP_cons, WE.pt, beq_self_eq_true, cond_true]
        exact h3.2
    · have hn : s.row.Nodup := by rw [h4]; show (List.map (·.1) (e :: r)).Nodup; rw [← who_of h3]; exact hok.keys
      rw [hrow, List.nodup_cons] at hn
      show rid e.1 s.row = r.map (·.1)
      rw [hrow]
      unfold rid
      rw [List.filter_cons]
      simp only [beq_self_eq_true, Bool.not_true, Bool.false_eq_true, if_false]
      exact List.filter_eq_self.2 fun y hy => by
        have : ¬ y = e.1 := fun h => hn.1 (h ▸ hy)
        simpa using this
  | nil =>
    have hrow : s.row = [] := h4
    by_cases hfull : (msgs.length : Int) = hold
    · refine (put_full p s F m wv w hP hrow (by rw [h1, h2]; exact hfull)).mono ?_
      rintro e' w' ⟨rfl, hf⟩
      simp only [AP.put, if_pos hfull]
      exact ⟨trivial, F, ⟨s, ⟨hP.fr0 hf, rfl⟩, h1, h2, h3, h4, h5, h6⟩, hf.of0, fun _ h => h, fun _ h => .inl h⟩
    · have hroom := hP.room
      refine (put_holds p s F m wv w hP hrow (by rw [h2, h1] at hroom; rw [h1, h2]; omega) hwv).mono ?_
      rintro e' w' ⟨rfl, F', hP', hf, hsub, hnew⟩
      simp only [AP.put, if_neg hfull]
      exact ⟨trivial, F', ⟨_, ⟨hP', rfl⟩, h1, by simp [h2], h3, h4, h5, h6⟩, hf, hsub, hnew⟩

theorem pa_ask (p : Nat) (a : AP) (k : Nat) (F E : List Nat) (x u t : Int) (w : World) (h : PA w p a k F E) (hk : k ≤ 1000000) (hx : (Lit.int .i64 x).wf = true) :
    Calls Try.prog 12 #[.pointer (some ⟨p, 0, none⟩), .int .i64 x, .int .i64 u, .int .i64 t] w fun e w' => Handed w' (F ++ E) (a.ask x u t).2.1 (a.ask x u t).2.2 e ∧ PAto w w' p (a.ask x u t).1 (k + 1) F E := by
  obtain ⟨s, ⟨hP, rfl⟩, h1, h2, h3, h4, h5, h6⟩ := h
  obtain ⟨ck, hok⟩ := hP.wok
  obtain ⟨hold, msgs, waits⟩ := a
  simp only at h1 h2 h3 h6
  unfold AP.ask
  by_cases hc : (AP.who ⟨hold, msgs, waits⟩).contains x = true
  · refine (ask_waits p s F x u t w hP (by rw [h4]; exact hc)).mono ?_
    rintro e w' ⟨hh, hf⟩
    simp only [hc, if_true]
    exact ⟨hh, F, ⟨s, ⟨hP.fr0 hf, rfl⟩, h1, h2, h3, h4, by omega, by simp only; omega⟩, hf.of0, fun _ h => h, fun _ h => .inl h⟩
  · have hcf : (AP.who ⟨hold, msgs, waits⟩).contains x = false := by simpa using hc
    simp only [hcf, Bool.false_eq_true, if_false]
    cases msgs with
    | cons m r =>
      refine (ask_takes p s F x u t m r w hP (by rw [h4]; exact hcf) h2).mono ?_
      rintro e w' ⟨hh, hP', hf⟩
      exact ⟨hh, F, ⟨_, ⟨hP', rfl⟩, h1, rfl, h3, h4, by simp only; omega, by simp only; omega⟩, hf, fun _ h => h, fun _ h => .inl h⟩
    | nil =>
      by_cases hl : cut u ≤ cut t
      · refine (ask_late p s F x u t w hP (by rw [h4]; exact hcf) h2 hl).mono ?_
        rintro e w' ⟨hh, hf⟩
        simp only [if_pos hl]
        exact ⟨hh, F, ⟨s, ⟨hP.fr0 hf, rfl⟩, h1, h2, h3, h4, by omega, by simp only; omega⟩, hf.of0, fun _ h => h, fun _ h => .inl h⟩
      · have hlk : look x s.ws = none := by
          cases hq : look x s.ws with
          | none => rfl
          | some e =>
            obtain ⟨he, rfl⟩ := look_some hq
            exfalso
            have : e.proc ∈ waits.map (·.1) := by rw [← who_of h3]; exact List.mem_map.2 ⟨e, he, rfl⟩
            simp [AP.who] at hcf
            obtain ⟨q, hq1, hq2⟩ := List.mem_map.1 this
            exact hcf q.2 (by rw [← hq2]; exact hq1)
        have hrl : s.row.length = waits.length := by rw [h4]; simp [AP.who]
        refine (ask_begins p s F x u t w hP (by rw [h4]; exact hcf) h2 hl hlk (by omega) hx (by omega)).mono ?_
        rintro e w' ⟨rfl, ck', F', hP', hf, hsub, hnew⟩
        simp only [if_neg hl]
        exact ⟨handed_zero _ _ _, F', ⟨_, ⟨hP', rfl⟩, h1, h2, by simp [h3, WE.pt], by simp [h4, AP.who], by simp only; omega, by simp; omega⟩, hf, hsub, hnew⟩

theorem pa_expire (p : Nat) (a : AP) (k : Nat) (F E : List Nat) (t : Int) (w : World) (h : PA w p a k F E) (hk : k ≤ 1000000) :
    Calls Try.prog 19 #[.pointer (some ⟨p, 0, none⟩), .int .i64 t] w fun e w' =>
      (∃ v, e = .returned v ∧ ∀ M : List Nat, (∀ x ∈ M, x < w.heap.size) → Rd w' 1 M v (a.expire t).2.length (ints (a.expire t).2)) ∧ PA w' p (a.expire t).1 k F E ∧ Fr F w w' := by
  obtain ⟨s, ⟨hP, rfl⟩, h1, h2, h3, h4, h5, h6⟩ := h
  obtain ⟨ck, hok⟩ := hP.wok
  have hwl : s.ws.length = a.waits.length := by rw [← h3]; simp
  refine (expire_any p s F t w hP (by omega)).mono ?_
  rintro e w' ⟨v, L, rfl, hS, hR, hP', hf⟩
  have hdue : L.filter (dueK s.ws t) = (a.expire t).2 := by
    rw [due_is hok.keys hok.sets hS t, h3]; rfl
  rw [hdue] at hR hP'
  have hmem : ∀ e ∈ s.ws, (a.expire t).2.contains e.proc = dueE t e := fun e he => by
    rw [← hdue, Bool.eq_iff_iff, List.contains_iff_mem, List.mem_filter, dueK_mem hok.keys he]
    exact ⟨fun h => h.2, fun h => ⟨hS.1.mem_iff.2 (List.mem_map.2 ⟨e, he, rfl⟩), h⟩⟩
  have hn2 : ((s.ws.filter (fun e => !dueE t e)).map (·.proc)).Nodup := hok.keys.sublist ((List.filter_sublist).map _)
  have hms := PS.loseAll_msgs { s with ws := s.ws.filter (fun e => !dueE t e) } (a.expire t).2
  have hws2 : (PS.loseAll { s with ws := s.ws.filter (fun e => !dueE t e) } (a.expire t).2).ws = s.ws.filter (fun e => !dueE t e) := by
    rw [loseAll_ws _ _ hn2]
    refine List.filter_eq_self.2 fun e he => ?_
    obtain ⟨he1, he2⟩ := List.mem_filter.1 he
    rw [hmem e he1]
    exact he2
  have hfm : (s.ws.filter (fun e => !dueE t e)).map WE.pt = a.waits.filter (fun e => !dueT t e) := by
    rw [← h3, List.filter_map]; rfl
  refine ⟨⟨v, rfl, hR⟩, ⟨_, ⟨hP', loseAll_ext _ _⟩, by rw [hms.2]; exact h1, by rw [hms.1]; exact h2, by rw [hws2]; exact hfm, ?_, by rw [loseAll_set]; exact h5, ?_⟩, hf⟩
  · rw [loseAll_row]
    show s.row.filter _ = ((a.waits.filter (fun e => !dueT t e)).map (·.1))
    rw [h4, AP.who, ← who_of h3, ← who_of hfm, List.filter_map]
    congr 1
    exact List.filter_congr fun e he => by simp only [Function.comp]; rw [hmem e he]
  · exact Nat.le_trans (List.length_filter_le _ _) h6

theorem pa_sweep (p : Nat) (a : AP) (k : Nat) (F E : List Nat) (t : Int) (w : World) (h : PA w p a k F E) :
    Calls Try.prog 26 #[.pointer (some ⟨p, 0, none⟩), .int .i64 t] w fun e w' =>
      (∃ v ms, e = .returned v ∧ ms.map (·.1) = (a.sweep t).2 ∧ MsgsRd w' v ms) ∧ PAto w w' p (a.sweep t).1 k F E := by
  obtain ⟨s, ⟨hP, rfl⟩, h1, h2, h3, h4, h5, h6⟩ := h
  refine (sweep_any p s F t w hP).mono ?_
  rintro e w' ⟨v, ms, rfl, hms, hR, F', hP', hf, hsub, hnew⟩
  rw [h2] at hms
  exact ⟨⟨v, ms, rfl, hms, hR⟩, F', ⟨_, ⟨hP', rfl⟩, h1, by simp only [h2]; rfl, h3, h4, h5, h6⟩, hf, hsub, hnew⟩

theorem pa_flush (p : Nat) (a : AP) (k : Nat) (F E : List Nat) (w : World) (h : PA w p a k F E) (hk : k ≤ 1000000) :
    Calls Try.prog 15 #[.pointer (some ⟨p, 0, none⟩)] w fun e w' =>
      (∃ lv rv ms, e = .returned (.tuple #[lv, rv]) ∧ ms.map (·.1) = a.msgs ∧ MsgsRd w' lv ms ∧ Rd w' 1 [] rv a.who.length (ints a.who)) ∧ ∃ F', PA w' p { a with msgs := [], waits := [] } k F' E ∧ Fr F w w' ∧ (∀ x ∈ F', x ∈ F) := by
  obtain ⟨s, ⟨hP, rfl⟩, h1, h2, h3, h4, h5, h6⟩ := h
  obtain ⟨ck, hok⟩ := hP.wok
  have hrl : s.row.length = a.waits.length := by rw [h4]; simp [AP.who]
  have hml : ∀ ms : List (Msg × Value), ms.map (·.1) = s.msgs → s.msgs.length = ms.length := fun ms h => by rw [← h]; simp
  refine (flush_any p s F w hP (by omega)).mono ?_
  rintro e w' ⟨lv, rv, ms, rfl, hms, hL, hwo, hl, hR, _, hf, F', hP', hsub, _⟩
  have hpm := PS.loseAll_msgs { s with msgs := [] } s.row
  refine ⟨⟨lv, rv, ms, rfl, hms.trans h2, ⟨?_, fun x hx => (hwo x hx).mono (by simp)⟩, ?_⟩, F', ⟨_, ⟨hP', loseAll_ext _ _⟩, by rw [hpm.2]; exact h1, hpm.1, ?_, ?_, by rw [loseAll_set]; exact h5, Nat.zero_le _⟩, hf, hsub⟩
  · rw [← hml ms hms]; exact Rd.of_own hL (fun g _ hx => by simp at hx)
  · rw [← h4]; exact Rd.of_own hR (fun g _ hx => by simp at hx)
  · have hn : (PS.loseAll { s with msgs := [] } s.row).ws = [] := by
      rw [loseAll_ws { s with msgs := [] } s.row hok.keys]
      refine List.filter_eq_nil_iff.2 fun e he => ?_
      have : e.proc ∈ s.row := by rw [h4, AP.who, ← who_of h3]; exact List.mem_map.2 ⟨e, he, rfl⟩
      simp [this]
    rw [hn]; rfl
  · rw [loseAll_row]
    refine List.filter_eq_nil_iff.2 fun y hy => ?_
    simp [hy]

theorem pa_len (p : Nat) (a : AP) (k : Nat) (F E : List Nat) (w : World) (h : PA w p a k F E) :
    Calls Try.prog 20 #[.pointer (some ⟨p, 0, none⟩)] w fun e w' => e = .returned (.int .i64 a.msgs.length) ∧ w = w' := by
  obtain ⟨s, ⟨hP, rfl⟩, h1, h2, h3, h4, h5, h6⟩ := h
  rw [← h2]
  exact port_Len_any p s F w hP
theorem pa_waits (p : Nat) (a : AP) (k : Nat) (F E : List Nat) (x : Int) (w : World) (h : PA w p a k F E) :
    Calls Try.prog 28 #[.pointer (some ⟨p, 0, none⟩), .int .i64 x] w fun e w' => e = .returned (.bool (a.who.contains x)) ∧ w = w' := by
  obtain ⟨s, ⟨hP, rfl⟩, h1, h2, h3, h4, h5, h6⟩ := h
  rw [← h4]
  exact port_Waits_any p s F x w hP
theorem pa_waiting (p : Nat) (a : AP) (k : Nat) (F E : List Nat) (w : World) (h : PA w p a k F E) (hk : k ≤ 1000000) :
    Calls Try.prog 14 #[.pointer (some ⟨p, 0, none⟩)] w fun e w' => (∃ v, e = .returned v ∧ w'.ownsRow 0 3 1 v a.who.length (ints a.who) ∧ NewFrom w.heap.size v) ∧ Fr [] w w' := by
  obtain ⟨s, ⟨hP, rfl⟩, h1, h2, h3, h4, h5, h6⟩ := h
  have hrl : s.row.length = a.waits.length := by rw [h4]; simp [AP.who]
  refine (port_Waiting_any p s F w hP (by omega)).mono ?_
  rintro e w' ⟨v, rfl, h, hf, hn⟩
  rw [h4] at h
  exact ⟨⟨v, rfl, h, hn⟩, hf⟩
theorem pa_all (M : List Nat) (p : Nat) (a : AP) (k : Nat) (F E : List Nat) (w : World) (h : PA w p a k F E) (hM : ∀ x ∈ M, x < w.heap.size) :
    Calls Try.prog 13 #[.pointer (some ⟨p, 0, none⟩)] w fun e w' => (∃ v ms, e = .returned v ∧ ms.map (·.1) = a.msgs ∧ MOut w.heap.size M w' v ms) ∧ Fr [] w w' := by
  obtain ⟨s, ⟨hP, rfl⟩, h1, h2, h3, h4, h5, h6⟩ := h
  refine (port_All_any M p s F w hP hM).mono ?_
  rintro e w' ⟨v, rfl, ⟨ms, hms, ho⟩, hf⟩
  exact ⟨⟨v, ms, rfl, hms.trans h2, ho⟩, hf⟩
end Go.Proofs.Ytfadadgkgbaohaa
