/-
  Lists of messages that a call makes; the contracts of Waiting, All.
-/
import Derived.Test.YtfadadgkgbaohaaPort
set_option linter.unusedSimpArgs false
set_option linter.unusedVariables false
namespace Go.Proofs.Ytfadadgkgbaohaa
open Go.RowKit
attribute [local go_sem] max_ints min_ints

/-- A list of messages that the call has made: its row is new from B on; the words lie neither in it nor in M. -/
structure MOut (B : Nat) (M : List Nat) (w : World) (v : Value) (ms : List (Msg × Value)) : Prop where
  own : w.ownsRow 0 29 5 v ms.length (mrow ms)
  new : ∀ g, v.ownBlock = some g → B ≤ g
  words : ∀ x ∈ ms, WordsAt w (v.ownBlock.toList ++ M) x.2 x.1
  low : ∀ y ∈ M, y < B

section
variable {B : Nat} {M : List Nat} {w w' : World} {v v' : Value} {ms : List (Msg × Value)}
theorem MOut.nil (hM : ∀ y ∈ M, y < B) : MOut B M w (.slice none 0 0) [] := ⟨World.ownsRow_nil _ _ _ _, by simp [Value.ownBlock], by simp, hM⟩
theorem MOut.fr {F : List Nat} (h : MOut B M w v ms) (hf : Fr F w w') (hF : ∀ x ∈ F, x < w.heap.size → x ∈ M) (hB : B ≤ w.heap.size) : MOut B M w' v ms := by
  refine ⟨hf.own h.own fun g hg hx => ?_, h.new, fun x hx => (h.words x hx).fr hf (fun y hy hlt => List.mem_append_right _ (hF y hy hlt)), h.low⟩
  have h1 := h.new g hg
  obtain ⟨cur, hc⟩ := own_blk h.own hg
  have := h.low g (hF g hx hc.lt)
  omega
theorem MOut.fr0 (h : MOut B M w v ms) (hf : Fr [] w w') (hB : B ≤ w.heap.size) : MOut B M w' v ms := h.fr hf (by simp) hB
theorem MOut.push {m : Msg} {wv : Value} {n : Nat} (h : MOut B M w v ms) (hB : B ≤ w.heap.size) (hown : w'.ownsRow 0 29 5 v' n (mrow ms ++ m.cells wv)) (hn : n = ms.length + 1) (hf : Fr v.ownBlock.toList w w')
    (hat : v'.ownBlock = v.ownBlock ∨ v'.ownBlock = some w.heap.size) (hw : WordsAt w (v.ownBlock.toList ++ M) wv m) : MOut B M w' v' (ms ++ [(m, wv)]) := by
  subst hn
  have key : ∀ (wv : Value) (m : Msg), WordsAt w (v.ownBlock.toList ++ M) wv m → WordsAt w' (v'.ownBlock.toList ++ M) wv m := by
    intro wv m h1
    have h2 : WordsAt w (v'.ownBlock.toList ++ (v.ownBlock.toList ++ M)) wv m := h1.mono (fun x hx hlt => by
      rcases List.mem_append.1 hx with hx | hx
      · rcases hat with e | e
        · rw [e] at hx; exact List.mem_append_left _ hx
        · rw [e] at hx; simp at hx; omega
      · exact hx)
    refine (h2.fr hf (fun y hy _ => List.mem_append_right _ (List.mem_append_left _ hy))).mono (fun x hx _ => ?_)
    rcases List.mem_append.1 hx with hx | hx
    · exact List.mem_append_left _ hx
    · exact List.mem_append_right _ (List.mem_append_right _ hx)
  refine ⟨by rw [mrow_append]; simpa [mrow] using hown, fun g hg => ?_, fun x hx => ?_, h.low⟩
  · rcases hat with h1 | h1
    · exact h.new g (by rw [← h1]; exact hg)
    · rw [h1] at hg; injection hg with hg; omega
  · rcases List.mem_append.1 hx with hx | hx
    · exact key _ _ (h.words x hx)
    · simp at hx; subst hx; exact key _ _ hw
theorem rd_built (w : World) (m : Msg) (wv : Value) : Rd (w.alloc (.cells #[wv, .int .i64 m.lane, .int .i64 m.stamp, .int .i64 m.late, .int .i64 m.seq] 29)) 5 [] (.slice (some ⟨w.heap.size, 0, none⟩) 1 1) 1 (m.cells wv) := by
  refine ⟨_, 1, rfl, by simp [Msg.cells], Nat.le_refl _, by simp [maxLen], (fun e => nomatch e), fun _ => ⟨_, rfl, by simp, fun j u hu => ?_⟩⟩
  rw [add_head, (Blk.new w _ _).cell]
  simpa [Msg.cells] using hu
end

set_option maxHeartbeats 400000 in
theorem port_Waiting_any (p : Nat) (s : PS) (F : List Nat) (w : World) (h : PortAt w p s F) (hn : s.row.length ≤ 1048576) :
    Calls Try.prog 14 #[.pointer (some ⟨p, 0, none⟩)] w fun e w' => ∃ v, e = .returned v ∧ w'.ownsRow 0 3 1 v s.row.length (ints s.row) ∧ Fr [] w w' ∧ NewFrom w.heap.size v := by
  obtain ⟨wh, m, lv, rv, ms, hB, hW, hR, hL, hms, hwo, hp, hwh, hm, hl, hr⟩ := h.ex
  obtain ⟨b0, b1, b2, b3⟩ := hB.four
  have hRd := Rd.of_own (M := []) hR (fun g _ hx => by simp at hx)
  have hcl := clone_any [] rv s.row.length s.row w hRd (by omega)
  clear hB hW hR hL hwo hl hr h hms hRd
  go_enter Try.func14, Try.ntmps14
  go_wp2_with (go_at_call 36; refine hcl.mono ?_; rintro e w' ⟨v', rfl, h1, h2, h3, _⟩)
  go_ret
  exact ⟨v', rfl, h1, h2, h3⟩

theorem mcells_one (m : Msg) {wv : Value} (h : wv.oneCell' = true) : ∀ u ∈ m.cells wv, u.oneCell' = true := by
  intro u hu
  simp only [Msg.cells, List.mem_cons, List.not_mem_nil, or_false] at hu
  rcases hu with rfl | rfl | rfl | rfl | rfl
  · exact h
  all_goals rfl

/-- The cells of the k-th message. -/
theorem mrow_at {ms : List (Msg × Value)} {k : Nat} (hk : k < ms.length) {j : Nat} (hj : j < 5) : (mrow ms)[k * 5 + j]? = (ms[k].1.cells ms[k].2)[j]? := by
  induction ms generalizing k with
  | nil => simp at hk
  | cons a r ih =>
    rw [mrow_cons]
    cases k with
    | zero => rw [List.getElem?_append_left (by simp [Msg.cells]; omega)]; simp
    | succ k =>
      rw [List.getElem?_append_right (by simp [Msg.cells]; omega)]
      have : (k + 1) * 5 + j - (a.1.cells a.2).length = k * 5 + j := by simp [Msg.cells]; omega
      rw [this]
      exact ih (by simpa using hk)

/-- A row of messages read: the five cells of the k-th. -/
theorem Rd.msg {w : World} {M : List Nat} {A : Option Addr} {n c : Nat} {ms : List (Msg × Value)} (h : Rd w 5 M (.slice A n c) n (mrow ms)) (hn : ms.length = n) {k : Nat} (hk : k < n) :
    ∃ g o, A = some ⟨g, o, none⟩ ∧ w.cell? ⟨g, o + k * 5, none⟩ = some (ms[k]).2 ∧ w.cell? ⟨g, o + k * 5 + 1, none⟩ = some (.int .i64 (ms[k]).1.lane) ∧ w.cell? ⟨g, o + k * 5 + 2, none⟩ = some (.int .i64 (ms[k]).1.stamp) ∧
      w.cell? ⟨g, o + k * 5 + 3, none⟩ = some (.int .i64 (ms[k]).1.late) ∧ w.cell? ⟨g, o + k * 5 + 4, none⟩ = some (.int .i64 (ms[k]).1.seq) := by
  obtain ⟨A', c', e, hl, h1, h2, h4, h3⟩ := h
  obtain ⟨ad, rfl, hb, hc⟩ := h3 (by omega)
  injection e with e1 e2 e3
  have hk' : k < ms.length := by omega
  have f : ∀ j u, j < 5 → ((ms[k]).1.cells (ms[k]).2)[j]? = some u → w.cell? (ad.add (k * 5 + j)) = some u := fun j u hj hu => hc _ _ (by rw [mrow_at hk' hj]; exact hu)
  have hs : ad.spot = none := by
    have hk0 : 0 < ms.length := by omega
    have h0 := hc 0 ms[0].2 (by have := mrow_at hk0 (j := 0) (by omega); simpa [Msg.cells] using this)
    rw [add_zero_] at h0
    unfold World.cell? at h0
    cases hsp : ad.spot with
    | none => rfl
    | some x =>
      rw [hsp] at h0
      split at h0 <;> simp at h0
  obtain ⟨g, o, sp⟩ := ad
  simp only at hs
  subst hs
  have hadd : ∀ j, (⟨g, o, none⟩ : Addr).add j = ⟨g, o + j, none⟩ := fun j => by unfold Addr.add; split <;> simp_all
  simp only [hadd] at f
  exact ⟨g, o, e1, f 0 _ (by omega) rfl, f 1 _ (by omega) rfl, f 2 _ (by omega) rfl, f 3 _ (by omega) rfl, f 4 _ (by omega) rfl⟩

set_option maxHeartbeats 1000000 in
set_option maxRecDepth 100000 in
theorem port_All_any (M : List Nat) (p : Nat) (s : PS) (F : List Nat) (w : World) (h : PortAt w p s F) (hM : ∀ x ∈ M, x < w.heap.size) :
    Calls Try.prog 13 #[.pointer (some ⟨p, 0, none⟩)] w fun e w' => ∃ v, e = .returned v ∧ (∃ ms, ms.map (·.1) = s.msgs ∧ MOut w.heap.size M w' v ms) ∧ Fr [] w w' := by
  obtain ⟨wh, m, lv, rv, ms, hB, hW, hR, hL, hms, hwo, hp, hwh, hm, hl, hr⟩ := h.ex
  obtain ⟨b0, b1, b2, b3⟩ := hB.four
  have hroom := h.room
  have hRd := Rd.of_own (M := []) hL (fun g _ hx => by simp at hx)
  have hlen : ms.length = s.msgs.length := by rw [← hms]; simp
  have hW0 : ∀ x ∈ ms, WordsAt w [] x.2 x.1 := fun x hx => (hwo x hx).mono (by simp)
  obtain ⟨A, c, rfl, _⟩ := own_form hL
  generalize hn : s.msgs.length = n at *
  have HN := Lib.hid hn
  have HMS := Lib.hid hms
  have HL := Lib.hid hlen
  have HM := Lib.hid hM
  have HR := Lib.hid hRd
  have HW0 := Lib.hid hW0
  have hmax := hRd.max
  clear hB hW hR hL hwo hl hr h hms hn hlen hM hRd hW0
  go_enter Try.func13, Try.ntmps13
  go_wp2
  go_loopw [3, 13] (fun vo vi wr => ∃ (k : Nat) (ms' : List (Msg × Value)), vi = .int .i64 k ∧ k ≤ n ∧ Hid (ms'.map (·.1) = s.msgs.take k) ∧ MOut w.heap.size M wr vo ms' ∧ Fr [] w wr) (fun _ vi _ => n - (intOf vi).toNat)
  case atStart => exact ⟨0, [], rfl, by omega, by simp [Hid], MOut.nil HM.out, Fr.refl _ _⟩
  case round =>
    obtain ⟨k, ms', rfl, hk, HT, hout, hfr⟩ := hrel
    by_cases hlt : k < n
    · obtain ⟨g, o, rfl, c0, c1, c2, c3, c4⟩ := (HR.out.fr hfr (by simp)).msg HL.out hlt
      have hkl : k < ms.length := by rw [HL.out]; exact hlt
      have hwk := HW0.out ms[k] (List.getElem_mem hkl)
      have Hmk := Lib.hid (show ms[k] = ms[k] from rfl)
      obtain ⟨mk, hmk⟩ : ∃ x, ms[k] = x := ⟨_, rfl⟩
      rw [hmk] at c0 c1 c2 c3 c4 hwk
      have HMK := Lib.hid hmk
      clear hmk Hmk
      obtain ⟨⟨zs, l, st, la, sq⟩, wv⟩ := mk
      simp only at c0 c1 c2 c3 c4 hwk
      have hwk' := hwk.fr0 hfr
      obtain ⟨A2, cc2, rfl, _⟩ := hwk.1
      go_wp2_with fail
      refine (lane_clone_any [] ⟨zs, l, st, la, sq⟩ (.slice A2 zs.length cc2) _ (hwk'.fr0 ((Fr.refl _ _).alloc _))).mono ?_
      rintro e w2 ⟨wv2, rfl, hwn, hf2, h1c⟩
      have hsz := hfr.size
      have hfw2 : Fr [] wr w2 := ((Fr.refl [] wr).alloc _).trans0 hf2
      have ho2 := hout.fr0 hfw2 hsz
      have hsz2 := hfw2.size
      have hwv2 := hwn (u3.ownBlock.toList ++ M) (fun y hy => by
        rcases List.mem_append.1 hy with hy | hy
        · simp at hy
          obtain ⟨cur, hc⟩ := own_blk hout.own hy
          have := hc.lt
          simp
          omega
        · have := HM.out y hy
          simp
          omega)
      have hlen' : ms'.length = k := by
        have h1 := congrArg List.length HT.out
        have h2 := HN.out
        simp at h1
        omega
      have hk8 : n ≤ 8 := by omega
      obtain ⟨A3, cc3, rfl, _⟩ := hwv2.1
      simp only [Msg.val]
      have H2 := Lib.hid ho2
      have HV2 := Lib.hid hwv2
      have HS := Lib.hid hsz2
      have HLEN := Lib.hid hlen'
      clear ho2 hwv2 hsz2 hlen' hwn c0 c1 c2 c3 c4 hwk hwk'
      go_wp2_with (at_builtin; refine wpList_app _ rfl msg_elem _ _ rfl u3 ms'.length (mrow ms') (by rfl) (H2.out.fr0 ((Fr.refl _ _).alloc _) (by have := HS.out; omega)).own [] (.slice (some ⟨w2.heap.size, 0, none⟩) 1 1) 1 (Msg.cells ⟨zs, l, st, la, sq⟩ (.slice A3 zs.length cc3)) (by rfl) (rd_built w2 ⟨zs, l, st, la, sq⟩ _) (mcells_one _ rfl) (by have := HLEN.out; omega) (by have := HLEN.out; simp only [maxLen]; omega) ?_; intro v1 w3 hown hfa hat)
      go_roundw
      case rel =>
        refine ⟨k + 1, ms' ++ [(⟨zs, l, st, la, sq⟩, .slice A3 zs.length cc3)], by go_num, by omega, ?_, ?_, ?_⟩
        · have h0 : (ms'.map (·.1)) ++ [⟨zs, l, st, la, sq⟩] = s.msgs.take (k + 1) := by
            have hkm : k < s.msgs.length := by have := HN.out; omega
            rw [HT.out, List.take_succ_eq_append_getElem hkm]
            congr 2
            have h1 := HMK.out
            have h2 : s.msgs[k] = ms[k].1 := by simp only [← HMS.out, List.getElem_map]
            rw [h2, h1]
          simpa [Hid] using h0
        · exact (H2.out.fr0 ((Fr.refl _ _).alloc _) (by have := HS.out; omega)).push (by have := HS.out; simp; omega) hown (by omega) hfa hat (HV2.out.fr0 ((Fr.refl _ _).alloc _))
        · refine ((hfr.trans0 hfw2).alloc _).trans hfa ?_
          intro x hx hlt
          simp at hx
          have := H2.out.new x hx
          omega
      case measure => simp [intOf]; omega
    · have hkn : k = n := by omega
      subst hkn
      go_wp2
      go_ret
      refine ⟨_, rfl, ⟨ms', ?_, hout⟩, hfr⟩
      rw [HT.out]
      exact List.take_of_length_le (by have := HN.out; omega)
end Go.Proofs.Ytfadadgkgbaohaa
