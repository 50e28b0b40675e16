/-
  The reference of the queue: Expire.
-/
import Derived.Test.YtfadadgkgbaohaaR18d
import Derived.Test.YtfadadgkgbaohaaSel
set_option linter.unusedSimpArgs false
set_option linter.unusedVariables false
namespace Go.Proofs.Ytfadadgkgbaohaa
open Go.RowKit
attribute [local go_sem] max_ints min_ints

def lenOf : Value → Nat
  | .slice _ n _ => n
  | _ => 0

/-- What Expire of the reference gives. -/
def RefExpire (w w' : World) (M : List Nat) (a : AP) (t : Int) (e : Ending) : Prop :=
  ∃ lv' wv' v, e = .returned (.tuple #[rval (a.expire t).1 lv' wv', v]) ∧ RefAt w' M lv' wv' (a.expire t).1 ∧ w'.ownsRow 0 3 1 v (a.expire t).2.length (ints (a.expire t).2) ∧ NewFrom w.heap.size v ∧ Fr [] w w'

theorem Rd.sub {w : World} {k n c j : Nat} {A : Option Addr} {M : List Nat} {xa xb : List Value} (h : Rd w k M (.slice A n c) n (xa ++ xb)) (hx : xa.length = j * k) (hj : j ≤ n) : Rd w k M (.slice A j c) j xa := by
  obtain ⟨A', c', e, hl, h1, h2, h4, h3⟩ := h
  injection e with e1 e2 e3
  subst e1 e3
  refine ⟨_, _, rfl, hx, by omega, h2, h4, fun hn => ?_⟩
  obtain ⟨ad, ha, hb, hc⟩ := h3 (by omega)
  exact ⟨ad, ha, hb, fun i u hu => hc i u (by rw [List.getElem?_append_left (List.getElem?_eq_some_iff.1 hu).1]; exact hu)⟩
theorem Rd.drop_ {w : World} {k n c g o j : Nat} {M : List Nat} {xa xb : List Value} (h : Rd w k M (.slice (some ⟨g, o, none⟩) n c) n (xa ++ xb)) (hx : xa.length = j * k) (hj : j ≤ n) : Rd w k M (.slice (some ⟨g, o + j * k, none⟩) (n - j) (c - j)) (n - j) xb := by
  obtain ⟨A', c', e, hl, h1, h2, h4, h3⟩ := h
  injection e with e1 e2 e3
  subst e1 e3
  refine ⟨_, _, rfl, ?_, by omega, by omega, (fun e => nomatch e), fun hn => ?_⟩
  · rw [List.length_append, hx] at hl; rw [Nat.sub_mul]; omega
  · obtain ⟨ad, ha, hb, hc⟩ := h3 (by omega)
    injection ha with ha
    subst ha
    refine ⟨_, rfl, hb, fun i u hu => ?_⟩
    have h5 := hc (j * k + i) u (by rw [List.getElem?_append_right (by omega)]; rw [hx]; simpa using hu)
    have : (⟨g, o, none⟩ : Addr).add (j * k + i) = (⟨g, o + j * k, none⟩ : Addr).add i := by
      by_cases hi : i = 0 <;> by_cases hj0 : j * k = 0 <;> simp [Addr.add, hi, hj0, Nat.add_assoc]
      all_goals (intros; simp_all)
    rw [← this]; exact h5

/-- Between two rounds: who is left, who is told. -/
structure ExpAt (t : Int) (a : AP) (L : List (Int × Int)) (zs : List Int) : Prop where
  out : zs ++ ((srtT L).filter (dueT t)).map (·.1) = (a.expire t).2
  left : L.filter (fun e => !dueT t e) = (a.expire t).1.waits
  len : zs.length + L.length = a.waits.length
  tills : ∀ e ∈ L, cut e.2 = e.2

theorem ExpAt.next {t : Int} {a : AP} {L : List (Int × Int)} {zs : List Int} {j : Nat} (h : ExpAt t a L zs) (hl : Least t L L.length j) (hj : j < L.length) : ExpAt t a (L.take j ++ L.drop (j + 1)) (zs ++ [(L[j]).1]) := by
  obtain ⟨h1, h2⟩ := hl.pick hj
  refine ⟨?_, h2.trans h.left, ?_, fun e he => ?_⟩
  · rw [← h.out, h1]; simp
  · have := h.len; simp; omega
  · rcases List.mem_append.1 he with he | he
    · exact h.tills e (List.mem_of_mem_take he)
    · exact h.tills e (List.mem_of_mem_drop he)

set_option maxHeartbeats 8000000 in
set_option maxRecDepth 100000 in
theorem refexpire_any (M : List Nat) (lv wv : Value) (a : AP) (t : Int) (w : World) (h : RefAt w M lv wv a) (hM : ∀ x ∈ M, x < w.heap.size) (hk : a.waits.length ≤ 1000000) (htill : ∀ e ∈ a.waits, cut e.2 = e.2) :
    Calls Try.prog 24 #[rval a lv wv, .int .i64 t] w fun e w' => RefExpire w w' M a t e := by
  obtain ⟨A, c, rfl, _⟩ := id h.waits
  obtain ⟨ms, hms, hrl, hwo⟩ := h.msgs
  obtain ⟨A2, c2, rfl, _⟩ := id hrl
  obtain ⟨n0, hn0⟩ : ∃ n, n = a.waits.length := ⟨_, rfl⟩
  have hw0 := h.waits
  rw [← hn0] at hw0 hk
  obtain ⟨lx, hlx⟩ : ∃ v, v = Value.slice A2 a.msgs.length c2 := ⟨_, rfl⟩
  obtain ⟨w1, hw1⟩ : ∃ y, (w.alloc (.cells #[.int .i64 a.hold, .slice A2 a.msgs.length c2, .slice A a.waits.length c] 51)).alloc (.cells #[.int .i64 0, .slice none 0 0, .slice none 0 0] 51) = y := ⟨_, rfl⟩
  have hf1 : Fr [] w w1 := by rw [← hw1]; exact ((Fr.refl _ _).alloc _).alloc _
  have hB1 : Blk w1 w.heap.size 51 #[.int .i64 a.hold, .slice A2 a.msgs.length c2, .slice A a.waits.length c] := by rw [← hw1]; exact (Blk.new _ _ _).alloc _
  have hB2 : Blk w1 (w.heap.size + 1) 51 #[.int .i64 0, .slice none 0 0, .slice none 0 0] := by rw [← hw1]; exact Blk.new' _ _ _ (by simp)
  have hlt2 : w.heap.size + 1 < w1.heap.size := hB2.lt
  have hR1 : Rd w1 2 (M ++ [w.heap.size, w.heap.size + 1]) (.slice A a.waits.length c) a.waits.length (wrow a.waits) := (h.waits.mono (fun x hx hlt => by
    rcases List.mem_append.1 hx with hx | hx
    · exact hx
    · simp at hx; omega) (by omega)).fr hf1 (by simp)
  have H := Lib.hid h
  have HB := Lib.hid hB2
  have HF1 := Lib.hid hf1
  have HB1 := Lib.hid hB1
  have HR1 := Lib.hid hR1
  have hE : ExpAt t a a.waits [] := ⟨by simp [AP.expire], rfl, by simp, htill⟩
  have HE := Lib.hid hE
  have HN0 := Lib.hid hn0
  clear hB1 hB2 hf1 hms hrl hwo h hw0 hR1 hE hlx hn0 htill
  unfold rval
  go_enter Try.func24, Try.ntmps24
  go_wp2_with fail
  go_loopw [6] (fun vo wr => ∃ (L : List (Int × Int)) (zs : List Int) (A' : Option Addr) (c' : Nat), Hid (ExpAt t a L zs) ∧ Blk wr w.heap.size 51 #[.int .i64 a.hold, .slice A2 a.msgs.length c2, .slice A' L.length c'] ∧
    Rd wr 2 (vo.ownBlock.toList ++ (M ++ [w.heap.size, w.heap.size + 1])) (.slice A' L.length c') L.length (wrow L) ∧ wr.ownsRow 0 3 1 vo zs.length (ints zs) ∧ NewFrom w1.heap.size vo ∧ Fr [w.heap.size] w1 wr) (fun vo _ => n0 - lenOf vo)
  case atStart => exact ⟨a.waits, [], A, c, HE, HB1.out, by simpa [Value.ownBlock] using HR1.out, World.ownsRow_nil _ _ _ _, by simp [NewFrom, Value.ownBlock], Fr.refl _ _⟩
  case round =>
    obtain ⟨wo, rfl⟩ : ∃ x, x = wr := ⟨_, rfl⟩
    obtain ⟨L, zs, A', c', HX, hB, hR, hown, hnew, hfr⟩ := hrel
    obtain ⟨A6, c6, rfl, _⟩ := own_form hown
    have hlL := HX.out.len
    have hl6 : L.length ≤ 1000000 := by have := HN0.out; omega
    have hmaxL := hR.max
    have hz6 : zs.length ≤ 1000000 := by have := HN0.out; omega
    have HBB := Lib.hid hB
    have HRR := Lib.hid hR
    have HOO := Lib.hid hown
    have HNN := Lib.hid hnew
    have HLEN := Lib.hid hlL
    obtain ⟨nL, hnL⟩ : ∃ n, n = L.length := ⟨_, rfl⟩
    have HNL := Lib.hid hnL
    clear hB hR hown hnew hlL hnL
    go_wp2_with fail
    go_loopw [7, 8] (fun vf vi wi => ∃ k : Nat, vi = .int .i64 k ∧ k ≤ L.length ∧ ((vf = .int .i64 (-1) ∧ Hid (NoneDue t L k)) ∨ ∃ j : Nat, vf = .int .i64 j ∧ j < k ∧ Hid (Least t L k j)) ∧ Fr [] wo wi) (fun _ vi _ => L.length - (intOf vi).toNat)
    case atStart => exact ⟨0, rfl, by omega, .inl ⟨rfl, fun i hi => by omega⟩, Fr.refl _ _⟩
    case round =>
      obtain ⟨k, rfl, hk', hcase, hfi⟩ := hrel
      have q2 : ∀ W, Fr [] wr W → W.cell? ⟨w.heap.size, 2, none⟩ = some (.slice A' L.length c') := fun W hW => ((HBB.out.fr hfi (by simp)).fr hW (by simp)).cell 2
      have q2' := q2 wr (Fr.refl _ _)
      by_cases hlt : k < L.length
      · obtain ⟨g, o, hl, rfl, _, _, _⟩ := (HRR.out.fr hfi (by simp)).wait rfl hlt
        have p1 : ∀ W, Fr [] wr W → W.cell? ⟨g, o + k * 2 + 1, none⟩ = some (.int .i64 (L[k]).2) := fun W hW => by
          obtain ⟨g1, o1, _, e1, _, _, h2⟩ := (HRR.out.fr (hfi.trans' hW) (by simp)).wait rfl hlt
          injection e1 with e1
          injection e1 with e1 e2
          subst e1 e2
          exact h2
        have hcu : cut (L[k]).2 = (L[k]).2 := HX.out.tills _ (List.getElem_mem hl)
        have hdu : dueT t (L[k]) = decide ((L[k]).2 ≤ cut t) := by unfold dueT; rw [hcu]
        have HDU := Lib.hid hdu
        clear hdu hcu
        obtain ⟨z, hz⟩ : ∃ z, z = (L[k]).2 := ⟨_, rfl⟩
        rw [← hz] at p1
        have HZ := Lib.hid hz
        clear hz
        by_cases hd : z ≤ cut t
        · have hdue : dueT t (L[k]) = true := by rw [HDU.out, ← HZ.out]; simpa using hd
          have HD := Lib.hid hdue
          clear hdue
          rcases hcase with ⟨rfl, hnone⟩ | ⟨j, rfl, hjk, hlst⟩
          · have HNO := Lib.hid hnone
            clear hnone
            go_wp2_with fail
            refine wp_sched 27 [(0, 0), (1, 0), (2, 0), (3, 0), (4, 0), (5, 0), (6, 0), (7, 1), (8, 0), (9, 0), (10, 0), (11, 0), (12, 0), (13, 0), (14, 0), (15, 0), (16, 0), (17, 0), (18, 0), (19, 0), (20, 0), (21, 0), (22, 0), (23, 0), (24, 0), (25, 0), (26, 0), (27, 2)] (fun W => Fr [] wr W) (by kernel_rfl) (by kernel_rfl) (fun _ _ _ _ _ h => h) ((Fr.refl [] wr).drew) ?_
            iterate 7
              refine at_read (v := ?_) rfl (by first | rfl | kernel_rfl) ?_ ?_
              rotate_left
              · intro W hW
                go_simp
                try with_reducible rfl
              simp only [Act.put, List.setIfInBounds_toArray, List.set_cons_zero, List.set_cons_succ]
            refine at_eff rfl (fun K hK => ?_)
            go_simp
            refine (refcut_any _ _).mono ?_
            rintro e w2 ⟨rfl, rfl⟩
            go_simp
            refine hK _ _ ((Fr.refl [] wr).drew) ?_
            clear hK K
            try simp only [Act.put, List.setIfInBounds_toArray, List.set_cons_zero, List.set_cons_succ]
            iterate 5
              refine at_read (v := ?_) rfl (by first | rfl | kernel_rfl) ?_ ?_
              rotate_left
              · intro W hW
                go_simp
                try with_reducible rfl
              simp only [Act.put, List.setIfInBounds_toArray, List.set_cons_zero, List.set_cons_succ]
            iterate 13
              refine at_skip rfl (by rfl) ?_
              simp only [Act.put, List.setIfInBounds_toArray, List.set_cons_zero, List.set_cons_succ]
            iterate 1
              refine at_read (v := ?_) rfl (by first | rfl | kernel_rfl) ?_ ?_
              rotate_left
              · intro W hW
                go_simp
                try with_reducible rfl
              simp only [Act.put, List.setIfInBounds_toArray, List.set_cons_zero, List.set_cons_succ]
            refine at_last rfl (fun K hK => ?_)
            go_simp
            refine hK _ _ ?_
            clear hK K
            try simp only [Act.put, List.setIfInBounds_toArray, List.set_cons_zero, List.set_cons_succ]
            refine sched_nil ?_
            go_wp2
            go_roundw
            case rel => exact ⟨k + 1, by go_num, by omega, .inr ⟨k, rfl, by omega, Least.start HNO.out hl HD.out⟩, hfi.drew⟩
            case measure => simp [intOf]; omega
          · have hjl : j < L.length := by omega
            have pj : ∀ W, Fr [] wr W → W.cell? ⟨g, o + j * 2 + 1, none⟩ = some (.int .i64 (L[j]).2) := fun W hW => by
              obtain ⟨g1, o1, _, e1, _, _, h2⟩ := (HRR.out.fr (hfi.trans' hW) (by simp)).wait rfl hjl
              injection e1 with e1
              injection e1 with e1 e2
              subst e1 e2
              exact h2
            obtain ⟨zj, hzj⟩ : ∃ z, z = (L[j]).2 := ⟨_, rfl⟩
            rw [← hzj] at pj
            have HZJ := Lib.hid hzj
            have HLS := Lib.hid hlst
            clear hzj hlst
            by_cases hzz : z < zj
            · go_wp2_with fail
              refine wp_sched 27 [(0, 0), (1, 0), (2, 0), (3, 0), (4, 0), (5, 0), (6, 0), (7, 1), (8, 0), (9, 0), (10, 0), (11, 0), (12, 0), (13, 0), (14, 0), (15, 0), (16, 0), (17, 0), (18, 0), (19, 0), (20, 0), (21, 0), (22, 0), (23, 0), (24, 0), (25, 0), (26, 0), (27, 2)] (fun W => Fr [] wr W) (by kernel_rfl) (by kernel_rfl) (fun _ _ _ _ _ h => h) ((Fr.refl [] wr).drew) ?_
              iterate 7
                refine at_read (v := ?_) rfl (by first | rfl | kernel_rfl) ?_ ?_
                rotate_left
                · intro W hW
                  go_simp
                  try with_reducible rfl
                simp only [Act.put, List.setIfInBounds_toArray, List.set_cons_zero, List.set_cons_succ]
              refine at_eff rfl (fun K hK => ?_)
              go_simp
              refine (refcut_any _ _).mono ?_
              rintro e w2 ⟨rfl, rfl⟩
              go_simp
              refine hK _ _ ((Fr.refl [] wr).drew) ?_
              clear hK K
              try simp only [Act.put, List.setIfInBounds_toArray, List.set_cons_zero, List.set_cons_succ]
              iterate 19
                refine at_read (v := ?_) rfl (by first | rfl | kernel_rfl) ?_ ?_
                rotate_left
                · intro W hW
                  go_simp
                  try with_reducible rfl
                simp only [Act.put, List.setIfInBounds_toArray, List.set_cons_zero, List.set_cons_succ]
              refine at_last rfl (fun K hK => ?_)
              go_simp
              refine hK _ _ ?_
              clear hK K
              try simp only [Act.put, List.setIfInBounds_toArray, List.set_cons_zero, List.set_cons_succ]
              refine sched_nil ?_
              go_wp2
              go_roundw
              case rel => exact ⟨k + 1, by go_num, by omega, .inr ⟨k, rfl, by omega, HLS.out.next hl HD.out (by rw [← HZ.out, ← HZJ.out]; exact hzz)⟩, hfi.drew⟩
              case measure => simp [intOf]; omega
            · go_wp2_with fail
              refine wp_sched 27 [(0, 0), (1, 0), (2, 0), (3, 0), (4, 0), (5, 0), (6, 0), (7, 1), (8, 0), (9, 0), (10, 0), (11, 0), (12, 0), (13, 0), (14, 0), (15, 0), (16, 0), (17, 0), (18, 0), (19, 0), (20, 0), (21, 0), (22, 0), (23, 0), (24, 0), (25, 0), (26, 0), (27, 2)] (fun W => Fr [] wr W) (by kernel_rfl) (by kernel_rfl) (fun _ _ _ _ _ h => h) ((Fr.refl [] wr).drew) ?_
              iterate 7
                refine at_read (v := ?_) rfl (by first | rfl | kernel_rfl) ?_ ?_
                rotate_left
                · intro W hW
                  go_simp
                  try with_reducible rfl
                simp only [Act.put, List.setIfInBounds_toArray, List.set_cons_zero, List.set_cons_succ]
              refine at_eff rfl (fun K hK => ?_)
              go_simp
              refine (refcut_any _ _).mono ?_
              rintro e w2 ⟨rfl, rfl⟩
              go_simp
              refine hK _ _ ((Fr.refl [] wr).drew) ?_
              clear hK K
              try simp only [Act.put, List.setIfInBounds_toArray, List.set_cons_zero, List.set_cons_succ]
              iterate 19
                refine at_read (v := ?_) rfl (by first | rfl | kernel_rfl) ?_ ?_
                rotate_left
                · intro W hW
                  go_simp
                  try with_reducible rfl
                simp only [Act.put, List.setIfInBounds_toArray, List.set_cons_zero, List.set_cons_succ]
              refine at_last rfl (fun K hK => ?_)
              go_simp
              refine hK _ _ ?_
              clear hK K
              try simp only [Act.put, List.setIfInBounds_toArray, List.set_cons_zero, List.set_cons_succ]
              refine sched_nil ?_
              go_wp2
              go_roundw
              case rel => exact ⟨k + 1, by go_num, by omega, .inr ⟨j, rfl, by omega, HLS.out.keep hl (fun _ => by rw [← HZ.out, ← HZJ.out]; omega)⟩, hfi.drew⟩
              case measure => simp [intOf]; omega
        · have hdue : dueT t (L[k]) = false := by rw [HDU.out, ← HZ.out]; simpa using hd
          have hdb : decide (z ≤ cut t) = false := by simpa using hd
          have HD := Lib.hid hdue
          have HCA := Lib.hid hcase
          clear hdue hcase
          go_wp2_with fail
          refine wp_sched 27 [(0, 0), (1, 0), (2, 0), (3, 0), (4, 0), (5, 0), (6, 0), (7, 1), (8, 0), (9, 0), (10, 0), (11, 0), (12, 0), (13, 0), (14, 0), (15, 0), (16, 0), (17, 0), (18, 0), (19, 0), (20, 0), (21, 0), (22, 0), (23, 0), (24, 0), (25, 0), (26, 0), (27, 2)] (fun W => Fr [] wr W) (by kernel_rfl) (by kernel_rfl) (fun _ _ _ _ _ h => h) ((Fr.refl [] wr).drew) ?_
          iterate 7
            refine at_read (v := ?_) rfl (by first | rfl | kernel_rfl) ?_ ?_
            rotate_left
            · intro W hW
              go_simp
              try with_reducible rfl
            simp only [Act.put, List.setIfInBounds_toArray, List.set_cons_zero, List.set_cons_succ]
          refine at_eff rfl (fun K hK => ?_)
          go_simp
          refine (refcut_any _ _).mono ?_
          rintro e w2 ⟨rfl, rfl⟩
          go_simp
          refine hK _ _ ((Fr.refl [] wr).drew) ?_
          clear hK K
          try simp only [Act.put, List.setIfInBounds_toArray, List.set_cons_zero, List.set_cons_succ]
          iterate 2
            refine at_read (v := ?_) rfl (by first | rfl | kernel_rfl) ?_ ?_
            rotate_left
            · intro W hW
              go_simp
              try with_reducible rfl
            simp only [Act.put, List.setIfInBounds_toArray, List.set_cons_zero, List.set_cons_succ]
          iterate 17
            refine at_skip rfl (by rfl) ?_
            simp only [Act.put, List.setIfInBounds_toArray, List.set_cons_zero, List.set_cons_succ]
          refine at_last rfl (fun K hK => ?_)
          go_simp
          refine hK _ _ ?_
          clear hK K
          try simp only [Act.put, List.setIfInBounds_toArray, List.set_cons_zero, List.set_cons_succ]
          refine sched_nil ?_
          go_wp2
          go_roundw
          case rel =>
            refine ⟨k + 1, by go_num, by omega, ?_, hfi.drew⟩
            rcases HCA.out with ⟨h1, h2⟩ | ⟨j, h1, h2, h3⟩
            · exact .inl ⟨h1, h2.next hl HD.out⟩
            · exact .inr ⟨j, h1, by omega, Least.keep h3 hl (fun hx => by rw [HD.out] at hx; simp at hx)⟩
          case measure => simp [intOf]; omega
      · have hkn : k = L.length := by omega
        subst hkn
        rcases hcase with ⟨rfl, hnone⟩ | ⟨j, rfl, hjk, hlst⟩
        · have HNO := Lib.hid hnone
          clear hnone
          have hB3 := (HBB.out.fr hfi (by simp))
          have hY3 := ((HB.out.fr hfr (by simp)).fr hfi (by simp))
          obtain ⟨x0, x1, x2⟩ := hB3.three
          obtain ⟨y0, y1, y2⟩ := hY3.three
          have fy := hY3.froz
          have fin : ∀ W, Fr [w.heap.size + 1] wr W → RefExpire w W M a t (.returned (.tuple #[.agg #[.int .i64 a.hold, .slice A2 a.msgs.length c2, .slice A' L.length c'], .slice A6 zs.length c6])) := fun W hW => by
            have hw1s := HF1.out.size
            have hfW : Fr [] w W := ((HF1.out.trans hfr (fun x hx hlt => by simp at hx; omega)).trans' hfi).trans hW (fun x hx hlt => by simp at hx; omega)
            obtain ⟨hn1, hn2⟩ := NoneDue.filter HNO.out
            have hz := HX.out.out
            rw [filter_srtT, hn1] at hz
            simp only [srtT, List.map_nil, List.append_nil] at hz
            have hL := HX.out.left
            rw [hn2] at hL
            have hoW : W.ownsRow 0 3 1 (.slice A6 zs.length c6) zs.length (ints zs) := hW.own (hfi.own HOO.out (by simp)) (fun g hg hx => by have := HNN.out g hg; simp at hx; omega)
            have hrW : Rd W 2 M (.slice A' L.length c') L.length (wrow L) := ((HRR.out.fr hfi (by simp)).fr hW (fun x hx _ => by simp at hx; subst hx; simp)).mono (fun x hx _ => List.mem_append_right _ (List.mem_append_left _ hx)) (by omega)
            refine ⟨_, _, _, rfl, ⟨?_, ?_⟩, ?_, fun g hg => by have := HNN.out g hg; omega, hfW⟩
            · obtain ⟨ms0, h1, h2, h3⟩ := H.out.msgs
              exact ⟨ms0, h1, h2.fr hfW (by simp), fun x hx => (h3 x hx).fr hfW (by simp)⟩
            · rw [← hL]; exact hrW
            · rw [← hz]; exact hoW
          have FIN := Lib.hid fin
          clear hB3 hY3 fin
          go_wp2
          refine bodyPost_ret (v := .tuple #[.agg #[.int .i64 a.hold, .slice A2 a.msgs.length c2, .slice A' L.length c'], .slice A6 zs.length c6]) ?h1 rfl ?h2
          case h2 =>
            refine FIN.out _ ?_
            iterate 3 refine Fr.setCell ?_ (by simp) _
            exact Fr.refl _ _
          case h1 => simp [results, Try.results24, go_sem, *]
        · have HLS := Lib.hid hlst
          clear hlst
          have hjl : j < L.length := by omega
          have hB3 := (HBB.out.fr hfi (by simp))
          obtain ⟨x0, x1, x2⟩ := hB3.three
          have hR3 := HRR.out.fr hfi (by simp)
          obtain ⟨g, o, hl, rfl, hgM, p0, _⟩ := hR3.wait rfl hjl
          obtain ⟨z, hz⟩ : ∃ z, z = (L[j]).1 := ⟨_, rfl⟩
          rw [← hz] at p0
          have HZ := Lib.hid hz
          have HR3 := Lib.hid hR3
          have HB3 := Lib.hid hB3
          have HO3 := Lib.hid (hfi.own HOO.out (by simp))
          have hneg : ¬ (j : Int) < 0 := by omega
          clear hz hR3 hB3
          have hw1s := HF1.out.size
          have hsplit : wrow L = wrow (L.take j) ++ wrow (L.drop j) := by rw [← wrow_append, List.take_append_drop]
          have hsplit2 : wrow L = wrow (L.take (j + 1)) ++ wrow (L.drop (j + 1)) := by rw [← wrow_append, List.take_append_drop]
          have HTK := Lib.hid (Rd.sub (by rw [← hsplit]; exact HR3.out) (by rw [wrow_length, List.length_take]; congr 1; omega) (by omega : j ≤ L.length))
          have HDR := Lib.hid (Rd.drop_ (by rw [← hsplit2]; exact HR3.out) (by rw [wrow_length, List.length_take]; congr 1; omega) (by omega : j + 1 ≤ L.length))
          clear hsplit hsplit2
          have hLc : L.length ≤ c' := by
            obtain ⟨A0, c0, e0, _, h1, _⟩ := HR3.out
            injection e0 with _ _ e3
            omega
          by_cases hcap : c' = j + 1
          · have hl0 : L.length = j + 1 := by omega
            have HD0 := Lib.hid (show Rd wr 2 ((Value.slice A6 zs.length c6).ownBlock.toList ++ (M ++ [w.heap.size, w.heap.size + 1])) (.slice (some ⟨g, o, none⟩) 0 0) 0 (wrow (L.drop (j + 1))) from by
              have h1 : L.length - (j + 1) = 0 := by omega
              have h2 : L.drop (j + 1) = [] := List.drop_eq_nil_of_le (by omega)
              rw [h2]
              exact ⟨_, 0, rfl, rfl, Nat.le_refl _, by simp [maxLen], (fun e => nomatch e), fun h => absurd h (by simp)⟩)
            have HL0 := Lib.hid hl0
            clear hl0
            subst hcap
            go_wp2_with (at_builtin; first
              | (refine wpList_app _ rfl int_elem _ _ rfl (.slice A6 zs.length c6) zs.length (ints zs) (by rfl) (((Fr.refl [] wr).alloc _).own HO3.out (by simp)) [] (.slice (some ⟨wr.heap.size, 0, none⟩) 1 1) 1 (ints [z]) (by rfl) (rd_built_i wr z) (ints_one _) (by omega) (by simp only [maxLen]; omega) ?_
                 intro v1 w4 hown4 hfa hat
                 have hf4 : Fr (Value.slice A6 zs.length c6).ownBlock.toList wr w4 := ((Fr.refl [] wr).alloc (.cells #[.int .i64 z] 3)).of0.trans' hfa
                 have hn6 : ∀ y, y < w1.heap.size → y ∉ (Value.slice A6 zs.length c6).ownBlock.toList := fun y hy hx => by simp at hx; have := HNN.out y hx; omega
                 have HF4 := Lib.hid hf4
                 have HN6 := Lib.hid hn6
                 have HO4 := Lib.hid hown4
                 have HAT := Lib.hid hat
                 have hB4 := HB3.out.fr hf4 (hn6 _ (by omega))
                 obtain ⟨A7, c7, rfl, _⟩ := own_form hown4
                 clear hown4 hfa hat hf4 hn6 x0 x1 x2 p0
                 obtain ⟨x0, x1, x2⟩ := hB4.three
                 have HB4 := Lib.hid hB4
                 clear hB4)
              | (refine wpList_app _ rfl w_elem _ _ rfl (.slice none 0 0) 0 [] (by rfl) (World.ownsRow_nil _ _ _ _) [] (.slice (some ⟨g, o, none⟩) j (j + 1)) j (wrow (L.take j)) (by rfl) ((HTK.out.fr HF4.out (fun x hx _ => List.mem_append_left _ hx)).mono (by simp) (by omega)) (wrow_one _) (by omega) (by simp only [maxLen]; omega) ?_
                 intro v2 w5 hown5 hfa5 hat5
                 have hf5 : Fr [] w4 w5 := by simpa [Value.ownBlock] using hfa5
                 have HF5 := Lib.hid hf5
                 have HN5 := Lib.hid (show ∀ g, v2.ownBlock = some g → w4.heap.size ≤ g from fun g hg => by
                   rcases hat5 with h | h
                   · rw [h] at hg; simp [Value.ownBlock] at hg
                   · rw [h] at hg; injection hg with hg; omega)
                 have HO5 := Lib.hid (show w5.ownsRow 0 78 2 v2 j (wrow (L.take j)) by simpa using hown5)
                 have hB5 := HB4.out.fr hf5 (by simp)
                 clear hown5 hfa5 hat5 hf5 x0 x1 x2
                 obtain ⟨x0, x1, x2⟩ := hB5.three
                 have HB5 := Lib.hid hB5
                 clear hB5)
              | (refine wpList_app _ rfl w_elem _ _ rfl v2 j (wrow (L.take j)) (by rfl) HO5.out [] (.slice (some ⟨g, o, none⟩) 0 0) 0 (wrow (L.drop (j + 1))) (by rfl) (((HD0.out.fr HF4.out (fun x hx _ => List.mem_append_left _ hx)).fr HF5.out (by simp)).mono (by simp) (by omega)) (wrow_one _) (by omega) (by simp only [maxLen]; omega) ?_
                 intro v3 w6 hown6' hfa6 hat6
                 have hown6 : w6.ownsRow 0 78 2 v3 j (wrow (L.take j) ++ wrow (L.drop (j + 1))) := hown6'
                 clear hown6'
                 have hs4 := HF4.out.size
                 have hs5 := HF5.out.size
                 have hn5 : ∀ y, y < w4.heap.size → y ∉ v2.ownBlock.toList := fun y hy hx => by simp at hx; have := HN5.out y hx; omega
                 have hws := hfi.size
                 have hwo := hfr.size
                 have hB6 := HB5.out.fr hfa6 (hn5 _ (by omega))
                 have HF46 := Lib.hid (HF5.out.trans hfa6 (fun y hy hlt => absurd hy (hn5 y hlt)))
                 have HN6' := Lib.hid (show ∀ g, v3.ownBlock = some g → w4.heap.size ≤ g from fun g hg => by
                   rcases hat6 with h | h
                   · rw [h] at hg; exact HN5.out g hg
                   · rw [h] at hg; injection hg with hg; omega)
                 have HO6 := Lib.hid hown6
                 obtain ⟨A9, c9, rfl, _⟩ := own_form hown6
                 clear hown6 hfa6 hat6 hn5 x0 x1 x2
                 obtain ⟨x0, x1, x2⟩ := hB6.three
                 have fx := hB6.froz 2
                 have HB6 := Lib.hid hB6
                 clear hB6))
            have fin : ∃ (L' : List (Int × Int)) (zs' : List Int) (A' : Option Addr) (c'' : Nat), Hid (ExpAt t a L' zs') ∧ Blk (w6.setCell ⟨w.heap.size, 2, none⟩ (.slice A9 j c9)) w.heap.size 51 #[.int .i64 a.hold, .slice A2 a.msgs.length c2, .slice A' L'.length c''] ∧
                Rd (w6.setCell ⟨w.heap.size, 2, none⟩ (.slice A9 j c9)) 2 ((Value.slice A7 (zs.length + 1) c7).ownBlock.toList ++ (M ++ [w.heap.size, w.heap.size + 1])) (.slice A' L'.length c'') L'.length (wrow L') ∧ (w6.setCell ⟨w.heap.size, 2, none⟩ (.slice A9 j c9)).ownsRow 0 3 1 (.slice A7 (zs.length + 1) c7) zs'.length (ints zs') ∧ NewFrom w1.heap.size (.slice A7 (zs.length + 1) c7) ∧ Fr [w.heap.size] w1 (w6.setCell ⟨w.heap.size, 2, none⟩ (.slice A9 j c9)) := by
              have hLl : (L.take j ++ L.drop (j + 1)).length = j := by simp; omega
              have hset : Fr [w.heap.size] w6 (w6.setCell ⟨w.heap.size, 2, none⟩ (.slice A9 j c9)) := Fr.set _ _ _
              have hs4 := HF4.out.size
              have hws := hfi.size
              have hwo := hfr.size
              have hz9 : ∀ g, (Value.slice A9 j c9).ownBlock = some g → g ∉ [w.heap.size] := fun g hg hx => by have := HN6'.out g hg; simp at hx; omega
              have hn7 : ∀ g, (Value.slice A7 (zs.length + 1) c7).ownBlock = some g → w1.heap.size ≤ g := fun g hg => by
                rcases HAT.out with h | h
                · rw [h] at hg; exact HNN.out g hg
                · rw [h] at hg; injection hg with hg; simp at hg; omega
              have ho7 := HF46.out.own HO4.out (by simp)
              refine ⟨L.take j ++ L.drop (j + 1), zs ++ [z], A9, c9, ?_, ?_, ?_, ?_, hn7, ?_⟩
              · rw [HZ.out]; exact HX.out.next HLS.out hjl
              · rw [hLl]; exact HB6.out.set_ 2 _
              · rw [hLl, wrow_append]
                refine Rd.of_own (hset.own HO6.out hz9) (fun g hg hx => ?_)
                have h9 := HN6'.out g hg
                rcases List.mem_append.1 hx with hx | hx
                · simp at hx
                  obtain ⟨cc, h1⟩ := own_blk HO6.out hg
                  exact own_blk_ne ho7 h1 (by decide) hx
                · rcases List.mem_append.1 hx with hx | hx
                  · have := hM g hx; omega
                  · simp at hx; omega
              · have h0 := hset.own ho7 (fun g hg hx => by have := hn7 g hg; simp at hx; omega)
                simpa [ints] using h0
              · exact (((hfr.trans' hfi.of0).trans HF4.out (fun x hx hlt => absurd hx (HN6.out x hlt))).trans' HF46.out.of0).trans' hset
            have FIN := Lib.hid fin
            clear fin
            go_wp2
            go_roundw
            case rel => exact FIN.out
            case measure => have h1 := HLEN.out; have h2 := HN0.out; simp [lenOf]; omega
          · go_wp2_with (at_builtin; first
              | (refine wpList_app _ rfl int_elem _ _ rfl (.slice A6 zs.length c6) zs.length (ints zs) (by rfl) (((Fr.refl [] wr).alloc _).own HO3.out (by simp)) [] (.slice (some ⟨wr.heap.size, 0, none⟩) 1 1) 1 (ints [z]) (by rfl) (rd_built_i wr z) (ints_one _) (by omega) (by simp only [maxLen]; omega) ?_
                 intro v1 w4 hown4 hfa hat
                 have hf4 : Fr (Value.slice A6 zs.length c6).ownBlock.toList wr w4 := ((Fr.refl [] wr).alloc (.cells #[.int .i64 z] 3)).of0.trans' hfa
                 have hn6 : ∀ y, y < w1.heap.size → y ∉ (Value.slice A6 zs.length c6).ownBlock.toList := fun y hy hx => by simp at hx; have := HNN.out y hx; omega
                 have HF4 := Lib.hid hf4
                 have HN6 := Lib.hid hn6
                 have HO4 := Lib.hid hown4
                 have HAT := Lib.hid hat
                 have hB4 := HB3.out.fr hf4 (hn6 _ (by omega))
                 obtain ⟨A7, c7, rfl, _⟩ := own_form hown4
                 clear hown4 hfa hat hf4 hn6 x0 x1 x2 p0
                 obtain ⟨x0, x1, x2⟩ := hB4.three
                 have HB4 := Lib.hid hB4
                 clear hB4)
              | (refine wpList_app _ rfl w_elem _ _ rfl (.slice none 0 0) 0 [] (by rfl) (World.ownsRow_nil _ _ _ _) [] (.slice (some ⟨g, o, none⟩) j c') j (wrow (L.take j)) (by rfl) ((HTK.out.fr HF4.out (fun x hx _ => List.mem_append_left _ hx)).mono (by simp) (by omega)) (wrow_one _) (by omega) (by simp only [maxLen]; omega) ?_
                 intro v2 w5 hown5 hfa5 hat5
                 have hf5 : Fr [] w4 w5 := by simpa [Value.ownBlock] using hfa5
                 have HF5 := Lib.hid hf5
                 have HN5 := Lib.hid (show ∀ g, v2.ownBlock = some g → w4.heap.size ≤ g from fun g hg => by
                   rcases hat5 with h | h
                   · rw [h] at hg; simp [Value.ownBlock] at hg
                   · rw [h] at hg; injection hg with hg; omega)
                 have HO5 := Lib.hid (show w5.ownsRow 0 78 2 v2 j (wrow (L.take j)) by simpa using hown5)
                 have hB5 := HB4.out.fr hf5 (by simp)
                 clear hown5 hfa5 hat5 hf5 x0 x1 x2
                 obtain ⟨x0, x1, x2⟩ := hB5.three
                 have HB5 := Lib.hid hB5
                 clear hB5)
              | (refine wpList_app _ rfl w_elem _ _ rfl v2 j (wrow (L.take j)) (by rfl) HO5.out [] (Value.slice (some ⟨g, o + (j + 1) * 2, none⟩) (L.length - (j + 1)) (c' - (j + 1))) (L.length - (j + 1)) (wrow (L.drop (j + 1))) (by rfl) (((HDR.out.fr HF4.out (fun x hx _ => List.mem_append_left _ hx)).fr HF5.out (by simp)).mono (by simp) (by omega)) (wrow_one _) (by omega) (by simp only [maxLen]; omega) ?_
                 intro v3 w6 hown6' hfa6 hat6
                 have hown6 : w6.ownsRow 0 78 2 v3 (j + (L.length - (j + 1))) (wrow (L.take j) ++ wrow (L.drop (j + 1))) := hown6'
                 clear hown6'
                 have hs4 := HF4.out.size
                 have hs5 := HF5.out.size
                 have hn5 : ∀ y, y < w4.heap.size → y ∉ v2.ownBlock.toList := fun y hy hx => by simp at hx; have := HN5.out y hx; omega
                 have hws := hfi.size
                 have hwo := hfr.size
                 have hB6 := HB5.out.fr hfa6 (hn5 _ (by omega))
                 have HF46 := Lib.hid (HF5.out.trans hfa6 (fun y hy hlt => absurd hy (hn5 y hlt)))
                 have HN6' := Lib.hid (show ∀ g, v3.ownBlock = some g → w4.heap.size ≤ g from fun g hg => by
                   rcases hat6 with h | h
                   · rw [h] at hg; exact HN5.out g hg
                   · rw [h] at hg; injection hg with hg; omega)
                 have HO6 := Lib.hid hown6
                 obtain ⟨A9, c9, rfl, _⟩ := own_form hown6
                 clear hown6 hfa6 hat6 hn5 x0 x1 x2
                 obtain ⟨x0, x1, x2⟩ := hB6.three
                 have fx := hB6.froz 2
                 have HB6 := Lib.hid hB6
                 clear hB6))
            have fin : ∃ (L' : List (Int × Int)) (zs' : List Int) (A' : Option Addr) (c'' : Nat), Hid (ExpAt t a L' zs') ∧ Blk (w6.setCell ⟨w.heap.size, 2, none⟩ (.slice A9 (j + (L.length - (j + 1))) c9)) w.heap.size 51 #[.int .i64 a.hold, .slice A2 a.msgs.length c2, .slice A' L'.length c''] ∧
                Rd (w6.setCell ⟨w.heap.size, 2, none⟩ (.slice A9 (j + (L.length - (j + 1))) c9)) 2 ((Value.slice A7 (zs.length + 1) c7).ownBlock.toList ++ (M ++ [w.heap.size, w.heap.size + 1])) (.slice A' L'.length c'') L'.length (wrow L') ∧ (w6.setCell ⟨w.heap.size, 2, none⟩ (.slice A9 (j + (L.length - (j + 1))) c9)).ownsRow 0 3 1 (.slice A7 (zs.length + 1) c7) zs'.length (ints zs') ∧ NewFrom w1.heap.size (.slice A7 (zs.length + 1) c7) ∧ Fr [w.heap.size] w1 (w6.setCell ⟨w.heap.size, 2, none⟩ (.slice A9 (j + (L.length - (j + 1))) c9)) := by
              have hLl : (L.take j ++ L.drop (j + 1)).length = (j + (L.length - (j + 1))) := by simp; omega
              have hset : Fr [w.heap.size] w6 (w6.setCell ⟨w.heap.size, 2, none⟩ (.slice A9 (j + (L.length - (j + 1))) c9)) := Fr.set _ _ _
              have hs4 := HF4.out.size
              have hws := hfi.size
              have hwo := hfr.size
              have hz9 : ∀ g, (Value.slice A9 (j + (L.length - (j + 1))) c9).ownBlock = some g → g ∉ [w.heap.size] := fun g hg hx => by have := HN6'.out g hg; simp at hx; omega
              have hn7 : ∀ g, (Value.slice A7 (zs.length + 1) c7).ownBlock = some g → w1.heap.size ≤ g := fun g hg => by
                rcases HAT.out with h | h
                · rw [h] at hg; exact HNN.out g hg
                · rw [h] at hg; injection hg with hg; simp at hg; omega
              have ho7 := HF46.out.own HO4.out (by simp)
              refine ⟨L.take j ++ L.drop (j + 1), zs ++ [z], A9, c9, ?_, ?_, ?_, ?_, hn7, ?_⟩
              · rw [HZ.out]; exact HX.out.next HLS.out hjl
              · rw [hLl]; exact HB6.out.set_ 2 _
              · rw [hLl, wrow_append]
                refine Rd.of_own (hset.own HO6.out hz9) (fun g hg hx => ?_)
                have h9 := HN6'.out g hg
                rcases List.mem_append.1 hx with hx | hx
                · simp at hx
                  obtain ⟨cc, h1⟩ := own_blk HO6.out hg
                  exact own_blk_ne ho7 h1 (by decide) hx
                · rcases List.mem_append.1 hx with hx | hx
                  · have := hM g hx; omega
                  · simp at hx; omega
              · have h0 := hset.own ho7 (fun g hg hx => by have := hn7 g hg; simp at hx; omega)
                simpa [ints] using h0
              · exact (((hfr.trans' hfi.of0).trans HF4.out (fun x hx hlt => absurd hx (HN6.out x hlt))).trans' HF46.out.of0).trans' hset
            have FIN := Lib.hid fin
            clear fin
            go_wp2
            go_roundw
            case rel => exact FIN.out
            case measure => have h1 := HLEN.out; have h2 := HN0.out; simp [lenOf]; omega
end Go.Proofs.Ytfadadgkgbaohaa
