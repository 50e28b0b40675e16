/-
  Contracts of package slices at []int: Index, Contains, Clone.
-/
import Derived.Test.YtfadadgkgbaohaaSat
set_option linter.unusedSimpArgs false
set_option linter.unusedVariables false
namespace Go.Proofs.Ytfadadgkgbaohaa
open Go.RowKit
attribute [local go_sem] max_ints min_ints

/-- A list of ints as cells. -/
def ints (zs : List Int) : List Value := zs.map (Value.int .i64)
theorem ints_length (zs : List Int) : (ints zs).length = zs.length := by simp [ints]
theorem ints_get {zs : List Int} {j : Nat} (h : j < zs.length) : (ints zs)[j]? = some (.int .i64 zs[j]) := by simp [ints, h]

theorem Rd.at1 {w : World} {M : List Nat} {A : Option Addr} {n c : Nat} {zs : List Int} (h : Rd w 1 M (.slice A n c) n (ints zs)) {j : Nat} (hj : j < n) :
    ∃ ad, A = some ad ∧ ∃ hl : j < zs.length, w.cell? (ad.add j) = some (.int .i64 zs[j]) := by
  obtain ⟨A', c', e, hl, h1, h2, h4, h3⟩ := h
  obtain ⟨ad, rfl, hb, hc⟩ := h3 (by omega)
  have hlen : j < zs.length := by rw [ints_length] at hl; omega
  injection e with e1 e2 e3
  exact ⟨ad, e1, hlen, hc j _ (ints_get hlen)⟩
theorem Rd.len1 {w : World} {M : List Nat} {v : Value} {n : Nat} {zs : List Int} (h : Rd w 1 M v n (ints zs)) : zs.length = n := by
  obtain ⟨A', c', e, hl, _⟩ := h
  simpa [ints_length] using hl
theorem Rd.max {w : World} {k : Nat} {M : List Nat} {v : Value} {n : Nat} {xs : List Value} (h : Rd w k M v n xs) : n ≤ 9223372036854775807 := by
  obtain ⟨A', c', e, hl, h1, h2, _⟩ := h
  simp only [maxLen] at h2
  omega

def idxI (x : Int) (zs : List Int) : Int := match zs.findIdx? (fun y => x == y) with | some j => j | none => -1

theorem idxI_at {x : Int} {zs : List Int} {k : Nat} (hk : k < zs.length) (hno : ∀ j, j < k → ∀ h : j < zs.length, ¬ x = zs[j]) (he : x = zs[k]) : idxI x zs = k := by
  unfold idxI
  have : zs.findIdx? (fun y => x == y) = some k := by
    rw [List.findIdx?_eq_some_iff_getElem]
    exact ⟨hk, by simpa using he, fun j hj => by simpa using hno j hj (by omega)⟩
  rw [this]
theorem idxI_none {x : Int} {zs : List Int} (hno : ∀ j, ∀ h : j < zs.length, ¬ x = zs[j]) : idxI x zs = -1 := by
  unfold idxI
  have : zs.findIdx? (fun y => x == y) = none := by
    rw [List.findIdx?_eq_none_iff]
    intro y hy
    obtain ⟨j, hj, rfl⟩ := List.getElem_of_mem hy
    simpa using hno j hj
  rw [this]
theorem idxI_contains (x : Int) (zs : List Int) : decide (idxI x zs ≥ 0) = zs.contains x := by
  unfold idxI
  cases h : zs.findIdx? (fun y => x == y) with
  | none =>
    rw [List.findIdx?_eq_none_iff] at h
    simp
    intro hx
    simpa using h x hx
  | some j =>
    obtain ⟨hj, he, _⟩ := List.findIdx?_eq_some_iff_getElem.1 h
    simp at he
    simp [he]

/-- No element ahead of place k is x. -/
def NoneYet (x : Int) (zs : List Int) (k : Nat) : Prop := ∀ j, j < k → ∀ h : j < zs.length, ¬ x = zs[j]

set_option maxHeartbeats 400000 in
theorem index_any (M : List Nat) (A : Option Addr) (n c : Nat) (zs : List Int) (x : Int) (w : World) (h : Rd w 1 M (.slice A n c) n (ints zs)) :
    Calls Try.prog 47 #[.slice A n c, .int .i64 x] w fun e w' => e = .returned (.int .i64 (idxI x zs)) ∧ w = w' := by
  have hmax := h.max
  have HR := Lib.hid h
  have hlen := h.len1
  have HL := Lib.hid hlen
  clear h hlen
  go_enter Try.func47, Try.ntmps47
  go_wp2
  go_loop [8] (fun i => ∃ k : Nat, k ≤ n ∧ i = .int .i64 k ∧ NoneYet x zs k) (fun i => n - (intOf i).toNat)
  case atStart => exact ⟨0, by omega, rfl, fun j hj => by omega⟩
  case round =>
    obtain ⟨k, hk, rfl, hno⟩ := hrel
    by_cases hlt : k < n
    · obtain ⟨ad, rfl, hl, hc⟩ := HR.out.at1 hlt
      obtain ⟨z, hz⟩ : ∃ z, zs[k] = z := ⟨_, rfl⟩
      rw [hz] at hc
      have HZ := Lib.hid hz
      clear hz
      by_cases he : x = z
      · have HE := Lib.hid he
        have hb : (x == z) = true := by simpa using he
        clear he
        go_wp2
        go_ret
        exact ⟨ret_int (idxI_at hl hno (HE.out.trans HZ.out.symm)).symm, rfl⟩
      · have HE := Lib.hid he
        have hb : (x == z) = false := by simpa using he
        clear he
        go_wp2
        go_round
        case rel =>
          refine ⟨k + 1, by omega, by go_num, fun j hj hjl => ?_⟩
          by_cases hjk : j = k
          · subst hjk; rw [HZ.out]; exact HE.out
          · exact hno j (by omega) hjl
        case measure => simp [intOf]; omega
    · go_wp2
      go_ret
      have : k = n := by omega
      subst this
      exact ⟨ret_int (idxI_none fun j hj => hno j (by rw [HL.out] at hj; exact hj) hj).symm, rfl⟩

set_option maxHeartbeats 400000 in
theorem contains_any (M : List Nat) (A : Option Addr) (n c : Nat) (zs : List Int) (x : Int) (w : World) (h : Rd w 1 M (.slice A n c) n (ints zs)) :
    Calls Try.prog 40 #[.slice A n c, .int .i64 x] w fun e w' => e = .returned (.bool (zs.contains x)) ∧ w = w' := by
  go_enter Try.func40, Try.ntmps40
  go_wp2_with fail
  refine (index_any M A n c zs x w h).mono ?_
  rintro e w' ⟨rfl, rfl⟩
  go_wp2
  go_ret
  exact ⟨ret_bool (idxI_contains x zs), rfl⟩

theorem int_elem : Elem Try.prog 27 3 (.int .i64 0) 1 8 :=
  ⟨Try.underlying27, info_parts (by kernel_rfl), rfl, by omega⟩
theorem ints_one (zs : List Int) : ∀ u ∈ ints zs, u.oneCell' = true := by
  intro u hu
  simp only [ints, List.mem_map] at hu
  obtain ⟨a, _, rfl⟩ := hu
  rfl

/-- A clone: nil of nil, else a row of its own. -/
def Cloned (w w' : World) (v : Value) (n : Nat) (zs : List Int) (e : Ending) : Prop :=
  ∃ v', e = .returned v' ∧ w'.ownsRow 0 3 1 v' n (ints zs) ∧ Fr [] w w' ∧ (∀ g, v'.ownBlock = some g → w.heap.size ≤ g) ∧ (v = .slice none 0 0 → v' = .slice none 0 0)

set_option maxHeartbeats 400000 in
theorem clone_any (M : List Nat) (v : Value) (n : Nat) (zs : List Int) (w : World) (h : Rd w 1 M v n (ints zs)) (hb : n * 8 ≤ 140737488355328) :
    Calls Try.prog 36 #[v] w fun e w' => Cloned w w' v n zs e := by
  have hmax := h.max
  have HR := Lib.hid h
  obtain ⟨A, c, rfl, hl, hnc, hcm, h4, h3⟩ := h
  cases A with
  | none =>
    have hc0 := h4 rfl
    clear h3 h4
    subst hc0
    have hn0 : n = 0 := by omega
    subst hn0
    have hz : zs = [] := by cases zs <;> simp_all [ints]
    have hk := fun W => Lib.run_eql_slice_nil (P := Try.prog) W 27 3 none 0 0 0 0 Try.underlying27
    have HZ := Lib.hid hz
    clear hz hl
    go_enter Try.func36, Try.ntmps36
    go_wp2
    go_ret
    rw [HZ.out]
    exact ⟨_, rfl, World.ownsRow_nil _ _ _ _, Fr.refl _ _, by simp [Value.ownBlock], fun _ => rfl⟩
  | some ad =>
    have hk := fun W => Lib.run_eql_slice_nil (P := Try.prog) W 27 3 (some ad) n c 0 0 Try.underlying27
    have H1 := HR.out.fr ((Fr.refl [] w).alloc (.cells #[] 3)) (fun _ hx => by simp at hx)
    have H2 := Lib.hid H1
    clear hl h3 h4 H1
    go_enter Try.func36, Try.ntmps36
    go_wp2_with (at_builtin; refine wpList_app _ rfl int_elem _ _ rfl (.slice (some ⟨w.heap.size, 0, none⟩) 0 0) 0 [] (by rfl) (own_empty w _ _) M (.slice (some ad) n c) n (ints zs) (by rfl) H2.out (ints_one zs) (by omega) (by simp only [maxLen]; omega) ?_; intro v1 w1 hown hfr hat)
    go_ret
    have e0 : (0 : Nat) + n = n := by omega
    rw [e0, List.nil_append] at hown
    refine ⟨v1, rfl, hown, ((Fr.refl [] w).alloc _).trans hfr ?_, ?_, by simp⟩
    · intro x hx hlt
      simp [Value.ownBlock] at hx
      omega
    · intro g hg
      rcases hat with h | h <;> rw [h] at hg <;> simp [Value.ownBlock] at hg <;> omega
end Go.Proofs.Ytfadadgkgbaohaa
