/-
  The contract of slices.DeleteFunc at []int, at the function that package queue hands it (is it this process?).
-/
import Derived.Test.YtfadadgkgbaohaaSl1
import Derived.Test.YtfadadgkgbaohaaL2
set_option linter.unusedSimpArgs false
set_option linter.unusedVariables false
namespace Go.Proofs.Ytfadadgkgbaohaa
open Go.RowKit

/-- The function value: equal to what the box b holds? -/
def isFn (b : Nat) : Value := .func (.func 43) #[] #[.pointer (some ⟨b, 0, none⟩)]

set_option maxHeartbeats 400000 in
theorem isFn_call (b : Nat) (x y : Int) (w : World) (hc : w.cell? ⟨b, 0, none⟩ = some (.int .i64 x)) :
    Calls Try.prog 43 #[.int .i64 y, .pointer (some ⟨b, 0, none⟩)] w fun e w' => e = .returned (.bool (y == x)) ∧ w = w' := by
  go_enter Try.func43, Try.ntmps43
  go_wp2
  go_ret
  exact ⟨rfl, rfl⟩

/-- No element ahead of place k is x. -/
theorem idxI_at' {x : Int} {zs : List Int} {k : Nat} (hk : k < zs.length) (hno : NoneYet x zs k) (he : zs[k] = x) : idxI x zs = k := idxI_at hk hno he.symm

set_option maxHeartbeats 400000 in
theorem indexFunc_any (b : Nat) (M : List Nat) (A : Option Addr) (n c : Nat) (zs : List Int) (x : Int) (w : World) (h : Rd w 1 M (.slice A n c) n (ints zs)) (hc : w.cell? ⟨b, 0, none⟩ = some (.int .i64 x)) :
    Calls Try.prog 48 #[.slice A n c, isFn b] w fun e w' => e = .returned (.int .i64 (idxI x zs)) ∧ w = w' := by
  have hmax := h.max
  have HR := Lib.hid h
  have hlen := h.len1
  have HL := Lib.hid hlen
  have HC := Lib.hid hc
  unfold isFn
  clear h hlen hc
  go_enter Try.func48, Try.ntmps48
  go_wp2
  go_loop [8] (fun i => ∃ k : Nat, k ≤ n ∧ i = .int .i64 k ∧ NoneYet x zs k) (fun i => n - (intOf i).toNat)
  case atStart => exact ⟨0, by omega, rfl, fun j hj => by omega⟩
  case round =>
    obtain ⟨k, hk, rfl, hno⟩ := hrel
    by_cases hlt : k < n
    · obtain ⟨ad, rfl, hl, hcell⟩ := HR.out.at1 hlt
      obtain ⟨z, hz⟩ : ∃ z, zs[k] = z := ⟨_, rfl⟩
      rw [hz] at hcell
      have HZ := Lib.hid hz
      clear hz
      by_cases he : z = x
      · have HE := Lib.hid he
        have hb : (z == x) = true := by simpa using he
        clear he
        go_wp2_with (go_at_call 43; refine (isFn_call b x _ _ HC.out).mono ?_; rintro e w' ⟨rfl, rfl⟩)
        go_ret
        exact ⟨ret_int (idxI_at' hl hno (HZ.out.trans HE.out)).symm, rfl⟩
      · have HE := Lib.hid he
        have hb : (z == x) = false := by simpa using he
        clear he
        go_wp2_with (go_at_call 43; refine (isFn_call b x _ _ HC.out).mono ?_; rintro e w' ⟨rfl, rfl⟩)
        go_round
        case rel =>
          refine ⟨k + 1, by omega, by go_num, fun j hj hjl => ?_⟩
          by_cases hjk : j = k
          · subst hjk; rw [HZ.out]; exact fun h => HE.out h.symm
          · exact hno j (by omega) hjl
        case measure => simp [intOf]; omega
    · go_wp2
      go_ret
      have : k = n := by omega
      subst this
      exact ⟨ret_int (idxI_none fun j hj => hno j (by rw [HL.out] at hj; exact hj) hj).symm, rfl⟩

/-! ### DeleteFunc -/
def rid (x : Int) (zs : List Int) : List Int := zs.filter (fun y => !(y == x))
theorem rid_len (x : Int) (zs : List Int) : (rid x zs).length ≤ zs.length := List.length_filter_le _ _
theorem rid_take_succ (x : Int) (zs : List Int) (k : Nat) (hk : k < zs.length) : rid x (zs.take (k + 1)) = rid x (zs.take k) ++ (if (zs[k] == x) then [] else [zs[k]]) := by
  unfold rid
  rw [List.take_succ_eq_append_getElem hk, List.filter_append]
  by_cases h : (zs[k] == x) = true <;> simp [h, List.filter_cons]
theorem rid_none {x : Int} {zs : List Int} (h : ∀ j, ∀ hj : j < zs.length, ¬ x = zs[j]) : rid x zs = zs := by
  unfold rid
  rw [List.filter_eq_self]
  intro a ha
  obtain ⟨j, hj, rfl⟩ := List.getElem_of_mem ha
  simpa using fun e => h j hj e.symm
theorem idxI_cases (x : Int) (zs : List Int) : (idxI x zs = -1 ∧ ∀ j, ∀ hj : j < zs.length, ¬ x = zs[j]) ∨ (∃ i : Nat, idxI x zs = i ∧ ∃ hi : i < zs.length, zs[i] = x ∧ NoneYet x zs i) := by
  unfold idxI
  cases h : zs.findIdx? (fun y => x == y) with
  | none =>
    rw [List.findIdx?_eq_none_iff] at h
    exact .inl ⟨rfl, fun j hj e => by have := h _ (List.getElem_mem hj); rw [← e] at this; simp at this⟩
  | some i =>
    obtain ⟨hi, he, hno⟩ := List.findIdx?_eq_some_iff_getElem.1 h
    refine .inr ⟨i, rfl, hi, (by simpa using he : x = zs[i]).symm, fun j hj hjl e => ?_⟩
    have := hno j hj
    rw [← e] at this
    simp at this

/-- Behind place k of the walk: the first cells hold what is kept of the first k, the cells from k on are as they were. -/
def Kept (x : Int) (zs : List Int) (n cap g : Nat) (k i : Nat) (wr : World) : Prop :=
  ∃ cur : Array Value, Blk wr g 3 cur ∧ cur.size = cap ∧ i = (rid x (zs.take k)).length ∧ i < k ∧ (∀ j, ∀ hj : j < (rid x (zs.take k)).length, cur[j]? = some (.int .i64 (rid x (zs.take k))[j])) ∧ (∀ j, k ≤ j → ∀ hj : j < zs.length, cur[j]? = some (.int .i64 zs[j]))

theorem Kept.same {x : Int} {zs : List Int} {n cap g k i : Nat} {wr : World} (h : Kept x zs n cap g k i wr) (hk : k < zs.length) (he : zs[k] = x) : Kept x zs n cap g (k + 1) i wr := by
  obtain ⟨cur, h1, h2, h3, h4, h5, h6⟩ := h
  have e : rid x (zs.take (k + 1)) = rid x (zs.take k) := by rw [rid_take_succ x zs k hk]; simp [he]
  exact ⟨cur, h1, h2, by rw [e]; exact h3, by omega, by rw [e]; exact h5, fun j hj hl => h6 j (by omega) hl⟩
theorem Kept.store {x : Int} {zs : List Int} {n cap g k i : Nat} {wr : World} (h : Kept x zs n cap g k i wr) (hk : k < zs.length) (hkc : k < cap) (he : ¬ zs[k] = x) : Kept x zs n cap g (k + 1) (i + 1) (wr.setCell ⟨g, i, none⟩ (.int .i64 zs[k])) := by
  obtain ⟨cur, h1, h2, h3, h4, h5, h6⟩ := h
  have e : rid x (zs.take (k + 1)) = rid x (zs.take k) ++ [zs[k]] := by rw [rid_take_succ x zs k hk]; simp [he]
  refine ⟨_, h1.set_ i _, by simpa using h2, by rw [e]; simp [h3], by omega, ?_, ?_⟩
  · rw [e]
    intro j hj
    simp only [List.length_append, List.length_singleton] at hj
    rw [Array.getElem?_setIfInBounds]
    by_cases hji : i = j
    · subst hji
      rw [if_pos rfl, if_pos (by omega)]
      rw [List.getElem_append_right (by omega)]
      simp [h3]
    · rw [if_neg hji, List.getElem_append_left (by omega)]
      exact h5 j (by omega)
  · intro j hj hl
    rw [Array.getElem?_setIfInBounds, if_neg (by omega)]
    exact h6 j (by omega) hl
theorem Kept.read {x : Int} {zs : List Int} {n cap g k i : Nat} {wr : World} (h : Kept x zs n cap g k i wr) (hk : k < zs.length) : wr.cell? ⟨g, k, none⟩ = some (.int .i64 zs[k]) := by
  obtain ⟨cur, h1, h2, h3, h4, h5, h6⟩ := h
  rw [h1.cell]
  exact h6 k (Nat.le_refl _) hk
theorem Kept.there {x : Int} {zs : List Int} {n cap g k i : Nat} {wr : World} (h : Kept x zs n cap g k i wr) (hkc : k ≤ cap) : (wr.cell? ⟨g, i, none⟩).isSome = true ∧ wr.frozen? ⟨g, i, none⟩ = false := by
  obtain ⟨cur, h1, h2, h3, h4, h5, h6⟩ := h
  refine ⟨?_, h1.froz i⟩
  rw [h1.cell]
  have : i < cur.size := by omega
  simp [this]

theorem zeroCells_int (n : Nat) : Builtin.zeroCells (Value.cells (.int .i64 0)) n = Array.replicate n (Value.int .i64 0) := by
  apply Array.ext
  · simp [Builtin.zeroCells, Value.cells]
  · intro i h1 h2
    simp [Builtin.zeroCells, Value.cells, Nat.mod_one]

/-- 'clear(s[i:])' of ints. -/
theorem run_clear_ints {w : World} (ty : TypeId) (g o n c : Nat) (cur : Array Value) (hg : Blk w g 3 cur) (ho : o + n ≤ cur.size) :
    (Builtin.clear_ #[27] ty #[.slice (some ⟨g, o, none⟩) n c]).run Try.prog w = .ok (.tuple #[]) (w.setRow g (cur.toList.take o ++ List.replicate n (Value.int .i64 0) ++ cur.toList.drop (o + n)).toArray) := by
  obtain ⟨i, hi, hz, hsz, hby⟩ := int_elem.info
  cases n with
  | zero =>
    have : w.setRow g (cur.toList.take o ++ List.replicate 0 (Value.int .i64 0) ++ cur.toList.drop (o + 0)).toArray = w := by
      simp only [List.replicate_zero, List.append_nil, Nat.add_zero, List.take_append_drop, Array.toArray_toList]
      exact setRow_self w g cur _ (0, 0) hg
    rw [this]
    simp [Builtin.clear_, run_underlying Try.underlying27]
  | succ n =>
    have hst := run_storeCells_at Try.prog g o 3 (List.replicate (n + 1) (Value.int .i64 0)) 0 cur w hg (by simpa using ho) (by intro v hv; rw [List.eq_of_mem_replicate hv]; rfl)
    simp only [Nat.add_zero, List.length_replicate] at hst
    have hr : (Array.replicate (n + 1) (Value.int .i64 0)).toList = List.replicate (n + 1) (.int .i64 0) := by simp
    simp [Builtin.clear_, run_underlying Try.underlying27, zeroValue, typeInfo, hi, hz, zeroCells_int, hr, hst]

theorem Kept.done {x : Int} {zs : List Int} {n cap g i : Nat} {wr : World} (h : Kept x zs n cap g n i wr) (hn : zs.length = n) (hnc : n ≤ cap) (hm : cap ≤ maxLen) :
    i = (rid x zs).length ∧ ∃ cur : Array Value, Blk wr g 3 cur ∧ cur.size = cap ∧ i + (n - i) ≤ cur.size ∧
      ∀ cs : List Value, cs.length = n - i → (wr.setRow g (cur.toList.take i ++ cs ++ cur.toList.drop (i + (n - i))).toArray).ownsRow 0 3 1 (.slice (some ⟨g, 0, none⟩) i cap) i (ints (rid x zs)) := by
  obtain ⟨cur, h1, h2, h3, h4, h5, h6⟩ := h
  have ht : zs.take n = zs := by rw [← hn]; exact List.take_length
  rw [ht] at h3 h5
  refine ⟨h3, cur, h1, h2, by omega, fun cs hc => ?_⟩
  refine ⟨by rw [ints_length, h3]; omega, .inr ⟨g, cap, _, rfl, Nat.zero_le _, setRow_heap h1, by omega, hm, ?_, ?_⟩⟩
  · simp [hc]; omega
  · simp only [Nat.mul_one]
    rw [List.append_assoc, List.take_append_of_le_length (by simp; omega), List.take_take, Nat.min_self]
    apply List.ext_getElem?
    intro j
    rw [List.getElem?_take]
    by_cases hj : j < i
    · rw [if_pos hj]
      have hj' : j < (rid x zs).length := by omega
      rw [ints_get hj', ← h5 j hj']
      simp
    · rw [if_neg hj]
      simp [ints, ← h3, Nat.not_lt.1 hj]

/-- What DeleteFunc leaves. -/
def Deleted (w w' : World) (v : Value) (x : Int) (zs : List Int) (e : Ending) : Prop :=
  ∃ v', e = .returned v' ∧ w'.ownsRow 0 3 1 v' (rid x zs).length (ints (rid x zs)) ∧ v'.ownBlock = v.ownBlock ∧ Fr v.ownBlock.toList w w'

set_option maxHeartbeats 1000000 in
set_option maxRecDepth 100000 in
theorem deleteFunc_any (b : Nat) (v : Value) (zs : List Int) (x : Int) (w : World) (h : w.ownsRow 0 3 1 v zs.length (ints zs)) (hc : w.cell? ⟨b, 0, none⟩ = some (.int .i64 x)) (hb : v.ownBlock ≠ some b) :
    Calls Try.prog 42 #[v, isFn b] w fun e w' => Deleted w w' v x zs e := by
  have hRd := Rd.of_own (M := []) h (fun g _ hx => by simp at hx)
  obtain ⟨A, c, e, hnc, hcm, hA, _⟩ := own_form h
  subst e
  have hidx := indexFunc_any b [] A zs.length c zs x w hRd hc
  have hmax := hRd.max
  rcases idxI_cases x zs with ⟨hi, hno⟩ | ⟨i, hi, hil, hie, hno⟩
  · rw [hi] at hidx
    have hr := rid_none hno
    have H0 := Lib.hid h
    clear hi hno h hRd hA
    have HR := Lib.hid hr
    clear hr
    generalize isFn b = fv at *
    go_enter Try.func42, Try.ntmps42
    go_wp2_with (go_at_call 48; refine hidx.mono ?_; rintro e w' ⟨rfl, rfl⟩)
    go_ret
    exact ⟨_, rfl, by rw [HR.out]; exact H0.out, rfl, Fr.refl _ _⟩
  · rw [hi] at hidx
    obtain ⟨hl, h0 | ⟨g, cap', cur, e, _, hg, _, hm, hs, htake⟩⟩ := h
    · exact absurd hil (by have := h0.2; omega)
    injection e with e1 _ e3
    subst e1
    subst e3
    have hbg : b ≠ g := by simpa [Value.ownBlock, eq_comm] using hb
    have hK0 : Kept x zs zs.length c g (i + 1) i w := by
      have hcur : ∀ j, ∀ hj : j < zs.length, cur[j]? = some (.int .i64 zs[j]) := by
        intro j hj
        have h1 := ints_get hj
        rw [← htake, List.getElem?_take, if_pos (by omega)] at h1
        simpa using h1
      have e1 : rid x (zs.take i) = zs.take i := rid_none fun j hj he => by
        simp at hj
        exact hno j (by omega) (by omega) (by simpa using he)
      have e2 : rid x (zs.take (i + 1)) = zs.take i := by rw [rid_take_succ x zs i hil, e1]; simp [hie]
      refine ⟨cur, hg, by omega, by rw [e2]; simp; omega, by omega, ?_, fun j _ hj => hcur j hj⟩
      rw [e2]
      intro j hj
      simp at hj
      rw [hcur j (by omega)]
      simp
    have HK := Lib.hid hK0
    have HC := Lib.hid hc
    have hclo := fun W (hW : W.cell? ⟨b, 0, none⟩ = some (.int .i64 x)) y => isFn_call b x y W hW
    clear hK0 hc htake hs hg hl hi hie hno hRd hA hb
    have hcf : (((i : Int)) == -1) = false := by simp
    unfold isFn at hidx ⊢
    go_enter Try.func42, Try.ntmps42
    go_wp2_with (go_at_call 48; refine hidx.mono ?_; rintro e w' ⟨rfl, rfl⟩)
    go_loopw [5, 6] (fun vi vj wr => ∃ i k : Nat, vi = .int .i64 i ∧ vj = .int .i64 k ∧ k ≤ zs.length ∧ Kept x zs zs.length c g k i wr ∧ Fr [g] w wr) (fun _ vj _ => zs.length - (intOf vj).toNat)
    case atStart => exact ⟨i, i + 1, rfl, by go_num, by omega, HK.out, Fr.refl _ _⟩
    case round =>
      obtain ⟨i, k, rfl, rfl, hk, hkept, hfr⟩ := hrel
      have hmaxk : c ≤ 9223372036854775807 := by simp only [maxLen] at hcm; omega
      by_cases hlt : k < zs.length
      · have hread := hkept.read hlt
        obtain ⟨hth, hfz⟩ := hkept.there (by omega)
        obtain ⟨old, hold⟩ := Option.isSome_iff_exists.1 hth
        clear hth
        have hbox : wr.cell? ⟨b, 0, none⟩ = some (.int .i64 x) := hfr.cell HC.out (by simp [hbg])
        have hcl := fun y => hclo wr hbox y
        have hik : i < k := by obtain ⟨_, _, _, _, h4, _⟩ := hkept; exact h4
        obtain ⟨z, hz⟩ : ∃ z, zs[k] = z := ⟨_, rfl⟩
        rw [hz] at hread
        have HZ := Lib.hid hz
        clear hz hbox
        by_cases he : z = x
        · have hb2 : (z == x) = true := by simpa using he
          have HE := Lib.hid he
          clear he
          go_wp2_with (go_at_call 43; refine (hcl _).mono ?_; rintro e w' ⟨rfl, rfl⟩)
          go_roundw
          case rel => exact ⟨i, k + 1, rfl, by go_num, by omega, hkept.same hlt (HZ.out.trans HE.out), hfr⟩
          case measure => simp [intOf]; omega
        · have hb2 : (z == x) = false := by simpa using he
          have HE := Lib.hid he
          clear he
          go_wp2_with (go_at_call 43; refine (hcl _).mono ?_; rintro e w' ⟨rfl, rfl⟩)
          go_roundw
          case rel =>
            refine ⟨i + 1, k + 1, by go_num, by go_num, by omega, ?_, hfr.setCell (by simp) _⟩
            have h := hkept.store hlt (by omega) (by rw [HZ.out]; exact HE.out)
            rw [HZ.out] at h
            exact h
          case measure => simp [intOf]; omega
      · have hkn : k = zs.length := by omega
        have hik : i < k := by obtain ⟨_, _, _, _, h4, _⟩ := hkept; exact h4
        subst hkn
        obtain ⟨hil, cur, hB, hcs, hcl1, hown⟩ := hkept.done rfl hnc hcm
        have hcl := fun ty cc => run_clear_ints (w := wr) ty g i (zs.length - i) cc cur hB hcl1
        have HO := Lib.hid hown
        have HIL := Lib.hid hil
        clear hown hil hkept hcs hcl1 hB
        go_wp2
        go_ret
        have hO := HO.out (List.replicate (zs.length - i) (Value.int .i64 0)) (by simp)
        rw [List.append_assoc] at hO
        exact ⟨_, rfl, by rw [← HIL.out]; exact hO, rfl, hfr.setRow (by simp) _⟩
end Go.Proofs.Ytfadadgkgbaohaa
