/-
  Strings as lists of bytes; rows of strings; words split at blanks: plain laws.
-/
import Derived.Test.YtcnmnfllchiehaaDoorI0
import Derived.Lib.SplitLaws
import Derived.Lib.Join
import Derived.Lib.Hide
set_option linter.unusedSimpArgs false
set_option linter.unusedVariables false
namespace Go.Proofs.YtcnmnfllchiehaaDoor
open Go.RowKit

abbrev Str := List UInt8
def bs (l : Str) : ByteArray := ⟨l.toArray⟩
theorem bs_list (l : Str) : (bs l).data.toList = l := by simp [bs]
theorem bs_of (b : ByteArray) : bs b.data.toList = b := by cases b; simp [bs]
theorem bs_inj {a b : Str} (h : bs a = bs b) : a = b := by rw [← bs_list a, h, bs_list]
theorem bs_size (l : Str) : (bs l).size = l.length := by simp [bs, ByteArray.size]
theorem bs_append (a b : Str) : bs a ++ bs b = bs (a ++ b) := by
  apply ByteArray.ext
  rw [ByteArray.data_append]
  simp [bs]
theorem bs_toList (a : Str) : (bs a).toList = a := by rw [ByteArray.toList_eq, bs_list]
theorem bs_empty (a : Str) : (bs a).toList.isEmpty = a.isEmpty := by rw [bs_toList]
/-- Two strings held against one another. -/
theorem bs_beq (a b : Str) : ((bs a).toList == (bs b).toList) = decide (a = b) := by
  rw [bs_toList, bs_toList, Bool.eq_iff_iff]; simp

def strs (xs : List Str) : List Value := xs.map fun l => .string (bs l)
theorem strs_length (xs : List Str) : (strs xs).length = xs.length := by simp [strs]
theorem strs_get {xs : List Str} {j : Nat} (h : j < xs.length) : (strs xs)[j]? = some (.string (bs xs[j])) := by simp [strs, h]
theorem strs_append (a b : List Str) : strs (a ++ b) = strs a ++ strs b := by simp [strs]
theorem strs_one (xs : List Str) : ∀ u ∈ strs xs, u.oneCell' = true := by
  intro u hu
  simp only [strs, List.mem_map] at hu
  obtain ⟨a, _, rfl⟩ := hu
  rfl
theorem str_elem : Elem Tryd.prog 60 9 (.string ByteArray.empty) 1 16 :=
  ⟨Tryd.underlying60, info_parts (by kernel_rfl), rfl, by omega⟩

theorem add_zero_' (a : Addr) : a.add 0 = a := by unfold Addr.add; split <;> simp_all
/-- A row that is not empty: where it lies, and each of its cells. -/
theorem Rd.plain {w : World} {k : Nat} {M : List Nat} {A : Option Addr} {n c : Nat} {xs : List Value} (h : Rd w k M (.slice A n c) n xs) (hn : 0 < n) (hk : 0 < k) :
    ∃ g o, A = some ⟨g, o, none⟩ ∧ g ∉ M ∧ g < w.heap.size ∧ ∀ j u, xs[j]? = some u → w.cell? ⟨g, o + j, none⟩ = some u := by
  obtain ⟨A', c', e, hl, h1, h2, h4, h3⟩ := h
  obtain ⟨ad, rfl, hb, hc⟩ := h3 hn
  injection e with e1 e2 e3
  have hpos : 0 < xs.length := by rw [hl]; exact Nat.mul_pos hn hk
  have h0 := hc 0 _ (List.getElem?_eq_getElem hpos)
  have hlt := World.block_lt_of_cell? w _ h0
  rw [add_block] at hlt
  rw [add_zero_'] at h0
  have hs : ad.spot = none := by
    unfold World.cell? at h0
    cases hsp : ad.spot with
    | none => rfl
    | some x =>
      rw [hsp] at h0
      split at h0 <;> simp at h0
  obtain ⟨g, o, sp⟩ := ad
  simp only at hs
  subst hs
  have hadd : ∀ j, (⟨g, o, none⟩ : Addr).add j = ⟨g, o + j, none⟩ := fun j => by unfold Addr.add; split <;> simp_all
  exact ⟨g, o, e1, hb, hlt, fun j u hu => by rw [← hadd]; exact hc j u hu⟩
theorem Rd.room {w : World} {k : Nat} {M : List Nat} {A : Option Addr} {n c : Nat} {xs : List Value} (h : Rd w k M (.slice A n c) n xs) : n ≤ c ∧ c ≤ maxLen ∧ xs.length = n * k := by
  obtain ⟨A', c', e, hl, h1, h2, h4, h3⟩ := h
  injection e with e1 e2 e3
  subst e3
  exact ⟨h1, h2, hl⟩

/-- A row laid by the call. -/
theorem rd_new (w : World) (k : Nat) (M : List Nat) (t : TypeId) (cs : List Value) (n : Nat) (hn : cs.length = n * k) (hm : n ≤ maxLen) (hM : w.heap.size ∉ M) : Rd (w.alloc (.cells cs.toArray t)) k M (.slice (some ⟨w.heap.size, 0, none⟩) n n) n cs := by
  refine ⟨_, _, rfl, hn, Nat.le_refl _, hm, (fun e => nomatch e), fun _ => ⟨_, rfl, hM, fun j u hu => ?_⟩⟩
  have hb := (Blk.new w t cs.toArray).cell j
  rw [show ((⟨w.heap.size, 0, none⟩ : Addr).add j) = ⟨w.heap.size, j, none⟩ by unfold Addr.add; split <;> simp_all, hb]
  simpa using hu
theorem own_new (w : World) (k : Nat) (t : TypeId) (cs : List Value) (n : Nat) (hn : cs.length = n * k) (hm : n ≤ maxLen) : (w.alloc (.cells cs.toArray t)).ownsRow 0 t k (.slice (some ⟨w.heap.size, 0, none⟩) n n) n cs :=
  ⟨hn, .inr ⟨w.heap.size, n, cs.toArray, rfl, Nat.zero_le _, heap_alloc_new w _, Nat.le_refl _, hm, by simpa using hn, by rw [List.take_of_length_le (by simp; omega)]⟩⟩
theorem new_new (w : World) (n c : Nat) : NewFrom w.heap.size (.slice (some ⟨w.heap.size, 0, none⟩) n c) := fun g hg => by
  simp [Value.ownBlock] at hg; omega
/-- Behind an append onto a row of the call's own. -/
theorem push_new {w wr wq w4 : World} {u v1 : Value} {e : TypeId} {size n : Nat} {xs : List Value} (hnw : NewFrom w.heap.size u) (hfr : Fr [] w wr) (hq : Fr [] wr wq)
    (hfa : Fr u.ownBlock.toList wq w4) (hat : v1.ownBlock = u.ownBlock ∨ v1.ownBlock = some wq.heap.size) : NewFrom w.heap.size v1 ∧ Fr [] w w4 := by
  have h1 := hfr.size
  have h2 := hq.size
  refine ⟨fun g hg => ?_, (hfr.trans' hq).trans hfa fun x hx hlt => ?_⟩
  · rcases hat with h | h
    · exact hnw g (by rw [← h]; exact hg)
    · rw [h] at hg; injection hg with hg; omega
  · simp at hx
    have := hnw x hx
    omega

/-! ### Words -/
/-- Split at blanks. -/
def splitW : Str → List Str
  | [] => [[]]
  | c :: r => if c = 32 then [] :: splitW r else match splitW r with
    | [] => [[c]]
    | x :: xs => (c :: x) :: xs
theorem splitW_ne (s : Str) : splitW s ≠ [] := by
  cases s with
  | nil => simp [splitW]
  | cons c r =>
    unfold splitW
    split
    · simp
    · split <;> simp
theorem splitW_len (s : Str) : (splitW s).length ≤ s.length + 1 := by
  induction s with
  | nil => simp [splitW]
  | cons c r ih =>
    unfold splitW
    split
    · simp; omega
    · split
      · simp
      · rename_i h; rw [h] at ih; simp at ih ⊢; omega
theorem index_blank_eq (r : Str) : Lib.index (32 :: r) [32] = 0 := by simp [Lib.index]
theorem index_blank_ne {c : UInt8} (h : c ≠ 32) (r : Str) : Lib.index (c :: r) [32] = if Lib.index r [32] == -1 then -1 else Lib.index r [32] + 1 := by
  have : ([32] : Str).isPrefixOf (c :: r) = false := by
    simp [List.isPrefixOf]
    exact fun e => absurd e.symm h
  rw [Lib.index, this]
  rfl
theorem split_splitW : ∀ s : Str, Lib.splitK [32] 0 (Lib.count s [32]) s = splitW s
  | [] => by simp [Lib.count_one, Lib.splitK, splitW]
  | c :: r => by
    have ih := split_splitW r
    by_cases h : c = 32
    · subst h
      rw [Lib.count_cons_eq, Nat.add_comm, Lib.splitK, index_blank_eq]
      simp only [splitW, if_true]
      simpa using ih
    · rw [Lib.count_cons_ne c 32 r h]
      unfold splitW
      rw [if_neg h]
      cases hk : Lib.count r [32] with
      | zero =>
        rw [hk] at ih
        rw [Lib.splitK] at ih ⊢
        rw [← ih]
      | succ k =>
        rw [hk] at ih
        rw [Lib.splitK] at ih ⊢
        rw [index_blank_ne h]
        have hm : Lib.index r [32] ≠ -1 := fun e => by rw [Lib.count_miss e] at hk; omega
        have hge := Lib.index_ge r [32]
        have hb : (Lib.index r [32] == -1) = false := by simpa using hm
        rw [hb] at ih ⊢
        simp only [Bool.false_eq_true, if_false] at ih ⊢
        have h2 : (Lib.index r [32] + 1 == -1) = false := by
          simp; omega
        rw [h2]
        simp only [Bool.false_eq_true, if_false]
        rw [← ih]
        have ht : (Lib.index r [32] + 1).toNat = (Lib.index r [32]).toNat + 1 := by omega
        rw [ht]
        simp only [List.length_singleton, Nat.add_zero, List.take_succ_cons]
        congr 1
/-- Words without blanks. -/
def NoBlank (x : Str) : Prop := ∀ c ∈ x, c ≠ 32
theorem splitW_noblank {x : Str} (h : NoBlank x) : splitW x = [x] := by
  induction x with
  | nil => rfl
  | cons c r ih =>
    unfold splitW
    rw [if_neg (h c (by simp)), ih (fun d hd => h d (by simp [hd]))]
theorem splitW_ne_cons {c : UInt8} (hc : c ≠ 32) {r y : Str} {ys : List Str} (h : splitW r = y :: ys) : splitW (c :: r) = (c :: y) :: ys := by
  rw [splitW, if_neg hc, h]
theorem splitW_cons {x : Str} (h : NoBlank x) (s : Str) : splitW (x ++ 32 :: s) = x :: splitW s := by
  induction x with
  | nil => simp [splitW]
  | cons c r ih =>
    rw [List.cons_append]
    exact splitW_ne_cons (h c (by simp)) (ih (fun d hd => h d (by simp [hd])))
/-- Words joined by blanks. -/
def joinW (xs : List Str) : Str := Lib.join xs [32]
theorem joinW_one (x : Str) : joinW [x] = x := Lib.join_one x _
theorem joinW_cons (x y : Str) (r : List Str) : joinW (x :: y :: r) = x ++ 32 :: joinW (y :: r) := by
  unfold joinW
  rw [Lib.join_cons, Lib.join_cons]
  simp [Lib.joinTail]
theorem splitW_joinW : ∀ (xs : List Str), xs ≠ [] → (∀ x ∈ xs, NoBlank x) → splitW (joinW xs) = xs
  | [], h, _ => absurd rfl h
  | [x], _, h => by rw [joinW_one]; exact splitW_noblank (h x (by simp))
  | x :: y :: r, _, h => by
    rw [joinW_cons, splitW_cons (h x (by simp)), splitW_joinW (y :: r) (by simp) (fun z hz => h z (by simp [hz]))]
theorem joinW_splitW : ∀ s : Str, joinW (splitW s) = s
  | [] => rfl
  | c :: r => by
    have ih := joinW_splitW r
    unfold splitW
    split
    · rename_i h
      subst h
      cases hs : splitW r with
      | nil => exact absurd hs (splitW_ne r)
      | cons x xs => rw [joinW_cons, ← hs, ih]; rfl
    · cases hs : splitW r with
      | nil => exact absurd hs (splitW_ne r)
      | cons x xs =>
        rw [hs] at ih
        simp only
        cases xs with
        | nil => rw [joinW_one] at ih ⊢; rw [ih]
        | cons y ys => rw [joinW_cons] at ih ⊢; rw [List.cons_append, ih]
theorem splitW_blank : ∀ (s : Str), ∀ x ∈ splitW s, NoBlank x
  | [], x, hx => by simp [splitW] at hx; subst hx; intro c hc; simp at hc
  | c :: r, x, hx => by
    have ih := splitW_blank r
    unfold splitW at hx
    split at hx
    · rcases List.mem_cons.1 hx with rfl | hx
      · intro d hd; simp at hd
      · exact ih x hx
    · rename_i hc
      cases hs : splitW r with
      | nil => exact absurd hs (splitW_ne r)
      | cons y ys =>
        rw [hs] at hx
        simp only at hx
        rcases List.mem_cons.1 hx with rfl | hx
        · intro d hd
          rcases List.mem_cons.1 hd with rfl | hd
          · exact hc
          · exact ih y (by rw [hs]; simp) d hd
        · exact ih x (by rw [hs]; simp [hx])
end Go.Proofs.YtcnmnfllchiehaaDoor
