/-
  The package-level variables that the library's functions on strings read; those functions as this program calls them: Itoa, Atoi, Split, Join, Index, TrimPrefix.
-/
import Derived.Test.YtcnmnfllchiehaaDoorS0
import Derived.Test.YtcnmnfllchiehaaDoorLay
import Derived.Lib.LaidTab
import Derived.Lib.AppendIntMem
import Derived.Shelf.Strings.OnBuilder
import Derived.Shelf.Strings.Split
import Derived.Shelf.Strings.Prefix
import Derived.Shelf.SlicesG.Turned
import Derived.Shelf.Strconv.Itoa3
import Derived.Shelf.Strconv.AtoiAll
set_option linter.unusedSimpArgs false
set_option linter.unusedVariables false
namespace Go.Proofs.YtcnmnfllchiehaaDoor
open Go.RowKit

def I64 (n : Int) : Prop := -9223372036854775808 ≤ n ∧ n ≤ 9223372036854775807
theorem i64_of {n : Int} (h : (Lit.int .i64 n).wf = true) : I64 n := by
  have h' : (decide (-9223372036854775808 ≤ n) && decide (n ≤ 9223372036854775807)) = true := h
  simpa [I64] using h'

/-- An error value, or nil. -/
def ErrVal (v : Value) : Prop := v = .nilIface ∨ ∃ te pe, v = .iface te pe
/-- What the variables of the library hold. -/
structure Glo (w : World) : Prop where
  tab : Lib.TabIs Tryd.prog w "internal/strconv.uint64pow10" .u64 Lib.pow10Tab
  mx : ∃ m, w.cell? ⟨0, 0, none⟩ = some (.int .i64 m)
  syn : ∃ ev, w.cell? ⟨1, 0, none⟩ = some ev ∧ ErrVal ev
  rng : ∃ ev, w.cell? ⟨2, 0, none⟩ = some ev ∧ ErrVal ev

theorem Fr.var {w w' : World} (hf : Fr [] w w') {n : String} {cs : Array Value} (h : w.var? Tryd.prog n = some cs) : w'.var? Tryd.prog n = some cs := by
  unfold World.var? at h ⊢
  cases hg : Tryd.prog.globalNamed n with
  | none => rw [hg] at h; simp at h
  | some g =>
    rw [hg] at h
    simp only [Option.bind_some] at h ⊢
    have hlt : g < w.heap.size := by
      cases hh : w.heap[g]? with
      | none => rw [hh] at h; simp at h
      | some o => exact (Array.getElem?_eq_some_iff.1 hh).1
    rw [hf.block g hlt (by simp)]
    exact h
theorem Glo.fr {w w' : World} (h : Glo w) (hf : Fr [] w w') : Glo w' := by
  obtain ⟨h1, ⟨m, h2⟩, ⟨e1, h3, h4⟩, ⟨e2, h5, h6⟩⟩ := h
  exact ⟨hf.var h1, ⟨m, hf.cell0 h2⟩, ⟨e1, hf.cell0 h3, h4⟩, ⟨e2, hf.cell0 h5, h6⟩⟩

theorem itoa_any (n : Int) (w : World) (hn : I64 n) (hG : Glo w) : Calls Tryd.prog 47 #[.int .i64 n] w fun e w' => e = .returned (.string (bs (Lib.itoa n))) ∧ Fr [] w w' := by
  refine (Any.strconv_Itoa itoaL n hn.1 hn.2 w hG.tab).mono ?_
  rintro e w' ⟨rfl, k, os, rfl⟩
  exact ⟨rfl, (Fr.refl [] w).below (Lib.below_grow _ w (Nat.le_refl _) k os)⟩

theorem blank_index_any (xs : List Str) (x : Str) (v : Value) (M : List Nat) (w : World) (h : Rd w 1 M v xs.length (strs xs)) :
    Calls Tryd.prog 35 #[v, .string (bs x)] w fun e w' => e = .returned (.int .i64 (Lib.idxOfS (xs.map bs) (bs x))) ∧ w = w' := by
  obtain ⟨A, c, rfl, _⟩ := id h
  rcases Nat.eq_zero_or_pos xs.length with h0 | h0
  · have : xs = [] := List.eq_nil_of_length_eq_zero h0
    subst this
    refine (AnyG.slices_Index_string_empty idxL A c (bs x) w).mono ?_
    rintro e w' ⟨rfl, rfl⟩
    exact ⟨rfl, rfl⟩
  · obtain ⟨g, o, rfl, _, hlt, hc⟩ := h.plain h0 (by omega)
    have hr := h.room
    refine (AnyG.slices_Index_string idxL g o xs.length c (xs.map bs) (bs x) w (by simp) (by have := h.max; omega) ?_).mono ?_
    · intro j hj
      have hj' : j < xs.length := by simpa using hj
      rw [hc j _ (strs_get hj')]
      simp [List.getD, hj']
    · rintro e w' ⟨rfl, rfl⟩
      refine ⟨?_, rfl⟩
      rw [List.take_of_length_le (by simp)]

theorem split_any (s : Str) (w : World) (hs : s.length < 4294967281) (hG : Glo w) : Calls Tryd.prog 34 #[.string (bs s), .string (bs [32])] w fun e w' =>
    ∃ v, e = .returned v ∧ Rd w' 1 [] v (splitW s).length (strs (splitW s)) ∧ Fr [] w w' := by
  obtain ⟨m, hm⟩ := hG.mx
  have hi : (Tryd.prog.info? (splitL_ren.t 9)).map (fun i => (i.zero, i.size, i.bytes)) = some (some (.string ByteArray.empty), 1, 16) := by kernel_rfl
  refine (Any.strings_Split splitL hi (bs s) (bs [32]) m w (by rw [bs_size]; exact hs) hm (by rw [bs_size]; simp)).mono ?_
  rintro e w' ⟨rfl, rfl⟩
  have hcb : Lib.countB (bs s) (bs [32]) = Lib.count s [32] := by unfold Lib.countB; rw [bs_list, bs_list]
  have hd : (Lib.splitB (bs [32]) 0 (Lib.countB (bs s) (bs [32])) (bs s)).map (·.data.toList) = splitW s := by
    rw [Lib.splitB_data, bs_list, bs_list, hcb, split_splitW]
  have hl : (Lib.splitB (bs [32]) 0 (Lib.countB (bs s) (bs [32])) (bs s)).length = (splitW s).length := by rw [← hd]; simp
  have hall := Lib.splitB_all (bs [32]) (by rw [bs_size]; simp) 0 _ (bs s) rfl
  have hv : (Lib.splitB (bs [32]) 0 (Lib.countB (bs s) (bs [32])) (bs s)).map Value.string = strs (splitW s) := by
    unfold strs
    rw [← hd, List.map_map]
    exact List.map_congr_left fun b _ => by simp [Function.comp, bs_of]
  rw [hv]
  have hlen : Lib.countB (bs s) (bs [32]) + 1 = (splitW s).length := by omega
  rw [hlen]
  have hle := splitW_len s
  refine ⟨_, rfl, ⟨_, _, rfl, by rw [strs_length]; omega, Nat.le_refl _, by unfold maxLen; omega, (fun e => nomatch e), fun _ => ⟨_, rfl, by simp, fun j u hu => ?_⟩⟩, (Fr.refl _ _).alloc _⟩
  have hb := Blk.new w (splitL_ren.t 9) (strs (splitW s)).toArray
  have := hb.cell j
  rw [show ((⟨w.heap.size, 0, none⟩ : Addr).add j) = ⟨w.heap.size, j, none⟩ by unfold Addr.add; split <;> simp_all]
  rw [this]
  simpa using hu

theorem join_any (xs : List Str) (v : Value) (M : List Nat) (w : World) (h : Rd w 1 M v xs.length (strs xs)) (hlen : (joinW xs).length ≤ 140737488355328) (hn : xs.length ≤ 140737488355328) :
    Calls Tryd.prog 28 #[v, .string (bs [32])] w fun e w' => e = .returned (.string (bs (joinW xs))) ∧ Fr [] w w' := by
  obtain ⟨A, c, rfl, _⟩ := id h
  have hX : Builder.Extra Tryd.prog joinL_ren := ⟨⟨by kernel_rfl, by kernel_rfl⟩, Tryd.underlying5, Tryd.isAgg5, Tryd.sizeOf5, Tryd.zeroValue5, by kernel_rfl, by kernel_rfl, by kernel_rfl, by decide⟩
  rcases Nat.eq_zero_or_pos xs.length with h0 | h0
  · have : xs = [] := List.eq_nil_of_length_eq_zero h0
    subst this
    refine (Any.strings_Join_none joinL hX A c (bs [32]) w).mono ?_
    rintro e w' ⟨rfl, rfl⟩
    exact ⟨rfl, Fr.refl _ _⟩
  · obtain ⟨g, o, rfl, _, hlt, hc⟩ := h.plain h0 (by omega)
    have hr := h.room
    have hd : (xs.map bs).map (·.data.toList) = xs := by rw [List.map_map]; exact (List.map_congr_left fun b _ => bs_list b).trans (List.map_id' xs)
    have hj := Any.strings_Join joinL hX g o c (xs.map bs) (bs [32]) w (fun j x hx => by
      simp only [List.getElem?_map, Option.map_eq_some_iff] at hx
      obtain ⟨l, hl, rfl⟩ := hx
      refine hc j _ ?_
      simp [strs, hl]) hlt (by simpa using hn) (by simpa using hr.1) (by rw [hd, bs_list]; exact hlen)
    rw [List.length_map, hd, bs_list] at hj
    refine hj.mono ?_
    rintro e w' ⟨rfl, hb⟩
    exact ⟨rfl, (Fr.refl [] w).below hb⟩

def trimMinus (s : Str) : Str := Lib.trimPrefix s [45]
theorem trim_any (s : Str) (w : World) : Calls Tryd.prog 55 #[.string (bs s), .string (bs [45])] w fun e w' => e = .returned (.string (bs (trimMinus s))) ∧ w = w' := by
  refine (Any.strings_TrimPrefix trimL (bs s) (bs [45]) w).mono ?_
  rintro e w' ⟨rfl, rfl⟩
  rw [bs_list, bs_list]
  exact ⟨rfl, rfl⟩

/-- What Atoi answers. -/
def atoiV (s : Str) : Int := match Lib.atoiAll s with | .ok v => v | .range => Lib.atoiSat s | _ => 0
def atoiB (s : Str) : Bool := match Lib.atoiAll s with | .ok _ => true | _ => false
def AtoiSays (w w' : World) (s : Str) (e : Ending) : Prop := ∃ ev, e = .returned (.tuple #[.int .i64 (atoiV s), ev]) ∧ ((atoiB s = true ∧ ev = .nilIface) ∨ (atoiB s = false ∧ ∃ t N, ev = .iface t (.pointer (some ⟨N, 0, none⟩)))) ∧ Fr [] w w'
theorem atoi_any (s : Str) (w : World) (hs : s.length ≤ 281474976710656) (hG : Glo w) : Calls Tryd.prog 54 #[.string (bs s)] w fun e w' => AtoiSays w w' s e := by
  rcases h : Lib.atoiAll s with v | _ | _
  · refine (Any.strconv_Atoi_ok atoiL (bs s) (by rw [bs_size]; omega) v (by rw [bs_list]; exact h) w).mono ?_
    rintro e w' ⟨rfl, hw⟩
    refine ⟨.nilIface, by unfold atoiV; rw [h], .inl ⟨by unfold atoiB; rw [h], rfl⟩, ?_⟩
    rcases hw with rfl | ⟨t, rfl⟩
    · exact Fr.refl _ _
    · exact (Fr.refl [] w).below (Lib.bytesWorld_below _ _ _)
  · obtain ⟨ev, hev, hv⟩ := hG.syn
    refine (Any.strconv_Atoi_syntax atoiL (bs s) (by rw [bs_size]; omega) (by rw [bs_list]; exact h) ev w hev hv).mono ?_
    rintro e w' ⟨N, rfl, _, _, hb⟩
    exact ⟨_, by unfold atoiV; rw [h], .inr ⟨by unfold atoiB; rw [h], _, _, rfl⟩, (Fr.refl [] w).below hb⟩
  · obtain ⟨ev, hev, hv⟩ := hG.rng
    refine (Any.strconv_Atoi_range atoiL (bs s) (by rw [bs_size]; omega) (by rw [bs_list]; exact h) ev w hev hv).mono ?_
    rintro e w' ⟨N, rfl, _, _, hb⟩
    exact ⟨_, by unfold atoiV; rw [h, bs_list], .inr ⟨by unfold atoiB; rw [h], _, _, rfl⟩, (Fr.refl [] w).below hb⟩
end Go.Proofs.YtcnmnfllchiehaaDoor
