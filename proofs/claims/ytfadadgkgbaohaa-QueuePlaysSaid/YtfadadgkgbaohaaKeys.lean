/-
  The contract of (*Wheel).Keys: all keys, by tick, then by the count at which they were set.
-/
import Derived.Test.YtfadadgkgbaohaaCmp
import Derived.Test.YtfadadgkgbaohaaLay
import Derived.Test.YtfadadgkgbaohaaMsg
import Derived.Shelf.SlIterI.Collect
import Derived.Shelf.SlSortCmp.NoneTotal
import Derived.Lib.SlKeysI
set_option linter.unusedSimpArgs false
set_option linter.unusedVariables false
namespace Go.Proofs.Ytfadadgkgbaohaa
open Go.RowKit Go.Sort Go.Shelf Go.Lib Go.Maps Go.WideElems Go.WideShapes

theorem lt_cmpK (ws : List WE) (x y : Int) : ltOf (cmpK ws) x y = decide (tillOf ws x < tillOf ws y ∨ (tillOf ws x = tillOf ws y ∧ setOf_ ws x < setOf_ ws y)) := by
  unfold ltOf cmpK orI Lib.compareInt
  generalize tillOf ws x = a
  generalize tillOf ws y = b
  generalize setOf_ ws x = c
  generalize setOf_ ws y = d
  congr 1
  apply propext
  split <;> split <;> (try split) <;> (try split) <;> omega
theorem swo_cmpK (ws : List WE) : SWO (ltOf (cmpK ws)) where
  irrefl x := by rw [lt_cmpK]; simp
  trans x y z h1 h2 := by rw [lt_cmpK] at *; simp only [decide_eq_true_eq] at *; omega
  ntrans x y z h1 h2 := by rw [lt_cmpK] at *; simp only [decide_eq_false_iff_not] at *; omega

/-- The map's datum that the library's contract speaks of: its keys alone. -/
def keysR : Value → Option (DataW Unit × List MemPlace) := fun _ => some (.nil, [])

set_option maxRecDepth 100000 in
theorem wheel_owns {w : World} {p m : Nat} {set : Int} {ws : List WE} (h : WheelAt w p m set ws) (hlen : ws.length ≤ maxLen) :
    ∃ D0 : DataW Unit, w.ownsMap Try.prog 3 keysR m ws.length D0 ∧ Maps.size D0 = ws.length ∧ (intKeys D0).Perm (ws.map (·.proc)) := by
  obtain ⟨ck, hm, hok⟩ := h.map
  have hrd : ∀ e ∈ ws, rd Try.prog 3 keysR e.me = some (.int .i64 e.proc, .nil) := fun e he => by
    have hwf := hok.wf e he
    refine rd_mk (kl := .int .i64 e.proc) (yv := (.nil, [])) ?_ rfl
    exact Maps.keyOf_int_mk Try.underlying3 hwf
  have hl : (ents ws).toList = ws.map WE.me := by simp [ents]
  have hmap : (ents ws).toList.map (rg Try.prog 3 keysR) = ws.map fun e => (Lit.int .i64 e.proc, (DataW.nil : DataW Unit)) := by
    rw [hl, List.map_map]
    exact List.map_congr_left fun e he => rg_of (hrd e he)
  refine ⟨.map (((ents ws).toList.map (rg Try.prog 3 keysR)).foldr DataW.insert []), ⟨ents ws, ck, hm, ⟨by simpa [ents] using hlen, ?_, ?_⟩, by simp [ents], rfl⟩, ?_, ?_⟩
  · rw [MapKept.stamped_iff, hl]
    refine ⟨fun x hx => ?_, ?_, ?_⟩
    · obtain ⟨e, he, rfl⟩ := List.mem_map.1 hx; exact hok.clock e he
    · rw [List.map_map]; exact List.pairwise_map.2 (hok.born.imp fun {a b} hab => by simp [WE.me]; omega)
    · have := List.pairwise_map.1 hok.keys
      exact List.pairwise_map.2 (this.imp fun {a b} hab => by simpa [WE.me] using hab)
  · rw [hl]; intro x hx; obtain ⟨e, he, rfl⟩ := List.mem_map.1 hx; exact ⟨_, hrd e he⟩
  · rw [Maps.size_eq, (sorted_perm _).length_eq, hmap]; simp
  · show ((((ents ws).toList.map (rg Try.prog 3 keysR)).foldr DataW.insert []).map fun p => Go.intOf p.1).Perm _
    refine ((sorted_perm _).map _).trans ?_
    rw [hmap, List.map_map]
    exact List.Perm.of_eq (List.map_congr_left fun e _ => rfl)

theorem sortWorld_heap {w : World} {blk off m k : Nat} {dk : Array Int} {os : Array Obj} (hk : k < w.heap.size) (hne : k ≠ blk) : (sortWorld (Value.int .i64) w blk off m dk os).heap[k]? = w.heap[k]? := by
  unfold sortWorld
  rw [heap_grow_old _ _ (by simpa [putRow, mapBlock, Sort.ahead] using hk)]
  simp [putRow, mapBlock, Sort.ahead, Array.getElem?_modify, Ne.symm hne]
theorem sortWorld_fr (w : World) (blk off m : Nat) (dk : Array Int) (os : Array Obj) : Fr [blk] w (sortWorld (Value.int .i64) w blk off m dk os) :=
  ⟨rfl, rfl, rfl, by unfold sortWorld; simp [putRow, mapBlock, Sort.ahead], fun k hk hne => sortWorld_heap hk (by simpa using hne)⟩

/-- Keys sorted as the wheel sorts them. -/
def Sorted (ws : List WE) (L : List Int) : Prop := L.Perm (ws.map (·.proc)) ∧ L.Pairwise (fun x y => ltOf (cmpK ws) y x = false)

set_option maxHeartbeats 1000000 in
theorem sortFunc_any (b p m : Nat) (set : Int) (ws : List WE) (g cap : Nat) (cur : Array Value) (L0 : List Int) (w : World) (hb : w.cell? ⟨b, 0, none⟩ = some (.pointer (some ⟨p, 0, none⟩))) (h : WheelAt w p m set ws)
    (hg : w.heap[g]? = some (.cells cur 3 (0, 0))) (h1 : L0.length ≤ cap) (h2 : cap ≤ maxLen) (h3 : cur.size = cap * 1) (h4 : cur.toList.take L0.length = ints L0) (hbg : b ≠ g) (hpg : p ≠ g) (hmg : m ≠ g) (hlen : L0.length ≤ 1048576) :
    Calls Try.prog 55 #[.slice (some ⟨g, 0, none⟩) L0.length cap, .func (.func 51) #[] #[.pointer (some ⟨b, 0, none⟩)]] w fun e w' => e = .returned (.tuple #[]) ∧
      ∃ L, L.length = L0.length ∧ L.Perm L0 ∧ L.Pairwise (fun x y => ltOf (cmpK ws) y x = false) ∧ w'.ownsRow 0 3 1 (.slice (some ⟨g, 0, none⟩) L0.length cap) L0.length (ints L) ∧ Fr [g] w w' := by
  obtain ⟨ck, hm, hok⟩ := h.map
  have hp := h.blk.cell 0
  have hgl : g < w.heap.size := (Array.getElem?_eq_some_iff.1 hg).1
  have hbl := World.block_lt_of_cell? w _ hb
  have hpl := World.block_lt_of_cell? w _ hp
  have hml : m < w.heap.size := (Array.getElem?_eq_some_iff.1 hm).1
  have hH : Holds (Value.int .i64) w g 0 L0.toArray := holds_of_block_i hg h4
  have hsz : L0.toArray.size = L0.length := by simp
  have eg : ∀ args w, (callFunc 51 args).run Try.prog w = .ok (.enter 51 args) w := enters_of Try.func51 (by kernel_rfl) rfl
  have hcmp : CmpLays1 Try.prog 51 #[.pointer (some ⟨b, 0, none⟩)] (Value.int .i64) (cmpK ws) g 0 L0.toArray.size w := fun mm os dk _ x y => by
    refine (keys_cmp_any b p m ck set ws x y (sortWorld (Value.int .i64) w g 0 mm dk os) ((World.cell?_of_block (sortWorld_heap hbl hbg)).trans hb) ((World.cell?_of_block (sortWorld_heap hpl hpg)).trans hp) ((sortWorld_heap hml hmg).trans hm)).mono ?_
    rintro e w' ⟨rfl, os', rfl⟩
    exact ⟨rfl, 1, os', rfl⟩
  have hS := Any.slices_SortFunc sortL (Value.int .i64) (fun _ => rfl) (cmpK ws) (swo_cmpK ws) 51 #[.pointer (some ⟨b, 0, none⟩)] g 0 cap L0.toArray w eg hcmp hH hgl (by rw [hsz]; omega)
  rw [hsz] at hS
  refine Calls.mono hS ?_
  rintro e w' ⟨rfl, d', n, os, ⟨hd1, _, hd2⟩, hd3, rfl⟩
  have hdl : d'.toList.length = L0.length := by simpa using hd1
  refine ⟨rfl, d'.toList, hdl, ?_, ?_, ?_, sortWorld_fr _ _ _ _ _ _⟩
  · have e1 : d'.extract 0 L0.length = d' := by rw [← hdl]; simp
    have e2 : L0.toArray.extract 0 L0.length = L0.toArray := by simp
    rw [e1, e2] at hd2
    simpa using hd2
  · rw [List.pairwise_iff_getElem]
    intro i j hi hj hij
    have := hd3 i j (Nat.zero_le _) hij (by rw [← hdl]; exact hj)
    simpa [getElem!_pos, hi, hj, show i < d'.size by simpa using hi, show j < d'.size by simpa using hj] using this
  · have := ownsRow_sorted_i (base := 0) (n := n) (os := os) (ss := L0) (ts := d'.toList) hdl (Nat.zero_le _) hg h1 h2 h3
    rw [Array.toArray_toList] at this
    exact this

theorem Fr.of_below {w w' : World} (h : RowKit.Below w.heap.size w w') : Fr [] w w' := ⟨h.os, h.tape, h.output, h.size, fun k hk _ => h.block k hk⟩

/-- What Keys gives. -/
def KeysOut (w w' : World) (ws : List WE) (e : Ending) : Prop := ∃ v L, e = .returned v ∧ Sorted ws L ∧ w'.ownsRow 0 3 1 v L.length (ints L) ∧ NewFrom w.heap.size v ∧ Fr [] w w'

set_option maxHeartbeats 1000000 in
theorem sortedFunc_any (b bm p m : Nat) (set : Int) (ws : List WE) (w : World) (hb : w.cell? ⟨b, 0, none⟩ = some (.pointer (some ⟨p, 0, none⟩))) (hbm : w.cell? ⟨bm, 0, none⟩ = some (.map (some m))) (h : WheelAt w p m set ws) (hlen : ws.length ≤ 1048576) :
    Calls Try.prog 49 #[.func (.func 56) #[] #[.pointer (some ⟨bm, 0, none⟩)], .func (.func 51) #[] #[.pointer (some ⟨b, 0, none⟩)]] w fun e w' => KeysOut w w' ws e := by
  obtain ⟨D0, hown, hsz, hperm⟩ := wheel_owns h (by simp only [maxLen]; omega)
  have hbl := World.block_lt_of_cell? w _ hb
  have hbml := World.block_lt_of_cell? w _ hbm
  have hpl := h.blk.lt
  have hml := h.mlt
  have hseq : SeqGives Fence.wide 3 Try.prog 56 #[.pointer (some ⟨bm, 0, none⟩)] encZ (fun ss => ss.Perm (intKeys D0)) (Maps.size D0) w :=
    AnyZI.keys_gives (ρ := keysL_ren) { keysL with } Fence.wide _ trivial rfl (by omega) bm m ws.length D0 _ hbml hbm hown
  have hcol := callsIn_wide.1 (AnyZI.collect_in collL Fence.wide 5 trivial trivial rfl (by omega) 56 #[.pointer (some ⟨bm, 0, none⟩)] trivial (enters_of Try.func56 (by kernel_rfl) rfl) _ _ (by rw [hsz]; simp only [maxLen]; omega) (by rw [hsz]; omega) w hseq)
  change Calls Try.prog 54 _ _ _ at hcol
  have hnone := fun (q : Option Addr) (cap : Nat) (fv : Value) (W : World) => AnyF.slices_SortFunc_none (P := Try.prog) (ρ := sortL_ren) { sortL with } q cap fv W
  change ∀ q cap fv W, Calls Try.prog 55 #[.slice q 0 cap, fv] W _ at hnone
  have H := Lib.hid h
  have HB := Lib.hid hb
  clear hown hseq h hb hbm
  go_enter Try.func49, Try.ntmps49
  go_wp2_with fail
  refine Calls.mono hcol ?_
  rintro e w1 ⟨v, ss, rfl, hss, hrow, hnil, hbel⟩
  have hps : ss.Perm (ws.map (·.proc)) := List.Perm.trans hss hperm
  have hlen1 : ss.length = ws.length := by rw [hps.length_eq]; simp
  have hfr : Fr [] w w1 := Fr.of_below hbel
  rcases hrow.2 with ⟨rfl, h0⟩ | ⟨g, cap, cur, rfl, hgb, hg, h1, h2, h3, h4⟩
  · have hz : ss = [] := hnil.1 rfl
    subst hz
    have HK : KeysOut w w1 ws (.returned (.slice none 0 0)) := ⟨_, [], rfl, ⟨hps, List.Pairwise.nil⟩, World.ownsRow_nil _ _ _ _, by simp [NewFrom, Value.ownBlock], hfr⟩
    have HK' := Lib.hid HK
    clear HK hcol hrow hnil hss hbel hperm
    go_wp2_with (go_at_call 55; refine Calls.mono (hnone _ _ _ _) ?_; rintro e w' ⟨rfl, rfl⟩)
    go_ret
    exact HK'.out
  · have hW1 : WheelAt w1 p m set ws := H.out.fr hfr (by simp) (by simp)
    have hb1 := hfr.cell0 HB.out
    have hS := sortFunc_any b p m set ws g cap cur ss w1 hb1 hW1 hg h1 h2 h3 (by rw [Nat.mul_one] at h4; exact h4) (by omega) (by omega) (by omega) (by omega)
    have HK : ∀ w2 L, L.length = ss.length → L.Perm ss → L.Pairwise (fun x y => ltOf (cmpK ws) y x = false) → w2.ownsRow 0 3 1 (.slice (some ⟨g, 0, none⟩) ss.length cap) ss.length (ints L) → Fr [g] w1 w2 → KeysOut w w2 ws (.returned (.slice (some ⟨g, 0, none⟩) ss.length cap)) :=
      fun w2 L e1 e2 e3 e4 e5 => ⟨_, L, rfl, ⟨e2.trans hps, e3⟩, by rw [e1]; exact e4, fun g' hg' => by simp [Value.ownBlock] at hg'; subst hg'; exact hgb, hfr.trans e5 (fun x hx hlt => by simp at hx; omega)⟩
    have HK' := Lib.hid HK
    have HS := Lib.hid hS
    clear hlen1 hps HK hS hcol hrow hnil hss hbel hperm hg h1 h2 h3 h4 hb1 hW1
    go_wp2_with fail
    refine HS.out.mono ?_
    rintro e w2 ⟨rfl, L, e1, e2, e3, e4, e5⟩
    go_wp2
    go_ret
    exact HK'.out _ L e1 e2 e3 e4 e5

set_option maxHeartbeats 1000000 in
theorem keys_any (p m : Nat) (set : Int) (ws : List WE) (w : World) (h : WheelAt w p m set ws) (hlen : ws.length ≤ 1048576) :
    Calls Try.prog 45 #[.pointer (some ⟨p, 0, none⟩)] w fun e w' => KeysOut w w' ws e := by
  obtain ⟨w1, hw1⟩ : ∃ x, w.alloc (.cells #[.pointer (some ⟨p, 0, none⟩)] 67) = x := ⟨_, rfl⟩
  have hf1 : Fr [] w w1 := by rw [← hw1]; exact (Fr.refl _ _).alloc _
  have hB1 : Blk w1 w.heap.size 67 #[.pointer (some ⟨p, 0, none⟩)] := by rw [← hw1]; exact Blk.new _ _ _
  have hW1 : WheelAt w1 p m set ws := h.fr hf1 (by simp) (by simp)
  have x0 : w1.cell? ⟨w.heap.size, 0, none⟩ = some (.pointer (some ⟨p, 0, none⟩)) := hB1.cell 0
  have c0 : w1.cell? ⟨p, 0, none⟩ = some (.map (some m)) := hW1.blk.cell 0
  obtain ⟨w2, hw2⟩ : ∃ x, w1.alloc (.cells #[.map (some m)] 82) = x := ⟨_, rfl⟩
  have hf2 : Fr [] w1 w2 := by rw [← hw2]; exact (Fr.refl _ _).alloc _
  have hB2 : Blk w2 w1.heap.size 82 #[.map (some m)] := by rw [← hw2]; exact Blk.new _ _ _
  have hK := callsIn_wide.1 (AnyZI.keys_in keysL Fence.wide 5 trivial rfl (some m) w1)
  change Calls Try.prog 50 #[.map (some m)] w1 fun e w' => e = .returned (.func (.func 56) #[] #[.pointer (some ⟨w1.heap.size, 0, none⟩)]) ∧ w' = w1.alloc (.cells #[.map (some m)] 82) at hK
  rw [hw2] at hK
  have hS := sortedFunc_any w.heap.size w1.heap.size p m set ws w2 (hf2.cell0 x0) (hB2.cell 0) (hW1.fr hf2 (by simp) (by simp)) hlen
  have hout : ∀ e w', KeysOut w2 w' ws e → KeysOut w w' ws e := fun e w' ⟨v, L, e1, e2, e3, e4, e5⟩ => ⟨v, L, e1, e2, e3, fun g hg => by have := e4 g hg; have := hf1.size; have := hf2.size; omega, (hf1.trans' hf2).trans' e5⟩
  have HO := Lib.hid hout
  clear hout hB1 hB2 hW1 h hw2 hf1 hf2
  go_enter Try.func45, Try.ntmps45
  go_wp2_with fail
  refine hK.mono ?_
  rintro e w' ⟨rfl, rfl⟩
  go_wp2_with fail
  refine hS.mono ?_
  rintro e w' ⟨v, L, rfl, hk⟩
  go_wp2
  go_ret
  exact HO.out _ _ ⟨v, L, rfl, hk⟩
end Go.Proofs.Ytfadadgkgbaohaa
