/-
  A map whose keys are ints and whose elements are pairs of ints, entry by entry: what a lookup, a store at a new key and a delete do. Own work; nothing here names the program.
-/
import Derived.Test.YtfadadgkgbaohaaL0
import Derived.StringKeys
set_option linter.unusedSimpArgs false
namespace Go.Proofs.Ytfadadgkgbaohaa
open Go.RowKit

/-- An entry: the key, the two numbers, when it was born. -/
structure WE where
  proc : Int
  till : Int
  set : Int
  born : Nat

def WE.val (e : WE) : Value := .agg #[.int .i64 e.till, .int .i64 e.set]
def WE.me (e : WE) : MapEntry := { key := .int .i64 e.proc, val := e.val, born := e.born }
def ents (ws : List WE) : Array MapEntry := (ws.map WE.me).toArray

def look (p : Int) (ws : List WE) : Option WE := ws.find? (fun e => p == e.proc)
def drop1 (p : Int) (ws : List WE) : List WE := ws.eraseP (fun e => p == e.proc)

theorem findNow_ents (q : IntKind) (p : Int) : ∀ (ws : List WE) (i : Nat),
    Instr.findNow (.int q) (.int .i64 p) (ws.map WE.me) i = some ((ws.findIdx? (fun e => p == e.proc)).bind fun j => (ws[j]?).map fun e => (i + j, e.val))
  | [], i => rfl
  | e :: ws, i => by
    simp only [List.map_cons, Instr.findNow, WE.me, Instr.sameNow, if_pos]
    by_cases h : p == e.proc
    · simp [h, List.findIdx?_cons]
    · simp only [h]
      have hf : (p == e.proc) = false := by simpa using h
      have ih := findNow_ents q p ws (i + 1)
      simp only [ih, List.findIdx?_cons, hf]
      cases hx : ws.findIdx? (fun e => p == e.proc) with
      | none => simp
      | some j => simp [Nat.add_comm, Nat.add_left_comm, Nat.add_assoc]

theorem findIdx_look (p : Int) (ws : List WE) : (ws.findIdx? (fun e => p == e.proc)).bind (fun j => ws[j]?) = look p ws := by
  unfold look
  induction ws with
  | nil => rfl
  | cons e ws ih =>
    by_cases h : p == e.proc
    · simp [List.findIdx?_cons, h]
    · have hf : (p == e.proc) = false := by simpa using h
      simp only [List.findIdx?_cons, hf, List.find?_cons]
      cases hx : ws.findIdx? (fun e => p == e.proc) with
      | none => rw [hx] at ih; simpa using ih
      | some j => rw [hx] at ih; simpa using ih

theorem run_findKey_ents {P : Program} {k : TypeId} {q : IntKind} (hk : P.underlying k = some (.int q)) (p : Int) (ws : List WE) (w : World) :
    (Instr.findKey k (.int .i64 p) (ents ws).toList).run P w = .ok ((ws.findIdx? (fun e => p == e.proc)).bind fun j => (ws[j]?).map fun e => (j, e.val)) w := by
  have h := findNow_ents q p ws 0
  simp only [Nat.zero_add] at h
  simp [Instr.findKey, run_underlying hk, ents, h]

theorem run_checkKey_int {P : Program} {k : TypeId} {q : IntKind} (hk : P.underlying k = some (.int q)) (b : Bool) (v : Value) (w : World) :
    (Instr.checkKey b 10000 k v).run P w = .ok () w := by
  show (Instr.checkKey b (9999 + 1) k v).run P w = .ok () w
  generalize 9999 = n
  simp [Instr.checkKey, run_underlying hk]

theorem run_lookup_ents {P : Program} {t k e : TypeId} {q : IntKind} (ht : P.underlying t = some (.map k e)) (hk : P.underlying k = some (.int q))
    (hz : ∀ w, (zeroValue e).run P w = .ok (.agg #[.int .i64 0, .int .i64 0]) w) (p : Int) (ws : List WE) (m ck : Nat) (w : World) (hm : w.heap[m]? = some (.map (ents ws) ck)) :
    (Instr.lookup t (.map (some m)) (.int .i64 p) true).run P w = .ok (.tuple #[match look p ws with | some x => x.val | none => .agg #[.int .i64 0, .int .i64 0], .bool (look p ws).isSome]) w := by
  have hg : (getObj m).run P w = .ok (.map (ents ws) ck) w := by simp [getObj, Sem.run, hm]
  rw [← findIdx_look]
  simp only [Instr.lookup, run_underlying ht, Sem.run_bind, Result.andThen_ok, hg, Sem.run_pure, run_checkKey_int hk, run_findKey_ents hk]
  cases hx : ws.findIdx? (fun e => p == e.proc) with
  | none => simp [hz]
  | some j =>
    cases hy : ws[j]? with
    | none => simp [hz, hy]
    | some x => simp [hy]

theorem look_none_findIdx {p : Int} {ws : List WE} (h : look p ws = none) : ws.findIdx? (fun e => p == e.proc) = none := by
  unfold look at h
  simpa using h

theorem run_setObj {P : Program} {w : World} {m : Nat} {o' : Obj} {es : Array MapEntry} {ck : Nat} (hm : w.heap[m]? = some (.map es ck)) : (setObj m o').run P w = .ok () { w with heap := w.heap.setIfInBounds m o' } := by
  have hlt : m < w.heap.size := (Array.getElem?_eq_some_iff.1 hm).1
  rw [Array.getElem?_eq_getElem hlt] at hm
  have hm' : w.heap[m] = .map es ck := by injection hm
  simp [setObj, Sem.run, hlt, hm']

/-- The world with another object in block m. -/
def putObj (w : World) (m : Nat) (o : Obj) : World := { w with heap := w.heap.setIfInBounds m o }

theorem run_update_ents {P : Program} {t k e : TypeId} {q : IntKind} (ht : P.underlying t = some (.map k e)) (hk : P.underlying k = some (.int q))
    (p a b : Int) (ws : List WE) (m ck : Nat) (w : World) (hm : w.heap[m]? = some (.map (ents ws) ck)) (hn : look p ws = none) :
    (Instr.mapUpdate t (.map (some m)) (.int .i64 p) (.agg #[.int .i64 a, .int .i64 b])).run P w = .ok () (putObj w m (.map (ents (ws ++ [⟨p, a, b, ck⟩])) (ck + 1))) := by
  have hg : (getObj m).run P w = .ok (.map (ents ws) ck) w := by simp [getObj, Sem.run, hm]
  have hf := look_none_findIdx hn
  simp only [Instr.mapUpdate, run_underlying ht, Sem.run_bind, Result.andThen_ok, hg, Sem.run_pure, run_checkKey_int hk, run_findKey_ents hk, hf]
  simp [run_setObj hm, putObj, ents, WE.me, WE.val]

theorem eraseP_idx (p : Int) : ∀ ws : List WE, drop1 p ws = match ws.findIdx? (fun e => p == e.proc) with | some j => ws.eraseIdx j | none => ws
  | [] => rfl
  | e :: ws => by
    have ih := eraseP_idx p ws
    unfold drop1 at ih ⊢
    by_cases h : p == e.proc
    · simp [List.findIdx?_cons, h]
    · have hf : (p == e.proc) = false := by simpa using h
      simp only [List.eraseP_cons, hf, List.findIdx?_cons, cond_false, ih]
      cases hx : ws.findIdx? (fun e => p == e.proc) with
      | none => simp
      | some j => simp

theorem run_delete_ents {P : Program} {t t' k e ty : TypeId} {q : IntKind} (ht : P.underlying t = some (.map k e)) (hk : P.underlying k = some (.int q))
    (p : Int) (ws : List WE) (m ck : Nat) (w : World) (hm : w.heap[m]? = some (.map (ents ws) ck)) :
    (Builtin.delete_ #[t, t'] ty #[.map (some m), .int .i64 p]).run P w = .ok (.tuple #[]) (putObj w m (.map (ents (drop1 p ws)) ck)) := by
  have hg : (getObj m).run P w = .ok (.map (ents ws) ck) w := by simp [getObj, Sem.run, hm]
  rw [eraseP_idx]
  simp only [Builtin.delete_, List.getElem?_toArray, List.getElem?_cons_zero, List.getElem?_cons_succ, run_underlying ht, Sem.run_bind, Result.andThen_ok, hg, Sem.run_pure, run_checkKey_int hk, run_findKey_ents hk]
  cases hx : ws.findIdx? (fun e => p == e.proc) with
  | none => simp [run_setObj hm, putObj]
  | some j =>
    have hj : j < ws.length := by
      have := List.findIdx?_eq_some_iff_getElem.1 hx
      exact this.1
    have hy : ws[j]? = some ws[j] := List.getElem?_eq_getElem hj
    simp [hy, run_setObj hm, putObj, ents, Array.eraseIdxIfInBounds, hj, Go.ChangeMaps.map_eraseIdx]

theorem putObj_heap {w : World} {m : Nat} {o o' : Obj} (hm : w.heap[m]? = some o') : (putObj w m o).heap[m]? = some o := by
  have hlt : m < w.heap.size := (Array.getElem?_eq_some_iff.1 hm).1
  simp [putObj, hlt]
theorem putObj_cell (w : World) (m : Nat) (o : Obj) {a : Addr} (h : a.block ≠ m) : (putObj w m o).cell? a = w.cell? a :=
  World.cell?_of_block (by simp [putObj, Array.getElem?_setIfInBounds, Ne.symm h])
theorem putObj_fr (w : World) (m : Nat) (o : Obj) : Fr [m] w (putObj w m o) :=
  ⟨rfl, rfl, rfl, by simp [putObj], fun k _ hn => by
    simp at hn
    simp [putObj, Array.getElem?_setIfInBounds, Ne.symm hn]⟩
end Go.Proofs.Ytfadadgkgbaohaa
