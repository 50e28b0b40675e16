/-
  slices.Delete(s, 0, 1) on a row of the call's own, whatever its elements' size: the two runs that write. Own work; nothing here names the program.
-/
import Derived.Test.YtfadadgkgbaohaaL0
set_option linter.unusedSimpArgs false
namespace Go.Proofs.Ytfadadgkgbaohaa
open Go.RowKit

section
variable {P : Program} {w : World} {t e : TypeId} {z : Value} {k bytes : Nat}

/-- 'append(s[:0], s[1:]...)'. -/
theorem run_shift (E : Elem P t e z k bytes) (ty : TypeId) (g n cap c : Nat) (a : Addr) (cur : Array Value) (hg : w.heap[g]? = some (.cells cur e (0, 0))) (hs : cur.size = cap * k) (hn : n ≤ cap)
    (news : List Value) (hl : news.length = n * k) (hc : ∀ j u, news[j]? = some u → w.cell? (a.add j) = some u) (h1 : ∀ u ∈ news, u.oneCell' = true) :
    (Builtin.append_ #[t, t] ty #[.slice (some ⟨g, 0, none⟩) 0 cap, .slice (some a) n c]).run P w = .ok (.slice (some ⟨g, 0, none⟩) n cap) (w.setRow g (news ++ cur.toList.drop (n * k)).toArray) := by
  obtain ⟨i, hi, hz, hsz, hby⟩ := E.info
  have h := run_append_room (P := P) w t ty e i E.slice hi g 0 cap cur hg a n c news (by rw [hsz]; exact hl) hc h1 (by omega) (by rw [hsz, hs, hl]; simpa using Nat.mul_le_mul_right k hn)
  simpa [hl] using h

theorem zeroCells_one (z : Value) : Builtin.zeroCells z.cells 1 = z.cells := by
  apply Array.ext
  · simp [Builtin.zeroCells]
  · intro i h1 h2
    simp only [Builtin.zeroCells, Array.getElem_map, Array.getElem_range]
    rw [Nat.mod_eq_of_lt h2]
    simp [h2]

/-- 'clear(s[n:n+1])'. -/
theorem run_clear_one (E : Elem P t e z k bytes) (ty : TypeId) (g o c : Nat) (cur : Array Value) (hg : w.heap[g]? = some (.cells cur e (0, 0))) (ho : o + k ≤ cur.size) (hz1 : ∀ u ∈ z.cells.toList, u.oneCell' = true) :
    (Builtin.clear_ #[t] ty #[.slice (some ⟨g, o, none⟩) 1 c]).run P w = .ok (.tuple #[]) (w.setRow g (cur.toList.take o ++ z.cells.toList ++ cur.toList.drop (o + k)).toArray) := by
  obtain ⟨i, hi, hz, hsz, hby⟩ := E.info
  have hlen : z.cells.toList.length = k := by simpa using E.zs
  have hst := run_storeCells_at P g o e z.cells.toList 0 cur w hg (by rw [hlen]; simpa using ho) hz1
  simp only [Nat.add_zero, hlen] at hst
  simp [Builtin.clear_, run_underlying E.slice, zeroValue, typeInfo, hi, hz, zeroCells_one, hst]

theorem setRow_heap {g : Nat} {cur cs : Array Value} {e : TypeId} {f : Nat × Nat} (hg : w.heap[g]? = some (.cells cur e f)) : (w.setRow g cs).heap[g]? = some (.cells cs e f) := by
  simp [World.setRow, Array.getElem?_modify, hg]
end
end Go.Proofs.Ytfadadgkgbaohaa
