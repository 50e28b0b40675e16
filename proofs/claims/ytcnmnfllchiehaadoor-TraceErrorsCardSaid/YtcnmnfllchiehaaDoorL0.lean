/-
  Words for memory, own work: a frame over a list of blocks (Fr), a block known whole (Blk), slices that read as lists (Rd, IntsAt, MsgsAt). Nothing here names the program.
-/
import Derived.WalkKit
import Derived.WalkSpells
import Derived.WalkLawsBesides
import Derived.Lib.Hide
import Derived.Deep.Draws
import Derived.Maps.AppendAt
import Derived.Deep.AppendLies
import Derived.StillTailTactics
namespace Go.Proofs.YtcnmnfllchiehaaDoor
open Go.RowKit

/-! ### addresses -/
theorem add_block (a : Addr) (n : Nat) : (a.add n).block = a.block := by unfold Addr.add; split <;> rfl
theorem add_add_ (a : Addr) (i j : Nat) : (a.add i).add j = a.add (i + j) := by
  unfold Addr.add
  by_cases hi : i = 0 <;> by_cases hj : j = 0 <;> simp [hi, hj, Nat.add_assoc]
theorem add_zero_ (a : Addr) : a.add 0 = a := by unfold Addr.add; simp
theorem add_head (g n : Nat) : (⟨g, 0, none⟩ : Addr).add n = ⟨g, n, none⟩ := by unfold Addr.add; split <;> simp_all

/-! ### frames -/
/-- Of the blocks that were there only those of F may have turned. -/
structure Fr (F : List Nat) (w w' : World) : Prop where
  os : w'.os = w.os
  tape : w'.tape = w.tape
  output : w'.output = w.output
  size : w.heap.size ≤ w'.heap.size
  block : ∀ k, k < w.heap.size → k ∉ F → w'.heap[k]? = w.heap[k]?

theorem Fr.refl (F : List Nat) (w : World) : Fr F w w := ⟨rfl, rfl, rfl, Nat.le_refl _, fun _ _ _ => rfl⟩
theorem Fr.mono {F G : List Nat} {w w' : World} (h : Fr F w w') (hs : ∀ k ∈ F, k < w.heap.size → k ∈ G) : Fr G w w' :=
  ⟨h.os, h.tape, h.output, h.size, fun k hk hn => h.block k hk (fun hf => hn (hs k hf hk))⟩
theorem Fr.trans {F G : List Nat} {a b c : World} (h : Fr F a b) (k : Fr G b c) (hs : ∀ x ∈ G, x < a.heap.size → x ∈ F) : Fr F a c :=
  ⟨k.os.trans h.os, k.tape.trans h.tape, k.output.trans h.output, Nat.le_trans h.size k.size, fun i hi hn =>
    (k.block i (Nat.lt_of_lt_of_le hi h.size) (fun hg => hn (hs i hg hi))).trans (h.block i hi hn)⟩
theorem Fr.trans' {F : List Nat} {a b c : World} (h : Fr F a b) (k : Fr F b c) : Fr F a c := h.trans k (fun _ hx _ => hx)
theorem Fr.trans0 {F : List Nat} {a b c : World} (h : Fr F a b) (k : Fr [] b c) : Fr F a c := h.trans k (fun _ hx => by simp at hx)
theorem Fr.of0 {F : List Nat} {w w' : World} (h : Fr [] w w') : Fr F w w' := h.mono (fun _ hx => by simp at hx)
theorem Fr.drew {F : List Nat} {a w : World} (h : Fr F a w) : Fr F a w.drew := ⟨h.os, h.tape, h.output, h.size, h.block⟩
theorem Fr.drewN {F : List Nat} {a w : World} (h : Fr F a w) (n : Nat) : Fr F a (w.drewN n) := ⟨h.os, h.tape, h.output, h.size, h.block⟩
theorem Fr.alloc {F : List Nat} {a w : World} (h : Fr F a w) (o : Obj) : Fr F a (w.alloc o) :=
  h.trans0 ⟨rfl, rfl, rfl, by simp, fun k hk _ => Below.heap_alloc _ _ _ hk⟩
theorem Fr.setCell {F : List Nat} {a w : World} (h : Fr F a w) {p : Addr} (hp : p.block ∈ F ∨ a.heap.size ≤ p.block) (u : Value) : Fr F a (w.setCell p u) :=
  h.trans (G := [p.block]) ⟨rfl, rfl, rfl, by simp [World.setCell], fun k _ hn => Below.heap_setCell _ _ _ _ (by simpa using hn)⟩ (fun x hx hlt => by
    simp at hx; subst hx; rcases hp with hp | hp
    · exact hp
    · omega)
theorem Fr.setRow {F : List Nat} {a w : World} (h : Fr F a w) {g : Nat} (hp : g ∈ F ∨ a.heap.size ≤ g) (cs : Array Value) : Fr F a (w.setRow g cs) :=
  h.trans (G := [g]) ⟨rfl, rfl, rfl, by simp [World.setRow], fun k _ hn => by
    simp only [World.setRow, Array.getElem?_modify]; rw [if_neg (by simp at hn; omega)]⟩ (fun x hx hlt => by
    simp at hx; subst hx; rcases hp with hp | hp
    · exact hp
    · omega)
theorem Fr.grown {F : List Nat} {a w w' : World} {row : Option Nat} (h : Fr F a w) (hg : w.grownBy w' row) (hr : ∀ k, row = some k → k ∈ F ∨ a.heap.size ≤ k) : Fr F a w' :=
  h.trans (G := row.toList) ⟨hg.os, hg.tape, hg.output, hg.size, fun k hk hn => hg.block k hk (fun e => hn (by rw [← e]; simp))⟩ (fun x hx hlt => by
    cases row with
    | none => simp at hx
    | some g =>
      simp at hx; subst hx
      rcases hr x rfl with h1 | h1
      · exact h1
      · omega)
theorem Fr.below {F : List Nat} {a w w' : World} (h : Fr F a w) (hb : Below w.heap.size w w') : Fr F a w' :=
  h.trans0 ⟨hb.os, hb.tape, hb.output, hb.size, fun k hk _ => hb.block k hk⟩
theorem Fr.toBelow {w w' : World} (h : Fr [] w w') : Below w.heap.size w w' := ⟨h.os, h.tape, h.output, h.size, fun k hk => h.block k hk (by simp)⟩
theorem Fr.cell {F : List Nat} {w w' : World} (h : Fr F w w') {p : Addr} {v : Value} (hc : w.cell? p = some v) (hn : p.block ∉ F) : w'.cell? p = some v :=
  (World.cell?_of_block (h.block p.block (World.block_lt_of_cell? w p hc) hn)).trans hc
theorem Fr.cell0 {w w' : World} (h : Fr [] w w') {p : Addr} {v : Value} (hc : w.cell? p = some v) : w'.cell? p = some v := h.cell hc (by simp)
theorem Fr.froz {F : List Nat} {w w' : World} (h : Fr F w w') {p : Addr} (hl : p.block < w.heap.size) (hn : p.block ∉ F) : w'.frozen? p = w.frozen? p :=
  World.frozen?_of_block (h.block p.block hl hn)
theorem Fr.own {F : List Nat} {w w' : World} {base : Nat} {e : TypeId} {size : Nat} {v : Value} {n : Nat} {xs : List Value} (h : Fr F w w') (ho : w.ownsRow base e size v n xs) (hn : ∀ g, v.ownBlock = some g → g ∉ F) :
    w'.ownsRow base e size v n xs := by
  refine ⟨ho.1, ?_⟩
  rcases ho.2 with h0 | ⟨g, cap, cur, rfl, hb, hg, rest⟩
  · exact .inl h0
  · refine .inr ⟨g, cap, cur, rfl, hb, ?_, rest⟩
    rw [h.block g (Array.getElem?_eq_some_iff.1 hg).1 (hn g rfl)]
    exact hg

/-! ### a block known whole -/
def Blk (w : World) (g : Nat) (t : TypeId) (cs : Array Value) : Prop := w.heap[g]? = some (.cells cs t (0, 0))

section
variable {w w' : World} {g : Nat} {t : TypeId} {cs : Array Value}
theorem Blk.lt (h : Blk w g t cs) : g < w.heap.size := (Array.getElem?_eq_some_iff.1 h).1
theorem Blk.cell (h : Blk w g t cs) (i : Nat) : w.cell? ⟨g, i, none⟩ = cs[i]? := cell_of_row w g i cs t (0, 0) h
theorem Blk.froz (h : Blk w g t cs) (i : Nat) : w.frozen? ⟨g, i, none⟩ = false := by
  unfold Blk at h
  simp [World.frozen?, h]
theorem Blk.new (w : World) (t : TypeId) (cs : Array Value) : Blk (w.alloc (.cells cs t)) w.heap.size t cs := heap_alloc_new w _
theorem Blk.new' (w : World) (t : TypeId) (cs : Array Value) {n : Nat} (hn : n = w.heap.size) : Blk (w.alloc (.cells cs t)) n t cs := hn ▸ heap_alloc_new w _
theorem Blk.drew (h : Blk w g t cs) : Blk w.drew g t cs := h
theorem Blk.drewN (h : Blk w g t cs) (n : Nat) : Blk (w.drewN n) g t cs := h
theorem Blk.alloc (h : Blk w g t cs) (o : Obj) : Blk (w.alloc o) g t cs := (Below.heap_alloc w o g h.lt).trans h
theorem Blk.set_ (h : Blk w g t cs) (i : Nat) (u : Value) : Blk (w.setCell ⟨g, i, none⟩ u) g t (cs.setIfInBounds i u) := by
  unfold Blk at h ⊢
  simp [World.setCell, Array.getElem?_modify, h]
theorem Blk.far (h : Blk w g t cs) {p : Addr} (hp : g ≠ p.block) (u : Value) : Blk (w.setCell p u) g t cs := (Below.heap_setCell w p u g hp).trans h
theorem Blk.fr {F : List Nat} (h : Blk w g t cs) (hb : Fr F w w') (hg : g ∉ F) : Blk w' g t cs := (hb.block g h.lt hg).trans h
theorem Blk.grown {row : Option Nat} (h : Blk w g t cs) (hb : w.grownBy w' row) (hg : some g ≠ row) : Blk w' g t cs := (hb.block g h.lt hg).trans h
theorem Blk.ne_ {g' : Nat} {t' : TypeId} {cs' : Array Value} (h : Blk w g t cs) (h' : Blk w g' t' cs') (hne : t ≠ t') : g ≠ g' := by
  rintro rfl
  unfold Blk at h h'
  rw [h] at h'
  injection h' with h'
  injection h' with _ ht
  exact hne ht
theorem Blk.ne_map {g' : Nat} {es : Array MapEntry} {ck : Nat} (h : Blk w g t cs) (h' : w.heap[g']? = some (.map es ck)) : g ≠ g' := by
  rintro rfl
  unfold Blk at h
  rw [h] at h'
  cases h'
theorem Blk.one {a : Value} (h : Blk w g t #[a]) : w.cell? ⟨g, 0, none⟩ = some a := h.cell 0
theorem Blk.two {a b : Value} (h : Blk w g t #[a, b]) : w.cell? ⟨g, 0, none⟩ = some a ∧ w.cell? ⟨g, 1, none⟩ = some b := ⟨h.cell 0, h.cell 1⟩
theorem Blk.four {a b c d : Value} (h : Blk w g t #[a, b, c, d]) : w.cell? ⟨g, 0, none⟩ = some a ∧ w.cell? ⟨g, 1, none⟩ = some b ∧ w.cell? ⟨g, 2, none⟩ = some c ∧ w.cell? ⟨g, 3, none⟩ = some d := ⟨h.cell 0, h.cell 1, h.cell 2, h.cell 3⟩
theorem Blk.five {a b c d e : Value} (h : Blk w g t #[a, b, c, d, e]) : w.cell? ⟨g, 0, none⟩ = some a ∧ w.cell? ⟨g, 1, none⟩ = some b ∧ w.cell? ⟨g, 2, none⟩ = some c ∧ w.cell? ⟨g, 3, none⟩ = some d ∧ w.cell? ⟨g, 4, none⟩ = some e := ⟨h.cell 0, h.cell 1, h.cell 2, h.cell 3, h.cell 4⟩
theorem own_form {base : Nat} {e : TypeId} {size n : Nat} {v : Value} {xs : List Value} (h : w.ownsRow base e size v n xs) : ∃ A c, v = .slice A n c ∧ n ≤ c ∧ c ≤ maxLen ∧ (A = none → n = 0 ∧ c = 0) ∧ (∀ a, A = some a → a.off = 0 ∧ a.spot = none ∧ a.block < w.heap.size) := by
  rcases h.2 with ⟨rfl, rfl⟩ | ⟨g, cap, cur, rfl, _, hg, hn, hm, _⟩
  · exact ⟨none, 0, rfl, Nat.le_refl _, by simp [maxLen], fun _ => ⟨rfl, rfl⟩, fun _ e => nomatch e⟩
  · exact ⟨_, cap, rfl, hn, hm, (fun e => nomatch e), fun a e => by injection e with e; subst e; exact ⟨rfl, rfl, (Array.getElem?_eq_some_iff.1 hg).1⟩⟩
theorem own_blk {base : Nat} {e : TypeId} {size n : Nat} {v : Value} {xs : List Value} (h : w.ownsRow base e size v n xs) {g' : Nat} (hv : v.ownBlock = some g') : ∃ cur, Blk w g' e cur := by
  rcases h.2 with ⟨rfl, _⟩ | ⟨g'', cap, cur, rfl, _, hh, _⟩
  · simp [Value.ownBlock] at hv
  · have : g'' = g' := by simpa [Value.ownBlock] using hv
    subst this
    exact ⟨cur, hh⟩
theorem own_blk_ne {base : Nat} {e : TypeId} {size n : Nat} {v : Value} {xs : List Value} (h : w.ownsRow base e size v n xs) (hg : Blk w g t cs) (hne : e ≠ t) : v.ownBlock ≠ some g := by
  intro he
  obtain ⟨cur, hc⟩ := own_blk h he
  exact Blk.ne_ hc hg hne rfl
end

/-! ### a slice that reads as a list of cells -/
/-- The slice value v (k cells an element) reads as the cells xs; none of them lies in a block of M. -/
def Rd (w : World) (k : Nat) (M : List Nat) (v : Value) (n : Nat) (xs : List Value) : Prop :=
  ∃ A c, v = .slice A n c ∧ xs.length = n * k ∧ n ≤ c ∧ c ≤ maxLen ∧ (A = none → c = 0) ∧ (0 < n → ∃ ad, A = some ad ∧ ad.block ∉ M ∧ ∀ j u, xs[j]? = some u → w.cell? (ad.add j) = some u)

section
variable {w w' : World} {k n : Nat} {M M' : List Nat} {v : Value} {xs : List Value}
theorem Rd.nil (w : World) (k : Nat) (M : List Nat) : Rd w k M (.slice none 0 0) 0 [] := ⟨none, 0, rfl, by simp, Nat.le_refl _, by simp [maxLen], fun _ => rfl, fun h => absurd h (by omega)⟩
theorem Rd.fr {F : List Nat} (h : Rd w k M v n xs) (hf : Fr F w w') (hs : ∀ x ∈ F, x < w.heap.size → x ∈ M) : Rd w' k M v n xs := by
  obtain ⟨A, c, rfl, hl, h1, h2, h4, h3⟩ := h
  refine ⟨A, c, rfl, hl, h1, h2, h4, fun hn => ?_⟩
  obtain ⟨ad, rfl, hb, hc⟩ := h3 hn
  refine ⟨ad, rfl, hb, fun j u hu => ?_⟩
  have h0 := hc j u hu
  have hlt := World.block_lt_of_cell? w _ h0
  rw [add_block] at hlt
  exact hf.cell h0 (by rw [add_block]; exact fun hx => hb (hs _ hx hlt))
theorem Rd.mono (h : Rd w k M v n xs) (hs : ∀ x ∈ M', x < w.heap.size → x ∈ M) (hk : 0 < k) : Rd w k M' v n xs := by
  obtain ⟨A, c, rfl, hl, h1, h2, h4, h3⟩ := h
  refine ⟨A, c, rfl, hl, h1, h2, h4, fun hn => ?_⟩
  obtain ⟨ad, rfl, hb, hc⟩ := h3 hn
  refine ⟨ad, rfl, fun hx => hb (hs _ hx ?_), hc⟩
  have hpos : 0 < xs.length := by rw [hl]; exact Nat.mul_pos hn hk
  have h0 := hc 0 _ (List.getElem?_eq_getElem hpos)
  have hlt := World.block_lt_of_cell? w _ h0
  rwa [add_block] at hlt
theorem Rd.of_own {base : Nat} {e : TypeId} (h : w.ownsRow base e k v n xs) (hM : ∀ g, v.ownBlock = some g → g ∉ M) : Rd w k M v n xs := by
  rcases h.2 with ⟨rfl, rfl⟩ | ⟨g, cap, cur, rfl, hb, hg, hnc, hm, hs, ht⟩
  · have : xs = [] := List.eq_nil_of_length_eq_zero (by simpa using h.1)
    subst this
    exact Rd.nil _ _ _
  · exact ⟨_, cap, rfl, h.1, hnc, hm, (fun e => nomatch e), fun _ => ⟨_, rfl, hM g rfl, h.cells rfl⟩⟩
end

/-! ### append onto a row of the call's own; what is appended may be nil -/
theorem Fr.of_grown {w w' : World} {row : Option Nat} (hg : w.grownBy w' row) : Fr row.toList w w' :=
  ⟨hg.os, hg.tape, hg.output, hg.size, fun k hk hn => hg.block k hk (fun e => hn (by rw [← e]; simp))⟩

/-- What the tables say of a slice type t and its elements e. -/
structure Elem (P : Program) (t e : TypeId) (z : Value) (size bytes : Nat) : Prop where
  slice : P.underlying t = some (.slice e)
  info : ∃ i, P.info? e = some i ∧ i.zero = some z ∧ i.size = size ∧ i.bytes = bytes
  zs : z.cells.size = size
  pos : 0 < size

section
variable {P : Program} (w : World)
theorem run_app {t e : TypeId} {z : Value} {size bytes : Nat} (E : Elem P t e z size bytes) (ty : TypeId) (v : Value) (n : Nat) (xs : List Value) (hown : w.ownsRow 0 e size v n xs)
    (M : List Nat) (x : Value) (m : Nat) (news : List Value) (hr : Rd w size M x m news) (h1 : ∀ u ∈ news, u.oneCell' = true) (hb : (n + m) * bytes ≤ 140737488355328) (h63 : n + m ≤ maxLen) :
    ∃ v' w', (Builtin.append_ #[t, t] ty #[v, x]).run P w = .ok v' w' ∧ w'.ownsRow 0 e size v' (n + m) (xs ++ news) ∧ Fr v.ownBlock.toList w w' ∧ (v'.ownBlock = v.ownBlock ∨ v'.ownBlock = some w.heap.size) := by
  obtain ⟨i, hi, hz, hs, hby⟩ := E.info
  obtain ⟨A, c, rfl, hl, hmc, hcm, h4, hc⟩ := hr
  rcases A with _ | ad
  · have hm : m = 0 := by
      rcases Nat.eq_zero_or_pos m with h0 | h0
      · exact h0
      · obtain ⟨ad, h, _⟩ := hc h0
        cases h
    subst hm
    have hn : news = [] := List.eq_nil_of_length_eq_zero (by simpa using hl)
    subst hn
    refine ⟨v, w, ?_, by simpa using hown, Fr.refl _ _, .inl rfl⟩
    rcases hown.2 with ⟨rfl, rfl⟩ | ⟨g, cap, cur, rfl, _, _, hnc, _⟩
    · simp [Builtin.append_, run_underlying E.slice, sizeOf, typeInfo, hi, Builtin.lenOf, Builtin.firstCells]
    · simp [Builtin.append_, run_underlying E.slice, sizeOf, typeInfo, hi, Builtin.lenOf, Builtin.firstCells, hnc, storeCells]
  · have hcells : ∀ j u, news[j]? = some u → w.cell? (ad.add j) = some u := by
      intro j u hu
      rcases Nat.eq_zero_or_pos m with h0 | h0
      · subst h0
        have hn : news = [] := List.eq_nil_of_length_eq_zero (by simpa using hl)
        subst hn
        simp at hu
      · obtain ⟨ad', h, _, hc'⟩ := hc h0
        injection h with h
        subst h
        exact hc' j u hu
    obtain ⟨v', w', hrun, h2, h3, _, h5⟩ := run_append_own_at (P := P) w 0 t ty e i z size bytes E.slice hi hz hs hby E.zs E.pos v n xs hown ad m c news hl hcells h1 h63 hb (Nat.zero_le _)
    exact ⟨v', w', hrun, h2, Fr.of_grown h3, h5⟩

theorem wp_app {o : Oper} {a : Act} {K : Act → World → Prop} {Q : Exit → Act → World → Prop} {t e : TypeId} {z : Value} {size bytes : Nat} (E : Elem P t e z size bytes) (s y : Operand)
    (ho : o.op = .call { callee := .builtin .append, args := #[s, y], argTypes := #[t, t] })
    (v : Value) (n : Nat) (xs : List Value) (hs : a.eval s = v) (hown : w.ownsRow 0 e size v n xs)
    (M : List Nat) (x : Value) (m : Nat) (news : List Value) (hx : a.eval y = x) (hr : Rd w size M x m news) (h1 : ∀ u ∈ news, u.oneCell' = true) (hb : (n + m) * bytes ≤ 140737488355328) (h63 : n + m ≤ maxLen)
    (h : ∀ v' w', w'.ownsRow 0 e size v' (n + m) (xs ++ news) → Fr v.ownBlock.toList w w' → (v'.ownBlock = v.ownBlock ∨ v'.ownBlock = some w.heap.size) → K (a.put o.dst v') w') : o.wp P a w K Q := by
  obtain ⟨v', w', hrun, h2, h3, h4⟩ := run_app w E o.type v n xs hown M x m news hr h1 hb h63
  unfold Oper.wp execOp
  simp only [ho, resolve, invoke, builtin, Sem.run_bind, Sem.run_pure, Result.andThen_ok, List.map_toArray, List.map_cons, List.map_nil, hs, hx, hrun]
  exact h v' w' h2 h3 h4

theorem wpList_app {ops : Array Oper} {rest : List Oper} {o : Oper} {a : Act} {Q : Exit → Act → World → Prop} (hgd : o.guard = none) {t e : TypeId} {z : Value} {size bytes : Nat} (E : Elem P t e z size bytes) (s y : Operand)
    (ho : o.op = .call { callee := .builtin .append, args := #[s, y], argTypes := #[t, t] })
    (v : Value) (n : Nat) (xs : List Value) (hs : a.eval s = v) (hown : w.ownsRow 0 e size v n xs)
    (M : List Nat) (x : Value) (m : Nat) (news : List Value) (hx : a.eval y = x) (hr : Rd w size M x m news) (h1 : ∀ u ∈ news, u.oneCell' = true) (hb : (n + m) * bytes ≤ 140737488355328) (h63 : n + m ≤ maxLen)
    (h : ∀ v' w', w'.ownsRow 0 e size v' (n + m) (xs ++ news) → Fr v.ownBlock.toList w w' → (v'.ownBlock = v.ownBlock ∨ v'.ownBlock = some w.heap.size) → wpList P ops Q rest (a.put o.dst v') w') : wpList P ops Q (o :: rest) a w :=
  wpList_plain hgd fun _ hK => wp_app w E s y ho v n xs hs hown M x m news hx hr h1 hb h63 fun v' w' h2 h3 h4 => hK _ _ (h v' w' h2 h3 h4)

theorem step_app {ops : Array Oper} {o : Oper} {a : Act} {K : Act → World → Prop} {Q : Exit → Act → World → Prop} {F : Prop} (hgd : o.guard = none) {t e : TypeId} {z : Value} {size bytes : Nat} (E : Elem P t e z size bytes) (s y : Operand)
    (ho : o.op = .call { callee := .builtin .append, args := #[s, y], argTypes := #[t, t] })
    (v : Value) (n : Nat) (xs : List Value) (hs : a.eval s = v) (hown : w.ownsRow 0 e size v n xs)
    (M : List Nat) (x : Value) (m : Nat) (news : List Value) (hx : a.eval y = x) (hr : Rd w size M x m news) (h1 : ∀ u ∈ news, u.oneCell' = true) (hb : (n + m) * bytes ≤ 140737488355328) (h63 : n + m ≤ maxLen)
    (h : ∀ v' w', w'.ownsRow 0 e size v' (n + m) (xs ++ news) → Fr v.ownBlock.toList w w' → (v'.ownBlock = v.ownBlock ∨ v'.ownBlock = some w.heap.size) → K (a.put o.dst v') w') :
    if Region.wanted o (yielded ops a.tmps) = true then Oper.wp P o a w K Q else F := by
  have hw : Region.wanted o (yielded ops a.tmps) = true := by simp [Region.wanted, hgd]
  rw [if_pos hw]
  exact wp_app w E s y ho v n xs hs hown M x m news hx hr h1 hb h63 h
end

section
variable {P : Program} {ops : Array Oper} {rest : List Oper} {o : Oper} {a : Act} {Q : Exit → Act → World → Prop} {w w' : World}
/-- append, clear, whose run is known. -/
theorem wpList_append_run (hgd : o.guard = none) (s y : Operand) (t : TypeId) (ho : o.op = .call { callee := .builtin .append, args := #[s, y], argTypes := #[t, t] })
    (v x v' : Value) (hs : a.eval s = v) (hx : a.eval y = x) (hrun : ∀ ty, (Builtin.append_ #[t, t] ty #[v, x]).run P w = .ok v' w') (h : wpList P ops Q rest (a.put o.dst v') w') : wpList P ops Q (o :: rest) a w :=
  wpList_plain hgd fun K hK => by
    unfold Oper.wp execOp
    simp only [ho, resolve, invoke, builtin, Sem.run_bind, Sem.run_pure, Result.andThen_ok, List.map_toArray, List.map_cons, List.map_nil, hs, hx, hrun]
    exact hK _ _ h
theorem wpList_clear_run (hgd : o.guard = none) (s : Operand) (t : TypeId) (ho : o.op = .call { callee := .builtin .clear, args := #[s], argTypes := #[t] })
    (v v' : Value) (hs : a.eval s = v) (hrun : ∀ ty, (Builtin.clear_ #[t] ty #[v]).run P w = .ok v' w') (h : wpList P ops Q rest (a.put o.dst v') w') : wpList P ops Q (o :: rest) a w :=
  wpList_plain hgd fun K hK => by
    unfold Oper.wp execOp
    simp only [ho, resolve, invoke, builtin, Sem.run_bind, Sem.run_pure, Result.andThen_ok, List.map_toArray, List.map_cons, List.map_nil, hs, hrun]
    exact hK _ _ h
end

/-- A region that draws: n operations that only read, then a chain. -/
theorem wp_tail {P : Program} {id : Nat} {Q : Exit → Act → World → Prop} {a : Act} {w : World} {l : List Oper} (n : Nat) (hm : P.follows .mixedOrders = true) (hB : Region.lexTailB .any l.toArray n = true)
    (h : wpStill P l.toArray w.drew (fun a' => wpList P l.toArray Q (l.drop n) a' w.drew) (l.take n) a) : (Code.region id l.toArray true).wp P Q a w :=
  wp_region_still_tail n hm hB h

/-- An empty row made by the call. -/
theorem own_empty (w : World) (e : TypeId) (size : Nat) : (w.alloc (.cells #[] e)).ownsRow 0 e size (.slice (some ⟨w.heap.size, 0, none⟩) 0 0) 0 [] :=
  ⟨by simp, .inr ⟨w.heap.size, 0, #[], rfl, Nat.zero_le _, heap_alloc_new w _, Nat.le_refl _, by simp [maxLen], by simp, by simp⟩⟩

/-! ### max, min of two ints -/
theorem max_ints (ats : Array TypeId) (ty : TypeId) (k k' : IntKind) (x y : Int) : Builtin.max_ ats ty #[.int k x, .int k' y] = pure (.int k (max x y)) := by
  have : max x y = if x < y then y else x := by split <;> omega
  simp only [Builtin.max_, Builtin.max2, List.foldlM_cons, List.foldlM_nil, gt_iff_lt, this]; rfl
theorem min_ints (ats : Array TypeId) (ty : TypeId) (k k' : IntKind) (x y : Int) : Builtin.min_ ats ty #[.int k x, .int k' y] = pure (.int k (min x y)) := by
  have : min x y = if y < x then y else x := by split <;> omega
  simp only [Builtin.min_, Builtin.min2, List.foldlM_cons, List.foldlM_nil, this]; rfl
theorem ret_int {k : IntKind} {a b : Int} (h : a = b) : Ending.returned (.int k a) = .returned (.int k b) := by rw [h]
theorem ret_bool {a b : Bool} (h : a = b) : Ending.returned (.bool a) = .returned (.bool b) := by rw [h]
end Go.Proofs.YtcnmnfllchiehaaDoor
