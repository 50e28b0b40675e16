/-
  From what a row's condition says of the library's variables to what the walks ask.
-/
import Derived.Test.YtcnmnfllchiehaaDoorS1
import Derived.Test.YtcnmnfllchiehaaDoorRow
import Derived.ProofKit
import Derived.LaidMore
import Derived.MakeChecks
import Derived.Stop.LaidErr
import Derived.Deep.DeepHandedRow
import Derived.Shelf.Vars
set_option linter.unusedSimpArgs false
set_option linter.unusedVariables false
namespace Go.Proofs.YtcnmnfllchiehaaDoor
open Go.ChangeShapes Go.WideShapes Go.ChangeAt Go.RowKit

theorem ownKnob_none : ownKnob Tryd.prog.godebug = none := by kernel_rfl
theorem laid_out : laidOutB Tryd.prog = true := by kernel_rfl
theorem g_tab : Tryd.prog.globalNamed "internal/strconv.uint64pow10" = some 3 := by kernel_rfl
theorem g_rng : Tryd.prog.globalNamed "strconv.ErrRange" = some 2 := by kernel_rfl
theorem g_syn : Tryd.prog.globalNamed "strconv.ErrSyntax" = some 1 := by kernel_rfl
theorem g_rng_t : (Tryd.prog.globals[2]?).map (·.type) = some 91 := by kernel_rfl
theorem g_syn_t : (Tryd.prog.globals[1]?).map (·.type) = some 91 := by kernel_rfl
theorem star_ : "*" ++ "errors.errorString" = "*errors.errorString" := by decide
theorem row_es (u : TypeId) (h : Tryd.prog.typeName? 3 u = some "*errors.errorString") : u = 143 :=
  typeName_ptr_named (nm := "errors.errorString") (by rw [star_]; kernel_rfl) (by kernel_rfl) (by decide) u (by rw [star_]; exact h)

theorem tab_laid {W : World} {t e : TypeId} (ht : (Tryd.prog.globals[3]?).map (·.type) = some t) (hu : Tryd.prog.underlying t = some (.array 20 e)) (he : Tryd.prog.underlying e = some (.int .u64)) (hc : Tryd.prog.cellsOf e = 1) (hct : Tryd.prog.cellsOf t = 20)
    {r : List (String × DataW Unit)} (h : laidMet Tryd.prog (("internal/strconv.uint64pow10", Rows.laid_internal_strconv_uint64pow10) :: r) W) : Lib.TabIs Tryd.prog W "internal/strconv.uint64pow10" .u64 Lib.pow10Tab :=
  Lib.tabIs_of_head (rest := r) g_tab ht hu he hc hct h

theorem err_laid {W : World} {n : String} {g : Nat} {text : List UInt8} {r : List (String × DataW Unit)} (hg : Tryd.prog.globalNamed n = some g) (ht : (Tryd.prog.globals[g]?).map (·.type) = some 91)
    (h : laidMet Tryd.prog ((n, .iface "*errors.errorString" (.ptr (.agg [.lit (.string text)]))) :: r) W) : ∃ ev, W.cell? ⟨g, 0, none⟩ = some ev ∧ ErrVal ev := by
  obtain ⟨a, s, hv, _⟩ := laid_sentinel h hg ht Tryd.underlying91 row_es Tryd.underlying143 Tryd.underlying145 rfl rfl Tryd.underlying9 (by kernel_rfl) (by kernel_rfl)
  exact ⟨_, World.var?_cell hg hv 0, .inr ⟨_, _, rfl⟩⟩

theorem max_shaped {W : World} (h : W.ShapedOpen Tryd.prog) : ∃ m, W.cell? ⟨0, 0, none⟩ = some (.int .i64 m) :=
  cell_of_shapedOpen_int (t := 3) (zero := #[.int .i64 0]) h (of_decide_eq_true (by kernel_rfl)) (by kernel_rfl) rfl (by kernel_rfl) (by kernel_rfl) Tryd.underlying3

/-- The list that every row of this seat bears. -/
def laidL : List (String × DataW Unit) := [("math/bits.deBruijn32tab", Rows.laid_math_bits_deBruijn32tab), ("math/bits.deBruijn64tab", Rows.laid_math_bits_deBruijn64tab), ("internal/strconv.uint64pow10", Rows.laid_internal_strconv_uint64pow10), ("unicode/utf8.acceptRanges", Rows.laid_unicode_utf8_acceptRanges), ("strconv.ErrRange", Rows.laid_strconv_ErrRange), ("strconv.ErrSyntax", Rows.laid_strconv_ErrSyntax), ("unicode/utf8.first", Rows.laid_unicode_utf8_first)]
theorem plain_list : (laidL.all fun x => x.2.handleName?.isNone) = true := by kernel_rfl

theorem glo_of {W : World} (hL : laidMetH Tryd.prog laidL W) (hsh : W.ShapedOpen Tryd.prog) : Glo W := by
  rw [MakeChecks.laidMetH_plain _ _ _ plain_list] at hL
  have h3 := (laidMet.tail (laidMet.tail hL))
  have h5 := laidMet.tail (laidMet.tail h3)
  have h6 := laidMet.tail h5
  exact ⟨tab_laid (t := 132) (e := 118) (by kernel_rfl) Tryd.underlying132 Tryd.underlying118 (by kernel_rfl) (by kernel_rfl) h3, max_shaped hsh, err_laid g_syn g_syn_t h6, err_laid g_rng g_rng_t h5⟩

/-- The cells of a table of ints. -/
def litCells : DataW Unit → Array Value
  | .agg ds => (ds.map fun d => match d with
    | .lit (.int k z) => Value.int k z
    | _ => undef).toArray
  | _ => #[]
/-- What the initialisers lay, and the table that is pinned. -/
noncomputable def laidWorld (os : Os) : World :=
  { World.doorLaid Tryd.prog 72 os with heap := (World.doorLaid Tryd.prog 72 os).heap.modify 4 fun
      | .cells _ t frozen => .cells (litCells Rows.laid_unicode_utf8_first) t frozen
      | o => o }
theorem door_met (os : Os) (args : Array Value) : laidMetH Tryd.prog laidL ((laidWorld os).forCall (fun _ _ => 0) ⟨#[], args, []⟩).memory := by
  rw [MakeChecks.laidMetH_plain _ _ _ plain_list]
  exact laidMet_of_run' 8 (by kernel_rfl) (by kernel_rfl)
end Go.Proofs.YtcnmnfllchiehaaDoor
