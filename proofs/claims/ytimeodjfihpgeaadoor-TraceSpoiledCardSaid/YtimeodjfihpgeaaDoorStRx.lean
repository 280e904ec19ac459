/-
  What the rows share: the tables that a row lists, in a walk and in the witness's world.
-/
import Derived.Test.YtimeodjfihpgeaaDoorStMx
import Derived.Test.YtimeodjfihpgeaaDoorRows
import Derived.ChangeSame
import Derived.ChangeVars
import Derived.JoinedOf
import Derived.RowKit
import Derived.LaidLaws
import Derived.Lib.LaidTab
import Derived.Stop.LaidErr
namespace Go.Proofs.YtimeodjfihpgeaaDoor
open Go.RowKit Go.ChangeShapes Go.WideShapes

theorem pow_at : Tryd.prog.globalNamed "internal/strconv.uint64pow10" = some 0 := by kernel_rfl
/-- What the rows list. -/
abbrev laids : List (String × DataW Unit) := [("math/bits.deBruijn32tab", Rows.laid_math_bits_deBruijn32tab), ("math/bits.deBruijn64tab", Rows.laid_math_bits_deBruijn64tab), ("internal/strconv.uint64pow10", Rows.laid_internal_strconv_uint64pow10)]
theorem laids_met {W : World} (h : laidMetH Tryd.prog laids W) : laidMet Tryd.prog laids W := h
theorem pow_data : (Rows.laid_internal_strconv_uint64pow10 : DataW Unit) = Lib.tabData .u64 Lib.pow10Tab := by
  unfold Rows.laid_internal_strconv_uint64pow10 Lib.tabData Lib.pow10Tab
  rfl
theorem tab_of_laids {W : World} (h : laidMetH Tryd.prog laids W) : Tab W := by
  have h3 : laidMet Tryd.prog [("internal/strconv.uint64pow10", Rows.laid_internal_strconv_uint64pow10)] W := (laids_met h).tail.tail
  rw [pow_data] at h3
  exact Lib.tabIs_of_head pow_at (by kernel_rfl : _ = some 82) Tryd.underlying82 Tryd.underlying75 (by kernel_rfl) (by kernel_rfl) h3

/-- The cells of a listed table. -/
def dataCells : DataW Unit → Array Value
  | .agg l => (l.map fun d => match d with | .lit (.int k z) => Value.int k z | _ => Value.bool false).toArray
  | _ => #[]
/-- A world that meets the condition. -/
noncomputable def laidWorld (os : Os) : World :=
  let w0 := World.holding Tryd.prog os ⟨#[], #[], []⟩
  let put := fun (d : DataW Unit) (o : Obj) => match o with | .cells _ t frozen => Obj.cells (dataCells d) t frozen | o => o
  { w0 with heap := ((w0.heap.modify 0 (put Rows.laid_internal_strconv_uint64pow10)).modify 1 (put Rows.laid_math_bits_deBruijn32tab)).modify 2 (put Rows.laid_math_bits_deBruijn64tab) }
theorem laidWorld_met (os : Os) (args : Array Value) : laidMetH Tryd.prog laids ((laidWorld os).forCall (fun _ _ => 0) ⟨#[], args, []⟩).memory :=
  laidMet_of_run' 8 (by kernel_rfl) (by kernel_rfl)

end Go.Proofs.YtimeodjfihpgeaaDoor
