/-
  The walk of the document's 'Words'.
-/
import Derived.Test.YtimeodjfihpgeaaDoorStB
namespace Go.Proofs.YtimeodjfihpgeaaDoor
open Go.RowKit

theorem str_app (a b : Bs) : strv (a ++ b) = .string ((⟨a.toArray⟩ : ByteArray) ++ ⟨b.toArray⟩) := by
  congr 1

theorem strb_app (a b : Bs) : (⟨(a ++ b).toArray⟩ : ByteArray) = ⟨a.toArray⟩ ++ ⟨b.toArray⟩ := by
  have := str_app a b
  injection this

end Go.Proofs.YtimeodjfihpgeaaDoor
