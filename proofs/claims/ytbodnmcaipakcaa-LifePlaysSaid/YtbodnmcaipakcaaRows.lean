/-
  No cell of these rows narrows 'for every input' (looked for: loops, veiled, ifaces, maps, wideKeys, modest, calm, conditions, laid).
  DERIVED. THE GIVEN ROWS OF THIS SEAT. 6 by the template 'for every input the law returns true; each argument reads behind the call as it read before'; 0 by the template 'total and deterministic' (their statements: YtbodnmcaipakcaaTotals.lean).
  GIVEN WITH THE SEED: the statements are not yours to turn. If you find one false, say at which input.
  Laid BY PROGRAM, IN A SANDBOX (cutbox-rows.mjs): the forced cells as the released guide's own fill.sh prints them over the translation ea0d08df06992480… (all of the seat's roots in one cut). By AI agents, Wed Nov 11 2026. No macro, syntax, notation, axiom, sorry.
-/
import Derived.Test.YtbodnmcaipakcaaChecked
import GoSem.Claim
import GoSem.ClaimJoined
import GoSem.ClaimMapViews
import Derived.JoinedTies
import Derived.KernelRfl
namespace Go.Proofs.Ytbodnmcaipakcaa
/- THE CELL 'sum', in the pinned program and in every row, IS THE sha256 OF THE DUMP (.gsa) THAT YtbodnmcaipakcaaProg.lean LOADS. Nothing in Lean hashes anything: it is a label: what it is worth is what the hold of that sum in a sandbox is worth. -/
noncomputable def Try.pinned : Pinned := { name := "ytbodnmcaipakcaa", sum := "ea0d08df06992480733b183c5a7409c4bdbf12757b19e0beefa988d48a89300c", checked := Try.checked }
namespace Rows
def none {H : Type} : Left H := { results := [], args := [] }

/-- 'linchpinlaw19.LifeOrder': WHATEVER THE INPUT: true; the input reads as it did. -/
def lifeOrderSpec : ChangeSpec := { name := "lifeOrder", fn := fun _ => fun
  | [d] => { results := [.lit (.bool true)], args := [d] }
  | _ => none }
def lifeOrderRow : OpenClaim := { program := "ytbodnmcaipakcaa", sum := "ea0d08df06992480733b183c5a7409c4bdbf12757b19e0beefa988d48a89300c", func := "linchpin/linchpinlaw19.LifeOrder", spec := "lifeOrder", unfollowed := true, recurses := true, apart := false }
def LifeOrderSaid : Prop := lifeOrderRow.holds Try.pinned (OpenSpec.ofChange lifeOrderSpec)

/-- ITS FALSE NEIGHBOUR: 'it returns false'. Refute it at one input. -/
def lifeOrderWrong : ChangeSpec := { name := "lifeOrder", fn := fun _ => fun
  | [d] => { results := [.lit (.bool false)], args := [d] }
  | _ => none }
def LifeOrderWrongFalsely : Prop := lifeOrderRow.holds Try.pinned (OpenSpec.ofChange lifeOrderWrong)

/-- 'linchpinlaw19.LifeSteps': WHATEVER THE INPUT: true; the input reads as it did. -/
def lifeStepsSpec : ChangeSpec := { name := "lifeSteps", fn := fun _ => fun
  | [d1, d2] => { results := [.lit (.bool true)], args := [d1, d2] }
  | _ => none }
def lifeStepsRow : OpenClaim := { program := "ytbodnmcaipakcaa", sum := "ea0d08df06992480733b183c5a7409c4bdbf12757b19e0beefa988d48a89300c", func := "linchpin/linchpinlaw19.LifeSteps", spec := "lifeSteps", unfollowed := true, recurses := true, apart := false }
def LifeStepsSaid : Prop := lifeStepsRow.holds Try.pinned (OpenSpec.ofChange lifeStepsSpec)

/-- ITS FALSE NEIGHBOUR: 'it returns false'. Refute it at one input. -/
def lifeStepsWrong : ChangeSpec := { name := "lifeSteps", fn := fun _ => fun
  | [d1, d2] => { results := [.lit (.bool false)], args := [d1, d2] }
  | _ => none }
def LifeStepsWrongFalsely : Prop := lifeStepsRow.holds Try.pinned (OpenSpec.ofChange lifeStepsWrong)

/-- 'linchpinlaw19.LifeOnce': WHATEVER THE INPUT: true; the input reads as it did. -/
def lifeOnceSpec : ChangeSpec := { name := "lifeOnce", fn := fun _ => fun
  | [d1, d2] => { results := [.lit (.bool true)], args := [d1, d2] }
  | _ => none }
def lifeOnceRow : OpenClaim := { program := "ytbodnmcaipakcaa", sum := "ea0d08df06992480733b183c5a7409c4bdbf12757b19e0beefa988d48a89300c", func := "linchpin/linchpinlaw19.LifeOnce", spec := "lifeOnce", unfollowed := true, recurses := true, apart := false }
def LifeOnceSaid : Prop := lifeOnceRow.holds Try.pinned (OpenSpec.ofChange lifeOnceSpec)

/-- ITS FALSE NEIGHBOUR: 'it returns false'. Refute it at one input. -/
def lifeOnceWrong : ChangeSpec := { name := "lifeOnce", fn := fun _ => fun
  | [d1, d2] => { results := [.lit (.bool false)], args := [d1, d2] }
  | _ => none }
def LifeOnceWrongFalsely : Prop := lifeOnceRow.holds Try.pinned (OpenSpec.ofChange lifeOnceWrong)

/-- 'linchpinlaw19.LifeLate': WHATEVER THE INPUT: true; the input reads as it did. -/
def lifeLateSpec : ChangeSpec := { name := "lifeLate", fn := fun _ => fun
  | [d1, d2, d3] => { results := [.lit (.bool true)], args := [d1, d2, d3] }
  | _ => none }
def lifeLateRow : OpenClaim := { program := "ytbodnmcaipakcaa", sum := "ea0d08df06992480733b183c5a7409c4bdbf12757b19e0beefa988d48a89300c", func := "linchpin/linchpinlaw19.LifeLate", spec := "lifeLate", unfollowed := true, recurses := true, apart := false }
def LifeLateSaid : Prop := lifeLateRow.holds Try.pinned (OpenSpec.ofChange lifeLateSpec)

/-- ITS FALSE NEIGHBOUR: 'it returns false'. Refute it at one input. -/
def lifeLateWrong : ChangeSpec := { name := "lifeLate", fn := fun _ => fun
  | [d1, d2, d3] => { results := [.lit (.bool false)], args := [d1, d2, d3] }
  | _ => none }
def LifeLateWrongFalsely : Prop := lifeLateRow.holds Try.pinned (OpenSpec.ofChange lifeLateWrong)

/-- 'linchpinlaw19.LifeAdmits': WHATEVER THE INPUT: true; the input reads as it did. -/
def lifeAdmitsSpec : ChangeSpec := { name := "lifeAdmits", fn := fun _ => fun
  | [d1, d2, d3] => { results := [.lit (.bool true)], args := [d1, d2, d3] }
  | _ => none }
def lifeAdmitsRow : OpenClaim := { program := "ytbodnmcaipakcaa", sum := "ea0d08df06992480733b183c5a7409c4bdbf12757b19e0beefa988d48a89300c", func := "linchpin/linchpinlaw19.LifeAdmits", spec := "lifeAdmits", unfollowed := true, recurses := true, apart := false }
def LifeAdmitsSaid : Prop := lifeAdmitsRow.holds Try.pinned (OpenSpec.ofChange lifeAdmitsSpec)

/-- ITS FALSE NEIGHBOUR: 'it returns false'. Refute it at one input. -/
def lifeAdmitsWrong : ChangeSpec := { name := "lifeAdmits", fn := fun _ => fun
  | [d1, d2, d3] => { results := [.lit (.bool false)], args := [d1, d2, d3] }
  | _ => none }
def LifeAdmitsWrongFalsely : Prop := lifeAdmitsRow.holds Try.pinned (OpenSpec.ofChange lifeAdmitsWrong)

/-- 'linchpinlaw19.LifePlays': WHATEVER THE INPUT: true; the input reads as it did. -/
def lifePlaysSpec : ChangeSpec := { name := "lifePlays", fn := fun _ => fun
  | [d1, d2] => { results := [.lit (.bool true)], args := [d1, d2] }
  | _ => none }
def lifePlaysRow : OpenClaim := { program := "ytbodnmcaipakcaa", sum := "ea0d08df06992480733b183c5a7409c4bdbf12757b19e0beefa988d48a89300c", func := "linchpin/linchpinlaw19.LifePlays", spec := "lifePlays", unfollowed := true, recurses := true, apart := false }
def LifePlaysSaid : Prop := lifePlaysRow.holds Try.pinned (OpenSpec.ofChange lifePlaysSpec)

/-- ITS FALSE NEIGHBOUR: 'it returns false'. Refute it at one input. -/
def lifePlaysWrong : ChangeSpec := { name := "lifePlays", fn := fun _ => fun
  | [d1, d2] => { results := [.lit (.bool false)], args := [d1, d2] }
  | _ => none }
def LifePlaysWrongFalsely : Prop := lifePlaysRow.holds Try.pinned (OpenSpec.ofChange lifePlaysWrong)

/- THE SECOND FORM. 'bulk': how many values and letters a reading holds, each counted each time it is reached (what is shared counts as often as it is met; a slice's spare places count too). A statement '..UptoSaid' is the law's where the arguments, and the package variables that the reading takes, are together of bulk at most 1048576: NARROWER than '..Said'. Prove '..Said' where nothing that the law and all that it calls make is longer than what came in: it says more and counts as full. Else prove '..UptoSaid'. A law counts once. -/
mutual
def uptoBulk {H : Type} : DataW H → Nat
  | .lit (.string bytes) => bytes.length + 1
  | .lit _ => 1
  | .nil => 1
  | .ptr d => uptoBulk d + 1
  | .slice elems spare => uptoBulkAll elems + uptoBulkAll spare + 1
  | .agg parts => uptoBulkAll parts + 1
  | .iface _ d => uptoBulk d + 1
  | .map entries => uptoBulkEntries entries + 1
  | .held _ => 1
def uptoBulkAll {H : Type} : List (DataW H) → Nat
  | [] => 0
  | d :: r => uptoBulk d + uptoBulkAll r
def uptoBulkEntries {H : Type} : List (Lit × DataW H) → Nat
  | [] => 0
  | x :: r => uptoBulkEntry x + uptoBulkEntries r
def uptoBulkEntry {H : Type} : Lit × DataW H → Nat
  | (.string bytes, d) => bytes.length + uptoBulk d + 1
  | (_, d) => uptoBulk d + 1
 end
def uptoSmall : (H : Type) → List (DataW H) → Bool := fun _ ds => decide (uptoBulkAll ds ≤ 1048576)
def OpenSpec.upto (s : _root_.Go.ChangeSpec) : _root_.Go.OpenSpec := { _root_.Go.OpenSpec.ofChange s with cond := some uptoSmall }

/-- 'linchpinlaw19.LifeOrder', WHERE WHAT IT READS IS OF BULK AT MOST 1048576: true; the input reads as it did. -/
def lifeOrderUptoRow : OpenClaim := { program := "ytbodnmcaipakcaa", sum := "ea0d08df06992480733b183c5a7409c4bdbf12757b19e0beefa988d48a89300c", func := "linchpin/linchpinlaw19.LifeOrder", spec := "lifeOrder", unfollowed := true, recurses := true, apart := false, narrowed := true }
def LifeOrderUptoSaid : Prop := lifeOrderUptoRow.holds Try.pinned (OpenSpec.upto lifeOrderSpec)

/-- 'linchpinlaw19.LifeSteps', WHERE WHAT IT READS IS OF BULK AT MOST 1048576: true; the input reads as it did. -/
def lifeStepsUptoRow : OpenClaim := { program := "ytbodnmcaipakcaa", sum := "ea0d08df06992480733b183c5a7409c4bdbf12757b19e0beefa988d48a89300c", func := "linchpin/linchpinlaw19.LifeSteps", spec := "lifeSteps", unfollowed := true, recurses := true, apart := false, narrowed := true }
def LifeStepsUptoSaid : Prop := lifeStepsUptoRow.holds Try.pinned (OpenSpec.upto lifeStepsSpec)

/-- 'linchpinlaw19.LifeOnce', WHERE WHAT IT READS IS OF BULK AT MOST 1048576: true; the input reads as it did. -/
def lifeOnceUptoRow : OpenClaim := { program := "ytbodnmcaipakcaa", sum := "ea0d08df06992480733b183c5a7409c4bdbf12757b19e0beefa988d48a89300c", func := "linchpin/linchpinlaw19.LifeOnce", spec := "lifeOnce", unfollowed := true, recurses := true, apart := false, narrowed := true }
def LifeOnceUptoSaid : Prop := lifeOnceUptoRow.holds Try.pinned (OpenSpec.upto lifeOnceSpec)

/-- 'linchpinlaw19.LifeLate', WHERE WHAT IT READS IS OF BULK AT MOST 1048576: true; the input reads as it did. -/
def lifeLateUptoRow : OpenClaim := { program := "ytbodnmcaipakcaa", sum := "ea0d08df06992480733b183c5a7409c4bdbf12757b19e0beefa988d48a89300c", func := "linchpin/linchpinlaw19.LifeLate", spec := "lifeLate", unfollowed := true, recurses := true, apart := false, narrowed := true }
def LifeLateUptoSaid : Prop := lifeLateUptoRow.holds Try.pinned (OpenSpec.upto lifeLateSpec)

/-- 'linchpinlaw19.LifeAdmits', WHERE WHAT IT READS IS OF BULK AT MOST 1048576: true; the input reads as it did. -/
def lifeAdmitsUptoRow : OpenClaim := { program := "ytbodnmcaipakcaa", sum := "ea0d08df06992480733b183c5a7409c4bdbf12757b19e0beefa988d48a89300c", func := "linchpin/linchpinlaw19.LifeAdmits", spec := "lifeAdmits", unfollowed := true, recurses := true, apart := false, narrowed := true }
def LifeAdmitsUptoSaid : Prop := lifeAdmitsUptoRow.holds Try.pinned (OpenSpec.upto lifeAdmitsSpec)

/-- 'linchpinlaw19.LifePlays', WHERE WHAT IT READS IS OF BULK AT MOST 1048576: true; the input reads as it did. -/
def lifePlaysUptoRow : OpenClaim := { program := "ytbodnmcaipakcaa", sum := "ea0d08df06992480733b183c5a7409c4bdbf12757b19e0beefa988d48a89300c", func := "linchpin/linchpinlaw19.LifePlays", spec := "lifePlays", unfollowed := true, recurses := true, apart := false, narrowed := true }
def LifePlaysUptoSaid : Prop := lifePlaysUptoRow.holds Try.pinned (OpenSpec.upto lifePlaysSpec)

end Rows
end Go.Proofs.Ytbodnmcaipakcaa
