/-
  No cell of these rows narrows 'for every input' (looked for: loops, veiled, ifaces, maps, wideKeys, modest, calm, conditions, laid).
  DERIVED. THE GIVEN ROWS OF THIS SEAT. 5 by the template 'for every input the law returns true; each argument reads behind the call as it read before'; 0 by the template 'total and deterministic' (their statements: YtelehfcjajipiaaTotals.lean).
  GIVEN WITH THE SEED: the statements are not yours to turn. If you find one false, say at which input.
  Laid BY PROGRAM, IN A SANDBOX (cutbox-rows.mjs): the forced cells as the released guide's own fill.sh prints them over the translation 40bfd9481157f27b… (all of the seat's roots in one cut). By AI agents, Wed Nov 11 2026. No macro, syntax, notation, axiom, sorry.
-/
import Derived.Test.YtelehfcjajipiaaChecked
import GoSem.Claim
import GoSem.ClaimJoined
import GoSem.ClaimMapViews
import Derived.JoinedTies
import Derived.KernelRfl
namespace Go.Proofs.Ytelehfcjajipiaa
/- THE CELL 'sum', in the pinned program and in every row, IS THE sha256 OF THE DUMP (.gsa) THAT YtelehfcjajipiaaProg.lean LOADS. Nothing in Lean hashes anything: it is a label: what it is worth is what the hold of that sum in a sandbox is worth. -/
noncomputable def Try.pinned : Pinned := { name := "ytelehfcjajipiaa", sum := "40bfd9481157f27b13e34adb6388a89636fa9b9454f75f938d734d09ed5d5a7d", checked := Try.checked }
namespace Rows
def none {H : Type} : Left H := { results := [], args := [] }

/-- 'linchpinlaw15.ReadyOrder': WHATEVER THE INPUT: true; the input reads as it did. -/
def readyOrderSpec : ChangeSpec := { name := "readyOrder", fn := fun _ => fun
  | [d] => { results := [.lit (.bool true)], args := [d] }
  | _ => none }
def readyOrderRow : OpenClaim := { program := "ytelehfcjajipiaa", sum := "40bfd9481157f27b13e34adb6388a89636fa9b9454f75f938d734d09ed5d5a7d", func := "linchpin/linchpinlaw15.ReadyOrder", spec := "readyOrder", unfollowed := true, recurses := true, apart := false }
def ReadyOrderSaid : Prop := readyOrderRow.holds Try.pinned (OpenSpec.ofChange readyOrderSpec)

/-- ITS FALSE NEIGHBOUR: 'it returns false'. Refute it at one input. -/
def readyOrderWrong : ChangeSpec := { name := "readyOrder", fn := fun _ => fun
  | [d] => { results := [.lit (.bool false)], args := [d] }
  | _ => none }
def ReadyOrderWrongFalsely : Prop := readyOrderRow.holds Try.pinned (OpenSpec.ofChange readyOrderWrong)

/-- 'linchpinlaw15.ReadyGoes': WHATEVER THE INPUT: true; the input reads as it did. -/
def readyGoesSpec : ChangeSpec := { name := "readyGoes", fn := fun _ => fun
  | [d1, d2] => { results := [.lit (.bool true)], args := [d1, d2] }
  | _ => none }
def readyGoesRow : OpenClaim := { program := "ytelehfcjajipiaa", sum := "40bfd9481157f27b13e34adb6388a89636fa9b9454f75f938d734d09ed5d5a7d", func := "linchpin/linchpinlaw15.ReadyGoes", spec := "readyGoes", unfollowed := true, recurses := true, apart := false }
def ReadyGoesSaid : Prop := readyGoesRow.holds Try.pinned (OpenSpec.ofChange readyGoesSpec)

/-- ITS FALSE NEIGHBOUR: 'it returns false'. Refute it at one input. -/
def readyGoesWrong : ChangeSpec := { name := "readyGoes", fn := fun _ => fun
  | [d1, d2] => { results := [.lit (.bool false)], args := [d1, d2] }
  | _ => none }
def ReadyGoesWrongFalsely : Prop := readyGoesRow.holds Try.pinned (OpenSpec.ofChange readyGoesWrong)

/-- 'linchpinlaw15.ReadyRight': WHATEVER THE INPUT: true; the input reads as it did. -/
def readyRightSpec : ChangeSpec := { name := "readyRight", fn := fun _ => fun
  | [d] => { results := [.lit (.bool true)], args := [d] }
  | _ => none }
def readyRightRow : OpenClaim := { program := "ytelehfcjajipiaa", sum := "40bfd9481157f27b13e34adb6388a89636fa9b9454f75f938d734d09ed5d5a7d", func := "linchpin/linchpinlaw15.ReadyRight", spec := "readyRight", unfollowed := true, recurses := true, apart := false }
def ReadyRightSaid : Prop := readyRightRow.holds Try.pinned (OpenSpec.ofChange readyRightSpec)

/-- ITS FALSE NEIGHBOUR: 'it returns false'. Refute it at one input. -/
def readyRightWrong : ChangeSpec := { name := "readyRight", fn := fun _ => fun
  | [d] => { results := [.lit (.bool false)], args := [d] }
  | _ => none }
def ReadyRightWrongFalsely : Prop := readyRightRow.holds Try.pinned (OpenSpec.ofChange readyRightWrong)

/-- 'linchpinlaw15.ReadyPlays': WHATEVER THE INPUT: true; the input reads as it did. -/
def readyPlaysSpec : ChangeSpec := { name := "readyPlays", fn := fun _ => fun
  | [d] => { results := [.lit (.bool true)], args := [d] }
  | _ => none }
def readyPlaysRow : OpenClaim := { program := "ytelehfcjajipiaa", sum := "40bfd9481157f27b13e34adb6388a89636fa9b9454f75f938d734d09ed5d5a7d", func := "linchpin/linchpinlaw15.ReadyPlays", spec := "readyPlays", unfollowed := true, recurses := true, apart := false }
def ReadyPlaysSaid : Prop := readyPlaysRow.holds Try.pinned (OpenSpec.ofChange readyPlaysSpec)

/-- ITS FALSE NEIGHBOUR: 'it returns false'. Refute it at one input. -/
def readyPlaysWrong : ChangeSpec := { name := "readyPlays", fn := fun _ => fun
  | [d] => { results := [.lit (.bool false)], args := [d] }
  | _ => none }
def ReadyPlaysWrongFalsely : Prop := readyPlaysRow.holds Try.pinned (OpenSpec.ofChange readyPlaysWrong)

/-- 'linchpinlaw15.ReadyChange': WHATEVER THE INPUT: true; the input reads as it did. -/
def readyChangeSpec : ChangeSpec := { name := "readyChange", fn := fun _ => fun
  | [d1, d2, d3] => { results := [.lit (.bool true)], args := [d1, d2, d3] }
  | _ => none }
def readyChangeRow : OpenClaim := { program := "ytelehfcjajipiaa", sum := "40bfd9481157f27b13e34adb6388a89636fa9b9454f75f938d734d09ed5d5a7d", func := "linchpin/linchpinlaw15.ReadyChange", spec := "readyChange", unfollowed := true, recurses := true, apart := false }
def ReadyChangeSaid : Prop := readyChangeRow.holds Try.pinned (OpenSpec.ofChange readyChangeSpec)

/-- ITS FALSE NEIGHBOUR: 'it returns false'. Refute it at one input. -/
def readyChangeWrong : ChangeSpec := { name := "readyChange", fn := fun _ => fun
  | [d1, d2, d3] => { results := [.lit (.bool false)], args := [d1, d2, d3] }
  | _ => none }
def ReadyChangeWrongFalsely : Prop := readyChangeRow.holds Try.pinned (OpenSpec.ofChange readyChangeWrong)

/- THE SECOND FORM. 'bulk': how many values and letters a reading holds, each counted each time it is reached (what is shared counts as often as it is met; a slice's spare places count too). A statement '..UptoSaid' is the law's where the arguments, and the package variables that the reading takes, are together of bulk at most 1048576: NARROWER than '..Said'. Prove '..Said' where nothing that the law and all that it calls make is longer than what came in: it says more and counts as full. Else prove '..UptoSaid'. A law counts once. -/
mutual
def uptoBulk {H : Type} : DataW H → Nat
  | .lit (.string bytes) => bytes.length + 1
  | .lit _ => 1
  | .nil => 1
  | .ptr d => uptoBulk d + 1
  | .slice elems spare => uptoBulkAll elems + uptoBulkAll spare + 1
  | .agg parts => uptoBulkAll parts + 1
  | .iface _ d => uptoBulk d + 1
  | .map entries => uptoBulkEntries entries + 1
  | .held _ => 1
def uptoBulkAll {H : Type} : List (DataW H) → Nat
  | [] => 0
  | d :: r => uptoBulk d + uptoBulkAll r
def uptoBulkEntries {H : Type} : List (Lit × DataW H) → Nat
  | [] => 0
  | x :: r => uptoBulkEntry x + uptoBulkEntries r
def uptoBulkEntry {H : Type} : Lit × DataW H → Nat
  | (.string bytes, d) => bytes.length + uptoBulk d + 1
  | (_, d) => uptoBulk d + 1
 end
def uptoSmall : (H : Type) → List (DataW H) → Bool := fun _ ds => decide (uptoBulkAll ds ≤ 1048576)
def OpenSpec.upto (s : _root_.Go.ChangeSpec) : _root_.Go.OpenSpec := { _root_.Go.OpenSpec.ofChange s with cond := some uptoSmall }

/-- 'linchpinlaw15.ReadyOrder', WHERE WHAT IT READS IS OF BULK AT MOST 1048576: true; the input reads as it did. -/
def readyOrderUptoRow : OpenClaim := { program := "ytelehfcjajipiaa", sum := "40bfd9481157f27b13e34adb6388a89636fa9b9454f75f938d734d09ed5d5a7d", func := "linchpin/linchpinlaw15.ReadyOrder", spec := "readyOrder", unfollowed := true, recurses := true, apart := false, narrowed := true }
def ReadyOrderUptoSaid : Prop := readyOrderUptoRow.holds Try.pinned (OpenSpec.upto readyOrderSpec)

/-- 'linchpinlaw15.ReadyGoes', WHERE WHAT IT READS IS OF BULK AT MOST 1048576: true; the input reads as it did. -/
def readyGoesUptoRow : OpenClaim := { program := "ytelehfcjajipiaa", sum := "40bfd9481157f27b13e34adb6388a89636fa9b9454f75f938d734d09ed5d5a7d", func := "linchpin/linchpinlaw15.ReadyGoes", spec := "readyGoes", unfollowed := true, recurses := true, apart := false, narrowed := true }
def ReadyGoesUptoSaid : Prop := readyGoesUptoRow.holds Try.pinned (OpenSpec.upto readyGoesSpec)

/-- 'linchpinlaw15.ReadyRight', WHERE WHAT IT READS IS OF BULK AT MOST 1048576: true; the input reads as it did. -/
def readyRightUptoRow : OpenClaim := { program := "ytelehfcjajipiaa", sum := "40bfd9481157f27b13e34adb6388a89636fa9b9454f75f938d734d09ed5d5a7d", func := "linchpin/linchpinlaw15.ReadyRight", spec := "readyRight", unfollowed := true, recurses := true, apart := false, narrowed := true }
def ReadyRightUptoSaid : Prop := readyRightUptoRow.holds Try.pinned (OpenSpec.upto readyRightSpec)

/-- 'linchpinlaw15.ReadyPlays', WHERE WHAT IT READS IS OF BULK AT MOST 1048576: true; the input reads as it did. -/
def readyPlaysUptoRow : OpenClaim := { program := "ytelehfcjajipiaa", sum := "40bfd9481157f27b13e34adb6388a89636fa9b9454f75f938d734d09ed5d5a7d", func := "linchpin/linchpinlaw15.ReadyPlays", spec := "readyPlays", unfollowed := true, recurses := true, apart := false, narrowed := true }
def ReadyPlaysUptoSaid : Prop := readyPlaysUptoRow.holds Try.pinned (OpenSpec.upto readyPlaysSpec)

/-- 'linchpinlaw15.ReadyChange', WHERE WHAT IT READS IS OF BULK AT MOST 1048576: true; the input reads as it did. -/
def readyChangeUptoRow : OpenClaim := { program := "ytelehfcjajipiaa", sum := "40bfd9481157f27b13e34adb6388a89636fa9b9454f75f938d734d09ed5d5a7d", func := "linchpin/linchpinlaw15.ReadyChange", spec := "readyChange", unfollowed := true, recurses := true, apart := false, narrowed := true }
def ReadyChangeUptoSaid : Prop := readyChangeUptoRow.holds Try.pinned (OpenSpec.upto readyChangeSpec)

end Rows
end Go.Proofs.Ytelehfcjajipiaa
