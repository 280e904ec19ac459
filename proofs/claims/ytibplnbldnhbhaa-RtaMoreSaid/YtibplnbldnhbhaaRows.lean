/-
  No cell of these rows narrows 'for every input' (looked for: loops, veiled, ifaces, maps, wideKeys, modest, calm, conditions, laid).
  DERIVED. THE GIVEN ROWS OF THIS SEAT. 6 by the template 'for every input the law returns true; each argument reads behind the call as it read before'; 0 by the template 'total and deterministic' (their statements: YtibplnbldnhbhaaTotals.lean).
  GIVEN WITH THE SEED: the statements are not yours to turn. If you find one false, say at which input.
  Laid BY PROGRAM, IN A SANDBOX (cutbox-rows.mjs): the forced cells as the released guide's own fill.sh prints them over the translation 705e3915e8e00c27… (all of the seat's roots in one cut). By AI agents, Wed Nov 11 2026. No macro, syntax, notation, axiom, sorry.
-/
import Derived.Test.YtibplnbldnhbhaaChecked
import GoSem.Claim
import GoSem.ClaimJoined
import GoSem.ClaimMapViews
import Derived.JoinedTies
import Derived.KernelRfl
namespace Go.Proofs.Ytibplnbldnhbhaa
/- THE CELL 'sum', in the pinned program and in every row, IS THE sha256 OF THE DUMP (.gsa) THAT YtibplnbldnhbhaaProg.lean LOADS. Nothing in Lean hashes anything: it is a label: what it is worth is what the hold of that sum in a sandbox is worth. -/
noncomputable def Try.pinned : Pinned := { name := "ytibplnbldnhbhaa", sum := "705e3915e8e00c270f4aa4181772823f08e7c3a30de9dbb0490f14f99a092cfc", checked := Try.checked }
namespace Rows
def none {H : Type} : Left H := { results := [], args := [] }

/-- 'linchpinlaw16.RtaMore': WHATEVER THE INPUT: true; the input reads as it did. -/
def rtaMoreSpec : ChangeSpec := { name := "rtaMore", fn := fun _ => fun
  | [d1, d2, d3] => { results := [.lit (.bool true)], args := [d1, d2, d3] }
  | _ => none }
def rtaMoreRow : OpenClaim := { program := "ytibplnbldnhbhaa", sum := "705e3915e8e00c270f4aa4181772823f08e7c3a30de9dbb0490f14f99a092cfc", func := "linchpin/linchpinlaw16.RtaMore", spec := "rtaMore", unfollowed := true, recurses := true, apart := false }
def RtaMoreSaid : Prop := rtaMoreRow.holds Try.pinned (OpenSpec.ofChange rtaMoreSpec)

/-- ITS FALSE NEIGHBOUR: 'it returns false'. Refute it at one input. -/
def rtaMoreWrong : ChangeSpec := { name := "rtaMore", fn := fun _ => fun
  | [d1, d2, d3] => { results := [.lit (.bool false)], args := [d1, d2, d3] }
  | _ => none }
def RtaMoreWrongFalsely : Prop := rtaMoreRow.holds Try.pinned (OpenSpec.ofChange rtaMoreWrong)

/-- 'linchpinlaw16.RtaSimple': WHATEVER THE INPUT: true; the input reads as it did. -/
def rtaSimpleSpec : ChangeSpec := { name := "rtaSimple", fn := fun _ => fun
  | [d1, d2] => { results := [.lit (.bool true)], args := [d1, d2] }
  | _ => none }
def rtaSimpleRow : OpenClaim := { program := "ytibplnbldnhbhaa", sum := "705e3915e8e00c270f4aa4181772823f08e7c3a30de9dbb0490f14f99a092cfc", func := "linchpin/linchpinlaw16.RtaSimple", spec := "rtaSimple", unfollowed := true, recurses := true, apart := false }
def RtaSimpleSaid : Prop := rtaSimpleRow.holds Try.pinned (OpenSpec.ofChange rtaSimpleSpec)

/-- ITS FALSE NEIGHBOUR: 'it returns false'. Refute it at one input. -/
def rtaSimpleWrong : ChangeSpec := { name := "rtaSimple", fn := fun _ => fun
  | [d1, d2] => { results := [.lit (.bool false)], args := [d1, d2] }
  | _ => none }
def RtaSimpleWrongFalsely : Prop := rtaSimpleRow.holds Try.pinned (OpenSpec.ofChange rtaSimpleWrong)

/-- 'linchpinlaw16.RtaLeast': WHATEVER THE INPUT: true; the input reads as it did. -/
def rtaLeastSpec : ChangeSpec := { name := "rtaLeast", fn := fun _ => fun
  | [d1, d2] => { results := [.lit (.bool true)], args := [d1, d2] }
  | _ => none }
def rtaLeastRow : OpenClaim := { program := "ytibplnbldnhbhaa", sum := "705e3915e8e00c270f4aa4181772823f08e7c3a30de9dbb0490f14f99a092cfc", func := "linchpin/linchpinlaw16.RtaLeast", spec := "rtaLeast", unfollowed := true, recurses := true, apart := false }
def RtaLeastSaid : Prop := rtaLeastRow.holds Try.pinned (OpenSpec.ofChange rtaLeastSpec)

/-- ITS FALSE NEIGHBOUR: 'it returns false'. Refute it at one input. -/
def rtaLeastWrong : ChangeSpec := { name := "rtaLeast", fn := fun _ => fun
  | [d1, d2] => { results := [.lit (.bool false)], args := [d1, d2] }
  | _ => none }
def RtaLeastWrongFalsely : Prop := rtaLeastRow.holds Try.pinned (OpenSpec.ofChange rtaLeastWrong)

/-- 'linchpinlaw16.RtaFull': WHATEVER THE INPUT: true; the input reads as it did. -/
def rtaFullSpec : ChangeSpec := { name := "rtaFull", fn := fun _ => fun
  | [d] => { results := [.lit (.bool true)], args := [d] }
  | _ => none }
def rtaFullRow : OpenClaim := { program := "ytibplnbldnhbhaa", sum := "705e3915e8e00c270f4aa4181772823f08e7c3a30de9dbb0490f14f99a092cfc", func := "linchpin/linchpinlaw16.RtaFull", spec := "rtaFull", unfollowed := true, recurses := true, apart := false }
def RtaFullSaid : Prop := rtaFullRow.holds Try.pinned (OpenSpec.ofChange rtaFullSpec)

/-- ITS FALSE NEIGHBOUR: 'it returns false'. Refute it at one input. -/
def rtaFullWrong : ChangeSpec := { name := "rtaFull", fn := fun _ => fun
  | [d] => { results := [.lit (.bool false)], args := [d] }
  | _ => none }
def RtaFullWrongFalsely : Prop := rtaFullRow.holds Try.pinned (OpenSpec.ofChange rtaFullWrong)

/-- 'linchpinlaw16.RtaRoom': WHATEVER THE INPUT: true; the input reads as it did. -/
def rtaRoomSpec : ChangeSpec := { name := "rtaRoom", fn := fun _ => fun
  | [d1, d2, d3] => { results := [.lit (.bool true)], args := [d1, d2, d3] }
  | _ => none }
def rtaRoomRow : OpenClaim := { program := "ytibplnbldnhbhaa", sum := "705e3915e8e00c270f4aa4181772823f08e7c3a30de9dbb0490f14f99a092cfc", func := "linchpin/linchpinlaw16.RtaRoom", spec := "rtaRoom", unfollowed := true, recurses := true, apart := false }
def RtaRoomSaid : Prop := rtaRoomRow.holds Try.pinned (OpenSpec.ofChange rtaRoomSpec)

/-- ITS FALSE NEIGHBOUR: 'it returns false'. Refute it at one input. -/
def rtaRoomWrong : ChangeSpec := { name := "rtaRoom", fn := fun _ => fun
  | [d1, d2, d3] => { results := [.lit (.bool false)], args := [d1, d2, d3] }
  | _ => none }
def RtaRoomWrongFalsely : Prop := rtaRoomRow.holds Try.pinned (OpenSpec.ofChange rtaRoomWrong)

/-- 'linchpinlaw16.RtaSwapped': WHATEVER THE INPUT: true; the input reads as it did. -/
def rtaSwappedSpec : ChangeSpec := { name := "rtaSwapped", fn := fun _ => fun
  | [d1, d2, d3] => { results := [.lit (.bool true)], args := [d1, d2, d3] }
  | _ => none }
def rtaSwappedRow : OpenClaim := { program := "ytibplnbldnhbhaa", sum := "705e3915e8e00c270f4aa4181772823f08e7c3a30de9dbb0490f14f99a092cfc", func := "linchpin/linchpinlaw16.RtaSwapped", spec := "rtaSwapped", unfollowed := true, recurses := true, apart := false }
def RtaSwappedSaid : Prop := rtaSwappedRow.holds Try.pinned (OpenSpec.ofChange rtaSwappedSpec)

/-- ITS FALSE NEIGHBOUR: 'it returns false'. Refute it at one input. -/
def rtaSwappedWrong : ChangeSpec := { name := "rtaSwapped", fn := fun _ => fun
  | [d1, d2, d3] => { results := [.lit (.bool false)], args := [d1, d2, d3] }
  | _ => none }
def RtaSwappedWrongFalsely : Prop := rtaSwappedRow.holds Try.pinned (OpenSpec.ofChange rtaSwappedWrong)

/- THE SECOND FORM. 'bulk': how many values and letters a reading holds, each counted each time it is reached (what is shared counts as often as it is met; a slice's spare places count too). A statement '..UptoSaid' is the law's where the arguments, and the package variables that the reading takes, are together of bulk at most 1048576: NARROWER than '..Said'. Prove '..Said' where nothing that the law and all that it calls make is longer than what came in: it says more and counts as full. Else prove '..UptoSaid'. A law counts once. -/
mutual
def uptoBulk {H : Type} : DataW H → Nat
  | .lit (.string bytes) => bytes.length + 1
  | .lit _ => 1
  | .nil => 1
  | .ptr d => uptoBulk d + 1
  | .slice elems spare => uptoBulkAll elems + uptoBulkAll spare + 1
  | .agg parts => uptoBulkAll parts + 1
  | .iface _ d => uptoBulk d + 1
  | .map entries => uptoBulkEntries entries + 1
  | .held _ => 1
def uptoBulkAll {H : Type} : List (DataW H) → Nat
  | [] => 0
  | d :: r => uptoBulk d + uptoBulkAll r
def uptoBulkEntries {H : Type} : List (Lit × DataW H) → Nat
  | [] => 0
  | x :: r => uptoBulkEntry x + uptoBulkEntries r
def uptoBulkEntry {H : Type} : Lit × DataW H → Nat
  | (.string bytes, d) => bytes.length + uptoBulk d + 1
  | (_, d) => uptoBulk d + 1
 end
def uptoSmall : (H : Type) → List (DataW H) → Bool := fun _ ds => decide (uptoBulkAll ds ≤ 1048576)
def OpenSpec.upto (s : _root_.Go.ChangeSpec) : _root_.Go.OpenSpec := { _root_.Go.OpenSpec.ofChange s with cond := some uptoSmall }

/-- 'linchpinlaw16.RtaMore', WHERE WHAT IT READS IS OF BULK AT MOST 1048576: true; the input reads as it did. -/
def rtaMoreUptoRow : OpenClaim := { program := "ytibplnbldnhbhaa", sum := "705e3915e8e00c270f4aa4181772823f08e7c3a30de9dbb0490f14f99a092cfc", func := "linchpin/linchpinlaw16.RtaMore", spec := "rtaMore", unfollowed := true, recurses := true, apart := false, narrowed := true }
def RtaMoreUptoSaid : Prop := rtaMoreUptoRow.holds Try.pinned (OpenSpec.upto rtaMoreSpec)

/-- 'linchpinlaw16.RtaSimple', WHERE WHAT IT READS IS OF BULK AT MOST 1048576: true; the input reads as it did. -/
def rtaSimpleUptoRow : OpenClaim := { program := "ytibplnbldnhbhaa", sum := "705e3915e8e00c270f4aa4181772823f08e7c3a30de9dbb0490f14f99a092cfc", func := "linchpin/linchpinlaw16.RtaSimple", spec := "rtaSimple", unfollowed := true, recurses := true, apart := false, narrowed := true }
def RtaSimpleUptoSaid : Prop := rtaSimpleUptoRow.holds Try.pinned (OpenSpec.upto rtaSimpleSpec)

/-- 'linchpinlaw16.RtaLeast', WHERE WHAT IT READS IS OF BULK AT MOST 1048576: true; the input reads as it did. -/
def rtaLeastUptoRow : OpenClaim := { program := "ytibplnbldnhbhaa", sum := "705e3915e8e00c270f4aa4181772823f08e7c3a30de9dbb0490f14f99a092cfc", func := "linchpin/linchpinlaw16.RtaLeast", spec := "rtaLeast", unfollowed := true, recurses := true, apart := false, narrowed := true }
def RtaLeastUptoSaid : Prop := rtaLeastUptoRow.holds Try.pinned (OpenSpec.upto rtaLeastSpec)

/-- 'linchpinlaw16.RtaFull', WHERE WHAT IT READS IS OF BULK AT MOST 1048576: true; the input reads as it did. -/
def rtaFullUptoRow : OpenClaim := { program := "ytibplnbldnhbhaa", sum := "705e3915e8e00c270f4aa4181772823f08e7c3a30de9dbb0490f14f99a092cfc", func := "linchpin/linchpinlaw16.RtaFull", spec := "rtaFull", unfollowed := true, recurses := true, apart := false, narrowed := true }
def RtaFullUptoSaid : Prop := rtaFullUptoRow.holds Try.pinned (OpenSpec.upto rtaFullSpec)

/-- 'linchpinlaw16.RtaRoom', WHERE WHAT IT READS IS OF BULK AT MOST 1048576: true; the input reads as it did. -/
def rtaRoomUptoRow : OpenClaim := { program := "ytibplnbldnhbhaa", sum := "705e3915e8e00c270f4aa4181772823f08e7c3a30de9dbb0490f14f99a092cfc", func := "linchpin/linchpinlaw16.RtaRoom", spec := "rtaRoom", unfollowed := true, recurses := true, apart := false, narrowed := true }
def RtaRoomUptoSaid : Prop := rtaRoomUptoRow.holds Try.pinned (OpenSpec.upto rtaRoomSpec)

/-- 'linchpinlaw16.RtaSwapped', WHERE WHAT IT READS IS OF BULK AT MOST 1048576: true; the input reads as it did. -/
def rtaSwappedUptoRow : OpenClaim := { program := "ytibplnbldnhbhaa", sum := "705e3915e8e00c270f4aa4181772823f08e7c3a30de9dbb0490f14f99a092cfc", func := "linchpin/linchpinlaw16.RtaSwapped", spec := "rtaSwapped", unfollowed := true, recurses := true, apart := false, narrowed := true }
def RtaSwappedUptoSaid : Prop := rtaSwappedUptoRow.holds Try.pinned (OpenSpec.upto rtaSwappedSpec)

end Rows
end Go.Proofs.Ytibplnbldnhbhaa
