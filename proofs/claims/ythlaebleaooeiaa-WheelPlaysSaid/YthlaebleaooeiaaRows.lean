/-
  No cell of these rows narrows 'for every input' (looked for: loops, veiled, ifaces, maps, wideKeys, modest, calm, conditions, laid).
  DERIVED. THE GIVEN ROWS OF THIS SEAT. 5 by the template 'for every input the law returns true; each argument reads behind the call as it read before'; 0 by the template 'total and deterministic' (their statements: YthlaebleaooeiaaTotals.lean).
  GIVEN WITH THE SEED: the statements are not yours to turn. If you find one false, say at which input.
  Laid BY PROGRAM, IN A SANDBOX (cutbox-rows.mjs): the forced cells as the released guide's own fill.sh prints them over the translation 2441a39ea4f7e560… (all of the seat's roots in one cut). By AI agents, Wed Nov 11 2026. No macro, syntax, notation, axiom, sorry.
-/
import Derived.Test.YthlaebleaooeiaaChecked
import GoSem.Claim
import GoSem.ClaimJoined
import GoSem.ClaimMapViews
import Derived.JoinedTies
import Derived.KernelRfl
namespace Go.Proofs.Ythlaebleaooeiaa
/- THE CELL 'sum', in the pinned program and in every row, IS THE sha256 OF THE DUMP (.gsa) THAT YthlaebleaooeiaaProg.lean LOADS. Nothing in Lean hashes anything: it is a label: what it is worth is what the hold of that sum in a sandbox is worth. -/
noncomputable def Try.pinned : Pinned := { name := "ythlaebleaooeiaa", sum := "2441a39ea4f7e5606449e3d70fe9a4e913715b2352ef5169527c99eac65096e9", checked := Try.checked }
namespace Rows
def none {H : Type} : Left H := { results := [], args := [] }

/-- 'linchpinlaw04.WheelFar': WHATEVER THE INPUT: true; the input reads as it did. -/
def wheelFarSpec : ChangeSpec := { name := "wheelFar", fn := fun _ => fun
  | [d1, d2] => { results := [.lit (.bool true)], args := [d1, d2] }
  | _ => none }
def wheelFarRow : OpenClaim := { program := "ythlaebleaooeiaa", sum := "2441a39ea4f7e5606449e3d70fe9a4e913715b2352ef5169527c99eac65096e9", func := "linchpin/linchpinlaw04.WheelFar", spec := "wheelFar", unfollowed := true, recurses := true, apart := false }
def WheelFarSaid : Prop := wheelFarRow.holds Try.pinned (OpenSpec.ofChange wheelFarSpec)

/-- ITS FALSE NEIGHBOUR: 'it returns false'. Refute it at one input. -/
def wheelFarWrong : ChangeSpec := { name := "wheelFar", fn := fun _ => fun
  | [d1, d2] => { results := [.lit (.bool false)], args := [d1, d2] }
  | _ => none }
def WheelFarWrongFalsely : Prop := wheelFarRow.holds Try.pinned (OpenSpec.ofChange wheelFarWrong)

/-- 'linchpinlaw04.WheelParts': WHATEVER THE INPUT: true; the input reads as it did. -/
def wheelPartsSpec : ChangeSpec := { name := "wheelParts", fn := fun _ => fun
  | [d1, d2] => { results := [.lit (.bool true)], args := [d1, d2] }
  | _ => none }
def wheelPartsRow : OpenClaim := { program := "ythlaebleaooeiaa", sum := "2441a39ea4f7e5606449e3d70fe9a4e913715b2352ef5169527c99eac65096e9", func := "linchpin/linchpinlaw04.WheelParts", spec := "wheelParts", unfollowed := true, recurses := true, apart := false }
def WheelPartsSaid : Prop := wheelPartsRow.holds Try.pinned (OpenSpec.ofChange wheelPartsSpec)

/-- ITS FALSE NEIGHBOUR: 'it returns false'. Refute it at one input. -/
def wheelPartsWrong : ChangeSpec := { name := "wheelParts", fn := fun _ => fun
  | [d1, d2] => { results := [.lit (.bool false)], args := [d1, d2] }
  | _ => none }
def WheelPartsWrongFalsely : Prop := wheelPartsRow.holds Try.pinned (OpenSpec.ofChange wheelPartsWrong)

/-- 'linchpinlaw04.WheelNow': WHATEVER THE INPUT: true; the input reads as it did. -/
def wheelNowSpec : ChangeSpec := { name := "wheelNow", fn := fun _ => fun
  | [d] => { results := [.lit (.bool true)], args := [d] }
  | _ => none }
def wheelNowRow : OpenClaim := { program := "ythlaebleaooeiaa", sum := "2441a39ea4f7e5606449e3d70fe9a4e913715b2352ef5169527c99eac65096e9", func := "linchpin/linchpinlaw04.WheelNow", spec := "wheelNow", unfollowed := true, recurses := true, apart := false }
def WheelNowSaid : Prop := wheelNowRow.holds Try.pinned (OpenSpec.ofChange wheelNowSpec)

/-- ITS FALSE NEIGHBOUR: 'it returns false'. Refute it at one input. -/
def wheelNowWrong : ChangeSpec := { name := "wheelNow", fn := fun _ => fun
  | [d] => { results := [.lit (.bool false)], args := [d] }
  | _ => none }
def WheelNowWrongFalsely : Prop := wheelNowRow.holds Try.pinned (OpenSpec.ofChange wheelNowWrong)

/-- 'linchpinlaw04.WheelAgain': WHATEVER THE INPUT: true; the input reads as it did. -/
def wheelAgainSpec : ChangeSpec := { name := "wheelAgain", fn := fun _ => fun
  | [d] => { results := [.lit (.bool true)], args := [d] }
  | _ => none }
def wheelAgainRow : OpenClaim := { program := "ythlaebleaooeiaa", sum := "2441a39ea4f7e5606449e3d70fe9a4e913715b2352ef5169527c99eac65096e9", func := "linchpin/linchpinlaw04.WheelAgain", spec := "wheelAgain", unfollowed := true, recurses := true, apart := false }
def WheelAgainSaid : Prop := wheelAgainRow.holds Try.pinned (OpenSpec.ofChange wheelAgainSpec)

/-- ITS FALSE NEIGHBOUR: 'it returns false'. Refute it at one input. -/
def wheelAgainWrong : ChangeSpec := { name := "wheelAgain", fn := fun _ => fun
  | [d] => { results := [.lit (.bool false)], args := [d] }
  | _ => none }
def WheelAgainWrongFalsely : Prop := wheelAgainRow.holds Try.pinned (OpenSpec.ofChange wheelAgainWrong)

/-- 'linchpinlaw04.WheelPlays': WHATEVER THE INPUT: true; the input reads as it did. -/
def wheelPlaysSpec : ChangeSpec := { name := "wheelPlays", fn := fun _ => fun
  | [d] => { results := [.lit (.bool true)], args := [d] }
  | _ => none }
def wheelPlaysRow : OpenClaim := { program := "ythlaebleaooeiaa", sum := "2441a39ea4f7e5606449e3d70fe9a4e913715b2352ef5169527c99eac65096e9", func := "linchpin/linchpinlaw04.WheelPlays", spec := "wheelPlays", unfollowed := true, recurses := true, apart := false }
def WheelPlaysSaid : Prop := wheelPlaysRow.holds Try.pinned (OpenSpec.ofChange wheelPlaysSpec)

/-- ITS FALSE NEIGHBOUR: 'it returns false'. Refute it at one input. -/
def wheelPlaysWrong : ChangeSpec := { name := "wheelPlays", fn := fun _ => fun
  | [d] => { results := [.lit (.bool false)], args := [d] }
  | _ => none }
def WheelPlaysWrongFalsely : Prop := wheelPlaysRow.holds Try.pinned (OpenSpec.ofChange wheelPlaysWrong)

/- THE SECOND FORM. 'bulk': how many values and letters a reading holds, each counted each time it is reached (what is shared counts as often as it is met; a slice's spare places count too). A statement '..UptoSaid' is the law's where the arguments, and the package variables that the reading takes, are together of bulk at most 1048576: NARROWER than '..Said'. Prove '..Said' where nothing that the law and all that it calls make is longer than what came in: it says more and counts as full. Else prove '..UptoSaid'. A law counts once. -/
mutual
def uptoBulk {H : Type} : DataW H → Nat
  | .lit (.string bytes) => bytes.length + 1
  | .lit _ => 1
  | .nil => 1
  | .ptr d => uptoBulk d + 1
  | .slice elems spare => uptoBulkAll elems + uptoBulkAll spare + 1
  | .agg parts => uptoBulkAll parts + 1
  | .iface _ d => uptoBulk d + 1
  | .map entries => uptoBulkEntries entries + 1
  | .held _ => 1
def uptoBulkAll {H : Type} : List (DataW H) → Nat
  | [] => 0
  | d :: r => uptoBulk d + uptoBulkAll r
def uptoBulkEntries {H : Type} : List (Lit × DataW H) → Nat
  | [] => 0
  | x :: r => uptoBulkEntry x + uptoBulkEntries r
def uptoBulkEntry {H : Type} : Lit × DataW H → Nat
  | (.string bytes, d) => bytes.length + uptoBulk d + 1
  | (_, d) => uptoBulk d + 1
 end
def uptoSmall : (H : Type) → List (DataW H) → Bool := fun _ ds => decide (uptoBulkAll ds ≤ 1048576)
def OpenSpec.upto (s : _root_.Go.ChangeSpec) : _root_.Go.OpenSpec := { _root_.Go.OpenSpec.ofChange s with cond := some uptoSmall }

/-- 'linchpinlaw04.WheelFar', WHERE WHAT IT READS IS OF BULK AT MOST 1048576: true; the input reads as it did. -/
def wheelFarUptoRow : OpenClaim := { program := "ythlaebleaooeiaa", sum := "2441a39ea4f7e5606449e3d70fe9a4e913715b2352ef5169527c99eac65096e9", func := "linchpin/linchpinlaw04.WheelFar", spec := "wheelFar", unfollowed := true, recurses := true, apart := false, narrowed := true }
def WheelFarUptoSaid : Prop := wheelFarUptoRow.holds Try.pinned (OpenSpec.upto wheelFarSpec)

/-- 'linchpinlaw04.WheelParts', WHERE WHAT IT READS IS OF BULK AT MOST 1048576: true; the input reads as it did. -/
def wheelPartsUptoRow : OpenClaim := { program := "ythlaebleaooeiaa", sum := "2441a39ea4f7e5606449e3d70fe9a4e913715b2352ef5169527c99eac65096e9", func := "linchpin/linchpinlaw04.WheelParts", spec := "wheelParts", unfollowed := true, recurses := true, apart := false, narrowed := true }
def WheelPartsUptoSaid : Prop := wheelPartsUptoRow.holds Try.pinned (OpenSpec.upto wheelPartsSpec)

/-- 'linchpinlaw04.WheelNow', WHERE WHAT IT READS IS OF BULK AT MOST 1048576: true; the input reads as it did. -/
def wheelNowUptoRow : OpenClaim := { program := "ythlaebleaooeiaa", sum := "2441a39ea4f7e5606449e3d70fe9a4e913715b2352ef5169527c99eac65096e9", func := "linchpin/linchpinlaw04.WheelNow", spec := "wheelNow", unfollowed := true, recurses := true, apart := false, narrowed := true }
def WheelNowUptoSaid : Prop := wheelNowUptoRow.holds Try.pinned (OpenSpec.upto wheelNowSpec)

/-- 'linchpinlaw04.WheelAgain', WHERE WHAT IT READS IS OF BULK AT MOST 1048576: true; the input reads as it did. -/
def wheelAgainUptoRow : OpenClaim := { program := "ythlaebleaooeiaa", sum := "2441a39ea4f7e5606449e3d70fe9a4e913715b2352ef5169527c99eac65096e9", func := "linchpin/linchpinlaw04.WheelAgain", spec := "wheelAgain", unfollowed := true, recurses := true, apart := false, narrowed := true }
def WheelAgainUptoSaid : Prop := wheelAgainUptoRow.holds Try.pinned (OpenSpec.upto wheelAgainSpec)

/-- 'linchpinlaw04.WheelPlays', WHERE WHAT IT READS IS OF BULK AT MOST 1048576: true; the input reads as it did. -/
def wheelPlaysUptoRow : OpenClaim := { program := "ythlaebleaooeiaa", sum := "2441a39ea4f7e5606449e3d70fe9a4e913715b2352ef5169527c99eac65096e9", func := "linchpin/linchpinlaw04.WheelPlays", spec := "wheelPlays", unfollowed := true, recurses := true, apart := false, narrowed := true }
def WheelPlaysUptoSaid : Prop := wheelPlaysUptoRow.holds Try.pinned (OpenSpec.upto wheelPlaysSpec)

end Rows
end Go.Proofs.Ythlaebleaooeiaa
