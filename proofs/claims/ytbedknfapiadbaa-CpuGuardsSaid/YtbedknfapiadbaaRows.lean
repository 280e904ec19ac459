/-
  No cell of these rows narrows 'for every input' (looked for: loops, veiled, ifaces, maps, wideKeys, modest, calm, conditions, laid).
  DERIVED. THE GIVEN ROWS OF THIS SEAT. 6 by the template 'for every input the law returns true; each argument reads behind the call as it read before'; 0 by the template 'total and deterministic' (their statements: YtbedknfapiadbaaTotals.lean).
  GIVEN WITH THE SEED: the statements are not yours to turn. If you find one false, say at which input.
  Laid BY PROGRAM, IN A SANDBOX (cutbox-rows.mjs): the forced cells as the released guide's own fill.sh prints them over the translation 6c5e9728cb0f282d… (all of the seat's roots in one cut). By AI agents, Wed Nov 11 2026. No macro, syntax, notation, axiom, sorry.
-/
import Derived.Test.YtbedknfapiadbaaChecked
import GoSem.Claim
import GoSem.ClaimJoined
import GoSem.ClaimMapViews
import Derived.JoinedTies
import Derived.KernelRfl
namespace Go.Proofs.Ytbedknfapiadbaa
/- THE CELL 'sum', in the pinned program and in every row, IS THE sha256 OF THE DUMP (.gsa) THAT YtbedknfapiadbaaProg.lean LOADS. Nothing in Lean hashes anything: it is a label: what it is worth is what the hold of that sum in a sandbox is worth. -/
noncomputable def Try.pinned : Pinned := { name := "ytbedknfapiadbaa", sum := "6c5e9728cb0f282d068e918c3a7af8acaf6bda6bc8d59fc893664b876dc4af03", checked := Try.checked }
namespace Rows
def none {H : Type} : Left H := { results := [], args := [] }

/-- 'linchpinlaw17.CpuServes': WHATEVER THE INPUT: true; the input reads as it did. -/
def cpuServesSpec : ChangeSpec := { name := "cpuServes", fn := fun _ => fun
  | [d1, d2, d3] => { results := [.lit (.bool true)], args := [d1, d2, d3] }
  | _ => none }
def cpuServesRow : OpenClaim := { program := "ytbedknfapiadbaa", sum := "6c5e9728cb0f282d068e918c3a7af8acaf6bda6bc8d59fc893664b876dc4af03", func := "linchpin/linchpinlaw17.CpuServes", spec := "cpuServes", unfollowed := true, recurses := true, apart := false }
def CpuServesSaid : Prop := cpuServesRow.holds Try.pinned (OpenSpec.ofChange cpuServesSpec)

/-- ITS FALSE NEIGHBOUR: 'it returns false'. Refute it at one input. -/
def cpuServesWrong : ChangeSpec := { name := "cpuServes", fn := fun _ => fun
  | [d1, d2, d3] => { results := [.lit (.bool false)], args := [d1, d2, d3] }
  | _ => none }
def CpuServesWrongFalsely : Prop := cpuServesRow.holds Try.pinned (OpenSpec.ofChange cpuServesWrong)

/-- 'linchpinlaw17.CpuIdle': WHATEVER THE INPUT: true; the input reads as it did. -/
def cpuIdleSpec : ChangeSpec := { name := "cpuIdle", fn := fun _ => fun
  | [d1, d2] => { results := [.lit (.bool true)], args := [d1, d2] }
  | _ => none }
def cpuIdleRow : OpenClaim := { program := "ytbedknfapiadbaa", sum := "6c5e9728cb0f282d068e918c3a7af8acaf6bda6bc8d59fc893664b876dc4af03", func := "linchpin/linchpinlaw17.CpuIdle", spec := "cpuIdle", unfollowed := true, recurses := true, apart := false }
def CpuIdleSaid : Prop := cpuIdleRow.holds Try.pinned (OpenSpec.ofChange cpuIdleSpec)

/-- ITS FALSE NEIGHBOUR: 'it returns false'. Refute it at one input. -/
def cpuIdleWrong : ChangeSpec := { name := "cpuIdle", fn := fun _ => fun
  | [d1, d2] => { results := [.lit (.bool false)], args := [d1, d2] }
  | _ => none }
def CpuIdleWrongFalsely : Prop := cpuIdleRow.holds Try.pinned (OpenSpec.ofChange cpuIdleWrong)

/-- 'linchpinlaw17.CpuGuards': WHATEVER THE INPUT: true; the input reads as it did. -/
def cpuGuardsSpec : ChangeSpec := { name := "cpuGuards", fn := fun _ => fun
  | [d1, d2, d3] => { results := [.lit (.bool true)], args := [d1, d2, d3] }
  | _ => none }
def cpuGuardsRow : OpenClaim := { program := "ytbedknfapiadbaa", sum := "6c5e9728cb0f282d068e918c3a7af8acaf6bda6bc8d59fc893664b876dc4af03", func := "linchpin/linchpinlaw17.CpuGuards", spec := "cpuGuards", unfollowed := true, recurses := true, apart := false }
def CpuGuardsSaid : Prop := cpuGuardsRow.holds Try.pinned (OpenSpec.ofChange cpuGuardsSpec)

/-- ITS FALSE NEIGHBOUR: 'it returns false'. Refute it at one input. -/
def cpuGuardsWrong : ChangeSpec := { name := "cpuGuards", fn := fun _ => fun
  | [d1, d2, d3] => { results := [.lit (.bool false)], args := [d1, d2, d3] }
  | _ => none }
def CpuGuardsWrongFalsely : Prop := cpuGuardsRow.holds Try.pinned (OpenSpec.ofChange cpuGuardsWrong)

/-- 'linchpinlaw17.CpuCuts': WHATEVER THE INPUT: true; the input reads as it did. -/
def cpuCutsSpec : ChangeSpec := { name := "cpuCuts", fn := fun _ => fun
  | [d1, d2] => { results := [.lit (.bool true)], args := [d1, d2] }
  | _ => none }
def cpuCutsRow : OpenClaim := { program := "ytbedknfapiadbaa", sum := "6c5e9728cb0f282d068e918c3a7af8acaf6bda6bc8d59fc893664b876dc4af03", func := "linchpin/linchpinlaw17.CpuCuts", spec := "cpuCuts", unfollowed := true, recurses := true, apart := false }
def CpuCutsSaid : Prop := cpuCutsRow.holds Try.pinned (OpenSpec.ofChange cpuCutsSpec)

/-- ITS FALSE NEIGHBOUR: 'it returns false'. Refute it at one input. -/
def cpuCutsWrong : ChangeSpec := { name := "cpuCuts", fn := fun _ => fun
  | [d1, d2] => { results := [.lit (.bool false)], args := [d1, d2] }
  | _ => none }
def CpuCutsWrongFalsely : Prop := cpuCutsRow.holds Try.pinned (OpenSpec.ofChange cpuCutsWrong)

/-- 'linchpinlaw17.CpuOften': WHATEVER THE INPUT: true; the input reads as it did. -/
def cpuOftenSpec : ChangeSpec := { name := "cpuOften", fn := fun _ => fun
  | [d1, d2] => { results := [.lit (.bool true)], args := [d1, d2] }
  | _ => none }
def cpuOftenRow : OpenClaim := { program := "ytbedknfapiadbaa", sum := "6c5e9728cb0f282d068e918c3a7af8acaf6bda6bc8d59fc893664b876dc4af03", func := "linchpin/linchpinlaw17.CpuOften", spec := "cpuOften", unfollowed := true, recurses := true, apart := false }
def CpuOftenSaid : Prop := cpuOftenRow.holds Try.pinned (OpenSpec.ofChange cpuOftenSpec)

/-- ITS FALSE NEIGHBOUR: 'it returns false'. Refute it at one input. -/
def cpuOftenWrong : ChangeSpec := { name := "cpuOften", fn := fun _ => fun
  | [d1, d2] => { results := [.lit (.bool false)], args := [d1, d2] }
  | _ => none }
def CpuOftenWrongFalsely : Prop := cpuOftenRow.holds Try.pinned (OpenSpec.ofChange cpuOftenWrong)

/-- 'linchpinlaw17.CpuUrgent': WHATEVER THE INPUT: true; the input reads as it did. -/
def cpuUrgentSpec : ChangeSpec := { name := "cpuUrgent", fn := fun _ => fun
  | [d1, d2] => { results := [.lit (.bool true)], args := [d1, d2] }
  | _ => none }
def cpuUrgentRow : OpenClaim := { program := "ytbedknfapiadbaa", sum := "6c5e9728cb0f282d068e918c3a7af8acaf6bda6bc8d59fc893664b876dc4af03", func := "linchpin/linchpinlaw17.CpuUrgent", spec := "cpuUrgent", unfollowed := true, recurses := true, apart := false }
def CpuUrgentSaid : Prop := cpuUrgentRow.holds Try.pinned (OpenSpec.ofChange cpuUrgentSpec)

/-- ITS FALSE NEIGHBOUR: 'it returns false'. Refute it at one input. -/
def cpuUrgentWrong : ChangeSpec := { name := "cpuUrgent", fn := fun _ => fun
  | [d1, d2] => { results := [.lit (.bool false)], args := [d1, d2] }
  | _ => none }
def CpuUrgentWrongFalsely : Prop := cpuUrgentRow.holds Try.pinned (OpenSpec.ofChange cpuUrgentWrong)

/- THE SECOND FORM. 'bulk': how many values and letters a reading holds, each counted each time it is reached (what is shared counts as often as it is met; a slice's spare places count too). A statement '..UptoSaid' is the law's where the arguments, and the package variables that the reading takes, are together of bulk at most 1048576: NARROWER than '..Said'. Prove '..Said' where nothing that the law and all that it calls make is longer than what came in: it says more and counts as full. Else prove '..UptoSaid'. A law counts once. -/
mutual
def uptoBulk {H : Type} : DataW H → Nat
  | .lit (.string bytes) => bytes.length + 1
  | .lit _ => 1
  | .nil => 1
  | .ptr d => uptoBulk d + 1
  | .slice elems spare => uptoBulkAll elems + uptoBulkAll spare + 1
  | .agg parts => uptoBulkAll parts + 1
  | .iface _ d => uptoBulk d + 1
  | .map entries => uptoBulkEntries entries + 1
  | .held _ => 1
def uptoBulkAll {H : Type} : List (DataW H) → Nat
  | [] => 0
  | d :: r => uptoBulk d + uptoBulkAll r
def uptoBulkEntries {H : Type} : List (Lit × DataW H) → Nat
  | [] => 0
  | x :: r => uptoBulkEntry x + uptoBulkEntries r
def uptoBulkEntry {H : Type} : Lit × DataW H → Nat
  | (.string bytes, d) => bytes.length + uptoBulk d + 1
  | (_, d) => uptoBulk d + 1
 end
def uptoSmall : (H : Type) → List (DataW H) → Bool := fun _ ds => decide (uptoBulkAll ds ≤ 1048576)
def OpenSpec.upto (s : _root_.Go.ChangeSpec) : _root_.Go.OpenSpec := { _root_.Go.OpenSpec.ofChange s with cond := some uptoSmall }

/-- 'linchpinlaw17.CpuServes', WHERE WHAT IT READS IS OF BULK AT MOST 1048576: true; the input reads as it did. -/
def cpuServesUptoRow : OpenClaim := { program := "ytbedknfapiadbaa", sum := "6c5e9728cb0f282d068e918c3a7af8acaf6bda6bc8d59fc893664b876dc4af03", func := "linchpin/linchpinlaw17.CpuServes", spec := "cpuServes", unfollowed := true, recurses := true, apart := false, narrowed := true }
def CpuServesUptoSaid : Prop := cpuServesUptoRow.holds Try.pinned (OpenSpec.upto cpuServesSpec)

/-- 'linchpinlaw17.CpuIdle', WHERE WHAT IT READS IS OF BULK AT MOST 1048576: true; the input reads as it did. -/
def cpuIdleUptoRow : OpenClaim := { program := "ytbedknfapiadbaa", sum := "6c5e9728cb0f282d068e918c3a7af8acaf6bda6bc8d59fc893664b876dc4af03", func := "linchpin/linchpinlaw17.CpuIdle", spec := "cpuIdle", unfollowed := true, recurses := true, apart := false, narrowed := true }
def CpuIdleUptoSaid : Prop := cpuIdleUptoRow.holds Try.pinned (OpenSpec.upto cpuIdleSpec)

/-- 'linchpinlaw17.CpuGuards', WHERE WHAT IT READS IS OF BULK AT MOST 1048576: true; the input reads as it did. -/
def cpuGuardsUptoRow : OpenClaim := { program := "ytbedknfapiadbaa", sum := "6c5e9728cb0f282d068e918c3a7af8acaf6bda6bc8d59fc893664b876dc4af03", func := "linchpin/linchpinlaw17.CpuGuards", spec := "cpuGuards", unfollowed := true, recurses := true, apart := false, narrowed := true }
def CpuGuardsUptoSaid : Prop := cpuGuardsUptoRow.holds Try.pinned (OpenSpec.upto cpuGuardsSpec)

/-- 'linchpinlaw17.CpuCuts', WHERE WHAT IT READS IS OF BULK AT MOST 1048576: true; the input reads as it did. -/
def cpuCutsUptoRow : OpenClaim := { program := "ytbedknfapiadbaa", sum := "6c5e9728cb0f282d068e918c3a7af8acaf6bda6bc8d59fc893664b876dc4af03", func := "linchpin/linchpinlaw17.CpuCuts", spec := "cpuCuts", unfollowed := true, recurses := true, apart := false, narrowed := true }
def CpuCutsUptoSaid : Prop := cpuCutsUptoRow.holds Try.pinned (OpenSpec.upto cpuCutsSpec)

/-- 'linchpinlaw17.CpuOften', WHERE WHAT IT READS IS OF BULK AT MOST 1048576: true; the input reads as it did. -/
def cpuOftenUptoRow : OpenClaim := { program := "ytbedknfapiadbaa", sum := "6c5e9728cb0f282d068e918c3a7af8acaf6bda6bc8d59fc893664b876dc4af03", func := "linchpin/linchpinlaw17.CpuOften", spec := "cpuOften", unfollowed := true, recurses := true, apart := false, narrowed := true }
def CpuOftenUptoSaid : Prop := cpuOftenUptoRow.holds Try.pinned (OpenSpec.upto cpuOftenSpec)

/-- 'linchpinlaw17.CpuUrgent', WHERE WHAT IT READS IS OF BULK AT MOST 1048576: true; the input reads as it did. -/
def cpuUrgentUptoRow : OpenClaim := { program := "ytbedknfapiadbaa", sum := "6c5e9728cb0f282d068e918c3a7af8acaf6bda6bc8d59fc893664b876dc4af03", func := "linchpin/linchpinlaw17.CpuUrgent", spec := "cpuUrgent", unfollowed := true, recurses := true, apart := false, narrowed := true }
def CpuUrgentUptoSaid : Prop := cpuUrgentUptoRow.holds Try.pinned (OpenSpec.upto cpuUrgentSpec)

end Rows
end Go.Proofs.Ytbedknfapiadbaa
