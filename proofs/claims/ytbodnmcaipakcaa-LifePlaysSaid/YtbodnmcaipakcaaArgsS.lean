/-
  A law's argument that is a slice of bools.
-/
import Derived.Test.YtbodnmcaipakcaaArgs
import Derived.Deep.Grids
namespace Go.Proofs.Ytbodnmcaipakcaa
open Go.ChangeShapes Go.WideShapes Go.ChangeAt Go.RowKit Go.Deep

/-- Bools that came in. -/
def ArgBools (w : World) (a : Option Addr) (n : Nat) (f : Nat → Bool) : Prop :=
  n ≤ 9223372036854775807 ∧ (0 < n → ∃ b off, a = some ⟨b, off, none⟩ ∧ b < w.heap.size ∧ ∀ i, i < n → w.cell? ⟨b, off + i, none⟩ = some (.bool (f i)))

theorem open_boolsA {H : Type} {enc : TypeId × Value → H} {P : Program} {w : World} {held : Bool} {t e : TypeId} {a : Option Addr} {len cap : Nat} {d : DataW H} {p : List MemPlace} (ht : P.underlying t = some (.slice e)) (he : P.underlying e = some .bool)
    (hc : P.cellsOf e = 1) (h : DataW.Trod enc P w 0 (fun _ => true) held t (.slice a len cap) d p) : ∃ f, ArgBools w a len f := by
  obtain ⟨fuel, hf⟩ := h
  rcases open_bools ht he hc hf with ⟨hcs, _⟩ | ⟨x, l, c, B, hcs, _, hl, hm, _, hcell⟩
  · simp [Value.cells] at hcs
    obtain ⟨rfl, rfl, rfl⟩ := hcs
    exact ⟨fun _ => false, by omega, fun h => by omega⟩
  · simp [Value.cells] at hcs
    obtain ⟨rfl, rfl, rfl⟩ := hcs
    have hm' : cap ≤ 9223372036854775807 := by unfold maxLen at hm; omega
    refine ⟨B, by omega, fun hn => ?_⟩
    have hx := cell_addr (hcell 0 (by omega))
    obtain ⟨xb, xo, xs⟩ := x
    have hs : xs = none := hx.1 rfl
    subst hs
    exact ⟨xb, xo, rfl, hx.2.1, fun i hi => (cell_addr (hcell i (by omega))).2.2⟩

end Go.Proofs.Ytbodnmcaipakcaa
