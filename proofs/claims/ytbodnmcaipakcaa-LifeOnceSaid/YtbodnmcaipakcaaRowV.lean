/-
  Rows of whole numbers that a law makes, and writes.
-/
import Derived.Test.YtbodnmcaipakcaaProg
import Derived.Test.YtbodnmcaipakcaaArgsS
import Derived.Laws.MakeOwn
namespace Go.Proofs.Ytbodnmcaipakcaa
open Go.RowKit

/-- The numbers of a row, as it lies. -/
def rowV (k : IntKind) (l : List Int) : Array Value := (l.map (fun z => Value.int k z)).toArray
theorem rowV_get {k : IntKind} {l : List Int} {i : Nat} (h : i < l.length) : (rowV k l)[i]? = some (.int k (zv l i)) := by
  simp [rowV, zv, h]
theorem rowV_set (k : IntKind) (l : List Int) (i : Nat) (v : Int) : (rowV k l).setIfInBounds i (.int k v) = rowV k (l.set i v) := by
  simp [rowV, List.map_set]
theorem made_row (k : IntKind) (n : Nat) : madeCells (Value.int k 0).cells (n * 1) = rowV k (List.replicate n 0) := by
  have hc : (Value.int k 0).cells = #[Value.int k 0] := by simp [Value.cells]
  rw [hc]
  apply Array.ext
  · simp [madeCells, rowV]
  · intro i h1 h2
    simp [madeCells, rowV, Nat.mod_one]
theorem make_row {P : Program} {t e : TypeId} {k : IntKind} {i : TypeInfo} (ht : P.underlying t = some (.slice e)) (hi : P.info? e = some i) (hz : i.zero = some (.int k 0)) (hs : i.size = 1) (hb : i.bytes = 8) (n : Nat) (hn : n ≤ 1000000) (w : World) :
    (Instr.makeSlice t (.int .i64 (n : Int)) (.int .i64 (n : Int))).run P w = .ok (.slice (some ⟨w.heap.size, 0, none⟩) n n) (w.alloc (.cells (rowV k (List.replicate n 0)) e)) := by
  have hr := run_make (P := P) w t e i _ ht hi hz .i64 .i64 n n (by omega) (Int.le_refl _) (by rw [hb]; omega) (by omega)
  simp only [Int.toNat_natCast, hs] at hr
  rw [made_row] at hr
  exact hr
theorem Try.infoI : (Try.prog.info? 3).map (fun i => (i.zero, i.size, i.bytes)) = some (some (.int .i64 0), 1, 8) := by kernel_rfl
theorem makeInts (n : Nat) (hn : n ≤ 1000000) (w : World) : (Instr.makeSlice 73 (.int .i64 (n : Int)) (.int .i64 (n : Int))).run Try.prog w = .ok (.slice (some ⟨w.heap.size, 0, none⟩) n n) (w.alloc (.cells (rowV .i64 (List.replicate n 0)) 3)) := by
  obtain ⟨i0, hi, hz0, hz1, hz2⟩ := info_parts Try.infoI
  exact make_row Try.underlying73 hi hz0 hz1 hz2 n hn w

end Go.Proofs.Ytbodnmcaipakcaa
