/-
  Values in memory: rows of numbers, rows of values, a block that is laid behind a call.
-/
import Derived.Test.YtimeodjfihpgeaaDoorStPx
namespace Go.Proofs.YtimeodjfihpgeaaDoor
open Go.RowKit

def NumsAt (w : World) (ao : Option Addr) (n : Nat) (z : List Int) : Prop := z.length = n ∧ n ≤ 1000000 ∧ (0 < n → ∃ b off, ao = some ⟨b, off, none⟩ ∧ b < w.heap.size ∧ ∀ i (hi : i < z.length), w.cell? ⟨b, off + i, none⟩ = some (.int .i64 z[i]))
theorem NumsAt.later {w w' : World} {ao : Option Addr} {n : Nat} {z : List Int} (h : NumsAt w ao n z) (hb : Below w.heap.size w w') : NumsAt w' ao n z :=
  ⟨h.1, h.2.1, fun h0 => by
    obtain ⟨b, off, e, hl, hc⟩ := h.2.2 h0
    exact ⟨b, off, e, Nat.lt_of_lt_of_le hl hb.size, fun i hi => (hb.cell (p := ⟨b, off + i, none⟩) hl).trans (hc i hi)⟩⟩
def VRow (w : World) (ao : Option Addr) (V : List Value) : Prop := 0 < V.length → ∃ b off, ao = some ⟨b, off, none⟩ ∧ b < w.heap.size ∧ ∀ i (hi : i < V.length), w.cell? ⟨b, off + i, none⟩ = some V[i]
theorem VRow.later {w w' : World} {ao : Option Addr} {V : List Value} (h : VRow w ao V) (hb : Below w.heap.size w w') : VRow w' ao V := fun h0 => by
  obtain ⟨b, off, e, hl, hc⟩ := h h0
  exact ⟨b, off, e, Nat.lt_of_lt_of_le hl hb.size, fun i hi => (hb.cell (p := ⟨b, off + i, none⟩) hl).trans (hc i hi)⟩
theorem VRow.own {w : World} {B : Nat} {T : TypeId} {ao : Option Addr} {n c : Nat} {V : List Value} (h : w.ownsRow B T 1 (.slice ao n c) n V) : VRow w ao V := fun h0 => by
  have hr := RowAt.of_owns h
  have hl := hr.1
  rcases hr.2 with ⟨_, e⟩ | ⟨b, off, cap, e, _, _, _, hb, hc⟩
  · omega
  · injection e with e _ _
    exact ⟨b, off, e, hb, fun i hi => hc _ _ (List.getElem?_eq_getElem hi)⟩
theorem own_bound {w : World} {B : Nat} {T : TypeId} {ao : Option Addr} {n c : Nat} {V : List Value} (h : w.ownsRow B T 1 (.slice ao n c) n V) : n ≤ c ∧ c ≤ 9223372036854775807 ∧ (0 < n → ∃ g, ao = some ⟨g, 0, none⟩) := by
  rcases h.2 with ⟨e, e2⟩ | ⟨g, cap, cur, e, _, _, h1, h2, _⟩
  · injection e with _ e3 e4
    exact ⟨by omega, by omega, fun h => by omega⟩
  · injection e with e1 _ e3
    subst e3
    exact ⟨h1, by unfold maxLen at h2; omega, fun _ => ⟨g, e1⟩⟩
theorem own_one (w : World) (v : Value) (T : TypeId) : (w.alloc (.cells #[v] T)).ownsRow w.heap.size T 1 (.slice (some ⟨w.heap.size, 0, none⟩) 1 1) 1 [v] :=
  ⟨by simp, .inr ⟨w.heap.size, 1, #[v], rfl, Nat.le_refl _, heap_alloc_new w _, Nat.le_refl _, by unfold maxLen; decide, by simp, by simp⟩⟩
theorem nums_of {w : World} {B : Nat} {ao : Option Addr} {n c : Nat} {z : List Int} (h : w.ownsRow B 3 1 (.slice ao n c) n (ints z)) (h6 : n ≤ 1000000 := by omega) : NumsAt w ao n z := by
  have hl := h.1
  simp only [List.length_map, Nat.mul_one] at hl
  refine ⟨hl, h6, fun h0 => ?_⟩
  obtain ⟨b, off, e, hb, hc⟩ := VRow.own h (by simpa [hl] using h0)
  exact ⟨b, off, e, hb, fun i hi => by have := hc i (by simpa using hi); simpa using this⟩
theorem str_strv (s : ByteArray) : Value.string s = strv s.data.toList := by simp
theorem below_step {w u v : World} (h : Below w.heap.size w u) (hb : Below u.heap.size u v) : Below w.heap.size w v := h.trans (hb.mono h.size)
theorem below_drew {n : Nat} {a b : World} : Below n a b.drew ↔ Below n a b := ⟨fun h => ⟨h.os, h.tape, h.output, h.size, h.block⟩, fun h => ⟨h.os, h.tape, h.output, h.size, h.block⟩⟩

end Go.Proofs.YtimeodjfihpgeaaDoor
