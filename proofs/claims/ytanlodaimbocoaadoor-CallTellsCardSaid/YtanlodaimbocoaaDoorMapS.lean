/-
  Maps keyed by texts, as functions: what a look-up and a store do.
-/
import Derived.Test.YtanlodaimbocoaaDoorMapL
import Derived.Test.YtanlodaimbocoaaDoorStA
import Derived.StringKeys
namespace Go.Proofs.YtanlodaimbocoaaDoor
open Go.RowKit Go.ChangeMaps Go.MapKept
open Go.Maps (Keyed)

def intE : ElemR Nat where
  val := fun n => Value.int .i64 n
  dec := fun v => match v with | .int .i64 (.ofNat n) => some n | _ => none
  enc := fun n => .lit (.int .i64 n)
  mkdec := fun _ => rfl
  decmk := fun v a h => by
    split at h
    · injection h with h; subst h; rfl
    · cases h
  inj := fun a b h => by have h2 : (a : Int) = b := by simpa using h
                         omega
def sok (x : Bs) : Prop := x.length ≤ maxLen
theorem skey {P : Program} {k : TypeId} (hk : P.underlying k = some .string) {x : Bs} (hx : sok x) : keyOf P k (strv x) = some (.string x) :=
  WideMaps.keyOf_string_mk hk (s := ⟨x.toArray⟩) (by rw [bts_size]; exact hx)
theorem skey_ne {x y : Bs} (h : x ≠ y) : (Lit.string x) ≠ (Lit.string y) := by simpa using h
section
variable {α : Type} {P : Program} {t k e : TypeId} {E : ElemR α} {w : World} {b n : Nat} {f : Bs → Option α}
/-- Block b is a map that reads as f. -/
def MapSt (P : Program) (k : TypeId) (E : ElemR α) (w : World) (b n : Nat) (f : Bs → Option α) : Prop :=
  ∃ D, w.ownsMap P k E.R b n D ∧ ∀ x, sok x → Maps.has D (.string x) = (f x).isSome ∧ ∀ a, f x = some a → ∀ zd, D.atKey (.string x) zd = E.enc a
theorem MapSt.lt (h : MapSt P k E w b n f) : b < w.heap.size := by obtain ⟨D, h, _⟩ := h; exact h.lt
theorem MapSt.made (w : World) (P : Program) (k : TypeId) (E : ElemR α) : MapSt P k E (w.alloc (.map #[] 0)) w.heap.size 0 (fun _ => none) :=
  ⟨_, World.ownsMap_made w P k E.R, fun x _ => ⟨rfl, fun a h => by cases h⟩⟩
/-- 'v, ok := m[x]'. -/
theorem MapSt.look_ok (h : MapSt P k E w b n f) (hk : P.underlying k = some .string) (ht : P.underlying t = some (.map k e)) {z : α} (hz : (zeroValue e).run P w = .ok (E.val z) w) {x : Bs} (hx : sok x) :
    (Instr.lookup t (.map (some b)) (strv x) true).run P w = .ok (.tuple #[E.val ((f x).getD z), .bool (f x).isSome]) w := by
  obtain ⟨D, hown, hD⟩ := h
  obtain ⟨v, ps, hrun, hv⟩ := hown.look_ok (Maps.string_keyed hk) ht hz (E.rmk z) (skey hk hx)
  obtain ⟨a, rfl, ha⟩ := E.inv hv
  rw [hrun]
  obtain ⟨h1, h2⟩ := hD x hx
  rw [h1]
  cases hf : f x with
  | none =>
    rw [hf] at h1
    rw [Maps.atKey_of_not_has h1] at ha
    simp only [Prod.mk.injEq] at ha
    rw [E.inj _ _ ha.1.symm]
    rfl
  | some a' =>
    rw [h2 a' hf] at ha
    simp only [Prod.mk.injEq] at ha
    rw [E.inj _ _ ha.1.symm]
    rfl
def atS (f : Bs → Option α) (x : Bs) (o : Option α) : Bs → Option α := fun y => if y = x then o else f y
/-- 'm[x] = v'. -/
theorem MapSt.store (h : MapSt P k E w b n f) (hk : P.underlying k = some .string) (ht : P.underlying t = some (.map k e)) (hn : n < 9223372036854775807) {x : Bs} (hx : sok x) (a : α) :
    ∃ w', (Instr.mapUpdate t (.map (some b)) (strv x) (E.val a)).run P w = .ok () w' ∧ MapSt P k E w' b (n + 1) (atS f x (some a)) ∧ Fr (fun j => j = b) w w' := by
  obtain ⟨D, hown, hD⟩ := h
  have hkey := skey hk hx
  obtain ⟨w', hrun, r1, r2⟩ := hown.store (Maps.string_keyed hk) ht (by unfold maxLen; omega) hkey (E.rmk a)
  have hkl := (Maps.string_keyed hk).key hkey
  refine ⟨w', hrun, ⟨_, r1, fun y hy => ?_⟩, mapTurned_fr r2⟩
  by_cases e : y = x
  · subst e
    have e1 : atS f y (some a) y = some a := by simp [atS]
    rw [e1]
    exact ⟨Maps.has_put_same hown.isMap hkl _, fun a' ha' zd => by rw [Maps.atKey_put_same hown.isMap hkl]; simp only [Option.some.injEq] at ha'; rw [ha']⟩
  · have e1 : atS f x (some a) y = f y := by simp [atS, e]
    rw [e1, Maps.has_put_other (skey_ne e)]
    exact ⟨(hD y hy).1, fun a' ha' zd => by rw [Maps.atKey_put_other (skey_ne e)]; exact (hD y hy).2 a' ha' zd⟩
end
end Go.Proofs.YtanlodaimbocoaaDoor
