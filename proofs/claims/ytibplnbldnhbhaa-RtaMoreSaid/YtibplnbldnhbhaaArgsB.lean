/-
  A law's arguments that are structs of structs of whole numbers, by value and in slices: opened to their cells.
-/
import Derived.Test.YtibplnbldnhbhaaArgs
namespace Go.Proofs.Ytibplnbldnhbhaa
open Go.ChangeShapes Go.WideShapes Go.ChangeAt Go.RowKit Go.Deep

/-- The kinds of a struct's cells, its fields one behind the other. -/
def flatFields (P : Program) (g : TypeId → Option (List IntKind)) : List Field → Nat → Option (List IntKind)
  | [], _ => some []
  | f :: fs, o => if f.offset = o then match g f.type with
      | some a => if P.cellsOf f.type = a.length then match flatFields P g fs (o + a.length) with
          | some b => some (a ++ b)
          | none => none
        else none
      | none => none
    else none
/-- The kinds of a type's cells, where all of them are whole numbers. -/
def flatKinds (P : Program) : Nat → TypeId → Option (List IntKind)
  | 0, _ => none
  | n + 1, t => match P.underlying t with
    | some (.int k) => some [k]
    | some (.struct fs) => flatFields P (flatKinds P n) fs.toList 0
    | _ => none

/-- Cells that are whole numbers of kinds ks. -/
def IntCells (ks : List IntKind) (cs : List Value) : Prop := ∀ (j : Nat) (k : IntKind), ks[j]? = some k → ∃ z, cs[j]? = some (.int k z) ∧ (Lit.int k z).wf = true

section
variable {H : Type} {enc : TypeId × Value → H} {P : Program} {w : World} {base : Nat} {spare : Nat → Bool} {held : Bool}
theorem flat_fields {g : TypeId → Option (List IntKind)} {n : Nat} {cs : List Value}
    (hg : ∀ (t : TypeId) (a : List IntKind) (ds : List Value) (x : DataW H × List MemPlace), g t = some a → DataW.trod enc P w base spare held n t ds = some x → IntCells a ds) :
    ∀ (fs : List Field) (o : Nat) (ks : List IntKind), flatFields P g fs o = some ks →
      (∀ f ∈ fs, ∃ x, DataW.trod enc P w base spare held n f.type ((cs.drop f.offset).take (P.cellsOf f.type)) = some x) → IntCells ks (cs.drop o) := by
  intro fs
  induction fs with
  | nil =>
    intro o ks h _ j k hj
    simp [flatFields] at h
    subst h
    simp at hj
  | cons f fs ih =>
    intro o ks h hall
    unfold flatFields at h
    split at h
    · rename_i ho
      split at h
      · rename_i a ha
        split at h
        · rename_i hc
          split at h
          · rename_i b hb
            simp only [Option.some.injEq] at h
            subst h
            obtain ⟨x, hx⟩ := hall f (by simp)
            have h1 := hg _ _ _ _ ha hx
            have h2 := ih _ _ hb (fun f' hf' => hall f' (by simp [hf']))
            intro j k hj
            by_cases hlt : j < a.length
            · rw [List.getElem?_append_left hlt] at hj
              obtain ⟨z, hz, hw⟩ := h1 j k hj
              refine ⟨z, ?_, hw⟩
              rw [List.getElem?_take, if_pos (by omega), ho] at hz
              exact hz
            · rw [List.getElem?_append_right (by omega)] at hj
              obtain ⟨z, hz, hw⟩ := h2 _ k hj
              refine ⟨z, ?_, hw⟩
              rw [List.getElem?_drop] at hz ⊢
              rw [← hz]
              congr 1
              omega
          · cases h
        · cases h
      · cases h
    · cases h
theorem flat_open : ∀ (m : Nat) (t : TypeId) (ks : List IntKind) (n : Nat) (cs : List Value) (x : DataW H × List MemPlace), flatKinds P m t = some ks → DataW.trod enc P w base spare held n t cs = some x → IntCells ks cs := by
  intro m
  induction m with
  | zero => intro t ks n cs x h; simp [flatKinds] at h
  | succ m ih =>
    intro t ks n cs x h hx
    unfold flatKinds at h
    split at h
    · rename_i k hk
      simp only [Option.some.injEq] at h
      subst h
      obtain ⟨z, rfl, _, hw⟩ := DataW.trod_int hk hx
      intro j k' hj
      cases j with
      | zero => simp at hj; subst hj; exact ⟨z, rfl, hw⟩
      | succ j => simp at hj
    · rename_i fs hfs
      obtain ⟨xs, n', _, _, _, hlen, hf⟩ := DataW.trod_struct hfs hx
      have := flat_fields (enc := enc) (P := P) (w := w) (base := base) (spare := spare) (held := held) (n := n') (cs := cs) (fun t a ds x h1 h2 => ih t a n' ds x h1 h2) fs.toList 0 ks h (fun f hfm => by
        obtain ⟨i, hi, e⟩ := List.mem_iff_getElem.1 hfm
        have hi' : i < fs.size := by simpa using hi
        have hfi : fs[i]? = some f := by rw [Array.getElem?_eq_getElem hi']; simpa using e
        have h1 := hf i f hfi
        have hy : xs[i]? = some (xs[i]'(by omega)) := List.getElem?_eq_getElem (by omega)
        exact ⟨_, h1.trans hy⟩)
      simpa using this
    · cases h

/-- A struct of whole numbers, and of structs of them, by value. -/
theorem open_flat {ks : List IntKind} {t : TypeId} {fs : Array Field} {v : Value} {d : DataW H} {p : List MemPlace} {b0 : Nat} (he : P.underlying t = some (.struct fs))
    (hk : flatKinds P 6 t = some ks) (hC : P.cellsOf t = ks.length)
    (hv : Value.okWide P w .any b0 t v) (h : DataW.Trod enc P w 0 (fun _ => true) held t v d p) :
    ∃ f : Nat → Int, v = .agg (ks.zipIdx.map (fun x => Value.int x.1 (f x.2))).toArray ∧ ∀ (j : Nat) (k : IntKind), ks[j]? = some k → (Lit.int k (f j)).wf = true := by
  obtain ⟨cs, rfl, hsz⟩ := okWide_struct he hv
  obtain ⟨fuel, hf⟩ := h
  have key := flat_open 6 t ks fuel _ _ hk hf
  simp only [Value.cells] at key
  have key : ∀ (j : Nat) (k : IntKind), ks[j]? = some k → ∃ n, cs[j]? = some (.int k n) ∧ (Lit.int k n).wf = true := fun j k hj => by
    obtain ⟨z, hz, hw⟩ := key j k hj
    exact ⟨z, by simpa using hz, hw⟩
  refine ⟨fun j => match cs[j]? with | some (.int _ n) => n | _ => 0, ?_, fun j k hj => ?_⟩
  · congr 1
    apply Array.ext_getElem?
    intro j
    by_cases hj : j < ks.length
    · obtain ⟨n, hn, _⟩ := key j ks[j] (by simp [hj])
      simp [hj, hn]
    · have h1 : cs[j]? = none := Array.getElem?_eq_none (by have := hsz; simp only [hC] at this; omega)
      rw [h1, eq_comm, Array.getElem?_eq_none]
      simp
      omega
  · obtain ⟨n, hn, wn⟩ := key j k hj
    simpa [hn] using wn

/-- Slices of such structs. -/
theorem open_flats {ks : List IntKind} {t e : TypeId} {a : Option Addr} {len cap : Nat} {d : DataW H} {p : List MemPlace} (ht : P.underlying t = some (.slice e))
    (hk : flatKinds P 6 e = some ks) (hC : P.cellsOf e = ks.length) (h0 : 0 < ks.length)
    (h : DataW.Trod enc P w 0 (fun _ => true) held t (.slice a len cap) d p) : ∃ f, ArgStructs ks w a len f := by
  obtain ⟨fuel, hf⟩ := h
  rcases open_slice ht hf with ⟨hcs, _⟩ | ⟨x, l, c, m, n, D, Pl, hcs, _, hl, hm, hmm, _, hi⟩
  · simp [Value.cells] at hcs
    obtain ⟨rfl, rfl, rfl⟩ := hcs
    exact ⟨fun _ _ => 0, by omega, fun i hi => by omega, fun h => by omega⟩
  · simp [Value.cells] at hcs
    obtain ⟨rfl, rfl, rfl⟩ := hcs
    simp only [if_true] at hmm
    subst hmm
    have hm' : m ≤ 9223372036854775807 := by unfold maxLen at hm; omega
    have key : ∀ i, i < m → ∀ (j : Nat) (k : IntKind), ks[j]? = some k → ∃ n, w.cell? (x.add (i * ks.length + j)) = some (.int k n) ∧ (Lit.int k n).wf = true := by
      intro i him j k hj
      obtain ⟨cs', hc, ht'⟩ := hi i him
      rw [hC] at hc
      obtain ⟨_, hcl, hat⟩ := World.cells?_some hc
      have h1 := flat_open 6 e ks _ _ _ hk ht'
      obtain ⟨z, hz, hw⟩ := h1 j k hj
      have hjk : j < ks.length := (List.getElem?_eq_some_iff.1 hj).1
      have hcell := hat j hjk
      refine ⟨z, ?_, hw⟩
      rw [← Go.Deep.add_add, hcell, hz]
    refine ⟨fun i j => numAt w (x.add (i * ks.length + j)), by omega, fun i hi j k hj => ?_, fun hn => ?_⟩
    · obtain ⟨n, hn, wn⟩ := key i (by omega) j k hj
      simpa [numAt, hn] using wn
    · obtain ⟨k0, hk0⟩ : ∃ k, ks[0]? = some k := ⟨ks[0], by simp [h0]⟩
      obtain ⟨n, hn0, _⟩ := key 0 (by omega) 0 k0 hk0
      have hx := cell_addr hn0
      obtain ⟨xb, xo, xs⟩ := x
      have hs : xs = none := hx.1 (by simp)
      subst hs
      refine ⟨xb, xo, rfl, hx.2.1, fun i hi j k hj => ?_⟩
      obtain ⟨n, hn, _⟩ := key i (by omega) j k hj
      rw [(cell_addr hn).2.2]
      simp [numAt, hn]
end

end Go.Proofs.Ytibplnbldnhbhaa
