/-
  A law's arguments, opened to cells: slices of whole numbers, slices of structs of whole numbers, structs by value.
-/
import Derived.Test.YtimeodjfihpgeaaDoorBase
import Derived.ProofKit
import Derived.OpenShut
import Derived.ShutString
import Derived.ChangeOld
import Derived.Deep.Slices
import Derived.Deep.Fields
import Derived.ChangeSame
namespace Go.Proofs.YtimeodjfihpgeaaDoor
open Go.ChangeShapes Go.WideShapes Go.ChangeAt Go.RowKit Go.Deep

/-- Numbers that came in: of kind k. -/
def ArgInts (k : IntKind) (w : World) (a : Option Addr) (n : Nat) (zs : List Int) : Prop :=
  zs.length = n ∧ n ≤ 9223372036854775807 ∧ (∀ z ∈ zs, (Lit.int k z).wf = true) ∧ (0 < n → ∃ b off, a = some ⟨b, off, none⟩ ∧ b < w.heap.size ∧ ∀ i, (h : i < zs.length) → w.cell? ⟨b, off + i, none⟩ = some (.int k zs[i]))
theorem getD_in {l : List Int} {i : Nat} (h : i < l.length) : l.getD i 0 = l[i] := by simp [List.getD, h]
theorem getD_out {l : List Int} {i : Nat} (h : l.length ≤ i) : l.getD i 0 = 0 := by simp [List.getD, List.getElem?_eq_none h]
/-- Number i of what came in. -/
def zv (z : List Int) (i : Nat) : Int := z.getD i 0
theorem ArgInts.get {k : IntKind} {w : World} {a : Option Addr} {n : Nat} {z : List Int} (h : ArgInts k w a n z) (hn : 0 < n) :
    ∃ b off, a = some ⟨b, off, none⟩ ∧ b < w.heap.size ∧ ∀ i, i < n → w.cell? ⟨b, off + i, none⟩ = some (.int k (zv z i)) := by
  obtain ⟨h1, _, _, h2⟩ := h
  obtain ⟨b, off, ha, hb, hc⟩ := h2 hn
  exact ⟨b, off, ha, hb, fun i hi => by rw [hc i (by omega), zv, getD_in (by omega)]⟩
theorem u8_wf {z : Int} (h : (Lit.int .u8 z).wf = true) : 0 ≤ z ∧ z ≤ 255 := by
  simp [Lit.wf, IntKind.min, IntKind.max, IntKind.signed, IntKind.bits] at h
  omega
theorem ArgInts.u8 {w : World} {a : Option Addr} {n : Nat} {z : List Int} (h : ArgInts .u8 w a n z) (i : Nat) : 0 ≤ zv z i ∧ zv z i ≤ 255 := by
  obtain ⟨_, _, h, _⟩ := h
  unfold zv
  by_cases hi : i < z.length
  · rw [getD_in hi]; exact u8_wf (h _ (List.getElem_mem hi))
  · rw [getD_out (by omega)]; omega

/-- A shell for a law's argument that is a slice of bytes. -/
theorem argInts_of_ints {k : IntKind} {w : World} {x : Addr} {l c : Nat} {zs : List Int} (hl : l ≤ c) (hm : c ≤ maxLen) (hz : zs.length = c) (hcell : ∀ i, i < zs.length → w.cell? (x.add i) = some (.int k (zs.getD i 0))) (hwz : ∀ n ∈ zs, (Lit.int k n).wf = true) :
    ArgInts k w (some x) l (zs.take l) := by
  have hm' : c ≤ 9223372036854775807 := by unfold maxLen at hm; omega
  refine ⟨by simp; omega, by omega, fun z hz => hwz z (List.mem_of_mem_take hz), fun hn => ?_⟩
  have h0 := hcell 0 (by omega)
  obtain ⟨xb, xo, xs⟩ := x
  have hs : xs = none := by
    cases xs with
    | none => rfl
    | some s =>
      simp [Addr.add, World.cell?] at h0
      split at h0 <;> simp at h0
  subst hs
  refine ⟨xb, xo, rfl, ?_, fun i hi => ?_⟩
  · rcases Nat.lt_or_ge xb w.heap.size with h | h
    · exact h
    · simp [Addr.add, World.cell?, Array.getElem?_eq_none h] at h0
  · have hi' : i < zs.length := by simp at hi; omega
    have := hcell i hi'
    rw [show (⟨xb, xo, none⟩ : Addr).add i = ⟨xb, xo + i, none⟩ from by unfold Addr.add; split; (rename_i h; subst h; rfl); rfl] at this
    rw [this, getD_in hi']
    simp

/-! Slices of structs (the first lemma is the guide's extra-structs page's). -/
section
variable {H : Type} {enc : TypeId × Value → H} {P : Program} {w : World} {base : Nat} {spare : Nat → Bool} {held : Bool}
theorem open_slice_fields {t e : TypeId} {fs : Array Field} {fuel : Nat} {cs : List Value} {x : DataW H × List MemPlace} (ht : P.underlying t = some (.slice e)) (he : P.underlying e = some (.struct fs))
    (hone : oneCellFields P fs = true) (hC : P.cellsOf e = fs.size) (h : DataW.trod enc P w base spare held fuel t cs = some x) :
    (cs = [.slice none 0 0] ∧ x = (.nil, [])) ∨
    ∃ (a : Addr) (len cap m : Nat), cs = [.slice (some a) len cap] ∧ len ≤ cap ∧ cap ≤ maxLen ∧ m = (if spare a.block then cap else len) ∧
      ∀ i, i < m → ∃ (n : Nat), ∀ (j : Nat) (f : Field), fs[j]? = some f → ∃ (v : Value) (y : DataW H × List MemPlace), w.cell? (a.add (i * fs.size + j)) = some v ∧ DataW.trod enc P w base spare held n f.type [v] = some y := by
  rcases open_slice ht h with h0 | ⟨a, len, cap, m, n, D, Pl, hcs, hb, hl, hm, hmm, hx, hi⟩
  · exact .inl h0
  · refine .inr ⟨a, len, cap, m, hcs, hl, hm, hmm, fun i him => ?_⟩
    obtain ⟨cs', hc, ht'⟩ := hi i him
    rw [hC] at hc
    obtain ⟨ys, n', hn', hy, hlen, hyl, hf⟩ := DataW.trod_struct he ht'
    obtain ⟨_, hcl, hat⟩ := World.cells?_some hc
    refine ⟨n', fun j f hj => ?_⟩
    obtain ⟨ho, hk⟩ := hone_of hone j f hj
    have hjl : j < fs.size := (Array.getElem?_eq_some_iff.1 hj).1
    have hcell := hat j hjl
    have hv : cs'[j]? = some (cs'[j]'(by omega)) := List.getElem?_eq_getElem (by omega)
    have h1 := hf j f hj
    rw [ho, hk] at h1
    have hone' : (cs'.drop j).take 1 = [cs'[j]'(by omega)] := by
      rw [List.drop_eq_getElem_cons (by omega)]
      rfl
    rw [hone'] at h1
    have hys : ys[j]? = some (ys[j]'(by omega)) := List.getElem?_eq_getElem (by omega)
    refine ⟨_, _, ?_, h1.trans hys⟩
    rw [← Go.Deep.add_add, hcell, hv]

/-- Structs of whole numbers that came in: field j of element i is f i j, of kind ks[j]. -/
def ArgStructs (ks : List IntKind) (w : World) (a : Option Addr) (n : Nat) (f : Nat → Nat → Int) : Prop :=
  n ≤ 9223372036854775807 ∧ (∀ i, i < n → ∀ (j : Nat) (k : IntKind), ks[j]? = some k → (Lit.int k (f i j)).wf = true) ∧
    (0 < n → ∃ b off, a = some ⟨b, off, none⟩ ∧ b < w.heap.size ∧ ∀ i, i < n → ∀ (j : Nat) (k : IntKind), ks[j]? = some k → w.cell? ⟨b, off + (i * ks.length + j), none⟩ = some (.int k (f i j)))

/-- The number in a cell. -/
def numAt (w : World) (a : Addr) : Int := match w.cell? a with | some (.int _ n) => n | _ => 0

theorem cell_addr {w : World} {x : Addr} {k : Nat} {v : Value} (h : w.cell? (x.add k) = some v) : (k = 0 → x.spot = none) ∧ x.block < w.heap.size ∧ w.cell? ⟨x.block, x.off + k, none⟩ = some v := by
  have hb : x.block < w.heap.size := by
    rcases Nat.lt_or_ge x.block w.heap.size with h' | h'
    · exact h'
    · unfold Addr.add at h
      split at h <;> simp [World.cell?, Array.getElem?_eq_none h'] at h
  obtain ⟨xb, xo, xs⟩ := x
  by_cases hk : k = 0
  · subst hk
    have hs : xs = none := by
      cases xs with
      | none => rfl
      | some s =>
        simp [Addr.add, World.cell?] at h
        split at h <;> simp at h
    subst hs
    exact ⟨fun _ => rfl, hb, by simpa [Addr.add] using h⟩
  · refine ⟨fun e => absurd e hk, hb, ?_⟩
    simpa [Addr.add, hk] using h

theorem open_structs {ks : List IntKind} {t e : TypeId} {fs : Array Field} {a : Option Addr} {len cap : Nat} {d : DataW H} {p : List MemPlace} (ht : P.underlying t = some (.slice e)) (he : P.underlying e = some (.struct fs))
    (hone : oneCellFields P fs = true) (hC : P.cellsOf e = fs.size) (hk : fs.toList.map (fun f : Field => P.underlying f.type) = ks.map (fun k => some (.int k))) (h0 : 0 < ks.length)
    (h : DataW.Trod enc P w 0 (fun _ => true) held t (.slice a len cap) d p) : ∃ f, ArgStructs ks w a len f := by
  have hks : ks.length = fs.size := by have := congrArg List.length hk; simpa using this.symm
  have hfk : ∀ (j : Nat) (k : IntKind), ks[j]? = some k → ∃ f : Field, fs[j]? = some f ∧ P.underlying f.type = some (.int k) := by
    intro j k hj
    have := congrArg (fun l => l[j]?) hk
    simp only [List.getElem?_map, hj, Option.map_some] at this
    simpa using this
  obtain ⟨fuel, hf⟩ := h
  rcases open_slice_fields ht he hone hC hf with ⟨hcs, _⟩ | ⟨x, l, c, m, hcs, hl, hm, hmm, hc⟩
  · simp [Value.cells] at hcs
    obtain ⟨rfl, rfl, rfl⟩ := hcs
    exact ⟨fun _ _ => 0, by omega, fun i hi => by omega, fun h => by omega⟩
  · simp [Value.cells] at hcs
    obtain ⟨rfl, rfl, rfl⟩ := hcs
    simp only [if_true] at hmm
    subst hmm
    have hm' : m ≤ 9223372036854775807 := by unfold maxLen at hm; omega
    have key : ∀ i, i < m → ∀ (j : Nat) (k : IntKind), ks[j]? = some k → ∃ n, w.cell? (x.add (i * ks.length + j)) = some (.int k n) ∧ (Lit.int k n).wf = true := by
      intro i hi j k hj
      obtain ⟨f, hfj, hu⟩ := hfk j k hj
      obtain ⟨n', hn'⟩ := hc i hi
      obtain ⟨v, y, hcell, hy⟩ := hn' j f hfj
      obtain ⟨n, e0, _, wn⟩ := DataW.trod_int hu hy
      simp at e0
      subst e0
      exact ⟨n, by rw [hks]; exact hcell, wn⟩
    refine ⟨fun i j => numAt w (x.add (i * ks.length + j)), by omega, fun i hi j k hj => ?_, fun hn => ?_⟩
    · obtain ⟨n, hn, wn⟩ := key i (by omega) j k hj
      simpa [numAt, hn] using wn
    · obtain ⟨k0, hk0⟩ : ∃ k, ks[0]? = some k := ⟨ks[0], by simp [h0]⟩
      obtain ⟨n, hn0, _⟩ := key 0 (by omega) 0 k0 hk0
      have hx := cell_addr hn0
      obtain ⟨xb, xo, xs⟩ := x
      have hs : xs = none := hx.1 (by simp)
      subst hs
      refine ⟨xb, xo, rfl, hx.2.1, fun i hi j k hj => ?_⟩
      obtain ⟨n, hn, _⟩ := key i (by omega) j k hj
      rw [(cell_addr hn).2.2]
      simp [numAt, hn]

/-- A struct of whole numbers by value. -/
theorem open_struct {ks : List IntKind} {t : TypeId} {fs : Array Field} {v : Value} {d : DataW H} {p : List MemPlace} {b0 : Nat} (he : P.underlying t = some (.struct fs))
    (hone : oneCellFields P fs = true) (hC : P.cellsOf t = fs.size) (hk : fs.toList.map (fun f : Field => P.underlying f.type) = ks.map (fun k => some (.int k))) (h0 : 0 < ks.length)
    (hv : Value.okWide P w .any b0 t v) (h : DataW.Trod enc P w 0 (fun _ => true) held t v d p) :
    ∃ f : Nat → Int, v = .agg (ks.zipIdx.map (fun x => Value.int x.1 (f x.2))).toArray ∧ ∀ (j : Nat) (k : IntKind), ks[j]? = some k → (Lit.int k (f j)).wf = true := by
  have hks : ks.length = fs.size := by have := congrArg List.length hk; simpa using this.symm
  have hfk : ∀ (j : Nat) (k : IntKind), ks[j]? = some k → ∃ f : Field, fs[j]? = some f ∧ P.underlying f.type = some (.int k) := by
    intro j k hj
    have := congrArg (fun l => l[j]?) hk
    simp only [List.getElem?_map, hj, Option.map_some] at this
    simpa using this
  obtain ⟨cs, rfl, hsz⟩ := okWide_struct he hv
  obtain ⟨fuel, hf⟩ := h
  obtain ⟨xs, n, _, hx, _, hlen, hg⟩ := DataW.trod_struct he hf
  have key : ∀ (j : Nat) (k : IntKind), ks[j]? = some k → ∃ n, cs[j]? = some (.int k n) ∧ (Lit.int k n).wf = true := by
    intro j k hj
    obtain ⟨f, hfj, hu⟩ := hfk j k hj
    obtain ⟨ho, hk'⟩ := hone_of hone j f hfj
    have hjl : j < fs.size := (Array.getElem?_eq_some_iff.1 hfj).1
    have h1 := hg j f hfj
    rw [ho, hk'] at h1
    have hjc : j < cs.size := by omega
    have hone' : (cs.toList.drop j).take 1 = [cs[j]] := by
      rw [List.drop_eq_getElem_cons (by simpa using hjc)]
      rfl
    simp only [Value.cells] at h1
    rw [hone'] at h1
    have hys : xs[j]? = some (xs[j]'(by omega)) := List.getElem?_eq_getElem (by omega)
    obtain ⟨n, e0, _, wn⟩ := DataW.trod_int hu (h1.trans hys)
    simp at e0
    exact ⟨n, by simp [hjc, e0], wn⟩
  refine ⟨fun j => match cs[j]? with | some (.int _ n) => n | _ => 0, ?_, fun j k hj => ?_⟩
  · congr 1
    apply Array.ext_getElem?
    intro j
    by_cases hj : j < ks.length
    · obtain ⟨n, hn, _⟩ := key j ks[j] (by simp [hj])
      simp [hj, hn]
    · have h1 : cs[j]? = none := Array.getElem?_eq_none (by have := hsz; simp only [hC] at this; omega)
      rw [h1, eq_comm, Array.getElem?_eq_none]
      simp
      omega
  · obtain ⟨n, hn, wn⟩ := key j k hj
    simpa [hn] using wn
end

end Go.Proofs.YtimeodjfihpgeaaDoor
