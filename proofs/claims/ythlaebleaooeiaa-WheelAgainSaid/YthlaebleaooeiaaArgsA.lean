/-
  A law's arguments: slices of arrays of whole numbers.
-/
import Derived.Test.YthlaebleaooeiaaArgsS
namespace Go.Proofs.Ythlaebleaooeiaa
open Go.ChangeShapes Go.WideShapes Go.ChangeAt Go.RowKit Go.Deep
section
variable {H : Type} {enc : TypeId × Value → H} {P : Program} {w : World} {held : Bool}
theorem args_of_key {ks : List IntKind} {x : Addr} {m : Nat} (hm : m ≤ 9223372036854775807) (h0 : 0 < ks.length) (key : ∀ i, i < m → ∀ (j : Nat) (k : IntKind), ks[j]? = some k → ∃ n, w.cell? (x.add (i * ks.length + j)) = some (.int k n) ∧ (Lit.int k n).wf = true) : ∃ f, ArgStructs ks w (some x) m f := by
  refine ⟨fun i j => numAt w (x.add (i * ks.length + j)), by omega, fun i hi j k hj => ?_, fun hn => ?_⟩
  · obtain ⟨n, hn, wn⟩ := key i (by omega) j k hj
    simpa [numAt, hn] using wn
  · obtain ⟨k0, hk0⟩ : ∃ k, ks[0]? = some k := ⟨ks[0], by simp [h0]⟩
    obtain ⟨n, hn0, _⟩ := key 0 (by omega) 0 k0 hk0
    have hx := cell_addr hn0
    obtain ⟨xb, xo, xs⟩ := x
    have hs : xs = none := hx.1 (by simp)
    subst hs
    refine ⟨xb, xo, rfl, hx.2.1, fun i hi j k hj => ?_⟩
    obtain ⟨n, hn, _⟩ := key i (by omega) j k hj
    rw [(cell_addr hn).2.2]
    simp [numAt, hn]
theorem open_arrays {k : IntKind} {m : Nat} {t e u : TypeId} {a : Option Addr} {len cap : Nat} {d : DataW H} {p : List MemPlace} (ht : P.underlying t = some (.slice e)) (he : P.underlying e = some (.array m u)) (hu : P.underlying u = some (.int k))
    (hC : P.cellsOf e = m) (hCu : P.cellsOf u = 1) (h0 : 0 < m) (h : DataW.Trod enc P w 0 (fun _ => true) held t (.slice a len cap) d p) : ∃ f, ArgStructs (List.replicate m k) w a len f := by
  obtain ⟨fuel, hf⟩ := h
  rcases open_slice ht hf with ⟨hcs, _⟩ | ⟨x, l, c, mm, n, D, Pl, hcs, hb, hl, hm, hmm, hx, hi⟩
  · simp [Value.cells] at hcs
    obtain ⟨rfl, rfl, rfl⟩ := hcs
    exact ⟨fun _ _ => 0, by omega, fun i hi => by omega, fun h => by omega⟩
  · simp [Value.cells] at hcs
    obtain ⟨rfl, rfl, rfl⟩ := hcs
    simp only [if_true] at hmm
    subst hmm
    have hm' : mm ≤ 9223372036854775807 := by unfold maxLen at hm; omega
    obtain ⟨f, hf⟩ := args_of_key (w := w) (ks := List.replicate m k) (x := x) (m := mm) hm' (by simpa using h0) (fun i him j k' hj => by
      have hjm : j < m := by
        have := (List.getElem?_eq_some_iff.1 hj).1
        simpa using this
      obtain rfl : k = k' := by
        rw [List.getElem?_replicate, if_pos hjm] at hj
        simpa using hj
      obtain ⟨cs', hc, ht'⟩ := hi i him
      rw [hC] at hc
      obtain ⟨xs, n', _, _, hlen, hxl, hel⟩ := DataW.trod_array he ht'
      obtain ⟨_, hcl, hat⟩ := World.cells?_some hc
      have h1 := hel j hjm
      rw [hCu, Nat.mul_one] at h1
      have hjl : j < cs'.length := by rw [hlen, hC]; exact hjm
      have hone' : (cs'.drop j).take 1 = [cs'[j]] := by
        rw [List.drop_eq_getElem_cons hjl]; rfl
      rw [hone', List.getElem?_eq_getElem (by rw [hxl]; exact hjm)] at h1
      obtain ⟨z, e0, _, wz⟩ := DataW.trod_int hu h1
      simp at e0
      have hcell := hat j hjm
      rw [List.length_replicate]
      refine ⟨z, ?_, wz⟩
      rw [← Go.Deep.add_add, hcell, List.getElem?_eq_getElem hjl, e0])
    refine ⟨f, by omega, fun i hi' j k' hj => hf.2.1 i (by omega) j k' hj, fun hn => ?_⟩
    obtain ⟨b, off, e1, e2, e3⟩ := hf.2.2 (by omega)
    exact ⟨b, off, e1, e2, fun i hi' j k' hj => e3 i (by omega) j k' hj⟩
end

end Go.Proofs.Ythlaebleaooeiaa
