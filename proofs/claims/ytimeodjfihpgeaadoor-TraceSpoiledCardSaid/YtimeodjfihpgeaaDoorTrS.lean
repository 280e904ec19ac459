/-
  Records of ticks as arguments, opened.
-/
import Derived.Test.YtimeodjfihpgeaaDoorArgs
import Derived.Test.YtimeodjfihpgeaaDoorTrR
namespace Go.Proofs.YtimeodjfihpgeaaDoor
open Go.ChangeShapes Go.WideShapes Go.ChangeAt Go.RowKit Go.Deep

/-- Outcomes that came in. -/
def ArgFates (w : World) (ao : Option Addr) (n : Nat) (l : List (Int × Int × Int)) : Prop := l.length = n ∧ (0 < n → ∃ b off, ao = some ⟨b, off, none⟩ ∧ b < w.heap.size ∧
  ∀ i (hi : i < l.length), w.cell? ⟨b, off + i * 3, none⟩ = some (.int .i64 l[i].1) ∧ w.cell? ⟨b, off + i * 3 + 1, none⟩ = some (.int .i64 l[i].2.1) ∧ w.cell? ⟨b, off + i * 3 + 2, none⟩ = some (.int .i64 l[i].2.2))
/-- A record that came in. -/
structure ArgTk (w : World) (t : Tk) (a1 : Option Addr) (n1 : Nat) (a2 : Option Addr) (n2 : Nat) (a3 : Option Addr) (n3 : Nat) (a4 : Option Addr) (n4 : Nat) : Prop where
  dn : ArgInts .i64 w a1 n1 t.dn
  ct : ArgInts .i64 w a2 n2 t.ct
  ms : ArgInts .i64 w a3 n3 t.ms
  fs : ArgFates w a4 n4 t.fs
theorem ArgTk.at {w : World} {t : Tk} {a1 a2 a3 a4 : Option Addr} {n1 n2 n3 n4 : Nat} (h : ArgTk w t a1 n1 a2 n2 a3 n3 a4 n4) (h1 : n1 ≤ 40) (h2 : n2 ≤ 40) (h3 : n3 ≤ 40) (h4 : n4 ≤ 40) : TkAt w t a1 n1 a2 n2 a3 n3 a4 n4 :=
  ⟨⟨h.dn.1, by omega, h.dn.2.2.2⟩, ⟨h.ct.1, by omega, h.ct.2.2.2⟩, ⟨h.ms.1, by omega, h.ms.2.2.2⟩, ⟨h.fs.1, by omega, h.fs.2⟩⟩
section
variable {H : Type} {enc : TypeId × Value → H} {P : Program} {w : World} {held : Bool}
theorem open_row {t e : TypeId} {x : Value} {y : DataW H × List MemPlace} {fuel : Nat} (ht : P.underlying t = some (.slice e)) (he : P.underlying e = some (.int .i64)) (hc : P.cellsOf e = 1) (h : DataW.trod enc P w 0 (fun _ => true) held fuel t [x] = some y) :
    ∃ a n c z, x = .slice a n c ∧ ArgInts .i64 w a n z := by
  rcases open_ints ht he hc h with ⟨hcs, _⟩ | ⟨a, l, c, zs, hcs, _, hl, hm, hzz, _, hcell, hwz⟩
  · have hcs : x = .slice none 0 0 := by simpa using hcs
    exact ⟨none, 0, 0, [], hcs, rfl, by omega, by simp, fun h => by omega⟩
  · have hcs : x = .slice (some a) l c := by simpa using hcs
    exact ⟨some a, l, c, zs.take l, hcs, argInts_of_ints hl hm (by simpa using hzz) hcell hwz⟩
theorem open_fates {t e : TypeId} {fs : Array Field} {x : Value} {y : DataW H × List MemPlace} {fuel : Nat} (ht : P.underlying t = some (.slice e)) (he : P.underlying e = some (.struct fs))
    (hone : oneCellFields P fs = true) (hC : P.cellsOf e = fs.size) (hk : fs.toList.map (fun f : Field => P.underlying f.type) = [IntKind.i64, .i64, .i64].map (fun k => some (.int k)))
    (h : DataW.trod enc P w 0 (fun _ => true) held fuel t [x] = some y) : ∃ a n c l, x = .slice a n c ∧ ArgFates w a n l := by
  have hform : ∃ a n c, x = .slice a n c := by
    rcases open_slice_fields ht he hone hC h with ⟨hcs, _⟩ | ⟨a, l, c, m, hcs, _⟩
    · exact ⟨none, 0, 0, by simpa using hcs⟩
    · exact ⟨some a, l, c, by simpa using hcs⟩
  obtain ⟨a, n, c, rfl⟩ := hform
  obtain ⟨f, _, _, hf⟩ := open_structs (ks := [.i64, .i64, .i64]) (d := y.1) (p := y.2) ht he hone hC hk (by decide) ⟨fuel, by simpa [Value.cells] using h⟩
  refine ⟨a, n, c, (List.range n).map (fun i => (f i 0, f i 1, f i 2)), rfl, by simp, fun h0 => ?_⟩
  obtain ⟨b, off, e1, hb, hc⟩ := hf h0
  refine ⟨b, off, e1, hb, fun i hi => ?_⟩
  have hi' : i < n := by simpa using hi
  have q0 := hc i hi' 0 .i64 rfl
  have q1 := hc i hi' 1 .i64 rfl
  have q2 := hc i hi' 2 .i64 rfl
  simp only [List.length_cons, List.length_nil] at q0 q1 q2
  rw [← Nat.add_assoc] at q1 q2
  simp only [List.getElem_map, List.getElem_range]
  exact ⟨q0, q1, q2⟩
theorem open_tock {t e ft : TypeId} {fs : Array Field} {f0 f1 g0 g1 g2 g3 : Field} {v : Value} {d : DataW H} {p : List MemPlace} {b0 : Nat} (he : P.underlying t = some (.struct #[f0, f1])) (hC : P.cellsOf t = 5)
    (o0 : f0.offset = 0) (c0 : P.cellsOf f0.type = 4) (u0 : P.underlying f0.type = some (.struct #[g0, g1, g2, g3])) (o1 : f1.offset = 4) (c1 : P.cellsOf f1.type = 1) (u1 : P.underlying f1.type = some (.slice ft))
    (p0 : g0.offset = 0 ∧ P.cellsOf g0.type = 1 ∧ P.underlying g0.type = some (.int .i64)) (p1 : g1.offset = 1 ∧ P.cellsOf g1.type = 1 ∧ P.underlying g1.type = some (.slice e)) (p2 : g2.offset = 2 ∧ P.cellsOf g2.type = 1 ∧ P.underlying g2.type = some (.slice e)) (p3 : g3.offset = 3 ∧ P.cellsOf g3.type = 1 ∧ P.underlying g3.type = some (.slice e))
    (ue : P.underlying e = some (.int .i64)) (ce : P.cellsOf e = 1) (uf : P.underlying ft = some (.struct fs)) (hone : oneCellFields P fs = true) (hCf : P.cellsOf ft = fs.size) (hkf : fs.toList.map (fun f : Field => P.underlying f.type) = [IntKind.i64, .i64, .i64].map (fun k => some (.int k)))
    (hv : Value.okWide P w .any b0 t v) (h : DataW.Trod enc P w 0 (fun _ => true) held t v d p) :
    ∃ (t : Tk) (a1 : Option Addr) (n1 c1 : Nat) (a2 : Option Addr) (n2 c2 : Nat) (a3 : Option Addr) (n3 c3 : Nat) (a4 : Option Addr) (n4 c4 : Nat), v = .agg #[.int .i64 t.who, .slice a1 n1 c1, .slice a2 n2 c2, .slice a3 n3 c3, .slice a4 n4 c4] ∧ ArgTk w t a1 n1 a2 n2 a3 n3 a4 n4 := by
  obtain ⟨cs, rfl, hsz⟩ := okWide_struct he hv
  rw [hC] at hsz
  obtain ⟨x0, x1, x2, x3, x4, rfl⟩ : ∃ x0 x1 x2 x3 x4, cs = #[x0, x1, x2, x3, x4] := by
    obtain ⟨l⟩ := cs
    match l, hsz with
    | [x0, x1, x2, x3, x4], _ => exact ⟨x0, x1, x2, x3, x4, rfl⟩
  obtain ⟨fuel, hf⟩ := h
  obtain ⟨y0, y1, m, _, _, t0, t1⟩ := trod_struct2 he hf
  rw [o0, c0] at t0
  rw [o1, c1] at t1
  simp only [Value.cells] at t0 t1
  obtain ⟨xs, n, _, _, _, hlen, hg⟩ := DataW.trod_struct u0 t0
  have hys : ∀ j, j < 4 → ∃ y, xs[j]? = some y := fun j hj => ⟨xs[j]'(by rw [hlen]; exact hj), List.getElem?_eq_getElem _⟩
  have r0 := hg 0 g0 rfl
  have r1 := hg 1 g1 rfl
  have r2 := hg 2 g2 rfl
  have r3 := hg 3 g3 rfl
  obtain ⟨z0, hz0⟩ := hys 0 (by decide)
  obtain ⟨z1, hz1⟩ := hys 1 (by decide)
  obtain ⟨z2, hz2⟩ := hys 2 (by decide)
  obtain ⟨z3, hz3⟩ := hys 3 (by decide)
  rw [hz0, p0.1, p0.2.1] at r0
  rw [hz1, p1.1, p1.2.1] at r1
  rw [hz2, p2.1, p2.2.1] at r2
  rw [hz3, p3.1, p3.2.1] at r3
  obtain ⟨k, e0, _, _⟩ := DataW.trod_int p0.2.2 r0
  have e0 : x0 = .int .i64 k := by simpa using e0
  obtain ⟨a1, n1, cc1, l1, e1, w1⟩ := open_row p1.2.2 ue ce (x := x1) r1
  obtain ⟨a2, n2, cc2, l2, e2, w2⟩ := open_row p2.2.2 ue ce (x := x2) r2
  obtain ⟨a3, n3, cc3, l3, e3, w3⟩ := open_row p3.2.2 ue ce (x := x3) r3
  obtain ⟨a4, n4, cc4, l4, e4, w4⟩ := open_fates u1 uf hone hCf hkf (x := x4) t1
  exact ⟨⟨k, l1, l2, l3, l4⟩, a1, n1, cc1, a2, n2, cc2, a3, n3, cc3, a4, n4, cc4, by rw [e0, e1, e2, e3, e4], w1, w2, w3, w4⟩
end

end Go.Proofs.YtimeodjfihpgeaaDoor
