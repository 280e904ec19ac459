/-
  slices.Collect(maps.Keys(m)): the keys, each once, in some order.
-/
import Derived.Test.YtbodnmcaipakcaaWhP
import Derived.Test.YtbodnmcaipakcaaSh
namespace Go.Proofs.Ytbodnmcaipakcaa
open Go.RowKit Go.ChangeMaps Go.MapKept Go.Shelf Go.Maps

theorem keysCall (m : Option Nat) (w : World) :
    Calls Try.prog 42 #[.map m] w fun e w' => e = .returned (.func (.func 47) #[] #[.pointer (some ⟨w.heap.size, 0, none⟩)]) ∧ w' = w.alloc (.cells #[.map m] 79) :=
  (callsIn_wide (n := 5)).1 (AnyZI.keys_in Try.keysA Fence.wide 5 trivial rfl m w)

/-- The keys of a map. -/
theorem MapAt.keys {α : Type} {P : Program} {k : TypeId} {E : ElemR α} {w : World} {b n : Nat} {f : Int → Option α} (h : MapAt P k E w b n f) (hk : P.underlying k = some (.int .i64)) {D : DataW Unit} (hown : w.ownsMap P k E.R b n D)
    (hD : ∀ x, kwf x → Maps.has D (.int .i64 x) = (f x).isSome) {ss : List Int} (hp : ss.Perm (intKeys D)) : ss.Nodup ∧ ∀ x, x ∈ ss ↔ (f x).isSome = true := by
  obtain ⟨_, _, _, hN⟩ := h
  obtain ⟨es, rfl, hap, hky⟩ := hown.entries (int_keyed hk)
  have hints : ∀ p ∈ es, ∃ x, p.1 = .int .i64 x ∧ kwf x := by
    intro p hp
    obtain ⟨es0, clock, _, F, _, e0⟩ := hown
    simp only [DataW.map.injEq] at e0
    rw [e0] at hp
    obtain ⟨x, hx, rfl⟩ := List.mem_map.1 (mem_sorted.1 hp)
    obtain ⟨y, hy⟩ := F.reads x hx
    rw [WideElems.rg_of hy]
    obtain ⟨z, _, h2, h3⟩ := Maps.keyOf_int_inv hk (WideElems.rd_key hy)
    exact ⟨z, h2, h3⟩
  have hnd : (intKeys (DataW.map es)).Nodup := by
    show (es.map fun p => _root_.Go.intOf p.1).Nodup
    rw [List.nodup_iff_pairwise_ne, List.pairwise_map]
    refine List.Pairwise.imp_of_mem ?_ hap
    intro p q hp hq hne e
    obtain ⟨x, e1, _⟩ := hints p hp
    obtain ⟨y, e2, _⟩ := hints q hq
    rw [e1, e2] at e
    have e : x = y := e
    exact hne (by rw [e1, e2, e])
  refine ⟨hp.nodup_iff.2 hnd, fun x => ?_⟩
  rw [hp.mem_iff]
  show x ∈ (es.map fun p => _root_.Go.intOf p.1) ↔ _
  constructor
  · intro hx
    obtain ⟨p, hp, rfl⟩ := List.mem_map.1 hx
    obtain ⟨y, e, hy⟩ := hints p hp
    rw [e]
    show (f y).isSome = true
    rw [← hD y hy]
    exact List.any_eq_true.2 ⟨p, hp, by rw [e]; simp [Lit.sameKey]⟩
  · intro hs
    have hkx : kwf x := Classical.byContradiction fun hc => by rw [hN x hc] at hs; simp at hs
    rw [← hD x hkx] at hs
    obtain ⟨p, hp, hpk⟩ := List.any_eq_true.1 hs
    refine List.mem_map.2 ⟨p, hp, ?_⟩
    rw [WideAt.sameKey_eq hpk]
    rfl

/-- What Collect hands back. -/
def Coll (w : World) (f : Int → Option Bool) (e : Ending) (w' : World) : Prop :=
  ∃ (v : Value) (ss : List Int), e = .returned v ∧ ss.Nodup ∧ (∀ x, x ∈ ss ↔ (f x).isSome = true) ∧ w'.ownsRow w.heap.size 3 1 v ss.length (ss.map encZ) ∧ (v = .slice none 0 0 ↔ ss = []) ∧ Below w.heap.size w w'
theorem collectCall (Bm b : Nat) (f : Int → Option Bool) (w : World) (hB : Bm < w.heap.size) (hm : w.cell? ⟨Bm, 0, none⟩ = some (.map (some b))) (h : MapAt Try.prog 3 boolE w b 1000 f) (hk : ∃ l : List Int, l.Nodup ∧ (∀ x, x ∈ l ↔ (f x).isSome = true) ∧ l.length ≤ 1000) :
    Calls Try.prog 41 #[.func (.func 47) #[] #[.pointer (some ⟨Bm, 0, none⟩)]] w (Coll w f) := by
  have h0 := h
  obtain ⟨D, hown, hD, hN⟩ := h
  obtain ⟨l, hl1, hl2, hl3⟩ := hk
  have hsz : Maps.size D ≤ 1000 := by rw [h0.size Try.underlying3 hl1 hl2 hown (fun x hx => (hD x hx).1)]; exact hl3
  have hseq : SeqGives Fence.wide 2 Try.prog 47 #[.pointer (some ⟨Bm, 0, none⟩)] encZ (fun ss => ss.Perm (intKeys D)) (Maps.size D) w :=
    AnyZI.keys_gives (ρ := Try.keysA_ren) { Try.keysA with } Fence.wide _ trivial rfl (by omega) Bm b 1000 D w hB hm hown
  have hc := AnyZI.collect_in Try.collectA Fence.wide 4 trivial trivial rfl (by omega) 47 #[.pointer (some ⟨Bm, 0, none⟩)] trivial (enters_of Try.func47 (by kernel_rfl) rfl) _ _ (by unfold maxLen; omega) (by omega) w hseq
  refine ((callsIn_wide (n := 4)).1 hc).mono fun e w' hx => ?_
  obtain ⟨v, ss, e1, hS, hrow, hnil, hb⟩ := hx
  obtain ⟨g1, g2⟩ := h0.keys Try.underlying3 hown (fun x hx => (hD x hx).1) hS
  exact ⟨v, ss, e1, g1, g2, hrow, hnil, hb⟩
theorem collectNil (Bm : Nat) (w : World) (hB : Bm < w.heap.size) (hm : w.cell? ⟨Bm, 0, none⟩ = some (.map none)) :
    Calls Try.prog 41 #[.func (.func 47) #[] #[.pointer (some ⟨Bm, 0, none⟩)]] w (Coll w (fun _ => none)) := by
  have hseq : SeqGives Fence.wide 2 Try.prog 47 #[.pointer (some ⟨Bm, 0, none⟩)] encZ (fun ss => ss = []) 0 w :=
    AnyZI.keys_gives_nil (ρ := Try.keysA_ren) { Try.keysA with } Fence.wide _ trivial rfl Bm w hB hm
  have hc := AnyZI.collect_in Try.collectA Fence.wide 4 trivial trivial rfl (by omega) 47 #[.pointer (some ⟨Bm, 0, none⟩)] trivial (enters_of Try.func47 (by kernel_rfl) rfl) _ _ (by unfold maxLen; omega) (by omega) w hseq
  refine ((callsIn_wide (n := 4)).1 hc).mono fun e w' hx => ?_
  obtain ⟨v, ss, e1, hS, hrow, hnil, hb⟩ := hx
  subst hS
  exact ⟨v, [], e1, List.nodup_nil, fun x => by simp, hrow, hnil, hb⟩

end Go.Proofs.Ytbodnmcaipakcaa
