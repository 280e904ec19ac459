/-
  The numbers at a place of a wheel, collected.
-/
import Derived.Test.YtbodnmcaipakcaaWhG
namespace Go.Proofs.Ytbodnmcaipakcaa
open Go.RowKit Go.ChangeMaps Go.MapKept Go.Shelf Go.Maps

/-- The numbers collected, as they lie. -/
structure Got (w0 w : World) (g : Int → Option Bool) (a : Option Addr) (ss : List Int) : Prop where
  len : ss.length ≤ 9223372036854775807
  nodup : ss.Nodup
  mem : ∀ x, x ∈ ss ↔ (g x).isSome = true
  cell : ∀ j (hj : j < ss.length), ∃ b cs, a = some ⟨b, 0, none⟩ ∧ w0.heap.size ≤ b ∧ b < w.heap.size ∧ w.heap[b]? = some (.cells cs 3 (0, 0)) ∧ cs[j]? = some (.int .i64 ss[j])
theorem Coll.got {w0 V w' : World} {f : Int → Option Bool} {e : Ending} (h : Coll V f e w') (hb : Below w0.heap.size w0 V) : ∃ a c ss, e = .returned (.slice a (ss : List Int).length c) ∧ Got w0 w' f a ss ∧ Below w0.heap.size w0 w' := by
  obtain ⟨v, ss, e1, h1, h2, hrow, hnil, hbl⟩ := h
  have hbw : Below w0.heap.size w0 w' := hb.trans (hbl.mono hb.size)
  obtain ⟨hlen, hc | ⟨g, cap, cur, hv, hg1, hg2, hn, hcap, hsz, htk⟩⟩ := hrow
  · obtain ⟨rfl, h0⟩ := hc
    refine ⟨none, 0, ss, ?_, ⟨by omega, h1, h2, fun j hj => by omega⟩, hbw⟩
    rw [e1, h0]
  · refine ⟨_, cap, ss, by rw [e1, hv], ⟨by unfold maxLen at hcap; omega, h1, h2, fun j hj => ⟨g, cur, rfl, Nat.le_trans hb.size hg1, lt_blk hg2, hg2, ?_⟩⟩, hbw⟩
    have e2 : (cur.toList.take (ss.length * 1))[j]? = (ss.map encZ)[j]? := by rw [htk]
    rw [List.getElem?_take, if_pos (by omega), List.getElem?_map, List.getElem?_eq_getElem hj] at e2
    rw [← Array.getElem?_toList]
    exact e2
theorem collectAny {w0 V : World} {p : Nat} {M : WM} {F : Nat → Prop} {ab : Nat} {rb : Nat → Nat → Option Nat} (h : WRep w0 p M F ab rb) (hb : Below w0.heap.size w0 V) {l q : Nat} (hl : l < 16) (hq : q < 16) {Bm : Nat} (hB : Bm < V.heap.size) (hm : V.cell? ⟨Bm, 0, none⟩ = some (.map (rb l q))) :
    Calls Try.prog 41 #[.func (.func 47) #[] #[.pointer (some ⟨Bm, 0, none⟩)]] V fun e w' => ∃ a c ss, e = .returned (.slice a (ss : List Int).length c) ∧ Got w0 w' (M.row l q) a ss ∧ Below w0.heap.size w0 w' := by
  have hr := h.row l q hl hq
  cases hrb : rb l q with
  | none =>
    rw [hrb] at hr hm
    have e : M.row l q = fun _ => none := funext hr
    rw [e]
    exact (collectNil Bm V hB hm).mono fun _ _ hc => hc.got hb
  | some b =>
    rw [hrb] at hr hm
    exact (collectCall Bm b _ V hB hm (hr.2.2.2.fr (F := fun _ => False) (Fr.of_below hb) (fun h => h)) ⟨_, ints'_nodup (idsOf_nodup _), row_keys M l q h.ids, keysLen _⟩).mono fun _ _ hc => hc.got hb

end Go.Proofs.Ytbodnmcaipakcaa
