/-
  A book: Open.
-/
import Derived.Test.YtbodnmcaipakcaaLiD
import Derived.WideKeyEntry
namespace Go.Proofs.Ytbodnmcaipakcaa
open Go.RowKit Go.ChangeMaps Go.MapKept

theorem MapAt.of_blk {α : Type} {P : Program} {k : TypeId} {E : ElemR α} {w w' : World} {b n : Nat} {f : Int → Option α} (h : MapAt P k E w b n f) (hb : w'.heap[b]? = w.heap[b]?) : MapAt P k E w' b n f := by
  obtain ⟨D, h, h2⟩ := h
  refine ⟨D, ?_, h2⟩
  obtain ⟨es, clock, hblk, r⟩ := h
  exact ⟨es, clock, hb.trans hblk, r⟩
theorem setBlock_fr (w : World) (b : Nat) (o : Obj) : Fr (fun k => k = b) w (setBlock w b o) := by
  refine ⟨rfl, rfl, rfl, ?_, fun k hk hn => ?_⟩
  · simp [setBlock]
  · simp only [setBlock]
    simp [Array.getElem?_setIfInBounds]
    intro e; exact absurd e.symm hn
theorem setBlock_at {w : World} {b : Nat} (hb : b < w.heap.size) (o : Obj) : (setBlock w b o).heap[b]? = some o := by
  simp [setBlock, hb]
/-- An entry, then a store into it: a map keyed by whole numbers. -/
theorem entryThen {P : Program} {w : World} {t k e : TypeId} {b : Nat} {es : Array MapEntry} {clock : Nat} {H : Type} {R : Value → Option (DataW H × List MemPlace)} (K : Maps.Keyed P k) (ht : P.underlying t = some (.map k e)) {z : Value} (hz : ∀ u : World, (zeroValue e).run P u = .ok z u) (hb : w.heap[b]? = some (.map es clock)) (F : WideElems.Fit P k R es clock)
    {key : Value} {kl : Lit} (hkey : keyOf P k key = some kl) :
    ∃ (v0 : Value) (st : Nat) (es1 : Array MapEntry) (clock1 : Nat), (Instr.mapEntry t (.map (some b)) key).run P w = .ok (.tuple #[v0, goInt st]) (setBlock w b (.map es1 clock1)) ∧
      ∀ (w2 : World) (val : Value), w2.heap[b]? = some (.map es1 clock1) → ∃ es' clock', (Instr.entryStore t (.map (some b)) (goInt st) val).run P w2 = .ok () (setBlock w2 b (.map es' clock')) ∧
        (Instr.mapUpdate t (.map (some b)) key val).run P w = .ok () (setBlock w b (.map es' clock')) := by
  obtain ⟨s1, s2, _⟩ := F.stamped
  rcases K.find w hkey es.toList F.keys with ⟨h1, h2⟩ | ⟨j, e0, h1, h2, h3⟩
  · refine ⟨z, clock, es.push ⟨key, z, clock⟩, clock + 1, ?_, fun w2 val hw2 => ⟨es.push ⟨key, val, clock⟩, clock + 1, ?_, ?_⟩⟩
    · simp [Instr.mapEntry, run_underlying ht, MapKept.run_getObj_map hb, K.check w false hkey, h1, hz, MapKept.run_setObj_map _ hb, Result.andThen, setBlock]
    · have hidx : (es.push ⟨key, z, clock⟩).findIdx? (fun e => ((e.born : Nat) : Int) == ((clock : Nat) : Int)) = some es.size := by
        rw [WideElems.findIdx_arr]
        have := WideElems.findIdx_born (l := (es.push ⟨key, z, clock⟩).toList) (j := es.size) (e0 := ⟨key, z, clock⟩) (by
          simp only [Array.toList_push, List.map_append, List.map_cons, List.map_nil]
          refine List.nodup_append.2 ⟨s2, by simp, fun a ha c hc e1 => ?_⟩
          simp only [List.mem_singleton] at hc
          obtain ⟨x, hx, rfl⟩ := List.mem_map.1 ha
          have := s1 x hx
          omega) (by simp)
        exact this
      have hmod : (es.push ⟨key, z, clock⟩).modify es.size (fun e => { e with val := val }) = es.push ⟨key, val, clock⟩ := by
        apply Array.ext'
        rw [Array.toList_modify, Array.toList_push, Array.toList_push, ← Array.length_toList, WideElems.modify_last]
      simp [Instr.entryStore, MapKept.run_getObj_map hw2, asInt, asIntOf, goInt, hidx, hmod, MapKept.run_setObj_map _ hw2, Result.andThen, setBlock]
    · simp [Instr.mapUpdate, run_underlying ht, MapKept.run_getObj_map hb, K.check w false hkey, h1, MapKept.run_setObj_map _ hb, Result.andThen, setBlock]
  · have hj : es[j]? = some e0 := by simpa using h2
    have hsame : es.modify j (fun e => { e with key := key }) = es := by
      apply Array.ext'
      rw [Array.toList_modify, modify_eq_set _ _ _ _ h2]
      have : ({ e0 with key := key } : MapEntry) = e0 := by rw [← h3]
      rw [this]
      exact WideElems.set_self _ _ _ h2
    refine ⟨e0.val, e0.born, es, clock, ?_, fun w2 val hw2 => ⟨es.modify j (fun e' => { e' with key := key, val := val }), clock, ?_, ?_⟩⟩
    · simp [Instr.mapEntry, run_underlying ht, MapKept.run_getObj_map hb, K.check w false hkey, h1, hj, h3, K.stays w hkey, hsame, MapKept.run_setObj_map _ hb, Result.andThen, setBlock]
    · have hidx : es.findIdx? (fun e => ((e.born : Nat) : Int) == ((e0.born : Nat) : Int)) = some j := by
        rw [WideElems.findIdx_arr]
        exact WideElems.findIdx_born s2 h2
      have hmod : es.modify j (fun e => { e with val := val }) = es.modify j (fun e' => { e' with key := key, val := val }) := by
        apply Array.ext'
        rw [Array.toList_modify, Array.toList_modify, modify_eq_set _ _ _ _ h2, modify_eq_set _ _ _ _ h2, ← h3]
      simp [Instr.entryStore, MapKept.run_getObj_map hw2, asInt, asIntOf, goInt, hidx, hmod, MapKept.run_setObj_map _ hw2, Result.andThen, setBlock]
    · simp [Instr.mapUpdate, run_underlying ht, MapKept.run_getObj_map hb, K.check w false hkey, h1, hj, h3, K.stays w hkey, MapKept.run_setObj_map _ hb, Result.andThen, setBlock]
/-- 'm[x] = v' in two steps, as a statement of several writes has it. -/
theorem MapAt.entry {α : Type} {P : Program} {t k e : TypeId} {E : ElemR α} {w : World} {b n : Nat} {f : Int → Option α} (h : MapAt P k E w b n f) (hk : P.underlying k = some (.int .i64)) (ht : P.underlying t = some (.map k e)) {z : Value} (hz : ∀ u : World, (zeroValue e).run P u = .ok z u) (hn : n < 9223372036854775807) {x : Int} (hx : kwf x) (a : α) :
    ∃ v0 st w1 w2, (Instr.mapEntry t (.map (some b)) (.int .i64 x)).run P w = .ok (.tuple #[v0, .int .i64 st]) w1 ∧ (Instr.entryStore t (.map (some b)) (.int .i64 st) (E.val a)).run P w1 = .ok () w2 ∧ MapAt P k E w2 b (n + 1) (at1 f x (some a)) ∧ Fr (fun j => j = b) w w2 := by
  obtain ⟨w', hrun, hm, hf⟩ := h.store hk ht hn hx a
  obtain ⟨D, ⟨es, clock, hblk, F, hsz, e0⟩, h2, h3⟩ := h
  obtain ⟨v0, st, es1, clock1, r1, r2⟩ := entryThen (Maps.int_keyed hk) ht hz hblk F (Maps.keyOf_int_mk hk hx)
  have hbl := lt_blk hblk
  obtain ⟨es', clock', r3, r4⟩ := r2 (setBlock w b (.map es1 clock1)) (E.val a) (setBlock_at hbl _)
  refine ⟨v0, st, _, _, r1, r3, hm.of_blk ?_, (setBlock_fr w b _).trans (setBlock_fr _ b _)⟩
  rw [r4] at hrun
  injection hrun with _ hw
  rw [← hw, setBlock_at hbl, setBlock_at (by simp [setBlock, hbl])]

end Go.Proofs.Ytbodnmcaipakcaa
