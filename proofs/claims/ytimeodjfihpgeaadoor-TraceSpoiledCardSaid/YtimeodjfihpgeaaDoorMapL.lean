/-
  Maps keyed by int, as functions: what a look-up, a store, a delete, len and a range do.
-/
import Derived.Test.YtimeodjfihpgeaaDoorBase
import Derived.Maps.RangeWalk
namespace Go.Proofs.YtimeodjfihpgeaaDoor
open Go.RowKit Go.ChangeMaps Go.MapKept
open Go.Maps (Keyed)

/-- How elements lie, and read. -/
structure ElemR (α : Type) where
  val : α → Value
  dec : Value → Option α
  enc : α → DataW Unit
  mkdec : ∀ a, dec (val a) = some a
  decmk : ∀ v a, dec v = some a → v = val a
  inj : ∀ a b, enc a = enc b → a = b
def ElemR.R {α : Type} (E : ElemR α) (v : Value) : Option (DataW Unit × List MemPlace) := (E.dec v).map (fun a => (E.enc a, []))
theorem ElemR.rmk {α : Type} (E : ElemR α) (a : α) : E.R (E.val a) = some (E.enc a, []) := by simp [ElemR.R, E.mkdec]
theorem ElemR.inv {α : Type} (E : ElemR α) {v : Value} {z : DataW Unit × List MemPlace} (h : E.R v = some z) : ∃ a, v = E.val a ∧ z = (E.enc a, []) := by
  unfold ElemR.R at h
  cases hd : E.dec v with
  | none => simp [hd] at h
  | some a => simp [hd] at h; exact ⟨a, E.decmk v a hd, h.symm⟩
def boolE : ElemR Bool where
  val := Value.bool
  dec := fun v => match v with | .bool b => some b | _ => none
  enc := fun b => .lit (.bool b)
  mkdec := fun _ => rfl
  decmk := fun v a h => by
    cases v <;> simp at h
    rw [h]
  inj := fun a b h => by simpa using h

def kwf (x : Int) : Prop := (Lit.int .i64 x).wf = true
theorem kwf_of {x : Int} (h0 : -9223372036854775808 ≤ x) (h1 : x ≤ 9223372036854775807) : kwf x := by
  unfold kwf
  simp [Lit.wf, IntKind.min, IntKind.max, IntKind.signed, IntKind.bits]
  omega
theorem key_ne {x y : Int} (h : x ≠ y) : (Lit.int .i64 x) ≠ (Lit.int .i64 y) := by simpa using h

section
variable {α : Type} {P : Program} {t k e : TypeId} {E : ElemR α} {w : World} {b n : Nat} {f : Int → Option α}

/-- Block b is a map that reads as f. -/
def MapAt (P : Program) (k : TypeId) (E : ElemR α) (w : World) (b n : Nat) (f : Int → Option α) : Prop :=
  ∃ D, w.ownsMap P k E.R b n D ∧ (∀ x, kwf x → Maps.has D (.int .i64 x) = (f x).isSome ∧ ∀ a, f x = some a → ∀ zd, D.atKey (.int .i64 x) zd = E.enc a) ∧ ∀ x, ¬ kwf x → f x = none
theorem MapAt.lt (h : MapAt P k E w b n f) : b < w.heap.size := by obtain ⟨D, h, _⟩ := h; exact h.lt
theorem MapAt.fr {w' : World} {F : Nat → Prop} (h : MapAt P k E w b n f) (hf : Fr F w w') (hb : ¬ F b) : MapAt P k E w' b n f := by
  obtain ⟨D, h, h2⟩ := h
  refine ⟨D, ?_, h2⟩
  obtain ⟨es, clock, hblk, r⟩ := h
  exact ⟨es, clock, hf.blk hblk hb, r⟩
theorem MapAt.mono (h : MapAt P k E w b n f) {m : Nat} (hm : n ≤ m) : MapAt P k E w b m f := by
  obtain ⟨D, h, h2⟩ := h
  exact ⟨D, h.mono hm, h2⟩
theorem MapAt.made (w : World) (P : Program) (k : TypeId) (E : ElemR α) : MapAt P k E (w.alloc (.map #[] 0)) w.heap.size 0 (fun _ => none) :=
  ⟨_, World.ownsMap_made w P k E.R, fun x _ => ⟨rfl, fun a h => by cases h⟩, fun _ _ => rfl⟩
theorem mapTurned_fr {w w' : World} {b : Nat} (h : w.mapTurned w' b) : Fr (fun j => j = b) w w' := by
  have g := h.grown
  exact ⟨g.os, g.tape, g.output, g.size, fun j hj hn => g.block j hj (fun e => hn (by cases e; rfl))⟩

/-- 'm[x]'. -/
theorem MapAt.look (h : MapAt P k E w b n f) (hk : P.underlying k = some (.int .i64)) (ht : P.underlying t = some (.map k e)) {z : α} (hz : (zeroValue e).run P w = .ok (E.val z) w) {x : Int} (hx : kwf x) :
    (Instr.lookup t (.map (some b)) (.int .i64 x) false).run P w = .ok (E.val ((f x).getD z)) w := by
  obtain ⟨D, hown, hD, _⟩ := h
  obtain ⟨v, ps, hrun, hv⟩ := hown.lookup (Maps.int_keyed hk) ht hz (E.rmk z) (Maps.keyOf_int_mk hk hx)
  obtain ⟨a, rfl, ha⟩ := E.inv hv
  rw [hrun]
  obtain ⟨h1, h2⟩ := hD x hx
  cases hf : f x with
  | none =>
    rw [hf] at h1
    rw [Maps.atKey_of_not_has h1] at ha
    simp only [Prod.mk.injEq] at ha
    rw [E.inj _ _ ha.1.symm]
    rfl
  | some a' =>
    rw [h2 a' hf] at ha
    simp only [Prod.mk.injEq] at ha
    rw [E.inj _ _ ha.1.symm]
    rfl
/-- 'v, ok := m[x]'. -/
theorem MapAt.look_ok (h : MapAt P k E w b n f) (hk : P.underlying k = some (.int .i64)) (ht : P.underlying t = some (.map k e)) {z : α} (hz : (zeroValue e).run P w = .ok (E.val z) w) {x : Int} (hx : kwf x) :
    (Instr.lookup t (.map (some b)) (.int .i64 x) true).run P w = .ok (.tuple #[E.val ((f x).getD z), .bool (f x).isSome]) w := by
  obtain ⟨D, hown, hD, _⟩ := h
  obtain ⟨v, ps, hrun, hv⟩ := hown.look_ok (Maps.int_keyed hk) ht hz (E.rmk z) (Maps.keyOf_int_mk hk hx)
  obtain ⟨a, rfl, ha⟩ := E.inv hv
  rw [hrun]
  obtain ⟨h1, h2⟩ := hD x hx
  rw [h1]
  cases hf : f x with
  | none =>
    rw [hf] at h1
    rw [Maps.atKey_of_not_has h1] at ha
    simp only [Prod.mk.injEq] at ha
    rw [E.inj _ _ ha.1.symm]
    rfl
  | some a' =>
    rw [h2 a' hf] at ha
    simp only [Prod.mk.injEq] at ha
    rw [E.inj _ _ ha.1.symm]
    rfl
/-- f, but at x. -/
def at1 (f : Int → Option α) (x : Int) (o : Option α) : Int → Option α := fun y => if y = x then o else f y
theorem at1_same (f : Int → Option α) (x : Int) (o : Option α) : at1 f x o x = o := by simp [at1]
theorem at1_ne (f : Int → Option α) {x y : Int} (o : Option α) (h : y ≠ x) : at1 f x o y = f y := by simp [at1, h]
/-- 'm[x] = v'. -/
theorem MapAt.store (h : MapAt P k E w b n f) (hk : P.underlying k = some (.int .i64)) (ht : P.underlying t = some (.map k e)) (hn : n < 9223372036854775807) {x : Int} (hx : kwf x) (a : α) :
    ∃ w', (Instr.mapUpdate t (.map (some b)) (.int .i64 x) (E.val a)).run P w = .ok () w' ∧ MapAt P k E w' b (n + 1) (at1 f x (some a)) ∧ Fr (fun j => j = b) w w' := by
  obtain ⟨D, hown, hD, hN⟩ := h
  have hkey := Maps.keyOf_int_mk hk hx
  obtain ⟨w', hrun, r1, r2⟩ := hown.store (Maps.int_keyed hk) ht (by unfold maxLen; omega) hkey (E.rmk a)
  have hkl := (Maps.int_keyed hk).key hkey
  refine ⟨w', hrun, ⟨_, r1, fun y hy => ?_, fun y hy => ?_⟩, mapTurned_fr r2⟩
  · by_cases e : y = x
    · subst e
      rw [at1_same]
      exact ⟨Maps.has_put_same hown.isMap hkl _, fun a' ha' zd => by rw [Maps.atKey_put_same hown.isMap hkl]; simp only [Option.some.injEq] at ha'; rw [ha']⟩
    · rw [at1_ne _ _ e, Maps.has_put_other (key_ne e)]
      exact ⟨(hD y hy).1, fun a' ha' zd => by rw [Maps.atKey_put_other (key_ne e)]; exact (hD y hy).2 a' ha' zd⟩
  · rw [at1_ne _ _ (fun e => hy (by rw [e]; exact hx))]; exact hN y hy
/-- 'delete(m, x)'. -/
theorem MapAt.drop (h : MapAt P k E w b n f) (hk : P.underlying k = some (.int .i64)) (ht : P.underlying t = some (.map k e)) {x : Int} (hx : kwf x) (ty : TypeId) :
    ∃ w', (Builtin.delete_ #[t, k] ty #[.map (some b), .int .i64 x]).run P w = .ok (.tuple #[]) w' ∧ MapAt P k E w' b n (at1 f x none) ∧ Fr (fun j => j = b) w w' := by
  obtain ⟨D, hown, hD, hN⟩ := h
  have hkey := Maps.keyOf_int_mk hk hx
  obtain ⟨w', hrun, r1, r2⟩ := hown.drop (Maps.int_keyed hk) ht hkey ty
  refine ⟨w', hrun, ⟨_, r1, fun y hy => ?_, fun y hy => ?_⟩, mapTurned_fr r2⟩
  · by_cases e : y = x
    · subst e
      rw [at1_same]
      exact ⟨Maps.has_del_same, fun a' ha' => by cases ha'⟩
    · rw [at1_ne _ _ e, Maps.has_del_other (key_ne e)]
      exact ⟨(hD y hy).1, fun a' ha' zd => by rw [Maps.atKey_del_other (key_ne e)]; exact (hD y hy).2 a' ha' zd⟩
  · by_cases e : y = x
    · rw [e, at1_same]
    · rw [at1_ne _ _ e]; exact hN y hy

/-- Two lists without repeats that hold the same are equally long. -/
theorem len_eq_of_mem {β : Type} [DecidableEq β] : ∀ {l m : List β}, l.Nodup → m.Nodup → (∀ x, x ∈ l ↔ x ∈ m) → l.length = m.length := by
  intro l
  induction l with
  | nil =>
    intro m _ _ h
    cases m with
    | nil => rfl
    | cons y m => exact absurd ((h y).2 (List.mem_cons_self ..)) (by simp)
  | cons x l ih =>
    intro m hl hm h
    obtain ⟨h1, h2⟩ := List.nodup_cons.1 hl
    have hx : x ∈ m := (h x).1 (List.mem_cons_self ..)
    have := ih h2 (hm.erase x) (fun y => by
      rw [hm.mem_erase_iff]
      constructor
      · intro hy
        exact ⟨fun e => h1 (e ▸ hy), (h y).1 (List.mem_cons_of_mem _ hy)⟩
      · rintro ⟨h3, h4⟩
        rcases List.mem_cons.1 ((h y).2 h4) with e | e
        · exact absurd e h3
        · exact e)
    rw [List.length_erase, if_pos (by simpa using hx)] at this
    have hpos : 0 < m.length := List.length_pos_of_mem hx
    simp only [List.length_cons]
    omega
theorem MapAt.size (h : MapAt P k E w b n f) (hk : P.underlying k = some (.int .i64)) {l : List Int} (hl : l.Nodup) (hm : ∀ x, x ∈ l ↔ (f x).isSome = true) {D : DataW Unit} (hown : w.ownsMap P k E.R b n D) (hD : ∀ x, kwf x → Maps.has D (.int .i64 x) = (f x).isSome) : Maps.size D = l.length := by
  obtain ⟨_, _, _, hN⟩ := h
  obtain ⟨es, rfl, hap, hky⟩ := hown.entries (Maps.int_keyed hk)
  have hints : ∀ p ∈ es, ∃ x, p.1 = .int .i64 x ∧ kwf x := by
    intro p hp
    obtain ⟨es0, clock, _, F, _, e0⟩ := hown
    simp only [DataW.map.injEq] at e0
    rw [e0] at hp
    obtain ⟨x, hx, rfl⟩ := List.mem_map.1 (mem_sorted.1 hp)
    obtain ⟨y, hy⟩ := F.reads x hx
    rw [WideElems.rg_of hy]
    obtain ⟨z, _, h2, h3⟩ := Maps.keyOf_int_inv hk (WideElems.rd_key hy)
    exact ⟨z, h2, h3⟩
  have h1 : (es.map (·.1)).Nodup := by rw [List.nodup_iff_pairwise_ne, List.pairwise_map]; exact hap
  have h2 : (l.map (fun x => Lit.int .i64 x)).Nodup := by
    rw [List.nodup_iff_pairwise_ne, List.pairwise_map]
    exact (List.nodup_iff_pairwise_ne.1 hl).imp (fun h => key_ne h)
  letI : DecidableEq Lit := Classical.typeDecidableEq Lit
  have h3 := len_eq_of_mem h1 h2 (fun y => by
    constructor
    · intro hy
      obtain ⟨p, hp, rfl⟩ := List.mem_map.1 hy
      obtain ⟨x, e, hx⟩ := hints p hp
      refine List.mem_map.2 ⟨x, (hm x).2 ?_, e.symm⟩
      rw [← hD x hx]
      exact List.any_eq_true.2 ⟨p, hp, by rw [e]; simp [Lit.sameKey]⟩
    · intro hy
      obtain ⟨x, hx, rfl⟩ := List.mem_map.1 hy
      have hs := (hm x).1 hx
      have hkx : kwf x := Classical.byContradiction fun hc => by rw [hN x hc] at hs; simp at hs
      rw [← hD x hkx] at hs
      obtain ⟨p, hp, hpk⟩ := List.any_eq_true.1 hs
      exact List.mem_map.2 ⟨p, hp, WideAt.sameKey_eq hpk⟩)
  rw [Maps.size_eq]
  simpa using h3
/-- How many there are: where the keys are l. -/
theorem MapAt.len (h : MapAt P k E w b n f) (hk : P.underlying k = some (.int .i64)) (ht : P.underlying t = some (.map k e)) (ty : TypeId) {l : List Int} (hl : l.Nodup) (hm : ∀ x, x ∈ l ↔ (f x).isSome = true) :
    (Builtin.len_ #[t] ty #[.map (some b)]).run P w = .ok (.int .i64 l.length) w := by
  obtain ⟨D, hown, hD, hN⟩ := h
  rw [hown.len ht ty, MapAt.size ⟨D, hown, hD, hN⟩ hk hl hm hown (fun x hx => (hD x hx).1)]
/-- Of so many entries. -/
theorem MapAt.tight (h : MapAt P k E w b n f) (hk : P.underlying k = some (.int .i64)) {l : List Int} (hl : l.Nodup) (hm : ∀ x, x ∈ l ↔ (f x).isSome = true) : MapAt P k E w b l.length f := by
  have h0 := h
  obtain ⟨D, hown, hD, hN⟩ := h
  have hsz := h0.size hk hl hm hown (fun x hx => (hD x hx).1)
  refine ⟨D, ?_, hD, hN⟩
  obtain ⟨es, clock, hb, F, _, e0⟩ := hown
  refine ⟨es, clock, hb, F, ?_, e0⟩
  subst e0
  have e1 : Maps.size (DataW.map ((es.toList.map (WideElems.rg P k E.R)).foldr DataW.insert [])) = es.size := by simp [Maps.size, length_sorted]
  omega

/-- A range under way: who is left, and how many. -/
def RangeAt (P : Program) (k : TypeId) (E : ElemR α) (w : World) (b r n : Nat) (f : Int → Option α) (left : Int → Bool) (cnt : Nat) : Prop :=
  ∃ D lf, w.ranges P k E.R b r n D lf cnt ∧ (∀ x, kwf x → Maps.has D (.int .i64 x) = (f x).isSome ∧ ∀ a, f x = some a → ∀ zd, D.atKey (.int .i64 x) zd = E.enc a) ∧ (∀ x, ¬ kwf x → f x = none) ∧ ∀ x, kwf x → lf (.int .i64 x) = left x
theorem RangeAt.map {r cnt : Nat} {left : Int → Bool} (h : RangeAt P k E w b r n f left cnt) : MapAt P k E w b n f := by
  obtain ⟨D, lf, h1, h2, h3, _⟩ := h
  exact ⟨D, h1.owns, h2, h3⟩
theorem RangeAt.left_eq {r cnt : Nat} {left : Int → Bool} (h : RangeAt P k E w b r n f left cnt) : w.rangeLeft b r = cnt := by
  obtain ⟨D, lf, h1, _⟩ := h
  exact h1.left_eq
theorem RangeAt.lt {r cnt : Nat} {left : Int → Bool} (h : RangeAt P k E w b r n f left cnt) : r < w.heap.size ∧ b < w.heap.size ∧ r ≠ b := by
  obtain ⟨D, lf, h1, _⟩ := h
  exact ⟨h1.lt, h1.owns.lt, h1.ne⟩
theorem RangeAt.fr {w' : World} {F : Nat → Prop} {r cnt : Nat} {left : Int → Bool} (h : RangeAt P k E w b r n f left cnt) (hf : Fr F w w') (hb : ¬ F b) (hr : ¬ F r) : RangeAt P k E w' b r n f left cnt := by
  obtain ⟨D, lf, h1, h2⟩ := h
  refine ⟨D, lf, ?_, h2⟩
  obtain ⟨es, clock, since, seen, c0, e1, e2, e3, e4, e5, rest⟩ := h1
  exact ⟨es, clock, since, seen, c0, hf.blk e1 hb, e2, e3, e4, hf.blk e5 hr, rest⟩
/-- 'range m'. -/
theorem MapAt.range (h : MapAt P k E w b n f) (hk : P.underlying k = some (.int .i64)) (ht : P.underlying t = some (.map k e)) :
    ∃ w' cnt, (Instr.range t (.map (some b))).run P w = .ok (.pointer (some ⟨w.heap.size, 0, none⟩)) w' ∧ RangeAt P k E w' b w.heap.size n f (fun x => (f x).isSome) cnt ∧ Below w.heap.size w w' ∧ w'.heap.size = w.heap.size + 1 := by
  obtain ⟨D, hown, hD, hN⟩ := h
  obtain ⟨w', h1, h2, h3, h4⟩ := hown.range (Maps.int_keyed hk) ht
  exact ⟨w', _, h1, ⟨D, _, h2, hD, hN, fun x hx => (hD x hx).1⟩, ⟨h3.os, h3.tape, h3.output, h3.size, fun i hi => h3.block i hi (by simp)⟩, h4⟩
/-- A range's step. -/
theorem RangeAt.next {r cnt : Nat} {left : Int → Bool} (h : RangeAt P k E w b r n f left cnt) (hk : P.underlying k = some (.int .i64)) (ty : TypeId) :
    (cnt = 0 ∧ (∀ x, kwf x → left x = false) ∧ (Instr.next (.pointer (some ⟨r, 0, none⟩)) false ty).run P w = .ok (.tuple #[.bool false]) w) ∨
    ∃ x a w' cnt', kwf x ∧ left x = true ∧ f x = some a ∧ (Instr.next (.pointer (some ⟨r, 0, none⟩)) false ty).run P w = .ok (.tuple #[.bool true, .int .i64 x, E.val a]) w' ∧
      RangeAt P k E w' b r n f (fun y => left y && !decide (y = x)) cnt' ∧ cnt' < cnt ∧ Fr (fun j => j = r) w w' ∧ w'.heap.size = w.heap.size ∧ (Instr.entry (.pointer (some ⟨r, 0, none⟩))).run P w' = .ok (.tuple #[.int .i64 x, E.val a]) w' := by
  obtain ⟨D, lf, h1, h2, h3, h4⟩ := h
  rcases h1.next (Maps.int_keyed hk) ty with ⟨c0, hl, hrun⟩ | ⟨key, v, kl, y, w', cnt', hkey, hlk, hv, hat, hrun, hrg, hlt, hgr, hsz, hen⟩
  · exact .inl ⟨c0, fun x hx => by rw [← h4 x hx]; exact hl _, hrun⟩
  · obtain ⟨x, rfl, rfl, hx⟩ := Maps.keyOf_int_inv hk hkey
    obtain ⟨a, rfl, rfl⟩ := E.inv hv
    have hhas := Maps.has_true_of_atKey hat
    rw [(h2 x hx).1] at hhas
    obtain ⟨a', ha'⟩ := Option.isSome_iff_exists.1 hhas
    have hea := (h2 x hx).2 a' ha' (.map [])
    rw [hat] at hea
    have haa : a = a' := E.inj _ _ hea
    refine .inr ⟨x, a, w', cnt', hx, by rw [← h4 x hx]; exact hlk, by rw [ha', haa], hrun, ⟨D, _, hrg, h2, h3, fun z hz => ?_⟩, hlt, ⟨hgr.os, hgr.tape, hgr.output, hgr.size, fun j hj hn => hgr.block j hj (fun e => hn (by cases e; rfl))⟩, hsz, hen⟩
    rw [h4 z hz]
    congr 1
    simp [Lit.sameKey]
end

end Go.Proofs.YtimeodjfihpgeaaDoor
