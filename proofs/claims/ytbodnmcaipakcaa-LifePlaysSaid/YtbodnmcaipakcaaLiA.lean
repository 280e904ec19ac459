/-
  A book of open requests, as it lies in memory.
-/
import Derived.Test.YtbodnmcaipakcaaWhQ
import Derived.Test.YtbodnmcaipakcaaAppR
import Derived.Laws.Rows
namespace Go.Proofs.Ytbodnmcaipakcaa
open Go.RowKit Go.ChangeMaps Go.MapKept

/-! An array within a block, read whole; an element of an array by value. -/
theorem run_loadVar_at {P : Program} (w : World) (g off : Nat) (ty : TypeId) (cs : Array Value) (d : TypeDesc) (hg : ∀ j u, cs[j]? = some u → w.cell? ⟨g, off + j, none⟩ = some u)
    (hu : P.underlying ty = some d) (hd : (match d with | .struct _ | .array _ _ => true | _ => false) = true) (hi : (P.info? ty).map (·.size) = some cs.size) :
    (loadVar ty ⟨g, off, none⟩).run P w = .ok (.agg cs) w := by
  have hl : (loadCells ⟨g, off, none⟩ cs.toList.length).run P w = .ok cs.toList.toArray w :=
    run_loadCells_list (P := P) w ⟨g, off, none⟩ cs.toList (fun j v hv => by
      have hadd : (⟨g, off, none⟩ : Addr).add j = ⟨g, off + j, none⟩ := by
        unfold Addr.add
        split
        · rename_i h; subst h; rfl
        · rfl
      rw [hadd]
      exact hg j v (by simpa using hv))
  cases hq : P.info? ty with
  | none => simp [hq] at hi
  | some i =>
    have hs : i.size = cs.size := by simpa [hq] using hi
    have hagg : (isAgg ty).run P w = .ok true w := by
      unfold isAgg
      rw [Sem.run_bind, run_underlying hu w]
      cases d <;> simp_all
    simp only [Array.length_toList, Array.toArray_toList] at hl
    simp [loadVar, Sem.run_bind, hagg, sizeOf, typeInfo, hq, hs, hl]
theorem wpList_load_at {P : Program} {ops : Array Oper} {rest : List Oper} {o : Oper} {a : Act} {w : World} {Q : Exit → Act → World → Prop} (hgd : o.guard = none) (ty : TypeId) (x : Operand) (ho : o.op = .load ty x)
    (g off : Nat) (hx : a.eval x = .pointer (some ⟨g, off, none⟩)) (cs : Array Value) (d : TypeDesc) (hg : ∀ j u, cs[j]? = some u → w.cell? ⟨g, off + j, none⟩ = some u)
    (hu : P.underlying ty = some d) (hd : (match d with | .struct _ | .array _ _ => true | _ => false) = true) (hi : (P.info? ty).map (·.size) = some cs.size)
    (h : wpList P ops Q rest (a.put o.dst (.agg cs)) w) : wpList P ops Q (o :: rest) a w :=
  wpList_plain hgd fun _ hK => by
    unfold Oper.wp execOp
    simp only [ho, hx, Instr.loadAt, Instr.sureAddr, Sem.run_bind, Sem.run_pure, Result.andThen_ok, run_loadVar_at w g off ty cs d hg hu hd hi]
    exact hK _ _ h
theorem run_index_in {P : Program} (w : World) (t e : TypeId) (n : Nat) (cs : Array Value) (i : Nat) (v : Value) (h : P.underlying t = some (.array n e)) (hs : ∀ w, (sizeOf e).run P w = .ok 1 w) (ha : ∀ w, (isAgg e).run P w = .ok false w) (hi : i < n) (hv : cs[i]? = some v) : (Instr.index t (.agg cs) (.int .i64 (i : Int))).run P w = .ok v w := by
  simp [Instr.index, run_underlying h, asIntOf, go_sem, hi, hs, ha, Result.andThen, hv]

/-- What is kept of an open request: its timer, and by when it must have come out. -/
structure Ent where
  tm : Nat
  dead : Nat
def entV (s : Ent) : Value := .agg #[.int .i64 s.tm, .int .u64 s.dead]
def entD (v : Value) : Option Ent := match v with
  | .agg ⟨[.int .i64 a, .int .u64 b]⟩ => if 0 ≤ a ∧ 0 ≤ b then some ⟨a.toNat, b.toNat⟩ else none
  | _ => none
def entE : ElemR Ent where
  val := entV
  dec := entD
  enc := fun s => .agg [.lit (.int .i64 s.tm), .lit (.int .u64 s.dead)]
  mkdec := fun s => by simp [entV, entD]
  decmk := fun v s h => by
    unfold entD at h
    split at h
    · split at h
      · simp only [Option.some.injEq] at h
        subst h
        rename_i hc
        simp only [entV, Int.toNat_of_nonneg hc.1, Int.toNat_of_nonneg hc.2]
      · cases h
    · cases h
  inj := fun a b h => by
    obtain ⟨a1, a2⟩ := a
    obtain ⟨b1, b2⟩ := b
    simp at h
    obtain ⟨h1, h2⟩ := h
    have e1 : a1 = b1 := by omega
    have e2 : a2 = b2 := by omega
    rw [e1, e2]
/-- An outcome. -/
structure FateM where
  id : Int
  kind : Int
  why : Int
def fcells (L : List FateM) : List Value := L.flatMap (fun f => [.int .i64 f.id, .int .i64 f.kind, .int .i64 f.why])
theorem fcells_append (L M : List FateM) : fcells (L ++ M) = fcells L ++ fcells M := by simp [fcells]
theorem fcells_len (L : List FateM) : (fcells L).length = L.length * 3 := by
  induction L with
  | nil => rfl
  | cons m L ih =>
    have : fcells (m :: L) = [.int .i64 m.id, .int .i64 m.kind, .int .i64 m.why] ++ fcells L := rfl
    rw [this, List.length_append, ih]
    simp
    omega
/-- A book: the cost, the time, who is open, the timers' users, which timers are used, the outcomes. -/
structure BM where
  cost : Nat
  now : Nat
  op : Int → Option Ent
  ids : Nat → Int
  us : Nat → Bool
  fs : List FateM
/-- The wheel of a book. -/
def BM.g0 (M : BM) : Nat → Option Nat := fun t => if M.us t then (M.op (M.ids t)).map (fun e => e.dead - M.cost) else none
def BM.g (M : BM) : Nat → Option Nat := goneT M.g0 M.now
/-- Who is open. -/
def BM.keys (M : BM) : List Int := ((List.range 64).filter M.us).map M.ids
theorem updT_gone (g : Nat → Option Nat) (n i : Nat) (o : Option Nat) (ho : ∀ a, o = some a → n < a) : updT (goneT g n) i o = goneT (updT g i o) n := by
  funext j
  unfold updT goneT
  by_cases e : j = i
  · rw [if_pos e]
    simp only [if_pos e]
    cases o with
    | none => rfl
    | some a => simp only [Option.bind_some]; rw [if_neg (by have := ho a rfl; omega)]
  · rw [if_neg e]
    simp only [if_neg e]
/-- Nobody open is late. -/
def BLate (M : BM) : Prop := ∀ id e, M.op id = some e → M.now + M.cost < e.dead
structure BInv (M : BM) : Prop where
  cost : 1 ≤ M.cost ∧ M.cost ≤ 1000
  used : ∀ t, M.us t = true → t < 64 ∧ ∃ d, M.op (M.ids t) = some ⟨t, d⟩
  opn : ∀ id e, M.op id = some e → 0 ≤ id ∧ id ≤ 65535 ∧ M.us e.tm = true ∧ M.ids e.tm = id ∧ M.cost < e.dead ∧ e.dead < 4611686018427387904
theorem BInv.keys_nodup {M : BM} (h : BInv M) : M.keys.Nodup := by
  unfold BM.keys
  rw [List.nodup_iff_pairwise_ne, List.pairwise_map]
  have h1 : ((List.range 64).filter M.us).Nodup := List.nodup_range.filter _
  refine (List.nodup_iff_pairwise_ne.1 h1).imp_of_mem fun {a b} ha hb hne e => hne ?_
  obtain ⟨_, d1, e1⟩ := h.used a (List.mem_filter.1 ha).2
  obtain ⟨_, d2, e2⟩ := h.used b (List.mem_filter.1 hb).2
  rw [e, e2] at e1
  simp only [Option.some.injEq, Ent.mk.injEq] at e1
  exact e1.1.symm
theorem BInv.keys_mem {M : BM} (h : BInv M) (x : Int) : x ∈ M.keys ↔ (M.op x).isSome = true := by
  unfold BM.keys
  rw [List.mem_map]
  constructor
  · rintro ⟨t, ht, rfl⟩
    obtain ⟨_, d, e⟩ := h.used t (List.mem_filter.1 ht).2
    rw [e]; rfl
  · intro hx
    obtain ⟨e, he⟩ := Option.isSome_iff_exists.1 hx
    obtain ⟨_, _, h3, h4, _⟩ := h.opn x e he
    exact ⟨e.tm, List.mem_filter.2 ⟨List.mem_range.2 (h.used _ h3).1, h3⟩, h4⟩
theorem BM.keys_len (M : BM) : M.keys.length ≤ 64 := by
  unfold BM.keys
  rw [List.length_map]
  exact Nat.le_trans (List.length_filter_le _ _) (by simp)
/-- The cells of a book. -/
def bcells (cost pw ab : Nat) (ids : Nat → Int) (us : Nat → Bool) (fv : Value) : Array Value :=
  ([Value.int .u64 cost, Value.pointer (some ⟨pw, 0, none⟩), Value.map (some ab)] ++ (List.range 64).map (fun i => Value.int .i64 (ids i)) ++ (List.range 64).map (fun i => Value.bool (us i)) ++ [fv]).toArray
section
variable {cost pw ab : Nat} {ids : Nat → Int} {us : Nat → Bool} {fv : Value}
theorem bcells_cost : (bcells cost pw ab ids us fv)[0]? = some (.int .u64 cost) := by simp [bcells]
theorem bcells_w : (bcells cost pw ab ids us fv)[1]? = some (.pointer (some ⟨pw, 0, none⟩)) := by simp [bcells]
theorem bcells_open : (bcells cost pw ab ids us fv)[2]? = some (.map (some ab)) := by simp [bcells]
theorem bcells_ids {t : Nat} (h : t < 64) : (bcells cost pw ab ids us fv)[3 + t]? = some (.int .i64 (ids t)) := by
  unfold bcells
  rw [List.getElem?_toArray, List.append_assoc, List.append_assoc, List.getElem?_append_right (by simp), List.getElem?_append_left (by simp; omega)]
  simp [h]
theorem bcells_used {t : Nat} (h : t < 64) : (bcells cost pw ab ids us fv)[67 + t]? = some (.bool (us t)) := by
  unfold bcells
  rw [List.getElem?_toArray, List.append_assoc, List.getElem?_append_right (by simp), List.getElem?_append_left (by simp; omega)]
  simp [h]
theorem bcells_fs : (bcells cost pw ab ids us fv)[131]? = some fv := by
  unfold bcells
  rw [List.getElem?_toArray, List.getElem?_append_right (by simp)]
  simp
theorem set_mid {α : Type} (P C D : List α) (t : Nat) (v : α) (h : t < C.length) : (P ++ C ++ D).set (P.length + t) v = P ++ C.set t v ++ D := by
  rw [List.append_assoc, List.set_append_right _ _ (by omega), List.set_append_left _ _ (by omega), List.append_assoc]
  simp
theorem set_map {α : Type} (f : Nat → α) (n t : Nat) (v : α) : ((List.range n).map f).set t v = (List.range n).map (fun i => if i = t then v else f i) := by
  apply List.ext_getElem
  · simp
  · intro i h1 h2
    rw [List.getElem_set]
    simp only [List.getElem_map, List.getElem_range]
    by_cases e : t = i
    · rw [if_pos e, if_pos e.symm]
    · rw [if_neg e, if_neg (fun h => e h.symm)]
theorem bcells_set_ids {t : Nat} (h : t < 64) (x : Int) : (bcells cost pw ab ids us fv).setIfInBounds (3 + t) (.int .i64 x) = bcells cost pw ab (fun i => if i = t then x else ids i) us fv := by
  unfold bcells
  rw [List.setIfInBounds_toArray, List.append_assoc]
  have e := set_mid [Value.int .u64 cost, Value.pointer (some ⟨pw, 0, none⟩), Value.map (some ab)] ((List.range 64).map (fun i => Value.int .i64 (ids i))) ((List.range 64).map (fun i => Value.bool (us i)) ++ [fv]) t (.int .i64 x) (by simpa using h)
  rw [show [Value.int .u64 cost, Value.pointer (some ⟨pw, 0, none⟩), Value.map (some ab)].length + t = 3 + t from rfl] at e
  rw [e, set_map, ← List.append_assoc]
  congr 5
  funext i
  by_cases e : i = t <;> simp [e]
theorem bcells_set_used {t : Nat} (h : t < 64) (x : Bool) : (bcells cost pw ab ids us fv).setIfInBounds (67 + t) (.bool x) = bcells cost pw ab ids (fun i => if i = t then x else us i) fv := by
  unfold bcells
  rw [List.setIfInBounds_toArray]
  have e := set_mid ([Value.int .u64 cost, Value.pointer (some ⟨pw, 0, none⟩), Value.map (some ab)] ++ (List.range 64).map (fun i => Value.int .i64 (ids i))) ((List.range 64).map (fun i => Value.bool (us i))) [fv] t (.bool x) (by simpa using h)
  have hl : ([Value.int .u64 cost, Value.pointer (some ⟨pw, 0, none⟩), Value.map (some ab)] ++ (List.range 64).map (fun i => Value.int .i64 (ids i))).length = 67 := by simp
  rw [hl] at e
  rw [e, set_map]
  congr 4
  funext i
  by_cases e : i = t <;> simp [e]
theorem bcells_set_fs (x : Value) : (bcells cost pw ab ids us fv).setIfInBounds 131 x = bcells cost pw ab ids us x := by
  unfold bcells
  rw [List.setIfInBounds_toArray]
  have e := set_mid ([Value.int .u64 cost, Value.pointer (some ⟨pw, 0, none⟩), Value.map (some ab)] ++ (List.range 64).map (fun i => Value.int .i64 (ids i)) ++ (List.range 64).map (fun i => Value.bool (us i))) [fv] [] 0 x (by simp)
  have hl : ([Value.int .u64 cost, Value.pointer (some ⟨pw, 0, none⟩), Value.map (some ab)] ++ (List.range 64).map (fun i => Value.int .i64 (ids i)) ++ (List.range 64).map (fun i => Value.bool (us i))).length = 131 := by simp
  rw [hl, List.append_nil, List.append_nil] at e
  exact congrArg List.toArray e
end
end Go.Proofs.Ytbodnmcaipakcaa
