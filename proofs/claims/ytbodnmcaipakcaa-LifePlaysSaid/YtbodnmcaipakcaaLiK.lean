/-
  A book in a law: the cost, the time, by when each open request must have come out, the outcomes that weren't told.
-/
import Derived.Test.YtbodnmcaipakcaaLiJ
namespace Go.Proofs.Ytbodnmcaipakcaa
open Go.RowKit Go.ChangeMaps Go.MapKept

/-- A book at p, as a law sees it; X: the law's own blocks. -/
def LS (w0 w : World) (p cost now : Nat) (d : Int → Option Nat) (fs : List FateM) (X : List (Nat × Obj)) : Prop :=
  ∃ M F, BAt w p M F ∧ BLate M ∧ M.cost = cost ∧ M.now = now ∧ (∀ x, (M.op x).map Ent.dead = d x) ∧ M.fs = fs ∧ (∀ b, F b → w0.heap.size ≤ b) ∧ Below w0.heap.size w0 w ∧ ∀ q ∈ X, w.heap[q.1]? = some q.2 ∧ ¬ F q.1
def cntD (d : Int → Option Nat) : Nat := ((List.range 65536).filter (fun i : Nat => (d (i : Int)).isSome)).length
section
variable {w0 w : World} {p cost now : Nat} {d : Int → Option Nat} {fs : List FateM} {X : List (Nat × Obj)}
theorem LS.below (h : LS w0 w p cost now d fs X) : Below w0.heap.size w0 w := by obtain ⟨_, _, _, _, _, _, _, _, _, h, _⟩ := h; exact h
theorem LS.blk (h : LS w0 w p cost now d fs X) {q : Nat × Obj} (hq : q ∈ X) : w.heap[q.1]? = some q.2 := by obtain ⟨_, _, _, _, _, _, _, _, _, _, h⟩ := h; exact (h q hq).1
theorem LS.sub {Y : List (Nat × Obj)} (h : LS w0 w p cost now d fs X) (hY : ∀ q ∈ Y, q ∈ X) : LS w0 w p cost now d fs Y := by
  obtain ⟨M, F, h1, h2, h3, h4, h5, h6, h7, h8, h9⟩ := h
  exact ⟨M, F, h1, h2, h3, h4, h5, h6, h7, h8, fun q hq => h9 q (hY q hq)⟩
theorem LS.later {w' : World} (h : LS w0 w p cost now d fs X) (hb : Below w.heap.size w w') : LS w0 w' p cost now d fs X := by
  obtain ⟨M, F, h1, h2, h3, h4, h5, h6, h7, h8, h9⟩ := h
  exact ⟨M, F, h1.fr (Fr.of_below (F := fun _ => False) hb) (fun _ _ h => h), h2, h3, h4, h5, h6, h7, h8.trans (hb.mono h8.size), fun q hq => ⟨by rw [hb.block q.1 (lt_blk (h9 q hq).1)]; exact (h9 q hq).1, (h9 q hq).2⟩⟩
theorem LS.alloc (h : LS w0 w p cost now d fs X) (O : Obj) (B : Nat) (hB : w.heap.size = B) : LS w0 (w.alloc O) p cost now d fs ((B, O) :: X) := by
  subst hB
  have h' := h.later ((Below.refl _ _).alloc (Nat.le_refl _) O)
  obtain ⟨M, F, h1, h2, h3, h4, h5, h6, h7, h8, h9⟩ := h
  refine ⟨M, F, h1.fr (Fr.of_below (F := fun _ => False) ((Below.refl _ _).alloc (Nat.le_refl _) O)) (fun _ _ h => h), h2, h3, h4, h5, h6, h7, h'.below, fun q hq => ?_⟩
  rcases List.mem_cons.1 hq with e | e
  · subst e
    exact ⟨blk_new w O, fun hF => by have := h1.lt hF; omega⟩
  · exact ⟨blk_alloc (h9 q e).1, (h9 q e).2⟩
theorem LS.set {B : Nat} {vs : Array Value} {T : TypeId} (h : LS w0 w p cost now d fs ((B, .cells vs T (0, 0)) :: X)) (hB : w0.heap.size ≤ B) (hX : ∀ q ∈ X, q.1 ≠ B) (i : Nat) (v : Value) :
    LS w0 (w.setCell ⟨B, i, none⟩ v) p cost now d fs ((B, .cells (vs.setIfInBounds i v) T (0, 0)) :: X) := by
  obtain ⟨M, F, h1, h2, h3, h4, h5, h6, h7, h8, h9⟩ := h
  have hf : Fr (fun k => k = B) w (w.setCell ⟨B, i, none⟩ v) := Fr.setCell (F := fun k => k = B) (Fr.refl _ w) (p := ⟨B, i, none⟩) (.inl rfl) v
  obtain ⟨hb, ho⟩ := h9 _ (List.mem_cons_self ..)
  refine ⟨M, F, h1.fr hf (fun k hk e => ho (e ▸ hk)), h2, h3, h4, h5, h6, h7, h8.trans (hf.below h8.size (fun k _ e => by omega)), fun q hq => ?_⟩
  rcases List.mem_cons.1 hq with rfl | hq
  · exact ⟨blk_set hb v, ho⟩
  · exact ⟨hf.blk (h9 q (List.mem_cons_of_mem _ hq)).1 (hX q hq), (h9 q (List.mem_cons_of_mem _ hq)).2⟩
theorem LS.step {w' : World} {M' : BM} {F : Nat → Prop} {now' : Nat} {d' : Int → Option Nat} {fs' : List FateM} (h2 : BLate M') (h3 : M'.cost = cost) (h4 : M'.now = now') (h5 : ∀ x, (M'.op x).map Ent.dead = d' x) (h6 : M'.fs = fs') (h7 : ∀ b, F b → w0.heap.size ≤ b) (h8 : Below w0.heap.size w0 w) (h9 : ∀ q ∈ X, w.heap[q.1]? = some q.2 ∧ ¬ F q.1) (hp : BPost w p M' F w') : LS w0 w' p cost now' d' fs' X := by
  obtain ⟨F', hw, hf, hg⟩ := hp
  refine ⟨M', F', hw, h2, h3, h4, h5, h6, fun b hb => ?_, h8.trans (hf.below h8.size (fun k _ e => h7 k e)), fun q hq => ⟨hf.blk (h9 q hq).1 (h9 q hq).2, fun hF => ?_⟩⟩
  · rcases hg b hb with e | e
    · exact h7 b e
    · have := h8.size; omega
  · rcases hg _ hF with e | e
    · exact (h9 q hq).2 e
    · have := lt_blk (h9 q hq).1; omega
/-- What holds of who is open. -/
theorem LS.facts (h : LS w0 w p cost now d fs X) : 1 ≤ cost ∧ cost ≤ 1000 ∧ now < 4611686018427387904 ∧ ∀ x a, d x = some a → 0 ≤ x ∧ x ≤ 65535 ∧ now + cost < a ∧ a < 4611686018427387904 := by
  obtain ⟨M, F, ⟨pw, ab, Fw, fv, h1, hi, _⟩, h2, rfl, rfl, h5, h6, h7, h8, h9⟩ := h
  refine ⟨hi.cost.1, hi.cost.2, h1.wh.facts.1, fun x a hx => ?_⟩
  rw [← h5 x, Option.map_eq_some_iff] at hx
  obtain ⟨e, he, rfl⟩ := hx
  obtain ⟨a1, a2, _, _, _, a6⟩ := hi.opn x e he
  exact ⟨a1, a2, h2 x e he, a6⟩
end
theorem keys_cnt {M : BM} (hi : BInv M) {d : Int → Option Nat} (h5 : ∀ x, (M.op x).map Ent.dead = d x) : M.keys.length = cntD d := by
  have hs : ∀ x, (d x).isSome = (M.op x).isSome := fun x => by rw [← h5 x]; simp
  have hn : (((List.range 65536).filter (fun i : Nat => (d (i : Int)).isSome)).map (fun i : Nat => (i : Int))).Nodup := by
    rw [List.nodup_iff_pairwise_ne, List.pairwise_map]
    exact (List.nodup_iff_pairwise_ne.1 (List.nodup_range.filter _)).imp (fun h => by omega)
  have e := len_eq_of_mem hi.keys_nodup hn (fun x => by
    rw [hi.keys_mem, List.mem_map]
    constructor
    · intro hx
      obtain ⟨e, he⟩ := Option.isSome_iff_exists.1 hx
      obtain ⟨a1, a2, _⟩ := hi.opn x e he
      refine ⟨x.toNat, List.mem_filter.2 ⟨List.mem_range.2 (by omega), ?_⟩, by omega⟩
      rw [hs, show ((x.toNat : Nat) : Int) = x from by omega, he]; rfl
    · rintro ⟨i, hi2, rfl⟩
      rw [← hs]; exact (List.mem_filter.1 hi2).2)
  unfold cntD
  rw [e, List.length_map]
def hasV (d : Int → Option Nat) (id : Int) : Value := match d id with
  | some a => .tuple #[.int .u64 a, .bool true]
  | none => .tuple #[.int .u64 0, .bool false]
/-- What Open answers. -/
def openD (cost now : Nat) (d : Int → Option Nat) (id : Int) (dead : Nat) : Int :=
  if id < 0 ∨ 65535 < id then 1 else if 4611686018427387904 ≤ dead then 2 else if (d id).isSome then 7 else if 64 ≤ cntD d then 4 else if dead ≤ now + cost then 11 else 0
def outD (d : Int → Option Nat) (id : Int) : Int := if (d id).isSome then 0 else 6
def fsO (d : Int → Option Nat) (fs : List FateM) (f : FateM) : List FateM := if (d f.id).isSome then fs ++ [f] else fs
/-- Answer: the code, who is open then, the outcomes. -/
def ansC (d : Int → Option Nat) (id st : Int) : Int := if st < 0 ∨ 255 < st then 1 else outD d id
def ansD (d : Int → Option Nat) (id st : Int) : Int → Option Nat := if st < 0 ∨ 255 < st then d else at1 d id none
def ansF (d : Int → Option Nat) (fs : List FateM) (id st : Int) (bad : Bool) : List FateM := if st < 0 ∨ 255 < st then fs else fsO d fs (if bad then ⟨id, 2, 2⟩ else ⟨id, 1, st⟩)
theorem out_facts {M : BM} {d : Int → Option Nat} (h5 : ∀ x, (M.op x).map Ent.dead = d x) (h2 : BLate M) (f : FateM) : BLate (M.out f) ∧ (M.out f).cost = M.cost ∧ (M.out f).now = M.now ∧ (∀ x, ((M.out f).op x).map Ent.dead = at1 d f.id none x) ∧ (M.out f).fs = fsO d M.fs f ∧ M.outC f.id = outD d f.id := by
  have hs : (d f.id).isSome = (M.op f.id).isSome := by rw [← h5]; simp
  unfold BM.out fsO BM.outC outD
  rw [hs]
  cases ho : M.op f.id with
  | none =>
    refine ⟨h2, rfl, rfl, fun x => ?_, rfl, rfl⟩
    by_cases e : x = f.id
    · subst e; rw [at1_same, ho]; rfl
    · rw [at1_ne _ _ e]; exact h5 x
  | some e0 =>
    refine ⟨fun id e he => ?_, rfl, rfl, fun x => ?_, rfl, rfl⟩
    · simp only [BM.outM] at he ⊢
      by_cases e1 : id = f.id
      · rw [e1, at1_same] at he; cases he
      · rw [at1_ne _ _ e1] at he; exact h2 id e he
    · show (at1 M.op f.id none x).map Ent.dead = _
      by_cases e : x = f.id
      · subst e; rw [at1_same, at1_same]; rfl
      · rw [at1_ne _ _ e, at1_ne _ _ e]; exact h5 x
section
variable (w0 w : World) (p cost now : Nat) (d : Int → Option Nat) (fs : List FateM) (X : List (Nat × Obj)) (h : LS w0 w p cost now d fs X)
include h
theorem ls_count : Calls Try.prog 15 #[.pointer (some ⟨p, 0, none⟩)] w fun e w' => e = .returned (.int .i64 (cntD d)) ∧ w = w' := by
  obtain ⟨M, F, h1, h2, rfl, rfl, h5, h6, h7, h8, h9⟩ := h
  have hi : BInv M := by obtain ⟨_, _, _, _, _, hi, _⟩ := h1; exact hi
  rw [← keys_cnt hi h5]
  exact bcount_any p M F w h1
theorem ls_has (id : Int) (hk : kwf id) : Calls Try.prog 16 #[.pointer (some ⟨p, 0, none⟩), .int .i64 id] w fun e w' => e = .returned (hasV d id) ∧ LS w0 w' p cost now d fs X := by
  have h0 := h
  obtain ⟨M, F, h1, h2, rfl, rfl, h5, h6, h7, h8, h9⟩ := h
  have e : M.hasV id = hasV d id := by
    unfold BM.hasV hasV
    rw [← h5 id]
    cases M.op id <;> rfl
  rw [← e]
  exact (bhas_any p M F id hk w h1).mono fun e w' hx => ⟨hx.1, h0.later hx.2⟩
theorem ls_open (id : Int) (dead : Nat) (hk : kwf id) (hd : dead ≤ 18446744073709551615) (c : Int) (hc : openD cost now d id dead = c) : Calls Try.prog 11 #[.pointer (some ⟨p, 0, none⟩), .int .i64 id, .int .u64 dead] w fun e w' => e = .returned (.int .i64 c) ∧ LS w0 w' p cost now (if c = 0 then at1 d id (some dead) else d) fs X := by
  have h0 := h
  obtain ⟨M, F, h1, h2, rfl, rfl, h5, h6, h7, h8, h9⟩ := h
  have hi : BInv M := by obtain ⟨_, _, _, _, _, hi, _⟩ := h1; exact hi
  have hs : (d id).isSome = (M.op id).isSome := by rw [← h5]; simp
  have hoc : M.openC id dead = c := by
    rw [← hc]
    unfold BM.openC openD
    rw [hs, keys_cnt hi h5]
  by_cases h0c : c = 0
  · subst h0c
    rw [if_pos rfl]
    refine (bopen_ok p M F w h1 id dead hk hoc).mono fun e w' hx => ⟨hx.1, LS.step (M' := M.opened id dead) ?_ rfl rfl (fun x => ?_) h6 h7 h8 h9 hx.2⟩
    · intro x e he
      simp only [BM.opened] at he ⊢
      by_cases e1 : x = id
      · subst e1
        rw [at1_same] at he
        simp only [Option.some.injEq] at he
        subst he
        unfold BM.openC at hoc
        simp only
        repeat (split at hoc; · omega)
        omega
      · rw [at1_ne _ _ e1] at he; exact h2 x e he
    · show (at1 M.op id _ x).map Ent.dead = _
      by_cases e : x = id
      · subst e; rw [at1_same, at1_same]; rfl
      · rw [at1_ne _ _ e, at1_ne _ _ e]; exact h5 x
  · rw [if_neg h0c]
    exact (bopen_bad p M F w h1 id dead hk hd c hoc h0c).mono fun e w' hx => ⟨hx.1, h0.later hx.2⟩
theorem ls_answer (id st : Int) (bad : Bool) (hk : kwf id) (hl : fs.length ≤ 900000) : Calls Try.prog 12 #[.pointer (some ⟨p, 0, none⟩), .int .i64 id, .int .i64 st, .bool bad] w fun e w' => e = .returned (.int .i64 (ansC d id st)) ∧ LS w0 w' p cost now (ansD d id st) (ansF d fs id st bad) X := by
  obtain ⟨M, F, h1, h2, rfl, rfl, h5, rfl, h7, h8, h9⟩ := h
  refine (banswer_any p M F w h1 id st bad hk (by omega)).mono fun e w' hx => ?_
  unfold BM.ansC BM.ans at hx
  unfold ansC ansD ansF
  by_cases hb : st < 0 ∨ 255 < st
  · simp only [if_pos hb] at hx ⊢
    exact ⟨hx.1, LS.step h2 rfl rfl h5 rfl h7 h8 h9 hx.2⟩
  · simp only [if_neg hb] at hx ⊢
    cases bad with
    | true =>
      obtain ⟨a1, a2, a3, a4, a5, a6⟩ := out_facts h5 h2 ⟨id, 2, 2⟩
      simp only [if_true] at hx ⊢
      exact ⟨by rw [hx.1, a6], LS.step a1 a2 a3 a4 a5 h7 h8 h9 hx.2⟩
    | false =>
      obtain ⟨a1, a2, a3, a4, a5, a6⟩ := out_facts h5 h2 ⟨id, 1, st⟩
      simp only [Bool.false_eq_true, if_false] at hx ⊢
      exact ⟨by rw [hx.1, a6], LS.step a1 a2 a3 a4 a5 h7 h8 h9 hx.2⟩
theorem ls_cancel (id : Int) (hk : kwf id) (hl : fs.length ≤ 900000) : Calls Try.prog 14 #[.pointer (some ⟨p, 0, none⟩), .int .i64 id] w fun e w' => e = .returned (.int .i64 (outD d id)) ∧ LS w0 w' p cost now (at1 d id none) (fsO d fs ⟨id, 2, 3⟩) X := by
  obtain ⟨M, F, h1, h2, rfl, rfl, h5, rfl, h7, h8, h9⟩ := h
  refine (bcancel_any p M F w h1 id hk (by omega)).mono fun e w' hx => ?_
  obtain ⟨a1, a2, a3, a4, a5, a6⟩ := out_facts h5 h2 ⟨id, 2, 3⟩
  exact ⟨by rw [hx.1, a6], LS.step a1 a2 a3 a4 a5 h7 h8 h9 hx.2⟩
theorem ls_gobad (t : Nat) (ht : t ≤ 18446744073709551615) (c : Int) (hc : (4611686018427387904 ≤ t ∧ c = 2) ∨ (t < now ∧ c = 1)) : Calls Try.prog 13 #[.pointer (some ⟨p, 0, none⟩), .int .u64 t] w fun e w' => e = .returned (.tuple #[.slice none 0 0, .int .i64 c]) ∧ w = w' := by
  obtain ⟨M, F, h1, h2, rfl, rfl, h5, rfl, h7, h8, h9⟩ := h
  exact bgo_bad p M F w h1 t ht c hc
end
/-- Who comes out by time, up to a limit of abort times, in order. -/
def LateL (d : Int → Option Nat) (lim : Nat) (l : List Int) : Prop := l.Pairwise (fun x y => (d x).getD 0 < (d y).getD 0 ∨ ((d x).getD 0 = (d y).getD 0 ∧ x < y)) ∧ ∀ x, x ∈ l ↔ ∃ a, d x = some a ∧ a ≤ lim
def lateD (d : Int → Option Nat) (lim : Nat) : Int → Option Nat := fun x => (d x).bind fun a => if a ≤ lim then none else some a
def timeF (l : List Int) : List FateM := l.map (fun x => ⟨x, 2, 1⟩)
theorem fcells_get : ∀ {L : List FateM} {i : Nat} (hi : i < L.length), (fcells L)[i * 3]? = some (.int .i64 L[i].id) ∧ (fcells L)[i * 3 + 1]? = some (.int .i64 L[i].kind) ∧ (fcells L)[i * 3 + 2]? = some (.int .i64 L[i].why)
  | m :: L, 0, _ => ⟨rfl, rfl, rfl⟩
  | m :: L, i + 1, hi => by
    have e : fcells (m :: L) = [.int .i64 m.id, .int .i64 m.kind, .int .i64 m.why] ++ fcells L := rfl
    obtain ⟨a, b, c⟩ := fcells_get (L := L) (i := i) (by simpa using hi)
    have sh : ∀ j, ([.int .i64 m.id, .int .i64 m.kind, .int .i64 m.why] ++ fcells L)[(i + 1) * 3 + j]? = (fcells L)[i * 3 + j]? := by
      intro j
      rw [List.getElem?_append_right (by simp; omega)]
      congr 1
      simp
      omega
    rw [e]
    exact ⟨(sh 0).trans a, (sh 1).trans b, (sh 2).trans c⟩
theorem outs_facts (l : List Int) : ∀ (M : BM) (d : Int → Option Nat), (∀ x, (M.op x).map Ent.dead = d x) → l.Nodup → (∀ x ∈ l, (d x).isSome = true) → (M.outs l).cost = M.cost ∧ (M.outs l).now = M.now ∧ (∀ x, ((M.outs l).op x).map Ent.dead = if x ∈ l then none else d x) ∧ (M.outs l).fs = M.fs ++ timeF l ∧ ∀ x e, (M.outs l).op x = some e → M.op x = some e := by
  induction l with
  | nil => intro M d h5 _ _; exact ⟨rfl, rfl, fun x => by simpa [BM.outs] using h5 x, by simp [BM.outs, timeF], fun _ _ h => h⟩
  | cons y l ih =>
    intro M d h5 hn hs
    obtain ⟨n1, n2⟩ := List.nodup_cons.1 hn
    have hy := hs y (List.mem_cons_self ..)
    have ho : (M.op y).isSome = true := by rw [← h5] at hy; simpa using hy
    obtain ⟨e0, he0⟩ := Option.isSome_iff_exists.1 ho
    have hM : M.out ⟨y, 2, 1⟩ = M.outM y e0 ⟨y, 2, 1⟩ := by unfold BM.out; simp only [he0]
    have h5' : ∀ x, ((M.out ⟨y, 2, 1⟩).op x).map Ent.dead = at1 d y none x := fun x => by
      rw [hM]
      show (at1 M.op y none x).map Ent.dead = _
      by_cases e : x = y
      · subst e; rw [at1_same, at1_same]; rfl
      · rw [at1_ne _ _ e, at1_ne _ _ e]; exact h5 x
    obtain ⟨c1, c2, c3, c4, c5⟩ := ih (M.out ⟨y, 2, 1⟩) (at1 d y none) h5' n2 (fun x hx => by
      rw [at1_ne _ _ (fun e => n1 (by rw [← e]; exact hx))]
      exact hs x (List.mem_cons_of_mem _ hx))
    have hu : M.outs (y :: l) = (M.out ⟨y, 2, 1⟩).outs l := rfl
    rw [hu]
    refine ⟨by rw [c1, hM]; rfl, by rw [c2, hM]; rfl, fun x => ?_, by rw [c4, hM]; simp [BM.outM, timeF], fun x e he => ?_⟩
    · rw [c3]
      by_cases e : x = y
      · subst e
        rw [if_neg n1, at1_same, if_pos (List.mem_cons_self ..)]
      · by_cases hx : x ∈ l
        · rw [if_pos hx, if_pos (List.mem_cons_of_mem _ hx)]
        · rw [if_neg hx, if_neg (by rw [List.mem_cons]; rintro (h | h); exact e h; exact hx h), at1_ne _ _ e]
    · have := c5 x e he
      rw [hM] at this
      simp only [BM.outM] at this
      by_cases e1 : x = y
      · rw [e1, at1_same] at this; cases this
      · rw [at1_ne _ _ e1] at this; exact this

end Go.Proofs.Ytbodnmcaipakcaa
