/-
  A book's Go in a law; its New; lists of late ones.
-/
import Derived.Test.YtbodnmcaipakcaaLiK
namespace Go.Proofs.Ytbodnmcaipakcaa
open Go.RowKit Go.ChangeMaps Go.MapKept

theorem late_of {M : BM} (hi : BInv M) (hb : BLate M) {d : Int → Option Nat} (h5 : ∀ x, (M.op x).map Ent.dead = d x) {t : Nat} {D : List Nat} (hD : GoT M.g t D) {l : List Int} (hp : l.Perm (D.map M.ids)) (hs : SInv M.op l.length l) : LateL d (t + M.cost) l := by
  have hdl : ∀ x, dl M.op x = (d x).getD 0 := fun x => by
    unfold dl
    rw [← h5 x]
    cases M.op x <;> rfl
  constructor
  · rw [List.pairwise_iff_getElem]
    intro a b ha hb' hab
    have := hs a b ha hb' hab hb'
    unfold oLt at this
    rw [hdl, hdl] at this
    exact this
  · intro x
    rw [hp.mem_iff, List.mem_map]
    constructor
    · rintro ⟨i, hi2, rfl⟩
      obtain ⟨a, ha, hat⟩ := (hD.2 i).1 hi2
      obtain ⟨h1, h2⟩ := goneT_some.1 ha
      unfold BM.g0 at h1
      cases hu : M.us i with
      | false => rw [hu] at h1; cases h1
      | true =>
        rw [hu] at h1
        simp only [if_true, Option.map_eq_some_iff] at h1
        obtain ⟨e, he, rfl⟩ := h1
        obtain ⟨_, _, _, _, a5, _⟩ := hi.opn _ e he
        exact ⟨e.dead, by rw [← h5, he]; rfl, by omega⟩
    · rintro ⟨a, ha, hat⟩
      rw [← h5 x, Option.map_eq_some_iff] at ha
      obtain ⟨e, he, rfl⟩ := ha
      obtain ⟨_, _, a3, a4, a5, _⟩ := hi.opn x e he
      have hl := hb x e he
      refine ⟨e.tm, (hD.2 _).2 ⟨e.dead - M.cost, goneT_some.2 ⟨?_, by omega⟩, by omega⟩, a4⟩
      unfold BM.g0
      rw [a3, a4, he]; rfl
theorem late_nodup {d : Int → Option Nat} {lim : Nat} {l : List Int} (h : LateL d lim l) : l.Nodup := by
  rw [List.nodup_iff_pairwise_ne]
  exact h.1.imp fun {a b} h e => by subst e; omega
theorem late_eq {d : Int → Option Nat} {lim : Nat} {l m : List Int} (h1 : LateL d lim l) (h2 : LateL d lim m) : l = m := by
  let f : Int → Tm := fun i => ⟨i, (d i).getD 0⟩
  have key : ∀ {x : List Int}, LateL d lim x → TSort (x.map f) := fun {x} hx => by
    rw [TSort, List.pairwise_map]
    exact hx.1.imp fun {a b} hab => by unfold Tm.lt; simp only [f]; omega
  have := tsort_eq (key h1) (key h2) (fun y => by
    rw [List.mem_map, List.mem_map]
    constructor
    · rintro ⟨i, hi, e⟩; exact ⟨i, (h2.2 i).2 ((h1.2 i).1 hi), e⟩
    · rintro ⟨i, hi, e⟩; exact ⟨i, (h1.2 i).2 ((h2.2 i).1 hi), e⟩)
  have inj : ∀ a b : Int, f a = f b → a = b := fun a b e => congrArg Tm.id e
  exact (List.map_inj_right inj).1 this
theorem lateD_some {d : Int → Option Nat} {lim : Nat} {x : Int} {a : Nat} : lateD d lim x = some a ↔ d x = some a ∧ lim < a := by
  unfold lateD
  cases h : d x with
  | none => simp
  | some b =>
    simp only [Option.bind_some]
    by_cases hb : b ≤ lim
    · rw [if_pos hb]; simp; omega
    · rw [if_neg hb]; simp; omega
theorem ls_go (w0 w : World) (p cost now : Nat) (d : Int → Option Nat) (fs : List FateM) (X : List (Nat × Obj)) (h : LS w0 w p cost now d fs X) (t : Nat) (e1 : now ≤ t) (e2 : t < 4611686018427387904) (hl : fs.length ≤ 900000) :
    Calls Try.prog 13 #[.pointer (some ⟨p, 0, none⟩), .int .u64 t] w fun e w' => ∃ (fo : Option Addr) (n c : Nat) (l : List Int) (Y : List (Nat × Obj)), e = .returned (.tuple #[.slice fo n c, .int .i64 0]) ∧ LateL d (t + cost) l ∧ n = (fs ++ timeF l).length ∧ LS w0 w' p cost t (lateD d (t + cost)) [] (X ++ Y) ∧ (∀ y ∈ Y, ∀ q ∈ X, q.1 ≠ y.1) ∧ (∀ y ∈ Y, w0.heap.size ≤ y.1) ∧
      ∀ j (hj : j < (fs ++ timeF l).length), ∃ b cur, fo = some ⟨b, 0, none⟩ ∧ (b, Obj.cells cur 35 (0, 0)) ∈ Y ∧ cur[j * 3]? = some (.int .i64 (fs ++ timeF l)[j].id) ∧ cur[j * 3 + 1]? = some (.int .i64 (fs ++ timeF l)[j].kind) ∧ cur[j * 3 + 2]? = some (.int .i64 (fs ++ timeF l)[j].why) := by
  obtain ⟨M, F, h1, h2, rfl, rfl, h5, rfl, h7, h8, h9⟩ := h
  have hi : BInv M := by obtain ⟨_, _, _, _, _, hi, _⟩ := h1; exact hi
  refine (bgo_any p M F w h1 t e1 e2 hl).mono fun e w' hx => ?_
  obtain ⟨l, D, fo, n, c, ex, hD, hp, hs, hn, hrow, F', hA, hf, hg, hdj⟩ := hx
  have hL := late_of hi h2 h5 hD hp hs
  have hsome : ∀ x ∈ l, (d x).isSome = true := fun x hx => by
    obtain ⟨a, ha, _⟩ := (hL.2 x).1 hx
    rw [ha]; rfl
  obtain ⟨o1, o2, o3, o4, o5⟩ := outs_facts l (M.at' t) d h5 (late_nodup hL) hsome
  have hfs : ((M.at' t).outs l).fs = M.fs ++ timeF l := o4
  rw [hfs] at hn hrow
  have hs0 := h8.size
  have hX' : ∀ q ∈ X, w'.heap[q.1]? = some q.2 ∧ ¬ F' q.1 := fun q hq => ⟨hf.blk (h9 q hq).1 (h9 q hq).2, fun hF => by
    rcases hg _ hF with e | e
    · exact (h9 q hq).2 e
    · have := lt_blk (h9 q hq).1; omega⟩
  have hlow : ∀ b, F' b → w0.heap.size ≤ b := fun b hb => by
    rcases hg b hb with e | e
    · exact h7 b e
    · omega
  have hd' : ∀ x, (((M.at' t).outs l).told.op x).map Ent.dead = lateD d (t + M.cost) x := fun x => by
    show (((M.at' t).outs l).op x).map Ent.dead = _
    rw [o3]
    by_cases hx : x ∈ l
    · rw [if_pos hx]
      obtain ⟨a, ha, hat⟩ := (hL.2 x).1 hx
      unfold lateD
      rw [ha, Option.bind_some, if_pos hat]
    · rw [if_neg hx]
      unfold lateD
      cases hdx : d x with
      | none => rfl
      | some a =>
        rw [Option.bind_some, if_neg (fun hat => hx ((hL.2 x).2 ⟨a, hdx, hat⟩))]
  have hbl : BLate ((M.at' t).outs l).told := fun x e he => by
    have h3 := hd' x
    rw [he] at h3
    have h4 := (lateD_some.1 h3.symm).2
    show ((M.at' t).outs l).now + ((M.at' t).outs l).cost < e.dead
    rw [o1, o2]
    exact h4
  have hLS : LS w0 w' p M.cost t (lateD d (t + M.cost)) [] X := ⟨_, F', hA, hbl, o1, o2, hd', rfl, hlow, h8.trans (hf.below h8.size (fun k _ e => h7 k e)), hX'⟩
  by_cases hne : n = 0
  · refine ⟨fo, n, c, l, [], ex, hL, hn, by rw [List.append_nil]; exact hLS, fun y hy => (by cases hy), fun y hy => (by cases hy), fun j hj => by omega⟩
  · obtain ⟨-, hnil | ⟨b, cap, cur, hv, _, hblk, hnc, hcm, hcs, htk⟩⟩ := hrow
    · exact absurd hnil.2 hne
    · injection hv with v1 _ v3
      subst v1
      have hown : (Value.slice (some ⟨b, 0, none⟩) n c).ownBlock = some b := by simp [Value.ownBlock]
      obtain ⟨d1, d2⟩ := hdj b hown
      obtain ⟨M', F2, g1, g2, g3, g4, g5, g6, g7, g8, g9⟩ := hLS
      refine ⟨_, n, c, l, [(b, .cells cur 35 (0, 0))], ex, hL, hn, ⟨_, F', hA, hbl, o1, o2, hd', rfl, hlow, g8, fun q hq => ?_⟩, fun y hy q hq => ?_, fun y hy => ?_, fun j hj => ⟨b, cur, rfl, List.mem_cons_self .., ?_⟩⟩
      · rcases List.mem_append.1 hq with e | e
        · exact hX' q e
        · rw [List.mem_singleton] at e
          subst e
          exact ⟨hblk, d1⟩
      · rw [List.mem_singleton] at hy
        subst hy
        intro e
        rcases d2 with e2 | e2
        · exact (h9 q hq).2 (by rw [e]; exact e2)
        · have := lt_blk (h9 q hq).1
          simp only at e
          omega
      · rw [List.mem_singleton] at hy
        subst hy
        rcases d2 with e2 | e2
        · exact h7 b e2
        · simp only; omega
      · have hget : ∀ k, k < n * 3 → cur[k]? = (fcells (M.fs ++ timeF l))[k]? := fun k hk => by
          have e2 : (cur.toList.take (n * 3))[k]? = (fcells (M.fs ++ timeF l))[k]? := by rw [htk]
          rw [List.getElem?_take, if_pos hk] at e2
          rw [← Array.getElem?_toList, e2]
        obtain ⟨f1, f2, f3⟩ := fcells_get hj
        exact ⟨by rw [hget _ (by omega)]; exact f1, by rw [hget _ (by omega)]; exact f2, by rw [hget _ (by omega)]; exact f3⟩
theorem ls_new (cost : Nat) (w : World) (hc : 1 ≤ cost ∧ cost ≤ 1000) (w0 : World) (hb : Below w0.heap.size w0 w) (X : List (Nat × Obj)) (hX : ∀ q ∈ X, w.heap[q.1]? = some q.2) :
    Calls Try.prog 10 #[.int .u64 cost] w fun x w' => ∃ p, x = .returned (.tuple #[.pointer (some ⟨p, 0, none⟩), .int .i64 0]) ∧ LS w0 w' p cost 0 (fun _ => none) [] X := by
  refine (bnew_any cost w hc).mono fun e w' hx => ?_
  obtain ⟨p, F, ex, hA, hF, hbl⟩ := hx
  have hs := hb.size
  exact ⟨p, ex, newB cost, F, hA, fun id e he => (by cases he), rfl, rfl, fun _ => rfl, rfl, fun b hb' => by have := hF b hb'; omega, hb.trans (hbl.mono hs), fun q hq => ⟨by rw [hbl.block q.1 (lt_blk (hX q hq))]; exact hX q hq, fun hF' => by have := hF _ hF'; have := lt_blk (hX q hq); omega⟩⟩

end Go.Proofs.Ytbodnmcaipakcaa
