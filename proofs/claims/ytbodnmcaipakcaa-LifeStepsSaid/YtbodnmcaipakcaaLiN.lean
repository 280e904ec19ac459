/-
  Two books at once in a law, and rows of outcomes.
-/
import Derived.Test.YtbodnmcaipakcaaLiM
namespace Go.Proofs.Ytbodnmcaipakcaa
open Go.RowKit Go.ChangeMaps Go.MapKept

/-- A row of outcomes, as it lies. -/
def OutF (B : Nat) (w : World) (v : Value) (L : List FateM) : Prop := ∃ (a : Option Addr) (c : Nat), v = .slice a L.length c ∧ w.ownsRow B 35 3 v L.length (fcells L)
theorem OutF.later {B : Nat} {w w' : World} {v : Value} {L : List FateM} {G : Nat → Prop} (h : OutF B w v L) (hf : Fr G w w') (hG : ∀ k, v.ownBlock = some k → ¬ G k) : OutF B w' v L := by
  obtain ⟨a, c, rfl, hl, hc | ⟨g, cap, cur, e, h1, h2, h3⟩⟩ := h
  · exact ⟨a, c, rfl, hl, .inl hc⟩
  · refine ⟨a, c, rfl, hl, .inr ⟨g, cap, cur, e, h1, hf.blk h2 (hG g ?_), h3⟩⟩
    rw [e]; rfl
theorem OutF.nil (B : Nat) (w : World) : OutF B w (.slice none 0 0) [] := ⟨none, 0, rfl, by simp [fcells], .inl ⟨rfl, rfl⟩⟩
theorem OutF.lt {B : Nat} {w : World} {v : Value} {L : List FateM} (h : OutF B w v L) {k : Nat} (hk : v.ownBlock = some k) : B ≤ k ∧ k < w.heap.size := by
  obtain ⟨_, _, _, hown⟩ := h
  exact ownsRow_lt hown hk
theorem OutF.raise {B B' : Nat} {w : World} {v : Value} {L : List FateM} (h : OutF B w v L) (hB : ∀ k, v.ownBlock = some k → B' ≤ k) : OutF B' w v L := by
  obtain ⟨a, c, rfl, hl, hc | ⟨g, cap, cur, e, h1, h2, h3⟩⟩ := h
  · exact ⟨a, c, rfl, hl, .inl hc⟩
  · exact ⟨a, c, rfl, hl, .inr ⟨g, cap, cur, e, hB g (by rw [e]; rfl), h2, h3⟩⟩
theorem OutF.rowAt {B : Nat} {w : World} {v : Value} {L : List FateM} (h : OutF B w v L) : RowAt w (fun k => v.ownBlock = some k) v L.length 3 (fcells L) := by
  obtain ⟨_, _, _, hown⟩ := h
  exact RowAt.of_owns hown
theorem OutF.src {B : Nat} {w : World} {ao : Option Addr} {n c : Nat} {L : List FateM} (h : OutF B w (.slice ao n c) L) (hn : n = L.length) : SrcAt w ao n (fcells L) := by
  subst hn
  obtain ⟨h1, h2⟩ := h.rowAt
  rcases h2 with ⟨e, h0⟩ | ⟨b, off, cap, e, _, _, _, hb, hc⟩
  · injection e with e1 _ _
    obtain rfl := List.length_eq_zero_iff.1 h0
    exact .inl ⟨e1, rfl, rfl⟩
  · injection e with e1 _ _
    subst e1
    exact .inr ⟨_, rfl, fun j u hu => by rw [addr_add]; exact ⟨hb, hc j u hu⟩⟩
/-- A book with no outcome to be told. -/
def BT (w : World) (p c now : Nat) (d : Int → Option Nat) (F : Nat → Prop) : Prop := ∃ M, BAt w p M F ∧ BLate M ∧ M.cost = c ∧ M.now = now ∧ (∀ x, (M.op x).map Ent.dead = d x) ∧ M.fs = []
theorem BT.fr {w w' : World} {p c now : Nat} {d : Int → Option Nat} {F G : Nat → Prop} (h : BT w p c now d F) (hf : Fr G w w') (hG : ∀ k, F k → ¬ G k) : BT w' p c now d F := by
  obtain ⟨M, h1, h2⟩ := h
  exact ⟨M, h1.fr hf hG, h2⟩
theorem BT.lt {w : World} {p c now : Nat} {d : Int → Option Nat} {F : Nat → Prop} (h : BT w p c now d F) {k : Nat} (hk : F k) : k < w.heap.size := by
  obtain ⟨M, h1, h2⟩ := h
  exact h1.lt hk
/-- Two books, and two rows. -/
def B2 (w0 w : World) (c pa na : Nat) (da : Int → Option Nat) (pb nb : Nat) (db : Int → Option Nat) (v : Value) (l : List FateM) (u : Value) (m : List FateM) : Prop :=
  ∃ Fa Fb, BT w pa c na da Fa ∧ BT w pb c nb db Fb ∧ (∀ k, Fa k → w0.heap.size ≤ k) ∧ (∀ k, Fb k → w0.heap.size ≤ k) ∧ Below w0.heap.size w0 w ∧ (∀ k, Fa k → ¬ Fb k) ∧
    OutF w0.heap.size w v l ∧ OutF w0.heap.size w u m ∧ (∀ k, v.ownBlock = some k → ¬ Fa k ∧ ¬ Fb k ∧ u.ownBlock ≠ some k) ∧ ∀ k, u.ownBlock = some k → ¬ Fa k ∧ ¬ Fb k
section
variable {w0 w w' : World} {c pa na na' pb nb : Nat} {da da' db : Int → Option Nat} {v u : Value} {l m : List FateM}
theorem B2.below (h : B2 w0 w c pa na da pb nb db v l u m) : Below w0.heap.size w0 w := by obtain ⟨_, _, _, _, _, _, h, _⟩ := h; exact h
theorem B2.symm (h : B2 w0 w c pa na da pb nb db v l u m) : B2 w0 w c pb nb db pa na da v l u m := by
  obtain ⟨Fa, Fb, h1, h2, h3, h4, h5, h6, h7, h8, h9, h10⟩ := h
  exact ⟨Fb, Fa, h2, h1, h4, h3, h5, fun k hb ha => h6 k ha hb, h7, h8, fun k hk => ⟨(h9 k hk).2.1, (h9 k hk).1, (h9 k hk).2.2⟩, fun k hk => ⟨(h10 k hk).2, (h10 k hk).1⟩⟩
theorem B2.later (h : B2 w0 w c pa na da pb nb db v l u m) (hb : Below w.heap.size w w') : B2 w0 w' c pa na da pb nb db v l u m := by
  have hf : Fr (fun _ => False) w w' := Fr.of_below hb
  obtain ⟨Fa, Fb, h1, h2, h3, h4, h5, h6, h7, h8, h9⟩ := h
  exact ⟨Fa, Fb, h1.fr hf (fun _ _ h => h), h2.fr hf (fun _ _ h => h), h3, h4, h5.trans (hb.mono h5.size), h6, h7.later hf (fun _ _ h => h), h8.later hf (fun _ _ h => h), h9⟩
theorem B2.rowV (h : B2 w0 w c pa na da pb nb db v l u m) : OutF w0.heap.size w v l ∧ OutF w0.heap.size w u m := by
  obtain ⟨_, _, _, _, _, _, _, _, h7, h8, _⟩ := h
  exact ⟨h7, h8⟩
/-- The first book has done something. -/
theorem B2.step {Fa Fb Fa' : Nat → Prop} (h2 : BT w pb c nb db Fb) (h3 : ∀ k, Fa k → w0.heap.size ≤ k) (h4 : ∀ k, Fb k → w0.heap.size ≤ k) (h5 : Below w0.heap.size w0 w) (h6 : ∀ k, Fa k → ¬ Fb k)
    (h7 : OutF w0.heap.size w v l) (h8 : OutF w0.heap.size w u m) (h9 : ∀ k, v.ownBlock = some k → ¬ Fa k ∧ ¬ Fb k ∧ u.ownBlock ≠ some k) (h10 : ∀ k, u.ownBlock = some k → ¬ Fa k ∧ ¬ Fb k)
    (hw : BT w' pa c na' da' Fa') (hf : Fr Fa w w') (hg : Gro Fa Fa' w) : B2 w0 w' c pa na' da' pb nb db v l u m := by
  have hs := h5.size
  refine ⟨Fa', Fb, hw, h2.fr hf (fun k hk e => h6 k e hk), fun k hk => ?_, h4, h5.trans (hf.below h5.size (fun k _ e => h3 k e)), fun k hk hb => ?_, h7.later hf (fun k hk => (h9 k hk).1), h8.later hf (fun k hk => (h10 k hk).1), fun k hk => ⟨fun hF => ?_, (h9 k hk).2⟩, fun k hk => ⟨fun hF => ?_, (h10 k hk).2⟩⟩
  · rcases hg k hk with e | e
    · exact h3 k e
    · omega
  · rcases hg k hk with e | e
    · exact h6 k e hb
    · have := h2.lt hb; omega
  · rcases hg k hF with e | e
    · exact (h9 k hk).1 e
    · have := (h7.lt hk).2; omega
  · rcases hg k hF with e | e
    · exact (h10 k hk).1 e
    · have := (h8.lt hk).2; omega
/-- The first row has grown by the second one. -/
theorem B2.grown {ao : Option Addr} {n cap : Nat} (h : B2 w0 w c pa na da pb nb db v l u m) (hown : w'.ownsRow w0.heap.size 35 3 (.slice ao n cap) n (fcells (l ++ m))) (hn : n = (l ++ m).length)
    (hg : w.grownBy w' v.ownBlock) (hat : (Value.slice ao n cap).ownBlock = v.ownBlock ∨ (Value.slice ao n cap).ownBlock = some w.heap.size) : B2 w0 w' c pa na da pb nb db (.slice ao n cap) (l ++ m) (.slice none 0 0) [] := by
  obtain ⟨Fa, Fb, h1, h2, h3, h4, h5, h6, h7, h8, h9, h10⟩ := h
  have hfr : Fr (fun k => v.ownBlock = some k) w w' := (Fr.refl _ _).grown hg (fun k e => .inl e)
  refine ⟨Fa, Fb, h1.fr hfr (fun k hk e => (h9 k e).1 hk), h2.fr hfr (fun k hk e => (h9 k e).2.1 hk), h3, h4, h5.trans (hfr.below h5.size (fun k _ e => (h7.lt e).1)), h6, ⟨ao, cap, by rw [hn], by rw [← hn]; exact hown⟩, OutF.nil _ _, fun k hk => ?_, fun k hk => by simp [Value.ownBlock] at hk⟩
  rcases hat with e | e
  · rw [e] at hk
    exact ⟨(h9 k hk).1, (h9 k hk).2.1, by simp [Value.ownBlock]⟩
  · rw [e] at hk
    simp only [Option.some.injEq] at hk
    subst hk
    exact ⟨fun hF => by have := h1.lt hF; omega, fun hF => by have := h2.lt hF; omega, by simp [Value.ownBlock]⟩
end
section
variable (w0 w : World) (c pa na : Nat) (da : Int → Option Nat) (pb nb : Nat) (db : Int → Option Nat) (v : Value) (l : List FateM) (u : Value) (m : List FateM) (h : B2 w0 w c pa na da pb nb db v l u m)
include h
theorem b2_open (id : Int) (dead : Nat) (hk : kwf id) (hc : openD c na da id dead = 0) (d' : Int → Option Nat) (hd : at1 da id (some dead) = d') : Calls Try.prog 11 #[.pointer (some ⟨pa, 0, none⟩), .int .i64 id, .int .u64 dead] w fun e w' => e = .returned (.int .i64 0) ∧ B2 w0 w' c pa na d' pb nb db v l u m := by
  subst hd
  obtain ⟨Fa, Fb, ⟨M, h1, hl, rfl, rfl, hd, hfs⟩, h2, h3, h4, h5, h6, h7, h8, h9, h10⟩ := h
  have hi : BInv M := by obtain ⟨_, _, _, _, _, hi, _⟩ := h1; exact hi
  have hs : (da id).isSome = (M.op id).isSome := by rw [← hd]; simp
  have hoc : M.openC id dead = 0 := by
    rw [← hc]
    unfold BM.openC openD
    rw [hs, keys_cnt hi hd]
  refine (bopen_ok pa M Fa w h1 id dead hk hoc).mono fun e w' hx => ⟨hx.1, ?_⟩
  obtain ⟨F', hw, hf, hg⟩ := hx.2
  refine B2.step h2 h3 h4 h5 h6 h7 h8 h9 h10 ⟨M.opened id dead, hw, fun x e he => ?_, rfl, rfl, fun x => ?_, hfs⟩ hf hg
  · simp only [BM.opened] at he ⊢
    by_cases e1 : x = id
    · subst e1
      rw [at1_same] at he
      simp only [Option.some.injEq] at he
      subst he
      unfold BM.openC at hoc
      simp only
      repeat (split at hoc; · omega)
      omega
    · rw [at1_ne _ _ e1] at he; exact hl x e he
  · show (at1 M.op id _ x).map Ent.dead = _
    by_cases e : x = id
    · subst e; rw [at1_same, at1_same]; rfl
    · rw [at1_ne _ _ e, at1_ne _ _ e]; exact hd x
theorem b2_go (t : Nat) (e1 : na ≤ t) (e2 : t < 4611686018427387904) : Calls Try.prog 13 #[.pointer (some ⟨pa, 0, none⟩), .int .u64 t] w fun e w' => ∃ va vc q, e = .returned (.tuple #[.slice va (List.length (timeF q)) vc, .int .i64 0]) ∧ LateL da (t + c) q ∧
    B2 w0 w' c pa t (lateD da (t + c)) pb nb db v l u m ∧ OutF w0.heap.size w' (.slice va (List.length (timeF q)) vc) (timeF q) ∧ (∀ k, (Value.slice va (List.length (timeF q)) vc).ownBlock = some k → v.ownBlock ≠ some k ∧ u.ownBlock ≠ some k) ∧ B2 w0 w' c pa t (lateD da (t + c)) pb nb db v l (.slice va (List.length (timeF q)) vc) (timeF q) := by
  obtain ⟨Fa, Fb, ⟨M, h1, hl, rfl, rfl, hd, hfs⟩, h2, h3, h4, h5, h6, h7, h8, h9, h10⟩ := h
  have hi : BInv M := by obtain ⟨_, _, _, _, _, hi, _⟩ := h1; exact hi
  refine (bgo_any pa M Fa w h1 t e1 e2 (by rw [hfs]; simp)).mono fun e w' hx => ?_
  obtain ⟨q, D, fo, n, vc, ex, hD, hp, hs, hn, hrow, F', hA, hf, hg, hdj⟩ := hx
  have hL := late_of hi hl hd hD hp hs
  have hsome : ∀ x ∈ q, (da x).isSome = true := fun x hx => by
    obtain ⟨a, ha, _⟩ := (hL.2 x).1 hx
    rw [ha]; rfl
  obtain ⟨o1, o2, o3, o4, o5⟩ := outs_facts q (M.at' t) da hd (late_nodup hL) hsome
  have hfs' : ((M.at' t).outs q).fs = timeF q := by rw [o4]; show M.fs ++ timeF q = _; rw [hfs]; rfl
  rw [hfs'] at hn hrow
  subst hn
  have hd' : ∀ x, (((M.at' t).outs q).told.op x).map Ent.dead = lateD da (t + M.cost) x := fun x => by
    show (((M.at' t).outs q).op x).map Ent.dead = _
    rw [o3]
    by_cases hx : x ∈ q
    · rw [if_pos hx]
      obtain ⟨a, ha, hat⟩ := (hL.2 x).1 hx
      unfold lateD
      rw [ha, Option.bind_some, if_pos hat]
    · rw [if_neg hx]
      unfold lateD
      cases hdx : da x with
      | none => rfl
      | some a =>
        rw [Option.bind_some, if_neg (fun hat => hx ((hL.2 x).2 ⟨a, hdx, hat⟩))]
  have hbl : BLate ((M.at' t).outs q).told := fun x e he => by
    have h3 := hd' x
    rw [he] at h3
    have h4 := (lateD_some.1 h3.symm).2
    show ((M.at' t).outs q).now + ((M.at' t).outs q).cost < e.dead
    rw [o1, o2]
    exact h4
  have hBT : BT w' pa M.cost t (lateD da (t + M.cost)) F' := ⟨_, hA, hbl, o1, o2, hd', rfl⟩
  have hB2 := B2.step h2 h3 h4 h5 h6 h7 h8 h9 h10 hBT hf hg
  have hs0 := h5.size
  have hO0 : OutF 0 w' (.slice fo (timeF q).length vc) (timeF q) := ⟨fo, vc, rfl, hrow⟩
  have hge : ∀ k, (Value.slice fo (timeF q).length vc).ownBlock = some k → w0.heap.size ≤ k := fun k hk => by
    rcases (hdj k hk).2 with e | e
    · exact h3 k e
    · omega
  have hO := hO0.raise hge
  have hne : ∀ k, (Value.slice fo (timeF q).length vc).ownBlock = some k → v.ownBlock ≠ some k ∧ u.ownBlock ≠ some k := fun k hk => ⟨fun e => by
    rcases (hdj k hk).2 with e3 | e3
    · exact (h9 k e).1 e3
    · have := (h7.lt e).2; omega, fun e => by
    rcases (hdj k hk).2 with e3 | e3
    · exact (h10 k e).1 e3
    · have := (h8.lt e).2; omega⟩
  have hB3 := B2.step (u := .slice none 0 0) (m := []) h2 h3 h4 h5 h6 h7 (OutF.nil _ _) (fun k hk => ⟨(h9 k hk).1, (h9 k hk).2.1, by simp [Value.ownBlock]⟩) (fun k hk => by simp [Value.ownBlock] at hk) hBT hf hg
  refine ⟨fo, vc, q, ex, hL, hB2, hO, hne, F', Fb, hBT, h2.fr hf (fun k hk e => h6 k e hk), fun k hk => ?_, h4, h5.trans (hf.below h5.size (fun k _ e => h3 k e)), fun k hk hb => ?_, hB3.rowV.1, hO, fun k hk => ⟨fun hF => ?_, (h9 k hk).2.1, fun e => (hne k e).1 hk⟩, fun k hk => ⟨(hdj k hk).1, fun hb => ?_⟩⟩
  · rcases hg k hk with e | e
    · exact h3 k e
    · omega
  · rcases hg k hk with e | e
    · exact h6 k e hb
    · have := h2.lt hb; omega
  · rcases hg k hF with e | e
    · exact (h9 k hk).1 e
    · have := (h7.lt hk).2; omega
  · rcases (hdj k hk).2 with e3 | e3
    · exact h6 k e3 hb
    · have := h2.lt hb; omega
end
theorem B2.new {w0 w1 w2 w3 : World} {c pa pb : Nat} {Fa Fb : Nat → Prop} (h0 : Below w0.heap.size w0 w1) (a1 : BAt w2 pa (newB c) Fa) (a2 : ∀ k, Fa k → w1.heap.size ≤ k) (a3 : Below w1.heap.size w1 w2) (b1 : BAt w3 pb (newB c) Fb) (b2 : ∀ k, Fb k → w2.heap.size ≤ k) (b3 : Below w2.heap.size w2 w3) :
    B2 w0 w3 c pa 0 (fun _ => none) pb 0 (fun _ => none) (.slice none 0 0) [] (.slice none 0 0) [] := by
  have s0 := h0.size
  have s1 := a3.size
  refine ⟨Fa, Fb, ⟨_, a1.fr (Fr.of_below (F := fun _ => False) b3) (fun _ _ h => h), fun id e he => (by cases he), rfl, rfl, fun _ => rfl, rfl⟩, ⟨_, b1, fun id e he => (by cases he), rfl, rfl, fun _ => rfl, rfl⟩, fun k hk => ?_, fun k hk => ?_, (h0.trans (a3.mono s0)).trans (b3.mono (by omega)), fun k ha hb => ?_, OutF.nil _ _, OutF.nil _ _, fun k hk => by simp [Value.ownBlock] at hk, fun k hk => by simp [Value.ownBlock] at hk⟩
  · have := a2 k hk; omega
  · have := b2 k hk; omega
  · have := a1.lt ha; have := b2 k hb; omega

end Go.Proofs.Ytbodnmcaipakcaa
