/-
  A wheel, and the document's one, side by side in a law.
-/
import Derived.Test.YthlaebleaooeiaaRwE
namespace Go.Proofs.Ythlaebleaooeiaa
open Go.RowKit

/-- Both, apart. -/
def PS (w0 w : World) (p now : Nat) (g : Nat → Option Nat) (q : Nat) (L : List Tm) (rn : Nat) (X : List (Nat × Obj)) : Prop :=
  ∃ F G, WT w p now g F ∧ RW w q L rn G ∧ (∀ k, F k → w0.heap.size ≤ k) ∧ (∀ k, G k → w0.heap.size ≤ k) ∧ Below w0.heap.size w0 w ∧ (∀ k, F k → ¬ G k) ∧ ∀ x ∈ X, w.heap[x.1]? = some x.2 ∧ ¬ F x.1 ∧ ¬ G x.1
section
variable {w0 w : World} {p now : Nat} {g : Nat → Option Nat} {q : Nat} {L : List Tm} {rn : Nat} {X : List (Nat × Obj)}
theorem PS.below (h : PS w0 w p now g q L rn X) : Below w0.heap.size w0 w := by obtain ⟨_, _, _, _, _, _, h, _⟩ := h; exact h
theorem PS.blk (h : PS w0 w p now g q L rn X) {x : Nat × Obj} (hx : x ∈ X) : w.heap[x.1]? = some x.2 := by obtain ⟨_, _, _, _, _, _, _, _, h⟩ := h; exact (h x hx).1
theorem PS.sub {Y : List (Nat × Obj)} (h : PS w0 w p now g q L rn X) (hY : ∀ x ∈ Y, x ∈ X) : PS w0 w p now g q L rn Y := by
  obtain ⟨F, G, h1, h2, h3, h4, h5, h6, h7⟩ := h
  exact ⟨F, G, h1, h2, h3, h4, h5, h6, fun x hx => h7 x (hY x hx)⟩
theorem PS.facts (h : PS w0 w p now g q L rn X) : now < 4611686018427387904 ∧ (∀ i a, g i = some a → i < 1000 ∧ now < a ∧ a < 4611686018427387904) := by obtain ⟨_, _, h, _⟩ := h; exact h.facts
theorem PS.cells (h : PS w0 w p now g q L rn X) : w.cell? ⟨q, 1, none⟩ = some (.int .u64 rn) ∧ ∃ a c, w.cell? ⟨q, 0, none⟩ = some (.slice a L.length c) := by
  obtain ⟨_, _, _, h, _⟩ := h
  obtain ⟨a, c, hb, _⟩ := h.at'
  exact ⟨(cell_blk hb 1).trans (by simp), a, c, (cell_blk hb 0).trans (by simp)⟩
theorem PS.later {w' : World} (h : PS w0 w p now g q L rn X) (hb : Below w.heap.size w w') : PS w0 w' p now g q L rn X := by
  have hf : Fr (fun _ => False) w w' := Fr.of_below hb
  obtain ⟨F, G, h1, h2, h3, h4, h5, h6, h7⟩ := h
  exact ⟨F, G, h1.fr hf (fun _ _ h => h), h2.later hb, h3, h4, h5.trans (hb.mono h5.size), h6, fun x hx => ⟨by rw [hb.block x.1 (lt_blk (h7 x hx).1)]; exact (h7 x hx).1, (h7 x hx).2⟩⟩
theorem PS.drew (h : PS w0 w p now g q L rn X) : PS w0 w.drew p now g q L rn X := h.later ⟨rfl, rfl, rfl, Nat.le_refl _, fun _ _ => rfl⟩
theorem PS.alloc (h : PS w0 w p now g q L rn X) (O : Obj) (B : Nat) (hB : w.heap.size = B) : PS w0 (w.alloc O) p now g q L rn ((B, O) :: X) := by
  subst hB
  have h' := h.later ((Below.refl _ _).alloc (Nat.le_refl _) O)
  have hf : Fr (fun _ => False) w (w.alloc O) := (Fr.refl _ _).alloc O
  obtain ⟨F, G, h1, h2, h3, h4, h5, h6, h7⟩ := h
  refine ⟨F, G, h1.fr hf (fun _ _ h => h), h2.fr hf (fun _ _ h => h), h3, h4, h'.below, h6, fun x hx => ?_⟩
  rcases List.mem_cons.1 hx with e | e
  · subst e
    exact ⟨blk_new w O, fun hF => by have := h1.lt hF; omega, fun hG => by have := h2.lt _ hG; omega⟩
  · exact ⟨blk_alloc (h7 x e).1, (h7 x e).2⟩
theorem PS.stepW {w' : World} {now' : Nat} {g' : Nat → Option Nat} {F G F' : Nat → Prop} (h2 : RW w q L rn G) (h3 : ∀ k, F k → w0.heap.size ≤ k) (h4 : ∀ k, G k → w0.heap.size ≤ k) (h5 : Below w0.heap.size w0 w) (h6 : ∀ k, F k → ¬ G k) (h7 : ∀ x ∈ X, w.heap[x.1]? = some x.2 ∧ ¬ F x.1 ∧ ¬ G x.1) (hw : WT w' p now' g' F') (hf : Fr F w w') (hg : Gro F F' w) : PS w0 w' p now' g' q L rn X := by
  have hs := h5.size
  refine ⟨F', G, hw, h2.fr hf (fun k hk e => h6 k e hk), fun k hk => ?_, h4, h5.trans (hf.below h5.size (fun k _ e => h3 k e)), fun k hk hG => ?_, fun x hx => ⟨hf.blk (h7 x hx).1 (h7 x hx).2.1, fun hF => ?_, (h7 x hx).2.2⟩⟩
  · rcases hg k hk with e | e
    · exact h3 k e
    · omega
  · rcases hg k hk with e | e
    · exact h6 k e hG
    · have := h2.lt k hG; omega
  · rcases hg _ hF with e | e
    · exact (h7 x hx).2.1 e
    · have := lt_blk (h7 x hx).1; omega
theorem PS.stepR {w' : World} {L' : List Tm} {rn' : Nat} {F G G' : Nat → Prop} (h1 : WT w p now g F) (h3 : ∀ k, F k → w0.heap.size ≤ k) (h4 : ∀ k, G k → w0.heap.size ≤ k) (h5 : Below w0.heap.size w0 w) (h6 : ∀ k, F k → ¬ G k) (h7 : ∀ x ∈ X, w.heap[x.1]? = some x.2 ∧ ¬ F x.1 ∧ ¬ G x.1) (hw : RW w' q L' rn' G') (hf : Fr G w w') (hg : Gro G G' w) : PS w0 w' p now g q L' rn' X := by
  have hs := h5.size
  refine ⟨F, G', h1.fr hf (fun k hk e => h6 k hk e), hw, h3, fun k hk => ?_, h5.trans (hf.below h5.size (fun k _ e => h4 k e)), fun k hF hk => ?_, fun x hx => ⟨hf.blk (h7 x hx).1 (h7 x hx).2.2, (h7 x hx).2.1, fun hF => ?_⟩⟩
  · rcases hg k hk with e | e
    · exact h4 k e
    · omega
  · rcases hg k hk with e | e
    · exact h6 k hF e
    · have := h1.lt hF; omega
  · rcases hg _ hF with e | e
    · exact (h7 x hx).2.2 e
    · have := lt_blk (h7 x hx).1; omega
end
section
variable (w0 w : World) (p now : Nat) (g : Nat → Option Nat) (q : Nat) (L : List Tm) (rn : Nat) (X : List (Nat × Obj)) (h : PS w0 w p now g q L rn X)
include h
theorem ps_now : Calls Try.prog 14 #[.pointer (some ⟨p, 0, none⟩)] w fun e w' => e = .returned (.int .u64 now) ∧ w = w' := by
  obtain ⟨F, G, h1, _⟩ := h
  exact wt_now p now g F w h1
theorem ps_len : Calls Try.prog 13 #[.pointer (some ⟨p, 0, none⟩)] w fun e w' => e = .returned (.int .i64 (cntT g)) ∧ w = w' := by
  obtain ⟨F, G, h1, _⟩ := h
  exact wt_len p now g F w h1
theorem ps_at (id : Int) (hk : kwf id) : Calls Try.prog 19 #[.pointer (some ⟨p, 0, none⟩), .int .i64 id] w fun e w' => e = .returned (atTV g id) ∧ PS w0 w' p now g q L rn X := by
  have h0 := h
  obtain ⟨F, G, h1, _⟩ := h
  exact (wt_at p now g F w h1 id hk).mono fun e w' hx => ⟨hx.1, h0.later hx.2⟩
theorem ps_rat (id : Int) : Calls Try.prog 20 #[.pointer (some ⟨q, 0, none⟩), .int .i64 id] w fun e w' => (∃ t c, e = .returned (.tuple #[.int .u64 (t : Nat), .int .i64 c]) ∧ atV L id t c) ∧ PS w0 w' p now g q L rn X := by
  have h0 := h
  obtain ⟨F, G, _, h2, _⟩ := h
  exact (rwat_any q L rn G id w h2).mono fun e w' hx => ⟨hx.1, h0.later hx.2⟩
theorem ps_set (id : Int) (a : Nat) (hk : kwf id) (ha : a ≤ 18446744073709551615) (c : Int) (hc : setC now id a = c) : Calls Try.prog 10 #[.pointer (some ⟨p, 0, none⟩), .int .i64 id, .int .u64 a] w fun e w' => e = .returned (.int .i64 c) ∧ PS w0 w' p now (setT now g id a) q L rn X := by
  subst hc
  obtain ⟨F, G, h1, h2, h3, h4, h5, h6, h7⟩ := h
  refine (wt_set p now g F w h1 id a hk ha).mono fun e w' hx => ?_
  obtain ⟨e1, F', hw, hf, hgr⟩ := hx
  exact ⟨e1, PS.stepW h2 h3 h4 h5 h6 h7 hw hf hgr⟩
theorem ps_cancel (id : Int) (hk : kwf id) : Calls Try.prog 15 #[.pointer (some ⟨p, 0, none⟩), .int .i64 id] w fun e w' => e = .returned (.int .i64 (canC g id)) ∧ PS w0 w' p now (canT g id) q L rn X := by
  obtain ⟨F, G, h1, h2, h3, h4, h5, h6, h7⟩ := h
  refine (wt_cancel p now g F w h1 id hk).mono fun e w' hx => ?_
  obtain ⟨e1, F', hw, hf, hgr⟩ := hx
  exact ⟨e1, PS.stepW h2 h3 h4 h5 h6 h7 hw hf hgr⟩
/-- What stands between the two calls is the list's relation to what the wheel held (g0). -/
theorem ps_rset (id : Int) (a : Nat) (g0 : Nat → Option Nat) (hr : RelT g0 L) (hg : ∀ i x, g0 i = some x → i < 1000) (c : Int) (hc : setC rn id a = c) : Calls Try.prog 16 #[.pointer (some ⟨q, 0, none⟩), .int .i64 id, .int .u64 a] w fun e w' => e = .returned (.int .i64 c) ∧ ∃ L', RelT (setT rn g0 id a) L' ∧ PS w0 w' p now g q L' rn X := by
  subst hc
  obtain ⟨F, G, h1, h2, h3, h4, h5, h6, h7⟩ := h
  refine (rwset_any q L rn G id a w h2 (by rw [hr.len hg]; have := cntT_le g0; omega) g0 hr).mono fun e w' hx => ?_
  obtain ⟨e1, L', hrel, G', hw, hf, hgr⟩ := hx
  exact ⟨e1, L', hrel, PS.stepR h1 h3 h4 h5 h6 h7 hw hf hgr⟩
theorem ps_rcancel (id : Int) (g0 : Nat → Option Nat) (hr : RelT g0 L) (hg : ∀ i x, g0 i = some x → i < 1000) : Calls Try.prog 17 #[.pointer (some ⟨q, 0, none⟩), .int .i64 id] w fun e w' => e = .returned (.int .i64 (canC g0 id)) ∧ ∃ L', RelT (canT g0 id) L' ∧ PS w0 w' p now g q L' rn X := by
  obtain ⟨F, G, h1, h2, h3, h4, h5, h6, h7⟩ := h
  refine (rwcancel_any q L rn G id w h2 (by rw [hr.len hg]; have := cntT_le g0; omega) hr.srt hr.uniq).mono fun e w' hx => ?_
  obtain ⟨L', c, e1, hcan, G', hw, hf, hgr⟩ := hx
  obtain ⟨hrel, hc⟩ := hr.can hcan
  exact ⟨by rw [e1, hc], L', hrel, PS.stepR h1 h3 h4 h5 h6 h7 hw hf hgr⟩
theorem ps_go (t : Nat) (e1 : now ≤ t) (e2 : t < 4611686018427387904) : Calls Try.prog 11 #[.pointer (some ⟨p, 0, none⟩), .int .u64 t] w fun e w' => ∃ va out vc, e = .returned (.tuple #[.slice va (List.length out) vc, .int .i64 0]) ∧ GoT g t out ∧ PS w0 w' p t (goneT g t) q L rn X ∧ OutAt w.heap.size w' (.slice va (List.length out) vc) out ∧ q < w.heap.size := by
  obtain ⟨F, G, h1, h2, h3, h4, h5, h6, h7⟩ := h
  refine (wt_go p now g F w h1 t e1 e2).mono fun e w' hx => ?_
  obtain ⟨x, out, ex, hgo, hrow, F', hw', hf, hgr, hdj⟩ := hx
  have hr0 := hrow
  obtain ⟨va, vc, rfl, _⟩ := hrow
  exact ⟨va, out, vc, ex, hgo, PS.stepW h2 h3 h4 h5 h6 h7 hw' hf hgr, hr0, h2.lt q h2.gp⟩
theorem ps_past (t : Nat) (e1 : t < now) : Calls Try.prog 11 #[.pointer (some ⟨p, 0, none⟩), .int .u64 t] w fun e w' => e = .returned (.tuple #[.slice none 0 0, .int .i64 1]) ∧ w = w' := by
  obtain ⟨F, G, h1, _⟩ := h
  exact wt_past p now g F w h1 t e1
theorem ps_rpast (t : Nat) (e1 : t < rn) (e2 : rn < 4611686018427387904) : Calls Try.prog 18 #[.pointer (some ⟨q, 0, none⟩), .int .u64 t] w fun e w' => e = .returned (.tuple #[.slice none 0 0, .int .i64 1]) ∧ w = w' := by
  obtain ⟨F, G, h1, h2, _⟩ := h
  exact rwgo_past q L rn t G w h2 e1 e2
theorem ps_rgo (t : Nat) (g0 : Nat → Option Nat) (hr : RelT g0 L) (hg : ∀ i x, g0 i = some x → i < 1000) (out : List Nat) (ho : GoT g0 t out) (e1 : rn ≤ t) (e2 : t < 4611686018427387904) : Calls Try.prog 18 #[.pointer (some ⟨q, 0, none⟩), .int .u64 t] w fun e w' => ∃ ao co L', e = .returned (.tuple #[.slice ao (List.length out) co, .int .i64 0]) ∧ RelT (goneT g0 t) L' ∧ PS w0 w' p now g q L' t X ∧ OutAt w.heap.size w' (.slice ao (List.length out) co) out ∧ Fr (fun b => b = q) w w' := by
  obtain ⟨F, G, h1, h2, h3, h4, h5, h6, h7⟩ := h
  refine (rwgo_any q L rn t G w h2 (by rw [hr.len hg]; have := cntT_le g0; omega) e1 e2).mono fun e w' hx => ?_
  obtain ⟨ao, k, co, ex, hk, x1, x2, hown, hrw, hf⟩ := hx
  obtain ⟨hids, hrel⟩ := hr.go ho x1 x2
  have hkl : k = out.length := by
    have := congrArg List.length hids
    simp [ints'] at this
    omega
  subst hkl
  have hv : idV (L.take out.length) = (ints' out).map (Value.int .i64) := by
    rw [← hids]
    unfold idV
    rw [List.map_map]; rfl
  rw [hv] at hown
  exact ⟨ao, co, _, ex, hrel, PS.stepR h1 h3 h4 h5 h6 h7 hrw (hf.mono (fun k _ e => e ▸ h2.gp)) (Gro.refl _ _), ⟨ao, co, rfl, hown⟩, hf⟩
end
theorem PS.new {w0 w1 w2 : World} {p : Nat} {F : Nat → Prop} (h0 : Below w0.heap.size w0 w1) (a1 : WT w2 p 0 (fun _ => none) F) (a2 : ∀ k, F k → w1.heap.size ≤ k) (a3 : Below w1.heap.size w1 w2) :
    PS w0 (w2.alloc (.cells #[.slice none 0 0, .int .u64 0] 48)) p 0 (fun _ => none) w2.heap.size [] 0 [] := by
  have s0 := h0.size
  have s1 := a3.size
  refine ⟨F, _, a1.fr (Fr.of_below (F := fun _ => False) ((Below.refl _ _).alloc (Nat.le_refl _) _)) (fun _ _ h => h), RW.new w2, fun k hk => by have := a2 k hk; omega, fun k hk => by omega, (h0.trans (a3.mono s0)).alloc (by omega) _, fun k hk e => by have := a1.lt hk; omega, fun x hx => by cases hx⟩

end Go.Proofs.Ythlaebleaooeiaa
