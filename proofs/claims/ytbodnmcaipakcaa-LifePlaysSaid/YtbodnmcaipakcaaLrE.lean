/-
  A book, and the document's one, side by side in a law; Same.
-/
import Derived.Test.YtbodnmcaipakcaaLrC
import Derived.Test.YtbodnmcaipakcaaLrD
import Derived.BigQuiet
namespace Go.Proofs.Ytbodnmcaipakcaa
open Go.RowKit

theorem RK.same {w w' : World} {q cost now : Nat} {L : List Tm} {fs : List FateM} {G : Nat → Prop} (h : RK w q cost now L fs G) (hs : ∀ k, G k → w'.heap[k]? = w.heap[k]?) : RK w' q cost now L fs G := by
  obtain ⟨a, c, fv, h, rfl⟩ := h
  refine ⟨a, c, fv, ⟨by rw [hs q (.inl rfl)]; exact h.blk, ?_, ownsRow_fr h.out (fun k hk => hs k (.inr (.inr hk))), h.s⟩, rfl⟩
  rcases h.row with h1 | ⟨g, off, e, hg, hgp, h1, h2, h3⟩
  · exact .inl h1
  · have e1 := hs g (.inr (.inl ⟨_, e, rfl⟩))
    refine .inr ⟨g, off, e, ⟨?_, hg.2⟩, hgp, h1, h2, fun j u hu => (World.cell?_of_block (w := w) e1).trans (h3 j u hu)⟩
    rcases Nat.lt_or_ge g w'.heap.size with h4 | h4
    · exact h4
    · rw [Array.getElem?_eq_none h4, Array.getElem?_eq_getElem hg.1] at e1
      cases e1
theorem RK.blocks {w : World} {q cost now : Nat} {L : List Tm} {fs : List FateM} {G : Nat → Prop} (h : RK w q cost now L fs G) : ∃ GX : List (Nat × Obj), (∀ k, G k → ∃ o, (k, o) ∈ GX) ∧ ∀ x ∈ GX, w.heap[x.1]? = some x.2 ∧ G x.1 := by
  have hl := fun {k} => RK.lt h (k := k)
  obtain ⟨a, c, fv, h, rfl⟩ := h
  have key : ∀ l : List Nat, (∀ k ∈ l, RF q a fv k) → ∃ GX : List (Nat × Obj), (∀ k ∈ l, ∃ o, (k, o) ∈ GX) ∧ ∀ x ∈ GX, w.heap[x.1]? = some x.2 ∧ RF q a fv x.1 := by
    intro l
    induction l with
    | nil => intro _; exact ⟨[], fun k h => (by cases h), fun x h => (by cases h)⟩
    | cons k l ih =>
      intro hk
      obtain ⟨GX, h1, h2⟩ := ih (fun j hj => hk j (List.mem_cons_of_mem _ hj))
      have hkl := hl (hk k (List.mem_cons_self ..))
      refine ⟨(k, w.heap[k]) :: GX, fun j hj => ?_, fun x hx => ?_⟩
      · rcases List.mem_cons.1 hj with rfl | hj
        · exact ⟨_, List.mem_cons_self ..⟩
        · obtain ⟨o, ho⟩ := h1 j hj
          exact ⟨o, List.mem_cons_of_mem _ ho⟩
      · rcases List.mem_cons.1 hx with rfl | hx
        · exact ⟨Array.getElem?_eq_getElem hkl, hk k (List.mem_cons_self ..)⟩
        · exact h2 x hx
  obtain ⟨GX, h1, h2⟩ := key ((q :: (a.map (·.block)).toList) ++ fv.ownBlock.toList) (fun k hk => by
    rcases List.mem_append.1 hk with hk | hk
    · rcases List.mem_cons.1 hk with rfl | hk
      · exact .inl rfl
      · cases a with
        | none => simp at hk
        | some ad => simp at hk; exact .inr (.inl ⟨ad, rfl, hk.symm⟩)
    · cases hf : fv.ownBlock with
      | none => rw [hf] at hk; simp at hk
      | some g => rw [hf] at hk; simp at hk; subst hk; exact .inr (.inr hf))
  refine ⟨GX, fun k hk => h1 k ?_, h2⟩
  rcases hk with rfl | ⟨ad, rfl, rfl⟩ | hk
  · exact List.mem_append_left _ (List.mem_cons_self ..)
  · exact List.mem_append_left _ (by simp)
  · exact List.mem_append_right _ (by rw [hk]; simp)

/-- Both, apart. -/
def P2 (w0 w : World) (p cost now : Nat) (d : Int → Option Nat) (fs : List FateM) (q nw : Nat) (L : List Tm) (fr : List FateM) (X : List (Nat × Obj)) : Prop :=
  ∃ GX G, LS w0 w p cost now d fs (X ++ GX) ∧ RK w q cost nw L fr G ∧ (∀ k, G k → ∃ o, (k, o) ∈ GX) ∧ (∀ k, G k → w0.heap.size ≤ k) ∧ ∀ x ∈ X, ¬ G x.1
section
variable {w0 w : World} {p cost now : Nat} {d : Int → Option Nat} {fs : List FateM} {q nw : Nat} {L : List Tm} {fr : List FateM} {X : List (Nat × Obj)}
theorem P2.below (h : P2 w0 w p cost now d fs q nw L fr X) : Below w0.heap.size w0 w := by obtain ⟨_, _, h, _⟩ := h; exact h.below
theorem P2.blk (h : P2 w0 w p cost now d fs q nw L fr X) {x : Nat × Obj} (hx : x ∈ X) : w.heap[x.1]? = some x.2 := by
  obtain ⟨_, _, h, _⟩ := h; exact h.blk (List.mem_append_left _ hx)
theorem P2.facts (h : P2 w0 w p cost now d fs q nw L fr X) : 1 ≤ cost ∧ cost ≤ 1000 ∧ now < 4611686018427387904 ∧ ∀ x a, d x = some a → 0 ≤ x ∧ x ≤ 65535 ∧ now + cost < a ∧ a < 4611686018427387904 := by
  obtain ⟨_, _, h, _⟩ := h; exact h.facts
theorem P2.sub {Y : List (Nat × Obj)} (h : P2 w0 w p cost now d fs q nw L fr X) (hY : ∀ x ∈ Y, x ∈ X) : P2 w0 w p cost now d fs q nw L fr Y := by
  obtain ⟨GX, G, h1, h2, h3, h4, h5⟩ := h
  exact ⟨GX, G, h1.sub (fun x hx => by
    rcases List.mem_append.1 hx with e | e
    · exact List.mem_append_left _ (hY x e)
    · exact List.mem_append_right _ e), h2, h3, h4, fun x hx => h5 x (hY x hx)⟩
theorem P2.left (h : P2 w0 w p cost now d fs q nw L fr X) : ∃ Y, LS w0 w p cost now d fs Y ∧ ∀ (w' : World) (now' : Nat) (d' : Int → Option Nat) (fs' : List FateM) (Z : List (Nat × Obj)), LS w0 w' p cost now' d' fs' (Y ++ Z) → (∀ z ∈ Z, ∀ y ∈ Y, y.1 ≠ z.1) → P2 w0 w' p cost now' d' fs' q nw L fr (X ++ Z) := by
  obtain ⟨GX, G, h1, h2, h3, h4, h5⟩ := h
  refine ⟨X ++ GX, h1, fun w' now' d' fs' Z hx hz => ⟨GX, G, hx.sub (fun x hx => ?_), h2.same (fun k hk => ?_), h3, h4, fun x hx hG => ?_⟩⟩
  · simp only [List.mem_append] at hx ⊢
    rcases hx with (e | e) | e
    · exact .inl (.inl e)
    · exact .inr e
    · exact .inl (.inr e)
  · obtain ⟨o, ho⟩ := h3 k hk
    have e1 := h1.blk (q := (k, o)) (List.mem_append_right _ ho)
    have e2 := hx.blk (q := (k, o)) (List.mem_append_left _ (List.mem_append_right _ ho))
    simp only at e1 e2
    rw [e1, e2]
  · rcases List.mem_append.1 hx with e | e
    · exact h5 x e hG
    · obtain ⟨o, ho⟩ := h3 _ hG
      exact hz x e _ (List.mem_append_right _ ho) rfl
theorem P2.right (h : P2 w0 w p cost now d fs q nw L fr X) : ∃ G, RK w q cost nw L fr G ∧ ∀ (w' : World) (nw' : Nat) (L' : List Tm) (fr' : List FateM) (G' : Nat → Prop), RK w' q cost nw' L' fr' G' → Fr G w w' → Gro G G' w → P2 w0 w' p cost now d fs q nw' L' fr' X := by
  obtain ⟨GX, G, h1, h2, h3, h4, h5⟩ := h
  refine ⟨G, h2, fun w' nw' L' fr' G' hk hf hg => ?_⟩
  obtain ⟨GX', b1, b2⟩ := hk.blocks
  obtain ⟨M, F, m1, m2, m3, m4, m5, m6, m7, m8, m9⟩ := h1
  have hGF : ∀ k, F k → ¬ G k := fun k hF hG => by
    obtain ⟨o, ho⟩ := h3 k hG
    exact (m9 (k, o) (List.mem_append_right _ ho)).2 hF
  have hG'F : ∀ k, G' k → ¬ F k := fun k hG hF => by
    rcases hg k hG with e | e
    · exact hGF k hF e
    · have := m1.lt hF; omega
  have hs := m8.size
  refine ⟨GX', G', ⟨M, F, m1.fr hf hGF, m2, m3, m4, m5, m6, m7, m8.trans (hf.below hs (fun k _ e => h4 k e)), fun x hx => ?_⟩, hk, b1, fun k hk => ?_, fun x hx hG => ?_⟩
  · rcases List.mem_append.1 hx with e | e
    · exact ⟨hf.blk (m9 x (List.mem_append_left _ e)).1 (h5 x e), (m9 x (List.mem_append_left _ e)).2⟩
    · exact ⟨(b2 x e).1, hG'F _ (b2 x e).2⟩
  · rcases hg k hk with e | e
    · exact h4 k e
    · omega
  · rcases hg _ hG with e | e
    · exact h5 x hx e
    · have := lt_blk (m9 x (List.mem_append_left _ hx)).1; omega
theorem P2.later {w' : World} (h : P2 w0 w p cost now d fs q nw L fr X) (hb : Below w.heap.size w w') : P2 w0 w' p cost now d fs q nw L fr X := by
  obtain ⟨GX, G, h1, h2, h3, h4, h5⟩ := h
  exact ⟨GX, G, h1.later hb, h2.later hb, h3, h4, h5⟩
theorem P2.drew (h : P2 w0 w p cost now d fs q nw L fr X) : P2 w0 w.drew p cost now d fs q nw L fr X := h.later ⟨rfl, rfl, rfl, Nat.le_refl _, fun _ _ => rfl⟩
theorem P2.alloc (h : P2 w0 w p cost now d fs q nw L fr X) (O : Obj) (B : Nat) (hB : w.heap.size = B) : P2 w0 (w.alloc O) p cost now d fs q nw L fr ((B, O) :: X) := by
  subst hB
  obtain ⟨GX, G, h1, h2, h3, h4, h5⟩ := h
  refine ⟨GX, G, h1.alloc O _ rfl, h2.later ((Below.refl _ _).alloc (Nat.le_refl _) _), h3, h4, fun x hx hG => ?_⟩
  rcases List.mem_cons.1 hx with rfl | hx
  · have := h2.lt hG; simp only at this; omega
  · exact h5 x hx hG
theorem P2.cells (h : P2 w0 w p cost now d fs q nw L fr X) : w.cell? ⟨q, 1, none⟩ = some (.int .u64 nw) ∧ ∃ a c, w.cell? ⟨q, 2, none⟩ = some (.slice a L.length c) ∧ ∀ k (hk : k < L.length), ∃ g off, a = some ⟨g, off, none⟩ ∧ w.cell? ⟨g, off + k * 2, none⟩ = some (.int .i64 L[k].id) ∧ w.cell? ⟨g, off + k * 2 + 1, none⟩ = some (.int .u64 L[k].at') := by
  obtain ⟨_, _, _, ⟨a, c, fv, h, rfl⟩, _⟩ := h
  refine ⟨h.c1, a, c, h.c2, fun k hk => ?_⟩
  rcases h.row with ⟨_, e, _⟩ | ⟨g, off, e, _, _, _, _, hc⟩
  · rw [e] at hk; simp at hk
  · have := tcells_get hk
    exact ⟨g, off, e, hc _ _ this.1, by have := hc _ _ this.2; rwa [← Nat.add_assoc] at this⟩
end
section
variable (w0 w : World) (p cost now : Nat) (d : Int → Option Nat) (fs : List FateM) (q nw : Nat) (L : List Tm) (fr : List FateM) (X : List (Nat × Obj)) (h : P2 w0 w p cost now d fs q nw L fr X)
include h
theorem p2_count : Calls Try.prog 15 #[.pointer (some ⟨p, 0, none⟩)] w fun e w' => e = .returned (.int .i64 (cntD d)) ∧ w = w' := by
  obtain ⟨Y, h1, _⟩ := h.left
  exact ls_count w0 w p cost now d fs Y h1
theorem p2_has (id : Int) (hk : kwf id) : Calls Try.prog 16 #[.pointer (some ⟨p, 0, none⟩), .int .i64 id] w fun e w' => e = .returned (hasV d id) ∧ P2 w0 w' p cost now d fs q nw L fr X := by
  obtain ⟨Y, h1, h2⟩ := h.left
  exact (ls_has w0 w p cost now d fs Y h1 id hk).mono fun e w' hx => ⟨hx.1, (h2 w' _ _ _ [] (by rw [List.append_nil]; exact hx.2) (fun z hz => by cases hz)).sub (fun x hx => List.mem_append_left _ hx)⟩
theorem p2_open (id : Int) (dead : Nat) (hk : kwf id) (hd : dead ≤ 18446744073709551615) (c : Int) (hc : openD cost now d id dead = c) : Calls Try.prog 11 #[.pointer (some ⟨p, 0, none⟩), .int .i64 id, .int .u64 dead] w fun e w' => e = .returned (.int .i64 c) ∧ P2 w0 w' p cost now (if c = 0 then at1 d id (some dead) else d) fs q nw L fr X := by
  obtain ⟨Y, h1, h2⟩ := h.left
  exact (ls_open w0 w p cost now d fs Y h1 id dead hk hd c hc).mono fun e w' hx => ⟨hx.1, (h2 w' _ _ _ [] (by rw [List.append_nil]; exact hx.2) (fun z hz => by cases hz)).sub (fun x hx => List.mem_append_left _ hx)⟩
theorem p2_answer (id st : Int) (bad : Bool) (hk : kwf id) (hl : fs.length ≤ 900000) : Calls Try.prog 12 #[.pointer (some ⟨p, 0, none⟩), .int .i64 id, .int .i64 st, .bool bad] w fun e w' => e = .returned (.int .i64 (ansC d id st)) ∧ P2 w0 w' p cost now (ansD d id st) (ansF d fs id st bad) q nw L fr X := by
  obtain ⟨Y, h1, h2⟩ := h.left
  exact (ls_answer w0 w p cost now d fs Y h1 id st bad hk hl).mono fun e w' hx => ⟨hx.1, (h2 w' _ _ _ [] (by rw [List.append_nil]; exact hx.2) (fun z hz => by cases hz)).sub (fun x hx => List.mem_append_left _ hx)⟩
theorem p2_cancel (id : Int) (hk : kwf id) (hl : fs.length ≤ 900000) : Calls Try.prog 14 #[.pointer (some ⟨p, 0, none⟩), .int .i64 id] w fun e w' => e = .returned (.int .i64 (outD d id)) ∧ P2 w0 w' p cost now (at1 d id none) (fsO d fs ⟨id, 2, 3⟩) q nw L fr X := by
  obtain ⟨Y, h1, h2⟩ := h.left
  exact (ls_cancel w0 w p cost now d fs Y h1 id hk hl).mono fun e w' hx => ⟨hx.1, (h2 w' _ _ _ [] (by rw [List.append_nil]; exact hx.2) (fun z hz => by cases hz)).sub (fun x hx => List.mem_append_left _ hx)⟩
theorem p2_gobad (t : Nat) (ht : t ≤ 18446744073709551615) (c : Int) (hc : (4611686018427387904 ≤ t ∧ c = 2) ∨ (t < now ∧ c = 1)) : Calls Try.prog 13 #[.pointer (some ⟨p, 0, none⟩), .int .u64 t] w fun e w' => e = .returned (.tuple #[.slice none 0 0, .int .i64 c]) ∧ w = w' := by
  obtain ⟨Y, h1, _⟩ := h.left
  exact ls_gobad w0 w p cost now d fs Y h1 t ht c hc
theorem p2_go (t : Nat) (e1 : now ≤ t) (e2 : t < 4611686018427387904) (hl : fs.length ≤ 900000) :
    Calls Try.prog 13 #[.pointer (some ⟨p, 0, none⟩), .int .u64 t] w fun e w' => ∃ (fo : Option Addr) (n c : Nat) (l : List Int) (Y : List (Nat × Obj)), e = .returned (.tuple #[.slice fo n c, .int .i64 0]) ∧ LateL d (t + cost) l ∧ n = (fs ++ timeF l).length ∧ P2 w0 w' p cost t (lateD d (t + cost)) [] q nw L fr (X ++ Y) ∧
      ∀ j (hj : j < (fs ++ timeF l).length), ∃ b cur, fo = some ⟨b, 0, none⟩ ∧ (b, Obj.cells cur 35 (0, 0)) ∈ Y ∧ cur[j * 3]? = some (.int .i64 (fs ++ timeF l)[j].id) ∧ cur[j * 3 + 1]? = some (.int .i64 (fs ++ timeF l)[j].kind) ∧ cur[j * 3 + 2]? = some (.int .i64 (fs ++ timeF l)[j].why) := by
  obtain ⟨Y0, h1, h2⟩ := h.left
  refine (ls_go w0 w p cost now d fs Y0 h1 t e1 e2 hl).mono fun e w' hx => ?_
  obtain ⟨fo, n, c, l, Y, a1, a2, a3, a4, a5, a6, a7⟩ := hx
  exact ⟨fo, n, c, l, Y, a1, a2, a3, h2 w' _ _ _ Y a4 a5, a7⟩
/-! The document's side. -/
theorem p2_rout {f : Nat} {args : Array Value} {v : Value} {dn : Int → Option Nat} {fn : List FateM}
    (hc : ∀ G, RK w q cost nw L fr G → Calls Try.prog f args w fun e w' => e = .returned v ∧ ∃ L', RelB dn L' ∧ RKPost w q cost nw L' fn G w') : Calls Try.prog f args w fun e w' => e = .returned v ∧ ∃ L', RelB dn L' ∧ P2 w0 w' p cost now d fs q nw L' fn X := by
  obtain ⟨G, h1, h2⟩ := h.right
  refine (hc G h1).mono fun e w' hx => ?_
  obtain ⟨a1, L', a2, G', a3, a4, a5⟩ := hx
  exact ⟨a1, L', a2, h2 w' nw L' fn G' a3 a4 a5⟩
theorem p2_ranswer (dr : Int → Option Nat) (hr : RelB dr L) (hlen : L.length ≤ 1000000) (hfl : fr.length ≤ 1000000) (id st : Int) (bad : Bool) : Calls Try.prog 18 #[.pointer (some ⟨q, 0, none⟩), .int .i64 id, .int .i64 st, .bool bad] w fun e w' => e = .returned (.int .i64 (ansC dr id st)) ∧ ∃ L', RelB (ansD dr id st) L' ∧ P2 w0 w' p cost now d fs q nw L' (ansF dr fr id st bad) X :=
  p2_rout w0 w p cost now d fs q nw L fr X h fun G hk => rkanswer_any q cost nw L fr G id st bad w hk hlen hfl dr hr
theorem p2_rcancel (dr : Int → Option Nat) (hr : RelB dr L) (hlen : L.length ≤ 1000000) (hfl : fr.length ≤ 1000000) (id : Int) : Calls Try.prog 19 #[.pointer (some ⟨q, 0, none⟩), .int .i64 id] w fun e w' => e = .returned (.int .i64 (outD dr id)) ∧ ∃ L', RelB (at1 dr id none) L' ∧ P2 w0 w' p cost now d fs q nw L' (fsO dr fr ⟨id, 2, 3⟩) X :=
  p2_rout w0 w p cost now d fs q nw L fr X h fun G hk => rkcancel_any q cost nw L fr G id w hk hlen hfl dr hr
theorem p2_ropen (dr : Int → Option Nat) (hr : RelB dr L) (hd : ∀ x a, dr x = some a → 0 ≤ x ∧ x ≤ 65535) (hcn : cost ≤ 1000 ∧ nw < 4611686018427387904) (id : Int) (dead : Nat) (c : Int) (hc : openD cost nw dr id dead = c) : Calls Try.prog 17 #[.pointer (some ⟨q, 0, none⟩), .int .i64 id, .int .u64 dead] w fun e w' => e = .returned (.int .i64 c) ∧ ∃ L', RelB (if c = 0 then at1 dr id (some dead) else dr) L' ∧ P2 w0 w' p cost now d fs q nw L' fr X := by
  refine p2_rout w0 w p cost now d fs q nw L fr X h fun G hk => ?_
  have hlen := hr.len hd
  obtain ⟨r, hf, hrr⟩ : ∃ r, FindR L id r ∧ (0 ≤ r ↔ (dr id).isSome = true) := by
    rcases hr.find id with ⟨h1, h2⟩ | ⟨k, hk, h1, h2, h3⟩
    · exact ⟨-1, h2, by rw [h1]; simp⟩
    · exact ⟨k, h3, by rw [h2]; simp⟩
  have hoc : openRC cost nw L r id dead = c := by
    rw [← hc]
    unfold openRC openD
    rw [hlen]
    by_cases e : 0 ≤ r
    · rw [if_pos e, if_pos (hrr.1 e)]
    · rw [if_neg e, if_neg (fun e2 => e (hrr.2 e2))]
  by_cases h0 : c = 0
  · rw [if_pos h0]
    subst h0
    unfold openD at hc
    split at hc; · omega
    split at hc; · omega
    split at hc; · omega
    split at hc; · omega
    split at hc; · omega
    rename_i g1 g2 g3 g4 g5
    have hn : dr id = none := by cases e : dr id with
      | none => rfl
      | some a => rw [e] at g3; exact absurd rfl g3
    have hfn : FindR L id (-1) := by
      rcases hr.find id with ⟨_, h2⟩ | ⟨k, hk, h1, h2, h3⟩
      · exact h2
      · rw [hn] at h2; cases h2
    refine (rbopen_core q cost nw L fr G id dead w hk (by rw [hlen]; omega) hr.srt hfn (by omega) (by omega) (by omega) (by omega) hcn).mono fun e w' hx => ?_
    obtain ⟨a1, L', a2, a3⟩ := hx
    refine ⟨a1, L', ⟨a2.1, fun m => ?_⟩, a3⟩
    rw [a2.2, hr.mem]
    by_cases e : m.id = id
    · rw [e, at1_same, hn]
      constructor
      · rintro (h | h)
        · rw [h]
        · cases h
      · intro h
        injection h with h
        left
        cases m
        simp_all
    · rw [at1_ne _ _ e]
      constructor
      · rintro (h | h)
        · rw [h] at e; exact absurd rfl e
        · exact h
      · exact fun h => .inr h
  · rw [if_neg h0]
    refine (rbopen_bad q cost nw L fr G id dead w hk (by rw [hlen]; exact Nat.le_trans (List.length_filter_le ..) (by simp)) r hf c hoc h0 hcn).mono fun e w' hx => ?_
    exact ⟨hx.1, L, hr, G, hk.later hx.2, Fr.of_below hx.2, Gro.refl _ _⟩
theorem p2_rgobad (t : Nat) (c : Int) (hc : (4611686018427387904 ≤ t ∧ c = 2) ∨ (t < nw ∧ c = 1)) (h2 : nw < 4611686018427387904) : Calls Try.prog 20 #[.pointer (some ⟨q, 0, none⟩), .int .u64 t] w fun e w' => e = .returned (.tuple #[.slice none 0 0, .int .i64 c]) ∧ w = w' := by
  obtain ⟨G, h1, _⟩ := h.right
  rcases hc with ⟨a, rfl⟩ | ⟨a, rfl⟩
  · exact rkgo_big q t w a
  · exact rkgo_past q cost nw t L fr G w h1 a h2
theorem p2_rgo (dr : Int → Option Nat) (hr : RelB dr L) (hd : ∀ x a, dr x = some a → 0 ≤ x ∧ x ≤ 65535 ∧ cost ≤ a ∧ a ≤ 4611686018427387904) (hlen : L.length ≤ 65536) (hfl : fr.length ≤ 900000) (hco : cost ≤ 1000) (t : Nat) (e1 : nw ≤ t) (e2 : t < 4611686018427387904) (l : List Int) (hl : LateL dr (t + cost) l) :
    Calls Try.prog 20 #[.pointer (some ⟨q, 0, none⟩), .int .u64 t] w fun e w' => ∃ fo N fc L', e = .returned (.tuple #[.slice fo N fc, .int .i64 0]) ∧ N = (fr ++ timeF l).length ∧ RelB (lateD dr (t + cost)) L' ∧ w'.ownsRow 0 35 3 (.slice fo N fc) N (fcells (fr ++ timeF l)) ∧ P2 w0 w' p cost now d fs q t L' [] X := by
  obtain ⟨G, h1, h2⟩ := h.right
  refine (rkgo_any q cost nw t L fr G w h1 hlen hfl e1 e2 hco dr hr (fun m hm => (hd _ _ ((hr.mem m).1 hm)).2.2)).mono fun e w' hx => ?_
  obtain ⟨k, fo, N, fc, a1, a2, a3, a4, a5, a6, G', a7, a8, a9, _⟩ := hx
  have hL : ∀ m, m ∈ L ↔ m ∈ L.take k ∨ m ∈ L.drop k := fun m => by
    conv => lhs; rw [← List.take_append_drop k L]
    exact List.mem_append
  have hle : ∀ m ∈ L.take k, m.at' ≤ t + cost := fun m hm => by
    obtain ⟨i, hi, rfl⟩ := List.getElem_of_mem hm
    rw [List.length_take] at hi
    rw [List.getElem_take]
    exact a3 i (by omega) (by omega)
  have hgt : ∀ m ∈ L.drop k, t + cost < m.at' := fun m hm => by
    obtain ⟨i, hi, rfl⟩ := List.getElem_of_mem hm
    rw [List.length_drop] at hi
    rw [List.getElem_drop]
    have hk : k < L.length := by omega
    have h3 := a4 hk
    by_cases e : i = 0
    · subst e; simpa using h3
    · have := tsort_idx hr.srt hk (j := k + i) (by omega) (by omega)
      unfold Tm.lt at this
      omega
  have hll : (L.take k).map Tm.id = l := by
    refine late_eq ⟨?_, fun x => ?_⟩ hl
    · rw [List.pairwise_map]
      refine (hr.srt.sublist (List.take_sublist k L)).imp_of_mem fun {a b} ha hb hab => ?_
      rw [(hr.mem a).1 ((hL a).2 (.inl ha)), (hr.mem b).1 ((hL b).2 (.inl hb))]
      exact hab
    · rw [List.mem_map]
      constructor
      · rintro ⟨m, hm, rfl⟩
        exact ⟨_, (hr.mem m).1 ((hL m).2 (.inl hm)), hle m hm⟩
      · rintro ⟨a, ha, hat⟩
        rcases (hL _).1 ((hr.mem ⟨x, a⟩).2 ha) with h | h
        · exact ⟨_, h, rfl⟩
        · have := hgt _ h; simp only at this; omega
  rw [hll] at a5 a6
  refine ⟨fo, N, fc, _, a1, a5, ⟨hr.srt.sublist (List.drop_sublist _ _), fun m => ?_⟩, a6, h2 w' t _ [] G' a7 a8 a9⟩
  rw [lateD_some]
  constructor
  · intro hm
    exact ⟨(hr.mem m).1 ((hL m).2 (.inr hm)), hgt m hm⟩
  · rintro ⟨e1, e2⟩
    rcases (hL m).1 ((hr.mem m).2 e1) with g1 | g1
    · have := hle m g1; omega
    · exact g1
end
theorem P2.new {w0 w : World} {p cost : Nat} (h : LS w0 w p cost 0 (fun _ => none) [] []) : P2 w0 (w.alloc (.cells #[.int .u64 cost, .int .u64 0, .slice none 0 0, .slice none 0 0] 55)) p cost 0 (fun _ => none) [] w.heap.size 0 [] [] [] := by
  have hs := h.below.size
  refine ⟨[(w.heap.size, .cells #[.int .u64 cost, .int .u64 0, .slice none 0 0, .slice none 0 0] 55 (0, 0))], fun k => k = w.heap.size, h.alloc _ _ rfl, ⟨none, 0, .slice none 0 0, ⟨blk_new _ _, .inl ⟨rfl, rfl, rfl⟩, ⟨by simp [fcells], .inl ⟨rfl, rfl⟩⟩, fun e => by simp [Value.ownBlock] at e⟩, ?_⟩, fun k hk => (by obtain rfl : k = w.heap.size := hk; exact ⟨_, List.mem_cons_self ..⟩), fun k hk => (by obtain rfl : k = w.heap.size := hk; omega), fun x hx => by cases hx⟩
  funext k
  unfold RF
  simp [Value.ownBlock]

/-- Outcomes that lie in a row. -/
def FAt (w : World) (ao : Option Addr) (fs : List FateM) : Prop := 0 < fs.length → ∃ b off, ao = some ⟨b, off, none⟩ ∧ b < w.heap.size ∧ ∀ j (hj : j < fs.length), w.cell? ⟨b, off + j * 3, none⟩ = some (.int .i64 fs[j].id) ∧ w.cell? ⟨b, off + j * 3 + 1, none⟩ = some (.int .i64 fs[j].kind) ∧ w.cell? ⟨b, off + j * 3 + 2, none⟩ = some (.int .i64 fs[j].why)
theorem FAt.own {w : World} {B : Nat} {ao : Option Addr} {c : Nat} {fs : List FateM} (h : w.ownsRow B 35 3 (.slice ao fs.length c) fs.length (fcells fs)) : FAt w ao fs := fun h0 => by
  have hr := RowAt.of_owns h
  rcases hr.2 with ⟨_, e⟩ | ⟨b, off, cap, e, _, _, _, hb, hc⟩
  · omega
  · injection e with e _ _
    refine ⟨b, off, e, hb, fun j hj => ?_⟩
    obtain ⟨f1, f2, f3⟩ := fcells_get hj
    exact ⟨hc _ _ f1, by rw [Nat.add_assoc]; exact hc _ _ f2, by rw [Nat.add_assoc]; exact hc _ _ f3⟩
theorem FAt.own2 {w : World} {B : Nat} {ao : Option Addr} {N c : Nat} {fs : List FateM} (hN : N = fs.length) (h : w.ownsRow B 35 3 (.slice ao N c) N (fcells fs)) : FAt w ao fs := by
  subst hN; exact FAt.own h
set_option maxHeartbeats 4000000 in
theorem rsame_any (ao ao' : Option Addr) (fs : List FateM) (n c c' : Nat) (w : World) (hn : n = fs.length) (h1 : FAt w ao fs) (h2 : FAt w ao' fs) (h6 : n ≤ 1000000) :
    Calls Try.prog 21 #[.slice ao n c, .slice ao' n c'] w fun e w' => e = .returned (.bool true) ∧ Below w.heap.size w w' := by
  have H1 := Box.mk h1
  have H2 := Box.mk h2
  have HN := Box.mk hn
  have hnn : ((n : Int) != (n : Int)) = false := by simp
  clear h1 h2 hn
  go_enter Try.func21, Try.ntmps21
  go_upto_block 0 with fail
  clear hnn
  go_wp2
  go_loopw [5] (fun i wr => ∃ k : Nat, k ≤ n ∧ i = .int .i64 k ∧ Box (Below w.heap.size w wr)) (fun i _ => n - (intOf i).toNat)
  case atStart => exact ⟨0, Nat.zero_le _, rfl, ⟨Below.refl _ _⟩⟩
  case round =>
    obtain ⟨k, hk, rfl, HB⟩ := hrel
    by_cases hlt : k < n
    · have hkl : k < fs.length := by rw [← HN.out]; exact hlt
      obtain ⟨b, off, rfl, hb, hc⟩ := H1.out (by omega)
      obtain ⟨b', off', rfl, hb', hc'⟩ := H2.out (by omega)
      have a0 := (HB.out.cell (p := ⟨b, off + k * 3, none⟩) hb).trans (hc k hkl).1
      have a1 := (HB.out.cell (p := ⟨b, off + k * 3 + 1, none⟩) hb).trans (hc k hkl).2.1
      have a2 := (HB.out.cell (p := ⟨b, off + k * 3 + 2, none⟩) hb).trans (hc k hkl).2.2
      have b0 := (HB.out.cell (p := ⟨b', off' + k * 3, none⟩) hb').trans (hc' k hkl).1
      have b1 := (HB.out.cell (p := ⟨b', off' + k * 3 + 1, none⟩) hb').trans (hc' k hkl).2.1
      have b2 := (HB.out.cell (p := ⟨b', off' + k * 3 + 2, none⟩) hb').trans (hc' k hkl).2.2
      have hki : (k : Int) < n := by omega
      have hk0 : (0 : Int) ≤ k := by omega
      generalize fs[k] = F at a0 a1 a2 b0 b1 b2
      obtain ⟨x, y, z⟩ := F
      simp only at a0 a1 a2 b0 b1 b2
      clear hc hc' hkl hb hb'
      go_wp2
      go_quiet (fail)
      go_wp2
      go_roundw
      case rel => exact ⟨k + 1, by omega, by go_num, ⟨by first | exact HB.out | exact HB.out.trans (Below.mono ⟨rfl, rfl, rfl, Nat.le_refl _, fun _ _ => rfl⟩ HB.out.size)⟩⟩
      case measure => simp [intOf] <;> omega
    · have hki : ¬ (k : Int) < n := by omega
      go_wp2
      go_ret
      exact ⟨rfl, HB.out⟩

end Go.Proofs.Ytbodnmcaipakcaa
