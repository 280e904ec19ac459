/-
  The wheel in plain words: the time, and when each timer goes off.
-/
import Derived.Test.YtbodnmcaipakcaaWhN
import Derived.Test.YtbodnmcaipakcaaAppR
namespace Go.Proofs.Ytbodnmcaipakcaa
open Go.RowKit Go.ChangeMaps Go.MapKept

/-- A wheel at p: the time, and when each timer goes off. -/
def WT (w : World) (p now : Nat) (g : Nat → Option Nat) (F : Nat → Prop) : Prop := ∃ M, WAt w p M F ∧ WInv M ∧ M.now = now ∧ ∀ i, (M.f i).map Spot.at' = g i
/-- What a call leaves. -/
def WTPost (w : World) (p now : Nat) (g : Nat → Option Nat) (F : Nat → Prop) (w' : World) : Prop := ∃ F', WT w' p now g F' ∧ Fr F w w' ∧ Gro F F' w
theorem WT.fr {w w' : World} {p now : Nat} {g : Nat → Option Nat} {F G : Nat → Prop} (h : WT w p now g F) (hf : Fr G w w') (hG : ∀ k, F k → ¬ G k) : WT w' p now g F := by
  obtain ⟨M, h1, h2⟩ := h
  exact ⟨M, h1.fr hf hG, h2⟩
theorem WT.lt {w : World} {p now : Nat} {g : Nat → Option Nat} {F : Nat → Prop} (h : WT w p now g F) {k : Nat} (hk : F k) : k < w.heap.size := by
  obtain ⟨M, ⟨ab, rb, h1⟩, _⟩ := h
  exact h1.lt k hk
theorem WT.mem {w : World} {p now : Nat} {g : Nat → Option Nat} {F : Nat → Prop} (h : WT w p now g F) : F p := by
  obtain ⟨M, ⟨ab, rb, h1⟩, _⟩ := h
  exact h1.mem
theorem WT.facts {w : World} {p now : Nat} {g : Nat → Option Nat} {F : Nat → Prop} (h : WT w p now g F) : now < 4611686018427387904 ∧ (∀ i a, g i = some a → i < 1000 ∧ now < a ∧ a < 4611686018427387904) := by
  obtain ⟨M, _, hI, rfl, hg⟩ := h
  refine ⟨hI.now, fun i a hi => ?_⟩
  rw [← hg i, Option.map_eq_some_iff] at hi
  obtain ⟨s, hs, rfl⟩ := hi
  refine ⟨?_, (hI.at' i s hs).1, (hI.at' i s hs).2.1⟩
  rcases Nat.lt_or_ge i 1000 with g | g
  · exact g
  · rw [hI.ids i g] at hs; cases hs
theorem WInv.put {M : WM} (h : WInv M) {i a : Nat} (hi : i < 1000) (ha : M.now < a) (hb : a < 4611686018427387904) : WInv (M.put i a) := by
  refine ⟨h.now, fun j s hj => ?_, fun j hj => ?_⟩
  · simp only [WM.put, updF] at hj ⊢
    by_cases e : j = i
    · rw [if_pos e] at hj
      simp only [Option.some.injEq] at hj
      subst hj
      exact ⟨ha, hb, rfl⟩
    · rw [if_neg e] at hj; exact h.at' j s hj
  · simp only [WM.put, updF]
    rw [if_neg (by omega)]; exact h.ids j hj
theorem WInv.drop {M : WM} (h : WInv M) (i : Nat) : WInv (M.drop i) := by
  refine ⟨h.now, fun j s hj => ?_, fun j hj => ?_⟩
  · simp only [WM.drop, updF] at hj ⊢
    by_cases e : j = i
    · rw [if_pos e] at hj; cases hj
    · rw [if_neg e] at hj; exact h.at' j s hj
  · simp only [WM.drop, updF]
    by_cases e : j = i
    · rw [if_pos e]
    · rw [if_neg e]; exact h.ids j hj
/-- g, but at i. -/
def updT (g : Nat → Option Nat) (i : Nat) (o : Option Nat) : Nat → Option Nat := fun j => if j = i then o else g j
def setC (now : Nat) (id : Int) (a : Nat) : Int := if id < 0 ∨ 999 < id ∨ a ≤ now then 1 else if 4611686018427387904 ≤ a then 2 else 0
def setT (now : Nat) (g : Nat → Option Nat) (id : Int) (a : Nat) : Nat → Option Nat := if setC now id a = 0 then updT g id.toNat (some a) else g
theorem setC_zero {now : Nat} {id : Int} {a : Nat} : setC now id a = 0 ↔ 0 ≤ id ∧ id ≤ 999 ∧ now < a ∧ a < 4611686018427387904 := by
  unfold setC
  split
  · constructor
    · intro h; cases h
    · omega
  · split
    · constructor
      · intro h; cases h
      · omega
    · constructor
      · intro _; omega
      · intro _; rfl
def gI (g : Nat → Option Nat) (id : Int) : Option Nat := if 0 ≤ id then g id.toNat else none
def canC (g : Nat → Option Nat) (id : Int) : Int := if (gI g id).isSome then 0 else 6
def canT (g : Nat → Option Nat) (id : Int) : Nat → Option Nat := if 0 ≤ id then updT g id.toNat none else g
def atTV (g : Nat → Option Nat) (id : Int) : Value := match gI g id with
  | some a => .tuple #[.int .u64 a, .int .i64 0]
  | none => .tuple #[.int .u64 0, .int .i64 6]
def cntT (g : Nat → Option Nat) : Nat := (idsOf (fun i => (g i).isSome)).length
def goneT (g : Nat → Option Nat) (t : Nat) : Nat → Option Nat := fun i => (g i).bind fun a => if a ≤ t then none else some a
def tmT (g : Nat → Option Nat) (i : Nat) : Nat := (g i).getD 0
/-- What Go tells up to t. -/
def GoT (g : Nat → Option Nat) (t : Nat) (out : List Nat) : Prop :=
  out.Pairwise (fun i j => tmT g i < tmT g j ∨ (tmT g i = tmT g j ∧ i < j)) ∧ ∀ i, i ∈ out ↔ ∃ a, g i = some a ∧ a ≤ t
theorem goneT_some {g : Nat → Option Nat} {t i a : Nat} : goneT g t i = some a ↔ g i = some a ∧ t < a := by
  unfold goneT
  cases h : g i with
  | none => simp
  | some b =>
    simp only [Option.bind_some]
    by_cases hb : b ≤ t
    · rw [if_pos hb]; simp; omega
    · rw [if_neg hb]; simp; omega
theorem gI_of {M : WM} {g : Nat → Option Nat} (hg : ∀ i, (M.f i).map Spot.at' = g i) (id : Int) : (M.all id).map Spot.at' = gI g id := by
  unfold WM.all gI
  split
  · exact hg _
  · rfl
section
variable (p now : Nat) (g : Nat → Option Nat) (F : Nat → Prop) (w : World) (h : WT w p now g F)
include h
theorem wt_now : Calls Try.prog 24 #[.pointer (some ⟨p, 0, none⟩)] w fun e w' => e = .returned (.int .u64 now) ∧ w = w' := by
  obtain ⟨M, h1, h2, rfl, hg⟩ := h
  exact wnow_any p M F w h1
theorem wt_set (id : Int) (a : Nat) (hk : kwf id) (ha : a ≤ 18446744073709551615) : Calls Try.prog 26 #[.pointer (some ⟨p, 0, none⟩), .int .i64 id, .int .u64 a] w fun e w' => e = .returned (.int .i64 (setC now id a)) ∧ WTPost w p now (setT now g id a) F w' := by
  obtain ⟨M, h1, h2, rfl, hg⟩ := h
  refine (wset_any p M F id a hk ha w h1).mono fun e w' hx => ?_
  obtain ⟨e1, F', hw, hf, hgr⟩ := hx
  have hc : M.setC id a = setC M.now id a := rfl
  refine ⟨by rw [e1, hc], F', ⟨M.set id a, hw, ?_, ?_, fun i => ?_⟩, hf, hgr⟩
  · unfold WM.set
    split
    · rename_i h0
      rw [hc, setC_zero] at h0
      exact h2.put (by omega) h0.2.2.1 h0.2.2.2
    · exact h2
  · unfold WM.set; split <;> rfl
  · unfold WM.set setT
    rw [hc]
    split
    · simp only [WM.put, updF, updT]
      split
      · rfl
      · exact hg i
    · exact hg i
theorem wt_cancel (id : Int) (hk : kwf id) : Calls Try.prog 34 #[.pointer (some ⟨p, 0, none⟩), .int .i64 id] w fun e w' => e = .returned (.int .i64 (canC g id)) ∧ WTPost w p now (canT g id) F w' := by
  obtain ⟨M, h1, h2, rfl, hg⟩ := h
  refine (wcancel_any p M F id hk w h1).mono fun e w' hx => ?_
  obtain ⟨e1, F', hw, hf, hgr⟩ := hx
  have hi : (M.all id).isSome = (gI g id).isSome := by rw [← gI_of hg id]; simp
  refine ⟨by rw [e1]; unfold WM.cancelC canC; rw [hi], F', ⟨M.cancel id, hw, ?_, ?_, fun i => ?_⟩, hf, hgr⟩
  · unfold WM.cancel; split
    · exact h2.drop _
    · exact h2
  · unfold WM.cancel; split <;> rfl
  · unfold WM.cancel canT
    by_cases h0 : 0 ≤ id
    · rw [if_pos h0]
      cases hs : M.all id with
      | some s =>
        simp only [Option.isSome_some, if_true, WM.drop, updF, updT]
        split
        · rfl
        · exact hg i
      | none =>
        simp only [Option.isSome_none, Bool.false_eq_true, if_false, updT]
        split
        · rename_i e
          subst e
          unfold WM.all at hs
          rw [if_pos h0] at hs
          rw [hs]; rfl
        · exact hg i
    · rw [if_neg h0]
      have hs : M.all id = none := by unfold WM.all; rw [if_neg h0]
      rw [hs]
      exact hg i
/-- Go, where it goes. -/
theorem wt_go (t : Nat) (h1 : now ≤ t) (h2 : t < 4611686018427387904) : Calls Try.prog 28 #[.pointer (some ⟨p, 0, none⟩), .int .u64 t] w fun e w' => ∃ v out, e = .returned (.tuple #[v, .int .i64 0]) ∧ GoT g t out ∧ OutAt w.heap.size w' v out ∧ ∃ F', WT w' p t (goneT g t) F' ∧ Fr F w w' ∧ Gro F F' w ∧ ∀ k, v.ownBlock = some k → ¬ F' k := by
  obtain ⟨M, hw, hI, rfl, hg⟩ := h
  refine (wgo_any p t M F w hw hI h1 h2).mono fun e w' hx => ?_
  obtain ⟨v, out, e1, hout, hrow, F', hw', hf, hgr, hdj⟩ := hx
  have htm : ∀ i, atOf M i = tmT g i := fun i => by
    unfold atOf tmT
    rw [← hg i]
    cases M.f i <;> rfl
  refine ⟨v, out, e1, ⟨hout.1.imp fun {a b} hab => by rw [← htm, ← htm]; exact hab, fun i => ?_⟩, hrow, F', ⟨M.gone t, hw', hI.gone h2, rfl, fun i => ?_⟩, hf, hgr, hdj⟩
  · rw [hout.2, ← hg i]
    constructor
    · rintro ⟨s, e1, e2⟩; exact ⟨s.at', by rw [e1]; rfl, e2⟩
    · rintro ⟨a, e1, e2⟩
      rw [Option.map_eq_some_iff] at e1
      obtain ⟨s, e3, rfl⟩ := e1
      exact ⟨s, e3, e2⟩
  · show ((M.f i).bind _).map _ = (g i).bind _
    rw [← hg i]
    cases M.f i with
    | none => rfl
    | some s =>
      simp only [Option.bind_some, Option.map_some]
      split <;> rfl
theorem wt_past (t : Nat) (h1 : t < now) : Calls Try.prog 28 #[.pointer (some ⟨p, 0, none⟩), .int .u64 t] w fun e w' => e = .returned (.tuple #[.slice none 0 0, .int .i64 1]) ∧ w = w' := by
  obtain ⟨M, hw, hI, rfl, hg⟩ := h
  exact wgo_past p t M F w hw h1
end
theorem newW_inv : WInv newW := ⟨by decide, fun i s h => (by cases h), fun _ _ => rfl⟩
theorem wt_new (w : World) : Calls Try.prog 22 #[] w fun e w' => ∃ p F, e = .returned (.pointer (some ⟨p, 0, none⟩)) ∧ WT w' p 0 (fun _ => none) F ∧ (∀ k, F k → w.heap.size ≤ k) ∧ Below w.heap.size w w' :=
  (wnew_any w).mono fun e w' h => ⟨_, _, h.1, ⟨newW, h.2.1, newW_inv, rfl, fun _ => rfl⟩, fun k hk => by omega, h.2.2⟩

theorem OutAt.row' {B : Nat} {w : World} {v : Value} {out : List Nat} (h : OutAt B w v out) : ∃ va vc, v = .slice va out.length vc ∧ True := by
  obtain ⟨a, c, e, _⟩ := h
  exact ⟨a, c, e, trivial⟩
theorem OutAt.nil (B : Nat) (w : World) : OutAt B w (.slice none 0 0) [] := ⟨none, 0, rfl, by simp [ints'], .inl ⟨rfl, rfl⟩⟩
theorem OutAt.lt {B : Nat} {w : World} {v : Value} {out : List Nat} (h : OutAt B w v out) {k : Nat} (hk : v.ownBlock = some k) : B ≤ k ∧ k < w.heap.size := by
  obtain ⟨_, _, _, hown⟩ := h
  exact ownsRow_lt hown hk
theorem OutAt.mono {B B' : Nat} {w : World} {v : Value} {out : List Nat} (h : OutAt B w v out) (hB : B' ≤ B) : OutAt B' w v out := by
  obtain ⟨a, c, e, hown⟩ := h
  exact ⟨a, c, e, ownsRow_mono hown hB⟩
theorem OutAt.rowAt {B : Nat} {w : World} {v : Value} {out : List Nat} (h : OutAt B w v out) : RowAt w (fun k => v.ownBlock = some k) v out.length 1 ((ints' out).map (Value.int .i64)) := by
  obtain ⟨_, _, _, hown⟩ := h
  exact RowAt.of_owns hown
theorem OutAt.src {B : Nat} {w : World} {ao : Option Addr} {n c : Nat} {out : List Nat} (h : OutAt B w (.slice ao n c) out) (hn : n = out.length) : SrcAt w ao n ((ints' out).map (Value.int .i64)) := by
  subst hn
  obtain ⟨h1, h2⟩ := h.rowAt
  rcases h2 with ⟨e, h0⟩ | ⟨b, off, cap, e, _, _, _, hb, hc⟩
  · injection e with e1 _ _
    obtain rfl := List.length_eq_zero_iff.1 h0
    exact .inl ⟨e1, rfl, rfl⟩
  · injection e with e1 _ _
    subst e1
    exact .inr ⟨_, rfl, fun j u hu => by rw [addr_add]; exact ⟨hb, hc j u hu⟩⟩

end Go.Proofs.Ytbodnmcaipakcaa
