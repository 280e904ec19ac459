/-
  A wheel's timers: one more, one less; what lies in memory then.
-/
import Derived.Test.YtbodnmcaipakcaaWhA
namespace Go.Proofs.Ytbodnmcaipakcaa
open Go.RowKit

/-- The highest part in which two times differ. -/
def lvK (a n : Nat) : Nat → Nat
  | 0 => 0
  | k + 1 => if partN a k ≠ partN n k then k else lvK a n k
def lvOf (a n : Nat) : Nat := lvK a n 16
theorem lvK_lt (a n k : Nat) (hk : k ≤ 16) : lvK a n k < 16 := by
  induction k with
  | zero => simp [lvK]
  | succ k ih => rw [lvK]; split; omega; exact ih (by omega)
theorem lvOf_lt (a n : Nat) : lvOf a n < 16 := lvK_lt a n 16 (Nat.le_refl _)
def updF (f : Nat → Option Spot) (i : Nat) (o : Option Spot) : Nat → Option Spot := fun j => if j = i then o else f j
def spotOf (at' now : Nat) : Spot := ⟨at', lvOf at' now, partN at' (lvOf at' now)⟩
def WM.put (M : WM) (i at' : Nat) : WM := ⟨M.now, updF M.f i (some (spotOf at' M.now))⟩
def WM.drop (M : WM) (i : Nat) : WM := ⟨M.now, updF M.f i none⟩

theorem all_upd (M : WM) (i : Nat) (o : Option Spot) : (WM.mk M.now (updF M.f i o)).all = at1 M.all i o := by
  funext x
  show (if 0 ≤ x then (if x.toNat = i then o else M.f x.toNat) else none) = (if x = (i : Int) then o else if 0 ≤ x then M.f x.toNat else none)
  by_cases h0 : 0 ≤ x
  · rw [if_pos h0, if_pos h0]
    by_cases e : x = (i : Int)
    · rw [if_pos e, if_pos (by omega)]
    · rw [if_neg e, if_neg (by omega)]
  · rw [if_neg h0, if_neg h0, if_neg (by omega)]
theorem all_nat (M : WM) (i : Nat) : M.all i = M.f i := by simp [WM.all]
theorem row_put (M : WM) (i : Nat) (s : Spot) (l q : Nat) (hn : M.f i = none) : (WM.mk M.now (updF M.f i (some s))).row l q = if s.lv = l ∧ s.pl = q then at1 (M.row l q) i (some true) else M.row l q := by
  funext x
  unfold WM.row
  rw [all_upd]
  by_cases e : x = (i : Int)
  · subst e
    rw [at1_same]
    by_cases h : s.lv = l ∧ s.pl = q
    · rw [if_pos h, at1_same]; simp [inRow, h]
    · rw [if_neg h]; simp [inRow, h, all_nat, hn]
  · rw [at1_ne _ _ e]
    by_cases h : s.lv = l ∧ s.pl = q
    · rw [if_pos h, at1_ne _ _ e]
    · rw [if_neg h]
theorem row_drop (M : WM) (i : Nat) (s : Spot) (l q : Nat) (hn : M.f i = some s) : (WM.mk M.now (updF M.f i none)).row l q = if s.lv = l ∧ s.pl = q then at1 (M.row l q) i none else M.row l q := by
  funext x
  unfold WM.row
  rw [all_upd]
  by_cases e : x = (i : Int)
  · subst e
    rw [at1_same]
    by_cases h : s.lv = l ∧ s.pl = q
    · rw [if_pos h, at1_same]; rfl
    · rw [if_neg h]; simp [inRow, h, all_nat, hn]
  · rw [at1_ne _ _ e]
    by_cases h : s.lv = l ∧ s.pl = q
    · rw [if_pos h, at1_ne _ _ e]
    · rw [if_neg h]

/-- The timers' numbers for which g holds. -/
def idsOf (g : Nat → Bool) : List Nat := (List.range 1000).filter g
theorem idsOf_mem (g : Nat → Bool) (i : Nat) : i ∈ idsOf g ↔ i < 1000 ∧ g i = true := by simp [idsOf]
theorem idsOf_nodup (g : Nat → Bool) : (idsOf g).Nodup := List.nodup_range.filter _
theorem idsOf_len (g : Nat → Bool) : (idsOf g).length ≤ 1000 := Nat.le_trans (List.length_filter_le _ _) (by simp)
def ints' (l : List Nat) : List Int := l.map (fun i : Nat => (i : Int))
theorem keysLen (g : Nat → Bool) : (ints' (idsOf g)).length ≤ 1000 := by
  have := idsOf_len g
  unfold ints'
  rw [List.length_map]
  exact this
theorem ints'_nodup {l : List Nat} (h : l.Nodup) : (ints' l).Nodup := by
  unfold ints'
  rw [List.nodup_iff_pairwise_ne, List.pairwise_map]
  exact (List.nodup_iff_pairwise_ne.1 h).imp (fun h => by omega)
theorem ints'_mem {l : List Nat} (x : Int) : x ∈ ints' l ↔ 0 ≤ x ∧ x.toNat ∈ l := by
  unfold ints'
  constructor
  · intro h
    obtain ⟨i, hi, rfl⟩ := List.mem_map.1 h
    exact ⟨by omega, by simpa using hi⟩
  · rintro ⟨h1, h2⟩
    exact List.mem_map.2 ⟨x.toNat, h2, by omega⟩
theorem all_keys (M : WM) (h : ∀ i, 1000 ≤ i → M.f i = none) (x : Int) : x ∈ ints' (idsOf (fun i => (M.f i).isSome)) ↔ (M.all x).isSome = true := by
  rw [ints'_mem, idsOf_mem]
  unfold WM.all
  by_cases h0 : 0 ≤ x
  · rw [if_pos h0]
    constructor
    · rintro ⟨_, _, h⟩; exact h
    · intro hs
      refine ⟨h0, ?_, hs⟩
      rcases Nat.lt_or_ge x.toNat 1000 with g | g
      · exact g
      · rw [h _ g] at hs; simp at hs
  · rw [if_neg h0]; simp [h0]
theorem row_keys (M : WM) (l q : Nat) (h : ∀ i, 1000 ≤ i → M.f i = none) (x : Int) : x ∈ ints' (idsOf (fun i => inRow l q (M.f i))) ↔ (M.row l q x).isSome = true := by
  rw [ints'_mem, idsOf_mem]
  unfold WM.row WM.all
  by_cases h0 : 0 ≤ x
  · rw [if_pos h0]
    constructor
    · rintro ⟨_, _, h⟩; rw [if_pos h]; rfl
    · intro hs
      by_cases hr : inRow l q (M.f x.toNat) = true
      · refine ⟨h0, ?_, hr⟩
        rcases Nat.lt_or_ge x.toNat 1000 with g | g
        · exact g
        · rw [h _ g] at hr; simp [inRow] at hr
      · rw [if_neg hr] at hs; simp at hs
  · rw [if_neg h0]; simp [h0, inRow]
theorem allTight {w : World} {ab n : Nat} {M : WM} (h : MapAt Try.prog 3 spotE w ab n M.all) (hi : ∀ i, 1000 ≤ i → M.f i = none) : MapAt Try.prog 3 spotE w ab 1000 M.all :=
  (h.tight Try.underlying3 (ints'_nodup (idsOf_nodup _)) (all_keys M hi)).mono (keysLen _)
theorem rowTight {w : World} {b n l q : Nat} {M : WM} (h : MapAt Try.prog 3 boolE w b n (M.row l q)) (hi : ∀ i, 1000 ≤ i → M.f i = none) : MapAt Try.prog 3 boolE w b 1000 (M.row l q) :=
  (h.tight Try.underlying3 (ints'_nodup (idsOf_nodup _)) (row_keys M l q hi)).mono (keysLen _)

/-- One timer more. -/
theorem WRep.put {w w' : World} {p : Nat} {M : WM} {F : Nat → Prop} {ab : Nat} {rb : Nat → Nat → Option Nat} (h : WRep w p M F ab rb) {i : Nat} (hi : i < 1000) (hn : M.f i = none) {s : Spot} (hs : s.lv < 16 ∧ s.pl < 16 ∧ s.at' < 4611686018427387904) {b n1 n2 : Nat}
    (hb : rb s.lv s.pl = some b ∨ (rb s.lv s.pl = none ∧ w.heap.size ≤ b)) (hblk : w'.heap[p]? = some (.cells (wcells (rb1 rb s.lv s.pl (some b)) ab M.now) 83 (0, 0)))
    (hrow : MapAt Try.prog 3 boolE w' b n1 (at1 (M.row s.lv s.pl) i (some true))) (hall : MapAt Try.prog 3 spotE w' ab n2 (at1 M.all i (some s))) (hf : Fr (fun k => k = p ∨ k = ab ∨ k = b) w w') :
    WPost w p ⟨M.now, updF M.f i (some s)⟩ F w' := by
  have hids : ∀ j, 1000 ≤ j → (updF M.f i (some s)) j = none := fun j hj => by unfold updF; rw [if_neg (by omega)]; exact h.ids j hj
  have hpl := h.lt p h.mem
  have hbF : ∀ k, (F k ∨ k = b) → k < w'.heap.size := fun k hk => by
    rcases hk with hk | rfl
    · exact Nat.lt_of_lt_of_le (h.lt k hk) hf.size
    · exact hrow.lt
  have hbp : b ≠ p ∧ b ≠ ab := by
    rcases hb with hb | ⟨_, hb⟩
    · have := h.row s.lv s.pl hs.1 hs.2.1
      rw [hb] at this
      exact ⟨this.2.1, this.2.2.1⟩
    · have := h.lt ab h.all.1
      omega
  refine ⟨fun k => F k ∨ k = b, ⟨ab, rb1 rb s.lv s.pl (some b), .inl h.mem, hbF, hblk, ⟨.inl h.all.1, h.all.2.1, allTight (M := ⟨M.now, updF M.f i (some s)⟩) (by rw [all_upd]; exact hall) hids⟩, fun l q hl hq => ?_, fun l q l' q' c hl hq hl' hq' h1 h2 => ?_, hids, fun j s' hj => ?_, h.time⟩, ?_, ?_⟩
  · have hr := row_put M i s l q hn
    unfold rb1
    by_cases e : l = s.lv ∧ q = s.pl
    · rw [if_pos e]
      refine ⟨.inr rfl, hbp.1, hbp.2, rowTight (M := ⟨M.now, updF M.f i (some s)⟩) (n := n1) ?_ hids⟩
      rw [hr, if_pos ⟨e.1.symm, e.2.symm⟩, e.1, e.2]
      exact hrow
    · rw [if_neg e]
      have hr' : (WM.mk M.now (updF M.f i (some s))).row l q = M.row l q := by rw [hr, if_neg (fun x => e ⟨x.1.symm, x.2.symm⟩)]
      have h0 := h.row l q hl hq
      rw [hr']
      cases hc : rb l q with
      | none => rw [hc] at h0; exact h0
      | some c =>
        rw [hc] at h0
        refine ⟨.inl h0.1, h0.2.1, h0.2.2.1, h0.2.2.2.fr hf ?_⟩
        rintro (rfl | rfl | rfl)
        · exact h0.2.1 rfl
        · exact h0.2.2.1 rfl
        · rcases hb with hb | ⟨_, hb⟩
          · exact e (h.apart l q s.lv s.pl c hl hq hs.1 hs.2.1 hc hb)
          · have := h.lt c h0.1; omega
  · unfold rb1 at h1 h2
    have hold : ∀ l q, l < 16 → q < 16 → ¬ (l = s.lv ∧ q = s.pl) → rb l q = some b → False := fun l q hl hq hne hc => by
      have h0 := h.row l q hl hq
      rw [hc] at h0
      rcases hb with hb | ⟨_, hb⟩
      · exact hne (h.apart l q s.lv s.pl b hl hq hs.1 hs.2.1 hc hb)
      · have := h.lt b h0.1; omega
    by_cases e1 : l = s.lv ∧ q = s.pl
    · by_cases e2 : l' = s.lv ∧ q' = s.pl
      · exact ⟨e1.1.trans e2.1.symm, e1.2.trans e2.2.symm⟩
      · rw [if_pos e1] at h1
        rw [if_neg e2] at h2
        simp only [Option.some.injEq] at h1
        subst h1
        exact (hold l' q' hl' hq' e2 h2).elim
    · rw [if_neg e1] at h1
      by_cases e2 : l' = s.lv ∧ q' = s.pl
      · rw [if_pos e2] at h2
        simp only [Option.some.injEq] at h2
        subst h2
        exact (hold l q hl hq e1 h1).elim
      · rw [if_neg e2] at h2
        exact h.apart l q l' q' c hl hq hl' hq' h1 h2
  · unfold updF at hj
    simp only at hj
    by_cases e : j = i
    · rw [if_pos e] at hj
      simp only [Option.some.injEq] at hj
      subst hj
      exact hs
    · rw [if_neg e] at hj
      exact h.spots j s' hj
  · refine ⟨hf.os, hf.tape, hf.output, hf.size, fun k hk hnF => hf.block k hk ?_⟩
    rintro (rfl | rfl | rfl)
    · exact hnF h.mem
    · exact hnF h.all.1
    · rcases hb with hb | ⟨_, hb⟩
      · have h0 := h.row s.lv s.pl hs.1 hs.2.1
        rw [hb] at h0
        exact hnF h0.1
      · omega
  · rintro k (hk | rfl)
    · exact .inl hk
    · rcases hb with hb | ⟨_, hb⟩
      · have h0 := h.row s.lv s.pl hs.1 hs.2.1
        rw [hb] at h0
        exact .inl h0.1
      · exact .inr hb
/-- One timer less. -/
theorem WRep.drop {w w' : World} {p : Nat} {M : WM} {F : Nat → Prop} {ab : Nat} {rb : Nat → Nat → Option Nat} (h : WRep w p M F ab rb) {i : Nat} {s : Spot} (hn : M.f i = some s) {b n1 n2 : Nat}
    (hb : rb s.lv s.pl = some b) (hrow : MapAt Try.prog 3 boolE w' b n1 (at1 (M.row s.lv s.pl) i none)) (hall : MapAt Try.prog 3 spotE w' ab n2 (at1 M.all i none)) (hf : Fr (fun k => k = ab ∨ k = b) w w') :
    WAt w' p (M.drop i) F ∧ Fr F w w' := by
  have hs := h.spots i s hn
  have hids : ∀ j, 1000 ≤ j → (updF M.f i none) j = none := fun j hj => by
    unfold updF
    split
    · rfl
    · exact h.ids j hj
  have hb0 := h.row s.lv s.pl hs.1 hs.2.1
  rw [hb] at hb0
  refine ⟨⟨ab, rb, h.mem, fun k hk => Nat.lt_of_lt_of_le (h.lt k hk) hf.size, hf.blk h.blk ?_, ⟨h.all.1, h.all.2.1, allTight (M := ⟨M.now, updF M.f i none⟩) (by rw [all_upd]; exact hall) hids⟩, fun l q hl hq => ?_, h.apart, hids, fun j s' hj => ?_, h.time⟩, ?_⟩
  · rintro (rfl | rfl)
    · exact h.all.2.1 rfl
    · exact hb0.2.1 rfl
  · have hr := row_drop M i s l q hn
    by_cases e : s.lv = l ∧ s.pl = q
    · rw [if_pos e] at hr
      obtain ⟨rfl, rfl⟩ := e
      rw [hb]
      refine ⟨hb0.1, hb0.2.1, hb0.2.2.1, rowTight (M := ⟨M.now, updF M.f i none⟩) (n := n1) ?_ hids⟩
      rw [hr]; exact hrow
    · rw [if_neg e] at hr
      have h0 := h.row l q hl hq
      show match rb l q with | none => ∀ x, (WM.mk M.now (updF M.f i none)).row l q x = none | some b => _ ∧ _ ∧ _ ∧ MapAt _ _ _ _ _ _ ((WM.mk M.now (updF M.f i none)).row l q)
      rw [hr]
      cases hc : rb l q with
      | none => rw [hc] at h0; exact h0
      | some c =>
        rw [hc] at h0
        refine ⟨h0.1, h0.2.1, h0.2.2.1, h0.2.2.2.fr hf ?_⟩
        rintro (rfl | rfl)
        · exact h0.2.2.1 rfl
        · exact e ⟨(h.apart s.lv s.pl l q c hs.1 hs.2.1 hl hq hb hc).1, (h.apart s.lv s.pl l q c hs.1 hs.2.1 hl hq hb hc).2⟩
  · simp only [WM.drop, updF] at hj
    by_cases e : j = i
    · rw [if_pos e] at hj; cases hj
    · rw [if_neg e] at hj; exact h.spots j s' hj
  · refine ⟨hf.os, hf.tape, hf.output, hf.size, fun k hk hnF => hf.block k hk ?_⟩
    rintro (rfl | rfl)
    · exact hnF h.all.1
    · exact hnF hb0.1
/-- The time is another one. -/
theorem WRep.setNow {w : World} {p : Nat} {M : WM} {F : Nat → Prop} {ab : Nat} {rb : Nat → Nat → Option Nat} (h : WRep w p M F ab rb) (n : Nat) (hn : n < 4611686018427387904) : WRep (w.setCell ⟨p, 257, none⟩ (.int .u64 n)) p ⟨n, M.f⟩ F ab rb ∧ Fr F w (w.setCell ⟨p, 257, none⟩ (.int .u64 n)) := by
  have hf : Fr (fun k => k = p) w (w.setCell ⟨p, 257, none⟩ (.int .u64 n)) := Fr.setCell (F := fun k => k = p) (Fr.refl _ w) (p := ⟨p, 257, none⟩) (.inl rfl) _
  have hb := blk_set (i := 257) h.blk (.int .u64 n)
  rw [wcells_set_now] at hb
  refine ⟨⟨h.mem, fun k hk => Nat.lt_of_lt_of_le (h.lt k hk) hf.size, hb, ⟨h.all.1, h.all.2.1, h.all.2.2.fr hf h.all.2.1⟩, fun l q hl hq => ?_, h.apart, h.ids, h.spots, hn⟩, hf.mono (fun k _ e => e ▸ h.mem)⟩
  have h0 := h.row l q hl hq
  show match rb l q with | none => ∀ x, M.row l q x = none | some b => _ ∧ _ ∧ _ ∧ MapAt _ _ _ _ _ _ (M.row l q)
  cases hc : rb l q with
  | none => rw [hc] at h0; exact h0
  | some c =>
    rw [hc] at h0
    exact ⟨h0.1, h0.2.1, h0.2.2.1, h0.2.2.2.fr hf h0.2.1⟩

end Go.Proofs.Ytbodnmcaipakcaa
