/-
  A wheel, plainly: parts of times, who is first, what a move leaves.
-/
import Derived.Test.YtbodnmcaipakcaaWhE
namespace Go.Proofs.Ytbodnmcaipakcaa
open Go.RowKit

theorem div_part (t m : Nat) : t / 16 ^ m = t / 16 ^ (m + 1) * 16 + partN t m := by
  unfold partN
  rw [Nat.pow_succ, ← Nat.div_div_eq_div_mul]
  omega
theorem lt16 {t : Nat} (h : t < 4611686018427387904) : t / 16 ^ 16 = 0 := Nat.div_eq_of_lt (Nat.lt_of_lt_of_le h (by decide))
/-- Times alike from a part on. -/
theorem alike {a b k : Nat} (ha : a < 4611686018427387904) (hb : b < 4611686018427387904) (hk : k ≤ 16) (h : ∀ j, k ≤ j → j < 16 → partN a j = partN b j) : a / 16 ^ k = b / 16 ^ k := by
  have hx : ∀ d, d ≤ 16 → k ≤ 16 - d → a / 16 ^ (16 - d) = b / 16 ^ (16 - d) := by
    intro d
    induction d with
    | zero => intro _ _; rw [show 16 - 0 = 16 from rfl, lt16 ha, lt16 hb]
    | succ d ih =>
      intro hd hkd
      have h1 := ih (by omega) (by omega)
      have e : 16 - d = 16 - (d + 1) + 1 := by omega
      rw [e] at h1
      rw [div_part a, div_part b, h1, h (16 - (d + 1)) hkd (by omega)]
  have := hx (16 - k) (by omega) (by omega)
  rwa [show 16 - (16 - k) = k from by omega] at this
theorem lvK_spec (a n : Nat) (k : Nat) : (∀ j, lvK a n k < j → j < k → partN a j = partN n j) ∧ (partN a (lvK a n k) ≠ partN n (lvK a n k) ∨ ∀ j, j < k → partN a j = partN n j) := by
  induction k with
  | zero => exact ⟨fun j _ h => by omega, .inr (fun j h => by omega)⟩
  | succ k ih =>
    rw [lvK]
    by_cases hc : partN a k ≠ partN n k
    · rw [if_pos hc]
      exact ⟨fun j h1 h2 => by omega, .inl hc⟩
    · rw [if_neg hc]
      have hc' : partN a k = partN n k := Classical.byContradiction hc
      refine ⟨fun j h1 h2 => ?_, ?_⟩
      · by_cases e : j = k
        · rw [e]; exact hc'
        · exact ih.1 j h1 (by omega)
      · rcases ih.2 with h | h
        · exact .inl h
        · refine .inr (fun j hj => ?_)
          by_cases e : j = k
          · rw [e]; exact hc'
          · exact h j (by omega)
theorem lvOf_above {a n : Nat} {j : Nat} (h : lvOf a n < j) (hj : j < 16) : partN a j = partN n j := (lvK_spec a n 16).1 j h hj
theorem lvOf_differ {a n : Nat} (ha : a < 4611686018427387904) (hn : n < 4611686018427387904) (hne : a ≠ n) : partN a (lvOf a n) ≠ partN n (lvOf a n) := by
  rcases (lvK_spec a n 16).2 with h | h
  · exact h
  · exfalso
    have := alike ha hn (Nat.zero_le 16) (fun j _ hj => h j hj)
    simp at this
    exact hne this
/-- Its level is the one at which it is later. -/
theorem lvOf_later {a n : Nat} (ha : a < 4611686018427387904) (hn : n < 4611686018427387904) (h : n < a) : partN n (lvOf a n) < partN a (lvOf a n) ∧ ∀ j, lvOf a n < j → j ≤ 16 → a / 16 ^ j = n / 16 ^ j := by
  have h2 : ∀ j, lvOf a n < j → j ≤ 16 → a / 16 ^ j = n / 16 ^ j := fun j hj hj2 => alike ha hn hj2 (fun i h1 h2 => lvOf_above (by omega) h2)
  refine ⟨?_, h2⟩
  have hL := lvOf_lt a n
  have h3 := h2 (lvOf a n + 1) (by omega) (by omega)
  have h4 := lvOf_differ ha hn (by omega)
  have h5 := div_part a (lvOf a n)
  have h6 := div_part n (lvOf a n)
  rcases Nat.lt_or_ge (partN n (lvOf a n)) (partN a (lvOf a n)) with g | g
  · exact g
  · exfalso
    have hlt : a / 16 ^ lvOf a n < n / 16 ^ lvOf a n := by omega
    have hle : n / 16 ^ lvOf a n ≤ a / 16 ^ lvOf a n := Nat.div_le_div_right (by omega)
    omega
theorem lt_of_div {a b c : Nat} (h : a / c < b / c) : a < b := by
  rcases Nat.lt_or_ge a b with g | g
  · exact g
  · have := Nat.div_le_div_right (c := c) g
    omega
theorem level_order {a b n : Nat} (ha : a < 4611686018427387904) (hb : b < 4611686018427387904) (hn : n < 4611686018427387904) (h1 : n < a) (h2 : n < b) (hl : lvOf a n < lvOf b n) : a < b := by
  have e1 := (lvOf_later ha hn h1).2 (lvOf b n) hl (by have := lvOf_lt b n; omega)
  obtain ⟨g1, g2⟩ := lvOf_later hb hn h2
  have g3 := g2 (lvOf b n + 1) (by omega) (by have := lvOf_lt b n; omega)
  have h5 := div_part b (lvOf b n)
  have h6 := div_part n (lvOf b n)
  exact lt_of_div (c := 16 ^ lvOf b n) (by omega)
theorem place_order {a b n : Nat} (ha : a < 4611686018427387904) (hb : b < 4611686018427387904) (hn : n < 4611686018427387904) (h1 : n < a) (h2 : n < b) (hl : lvOf a n = lvOf b n) (hp : partN a (lvOf a n) < partN b (lvOf b n)) : a < b := by
  have g1 := (lvOf_later ha hn h1).2 (lvOf a n + 1) (by omega) (by have := lvOf_lt a n; omega)
  have g2 := (lvOf_later hb hn h2).2 (lvOf b n + 1) (by omega) (by have := lvOf_lt b n; omega)
  have h5 := div_part a (lvOf a n)
  have h6 := div_part b (lvOf b n)
  rw [← hl] at g2 h6 hp
  exact lt_of_div (c := 16 ^ lvOf a n) (by omega)

/-- Each timer is to come, and lies where it belongs. -/
structure WInv (M : WM) : Prop where
  now : M.now < 4611686018427387904
  at' : ∀ i s, M.f i = some s → M.now < s.at' ∧ s.at' < 4611686018427387904 ∧ s = spotOf s.at' M.now
  ids : ∀ i, 1000 ≤ i → M.f i = none
theorem WInv.first_is {M : WM} {a : Nat} {ok : Bool} (h : WInv M) (hr : FirstR M a ok) : (ok = false ∧ ∀ i, M.f i = none) ∨ (ok = true ∧ (∃ i s, M.f i = some s ∧ s.at' = a) ∧ ∀ i s, M.f i = some s → a ≤ s.at') := by
  have hlies : ∀ i s, M.f i = some s → Lies M (lvOf s.at' M.now) (partN s.at' (lvOf s.at' M.now)) i s ∧ partN M.now (lvOf s.at' M.now) < partN s.at' (lvOf s.at' M.now) := fun i s hi => by
    obtain ⟨h1, h2, h3⟩ := h.at' i s hi
    refine ⟨⟨hi, ?_, ?_⟩, (lvOf_later h2 h.now h1).1⟩
    · rw [h3]; rfl
    · rw [h3]; rfl
  rcases hr with ⟨e, _, hn⟩ | ⟨e, l, q, hl, hq0, hq, hbef, hnone, ⟨i, s, hi, ha⟩, hmin⟩
  · refine .inl ⟨e, fun i => ?_⟩
    cases hi : M.f i with
    | none => rfl
    | some s =>
      obtain ⟨h1, h2⟩ := hlies i s hi
      exact absurd h1 (hn _ (lvOf_lt _ _) _ (by omega) (partN_lt _ _) i s)
  · refine .inr ⟨e, ⟨i, s, hi.1, ha⟩, fun j s' hj => ?_⟩
    obtain ⟨h1, h2⟩ := hlies j s' hj
    obtain ⟨g1, g2, g3⟩ := h.at' i s hi.1
    obtain ⟨k1, k2, k3⟩ := h.at' j s' hj
    have el : lvOf s.at' M.now = l := by have := hi.2.1; rw [g3] at this; exact this
    have eq : partN s.at' l = q := by have := hi.2.2; rw [g3] at this; rw [← el]; exact this
    rcases Nat.lt_trichotomy (lvOf s'.at' M.now) l with c | c | c
    · exact absurd h1 (hbef _ c _ (by omega) (partN_lt _ _) j s')
    · rw [c] at h1 h2
      rcases Nat.lt_trichotomy (partN s'.at' l) q with d | d | d
      · exact absurd h1 (hnone _ (by omega) d j s')
      · rw [d] at h1; exact hmin j s' h1
      · have := place_order g2 k2 h.now g1 k1 (by rw [el, c]) (by rw [el, c, eq]; exact d)
        omega
    · have := level_order g2 k2 h.now g1 k1 (by rw [el]; exact c)
      omega

/-- What a move leaves: each timer as it was, or put anew. -/
def MoveR (M : WM) (n : Nat) (M' : WM) : Prop :=
  M'.now = n ∧ (∀ i, M.f i = none → M'.f i = none) ∧ ∀ i s, M.f i = some s → M'.f i = some (spotOf s.at' n) ∨ (M'.f i = some s ∧ (partN M.now s.lv = partN n s.lv ∨ s.pl ≠ partN n s.lv))
/-- Time n, no timer of which is past. -/
def WM.moved (M : WM) (n : Nat) : WM := ⟨n, fun i => (M.f i).map (fun s => spotOf s.at' n)⟩
theorem lvOf_eq {a n l : Nat} (hl : l < 16) (h1 : ∀ j, l < j → j < 16 → partN a j = partN n j) (h2 : partN a l ≠ partN n l) : lvOf a n = l := by
  have hx : ∀ k, l < k → k ≤ 16 → lvK a n k = l := by
    intro k
    induction k with
    | zero => intro h; omega
    | succ k ih =>
      intro hk hk2
      rw [lvK]
      by_cases e : k = l
      · subst e; rw [if_pos h2]
      · rw [if_neg (by rw [h1 k (by omega) (by omega)]; simp)]
        exact ih (by omega) (by omega)
  exact hx 16 hl (Nat.le_refl _)
theorem WInv.move {M M' : WM} {n : Nat} (h : WInv M) (hr : MoveR M n M') (hn : M.now ≤ n) (hn2 : n < 4611686018427387904) (hall : ∀ i s, M.f i = some s → n ≤ s.at') : M' = M.moved n := by
  obtain ⟨e1, e2, e3⟩ := hr
  have hf : M'.f = (M.moved n).f := by
    funext i
    show M'.f i = (M.f i).map (fun s => spotOf s.at' n)
    cases hi : M.f i with
    | none => rw [e2 i hi]; rfl
    | some s =>
      rcases e3 i s hi with g | ⟨g, g2⟩
      · rw [g]; rfl
      · rw [g]
        show some s = some (spotOf s.at' n)
        obtain ⟨h1, h2, h3⟩ := h.at' i s hi
        have h4 := hall i s hi
        congr 1
        rw [h3]
        obtain ⟨L, hL⟩ : ∃ L, lvOf s.at' M.now = L := ⟨_, rfl⟩
        have hL16 : L < 16 := hL ▸ lvOf_lt _ _
        have hsl : s.lv = L := (congrArg Spot.lv h3).trans hL
        have hsp : s.pl = partN s.at' L := (congrArg Spot.pl h3).trans (by show partN s.at' (lvOf s.at' M.now) = _; rw [hL])
        obtain ⟨g3, g4⟩ := lvOf_later h2 h.now h1
        rw [hL] at g3 g4
        rw [hsl, hsp] at g2
        -- above L the three times are alike
        have hab : ∀ j, L < j → j ≤ 16 → n / 16 ^ j = M.now / 16 ^ j := fun j hj hj2 => by
          have := g4 j hj hj2
          have l1 : M.now / 16 ^ j ≤ n / 16 ^ j := Nat.div_le_div_right hn
          have l2 : n / 16 ^ j ≤ s.at' / 16 ^ j := Nat.div_le_div_right h4
          omega
        have hne : partN s.at' L ≠ partN n L := by
          rcases g2 with g2 | g2
          · omega
          · exact g2
        have hdig : ∀ j, L < j → j < 16 → partN s.at' j = partN n j := fun j hj hj2 => by
          have a1 := div_part s.at' j
          have a2 := div_part n j
          have a3 := g4 j hj (by omega)
          have a4 := g4 (j + 1) (by omega) (by omega)
          have a5 := hab j hj (by omega)
          have a6 := hab (j + 1) (by omega) (by omega)
          omega
        have hlv := lvOf_eq hL16 hdig hne
        show spotOf s.at' M.now = spotOf s.at' n
        unfold spotOf
        rw [hL, hlv]
  cases M'
  simp only [WM.moved] at *
  simp [e1, hf]
theorem WInv.moved {M : WM} {n : Nat} (h : WInv M) (hn2 : n < 4611686018427387904) (hall : ∀ i s, M.f i = some s → n < s.at') : WInv (M.moved n) := by
  refine ⟨hn2, fun i s hi => ?_, fun i hi => by show (M.f i).map _ = none; rw [h.ids i hi]; rfl⟩
  have hi : (M.f i).map (fun s => spotOf s.at' n) = some s := hi
  cases hf : M.f i with
  | none => rw [hf] at hi; cases hi
  | some s0 =>
    rw [hf] at hi
    simp only [Option.map_some, Option.some.injEq] at hi
    subst hi
    exact ⟨hall i s0 hf, (h.at' i s0 hf).2.1, rfl⟩

end Go.Proofs.Ytbodnmcaipakcaa
