/-
  ReadyChange's plain law: who changes stands behind all alike ones, ahead of all less urgent ones.
-/
import Derived.Test.YtelehfcjajipiaaRightP
import Derived.Test.YtelehfcjajipiaaReadyF
namespace Go.Proofs.Ytelehfcjajipiaa
open Go.RowKit

/-- Number i's urgency. -/
def zq (z : List Int) (i : Nat) : Int := zv z i % 9
theorem zq_bd (z : List Int) (i : Nat) : 0 ≤ zq z i ∧ zq z i < 9 := by unfold zq; omega
/-- The rows when the numbers below k have come. -/
def ordQ (z : List Int) (k : Nat) : Nat → List Int := fun p => ((List.range k).filter (fun i => zq z i == (p : Int))).map Int.ofNat
theorem ordQ_zero (z : List Int) : ordQ z 0 = fun _ => [] := rfl
theorem mem_ordQ {z : List Int} {k p : Nat} {x : Int} : x ∈ ordQ z k p ↔ ∃ i : Nat, i < k ∧ zq z i = p ∧ x = i := by
  simp only [ordQ, List.mem_map, List.mem_filter, List.mem_range, beq_iff_eq]
  constructor
  · rintro ⟨i, ⟨h1, h2⟩, rfl⟩; exact ⟨i, h1, h2, rfl⟩
  · rintro ⟨i, h1, h2, rfl⟩; exact ⟨i, ⟨h1, h2⟩, rfl⟩
theorem ordQ_succ (z : List Int) (k : Nat) : ordQ z (k + 1) = upd (ordQ z k) (zq z k).toNat (ordQ z k (zq z k).toNat ++ [(k : Int)]) := by
  funext p
  have hb := zq_bd z k
  unfold upd
  simp only [ordQ, List.range_succ, List.filter_append, List.map_append]
  split
  · rename_i h
    subst h
    have hf : [k].filter (fun i => zq z i == ((zq z k).toNat : Int)) = [k] := by rw [List.filter_cons, if_pos (by simp; omega)]; rfl
    rw [hf]; rfl
  · rename_i h
    have hf : [k].filter (fun i => zq z i == (p : Int)) = [] := by rw [List.filter_cons, if_neg (by simp; omega)]; rfl
    rw [hf]; simp
theorem ordQ_come {z : List Int} {k : Nat} (hk : k < 64) : comeC (ordQ z k) k (zq z k) = 0 ∧ come (ordQ z k) k (zq z k) = ordQ z (k + 1) := by
  have hb := zq_bd z k
  have h1 : mayB k (zq z k) = true := mayB_iff.2 ⟨by omega, by omega, hb.1, by omega⟩
  have h2 : prio (ordQ z k) k = none := prio_none.2 fun i _ hm => by
    obtain ⟨j, hj, _, e⟩ := mem_ordQ.1 hm
    omega
  have hc : comeC (ordQ z k) k (zq z k) = 0 := by simp [comeC, h1, h2]
  exact ⟨hc, by rw [come, if_pos hc, ordQ_succ]⟩
theorem ordQ_len (z : List Int) (k : Nat) : ∀ i, (ordQ z k i).length ≤ k := by
  intro i
  simp only [ordQ, List.length_map]
  exact Nat.le_trans (List.length_filter_le _ _) (by simp)
theorem ordQ_asc (z : List Int) (k p : Nat) : (ordQ z k p).Pairwise (· < ·) := by
  unfold ordQ
  refine List.Pairwise.map _ (R := (· < ·)) (fun a b h => Int.ofNat_lt.2 h) ?_
  exact List.Pairwise.filter _ List.pairwise_lt_range


theorem ordQ_uniq (z : List Int) (k : Nat) : Uniq (ordQ z k) := by
  intro p q _ _ x hp hq
  obtain ⟨i, _, h1, rfl⟩ := mem_ordQ.1 hp
  obtain ⟨j, _, h2, e⟩ := mem_ordQ.1 hq
  obtain rfl : i = j := by omega
  omega
theorem ordQ_prio {z : List Int} {n k : Nat} (hk : k < n) : prio (ordQ z n) k = some (zq z k).toNat := by
  have hb := zq_bd z k
  refine prio_of (by omega) (mem_ordQ.2 ⟨k, hk, by omega, rfl⟩) (fun i hi hm => ?_)
  obtain ⟨j, _, h1, e⟩ := mem_ordQ.1 hm
  obtain rfl : k = j := by omega
  omega
theorem ordQ_all (z : List Int) (n : Nat) : (allQ (ordQ z n)).Nodup := by
  refine nodup_cat (fun i _ => ?_) (fun i j hi hj x h1 h2 => ordQ_uniq z n i j hi hj x h1 h2)
  exact (ordQ_asc z n i).imp (fun h => by omega)
theorem cat_split {s : Nat → List Int} {p : Nat} : ∀ {n : Nat}, p < n → ∃ V, cat s n = cat s p ++ s p ++ V ∧ ∀ x, x ∈ V → ∃ i, p < i ∧ i < n ∧ x ∈ s i
  | 0, h => by omega
  | n + 1, h => by
    by_cases e : p = n
    · subst e
      exact ⟨[], by simp [cat], fun x hx => by simp at hx⟩
    · obtain ⟨V, h1, h2⟩ := cat_split (s := s) (p := p) (n := n) (by omega)
      refine ⟨V ++ s n, by rw [cat, h1]; simp, fun x hx => ?_⟩
      rcases List.mem_append.1 hx with g | g
      · obtain ⟨i, a, b, c⟩ := h2 x g
        exact ⟨i, a, by omega, c⟩
      · exact ⟨n, by omega, by omega, g⟩

/-- Where k stands last among the first j; -1: nowhere. -/
def atF (L : List Int) (k : Int) : Nat → Int
  | 0 => -1
  | j + 1 => if zv L j = k then j else atF L k j
/-- How many of the first j aren't k, and are as urgent as p or more. -/
def cntF (z : List Int) (p : Int) (L : List Int) (k : Int) : Nat → Nat
  | 0 => 0
  | j + 1 => if zv L j ≠ k ∧ zq z (zv L j).toNat ≤ p then cntF z p L k j + 1 else cntF z p L k j
theorem cntF_le (z : List Int) (p : Int) (L : List Int) (k : Int) (j : Nat) : cntF z p L k j ≤ j := by
  induction j with
  | zero => exact Nat.le_refl _
  | succ j ih => rw [cntF]; split <;> omega
theorem atF_le (L : List Int) (k : Int) (j : Nat) : -1 ≤ atF L k j ∧ atF L k j < j := by
  induction j with
  | zero => simp [atF]
  | succ j ih => rw [atF]; split <;> omega
theorem at_cnt {z : List Int} {p : Int} {L : List Int} {k : Int} {u : Nat} (hu : u < L.length) (hk : zv L u = k) (h1 : ∀ i, i < u → zv L i ≠ k ∧ zq z (zv L i).toNat ≤ p) (h2 : ∀ i, u < i → i < L.length → zv L i ≠ k ∧ ¬ zq z (zv L i).toNat ≤ p) :
    ∀ j, j ≤ L.length → (j ≤ u → cntF z p L k j = j) ∧ (u < j → cntF z p L k j = u ∧ atF L k j = u) := by
  intro j
  induction j with
  | zero => intro _; exact ⟨fun _ => rfl, fun h => by omega⟩
  | succ j ih =>
    intro hj
    obtain ⟨i1, i2⟩ := ih (by omega)
    refine ⟨fun h => ?_, fun h => ?_⟩
    · rw [cntF, if_pos (h1 j (by omega)), i1 (by omega)]
    · by_cases e : j = u
      · subst e
        refine ⟨?_, by rw [atF, if_pos hk]⟩
        rw [cntF, if_neg (fun h => h.1 hk), i1 (Nat.le_refl _)]
      · obtain ⟨a, b⟩ := i2 (by omega)
        obtain ⟨c, d⟩ := h2 j (by omega) (by omega)
        exact ⟨by rw [cntF, if_neg (fun h => d h.2), a], by rw [atF, if_neg c, b]⟩

/-- All of the law at once: of k, who changes to p. -/
structure CPlain (z : List Int) (n k : Nat) (p : Int) : Prop where
  code : chgC (ordQ z n) k p = 0
  uniq : ∀ i, (chg (ordQ z n) k p i).length ≤ 41
  mem : ∀ x, x ∈ allQ (chg (ordQ z n) k p) → ∃ m : Nat, x = m ∧ m < n
  len : (allQ (chg (ordQ z n) k p)).length = (allQ (ordQ z n)).length
  same : zq z k = p → allQ (chg (ordQ z n) k p) = allQ (ordQ z n)
  other : zq z k ≠ p → atF (allQ (chg (ordQ z n) k p)) k (allQ (chg (ordQ z n) k p)).length = cntF z p (allQ (chg (ordQ z n) k p)) k (allQ (chg (ordQ z n) k p)).length

theorem allQ_mem {z : List Int} {n : Nat} {x : Int} (h : x ∈ allQ (ordQ z n)) : ∃ m : Nat, x = m ∧ m < n := by
  obtain ⟨i, _, hi⟩ := mem_cat.1 h
  obtain ⟨m, h1, _, h2⟩ := mem_ordQ.1 hi
  exact ⟨m, h2, h1⟩

theorem CPlain.of {z : List Int} {n k : Nat} {p : Int} (hn : n ≤ 40) (hk : k < n) (hp0 : 0 ≤ p) (hp : p < 9) : CPlain z n k p := by
  have hb := zq_bd z k
  have hm : mayB k p = true := mayB_iff.2 ⟨by omega, by omega, hp0, by omega⟩
  have hpr := ordQ_prio (z := z) hk
  have hu := ordQ_uniq z n
  by_cases he : zq z k = p
  · have e : ((zq z k).toNat : Int) = p := by omega
    have hc : chg (ordQ z n) k p = ordQ z n := by simp only [chg, hm, hpr, e, if_true]
    refine ⟨by simp only [chgC, hm, hpr, e, if_true], ?_, ?_, ?_, ?_, fun h => absurd he h⟩
    · rw [hc]; exact fun i => Nat.le_trans (ordQ_len z n i) (by omega)
    · rw [hc]; exact fun x hx => allQ_mem hx
    · rw [hc]
    · rw [hc]; exact fun _ => rfl
  · have e : ¬ ((zq z k).toNat : Int) = p := by omega
    have hno := prio_go hu k
    have hcc : comeC (goR (ordQ z n) k) k p = 0 := by simp [comeC, hm, hno]
    have hc : chg (ordQ z n) k p = come (goR (ordQ z n) k) k p := by simp only [chg, hm, hpr, e, if_true, if_false]
    have hr1 : goR (ordQ z n) k = upd (ordQ z n) (zq z k).toNat (less k (ordQ z n (zq z k).toNat)) := by simp only [goR, hpr]
    have hcr : come (goR (ordQ z n) k) k p = upd (goR (ordQ z n) k) p.toNat (goR (ordQ z n) k p.toNat ++ [(k : Int)]) := by rw [come, if_pos hcc]
    have hmr : ∀ i, i < 101 → ∀ x, x ∈ goR (ordQ z n) k i → x ≠ k ∧ ∃ m : Nat, x = m ∧ m < n ∧ zq z m = i := by
      intro i hi x hx
      refine ⟨fun h => ?_, ?_⟩
      · rw [h] at hx
        have := prio_none.1 hno i hi
        exact this hx
      · rw [hr1] at hx
        have : x ∈ ordQ z n i := by
          unfold upd at hx
          split at hx
          · rename_i e2; subst e2; exact (List.mem_filter.1 hx).1
          · exact hx
        obtain ⟨m, h1, h2, h3⟩ := mem_ordQ.1 this
        exact ⟨m, h3, h1, h2⟩
    have hka : (k : Int) ∈ allQ (ordQ z n) := mem_allQ.2 (by rw [hpr]; rfl)
    have hlen1 : (allQ (goR (ordQ z n) k)).length + 1 = (allQ (ordQ z n)).length := by
      rw [allQ_go hu]; exact less_len_nodup (ordQ_all z n) hka
    have hlen2 : (allQ (come (goR (ordQ z n) k) k p)).length = (allQ (goR (ordQ z n) k)).length + 1 := by
      have := cat_upd_len (r := goR (ordQ z n) k) (p := p.toNat) (l := goR (ordQ z n) k p.toNat ++ [(k : Int)]) (n := 101) (by omega)
      rw [← hcr] at this
      simp only [allQ, List.length_append, List.length_singleton] at this ⊢
      omega
    refine ⟨?_, ?_, ?_, ?_, fun h => absurd h he, fun _ => ?_⟩
    · simp only [chgC, hm, hpr, e, if_true, if_false]; exact hcc
    · rw [hc]; exact fun i => Nat.le_trans (come_len (goR_len (ordQ_len z n) k) k p i) (by omega)
    · rw [hc]
      intro x hx
      rcases (mem_come hcc hm x).1 hx with g | g
      · exact ⟨k, g, hk⟩
      · rw [allQ_go hu] at g
        exact allQ_mem (List.mem_filter.1 g).1
    · rw [hc, hlen2, hlen1]
    · rw [hc]
      obtain ⟨V, h1, h2⟩ := cat_split (s := come (goR (ordQ z n) k) k p) (p := p.toNat) (n := 101) (by omega)
      have hU : cat (come (goR (ordQ z n) k) k p) p.toNat = cat (goR (ordQ z n) k) p.toNat := by
        rw [hcr]
        exact cat_congr (fun i hi => upd_ne _ _ (by omega))
      have hrow : come (goR (ordQ z n) k) k p p.toNat = goR (ordQ z n) k p.toNat ++ [(k : Int)] := by rw [hcr, upd_same]
      rw [hU, hrow] at h1
      have hL : allQ (come (goR (ordQ z n) k) k p) = (cat (goR (ordQ z n) k) p.toNat ++ goR (ordQ z n) k p.toNat) ++ (k : Int) :: V := by
        rw [allQ, h1]; simp
      have hUg : ∀ x, x ∈ cat (goR (ordQ z n) k) p.toNat ++ goR (ordQ z n) k p.toNat → x ≠ k ∧ zq z x.toNat ≤ p := by
        intro x hx
        have : ∃ i, i ≤ p.toNat ∧ x ∈ goR (ordQ z n) k i := by
          rcases List.mem_append.1 hx with g | g
          · obtain ⟨i, a, b⟩ := mem_cat.1 g; exact ⟨i, by omega, b⟩
          · exact ⟨_, Nat.le_refl _, g⟩
        obtain ⟨i, hi, hxi⟩ := this
        obtain ⟨a, m, rfl, _, b⟩ := hmr i (by omega) x hxi
        refine ⟨a, ?_⟩
        rw [Int.toNat_natCast, b]
        omega
      have hVg : ∀ x, x ∈ V → x ≠ k ∧ ¬ zq z x.toNat ≤ p := by
        intro x hx
        obtain ⟨i, a, b, c⟩ := h2 x hx
        rw [hcr, upd_ne _ _ (by omega)] at c
        obtain ⟨d, m, rfl, _, f⟩ := hmr i b x c
        refine ⟨d, ?_⟩
        rw [Int.toNat_natCast, f]
        omega
      generalize allQ (come (goR (ordQ z n) k) k p) = L at hL
      generalize cat (goR (ordQ z n) k) p.toNat ++ goR (ordQ z n) k p.toNat = U at hL hUg
      subst hL
      have hz : ∀ i, i < U.length → zv (U ++ (k : Int) :: V) i = zv U i := fun i hi => by simp [zv, List.getD, List.getElem?_append_left hi]
      have key := at_cnt (z := z) (p := p) (L := U ++ (k : Int) :: V) (k := k) (u := U.length) (by simp) (by simp [zv, List.getD])
        (fun i hi => by rw [hz i hi, zv, getD_in hi]; exact hUg _ (List.getElem_mem hi))
        (fun i h1 h2 => by
          have h3 : i - U.length - 1 < V.length := by simp at h2; omega
          have : zv (U ++ (k : Int) :: V) i = V[i - U.length - 1] := by
            obtain ⟨d, rfl⟩ : ∃ d, i = U.length + (d + 1) := ⟨i - U.length - 1, by omega⟩
            have e3 : U.length + (d + 1) - U.length - 1 = d := by omega
            simp only [e3] at h3 ⊢
            rw [zv, List.getD, List.getElem?_append_right (by omega)]
            simp [h3]
          rw [this]
          exact hVg _ (List.getElem_mem h3))
        (U ++ (k : Int) :: V).length (Nat.le_refl _)
      obtain ⟨a, b⟩ := key.2 (by simp)
      rw [a, b]

end Go.Proofs.Ytelehfcjajipiaa
