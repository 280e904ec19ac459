/-
  Rows of pairs (a number, a time) as cells; lists of such pairs in order. No program in sight.
-/
import Derived.Test.YtbodnmcaipakcaaAppR
namespace Go.Proofs.Ytbodnmcaipakcaa
open Go.RowKit

/-- A number, and a time. -/
structure Tm where
  id : Int
  at' : Nat
/-- Pairs as cells. -/
def tcells (L : List Tm) : List Value := L.flatMap (fun m => [.int .i64 m.id, .int .u64 m.at'])
theorem tcells_append (L M : List Tm) : tcells (L ++ M) = tcells L ++ tcells M := by simp [tcells]
theorem tcells_len (L : List Tm) : (tcells L).length = L.length * 2 := by
  induction L with
  | nil => rfl
  | cons m L ih =>
    have : tcells (m :: L) = [.int .i64 m.id, .int .u64 m.at'] ++ tcells L := rfl
    rw [this, List.length_append, ih]
    simp
    omega
theorem tcells_get : ∀ {L : List Tm} {i : Nat} (hi : i < L.length), (tcells L)[i * 2]? = some (.int .i64 L[i].id) ∧ (tcells L)[i * 2 + 1]? = some (.int .u64 L[i].at')
  | m :: L, 0, _ => ⟨rfl, rfl⟩
  | m :: L, i + 1, hi => by
    have e : tcells (m :: L) = [.int .i64 m.id, .int .u64 m.at'] ++ tcells L := rfl
    obtain ⟨a, b⟩ := tcells_get (L := L) (i := i) (by simpa using hi)
    have sh : ∀ j, ([.int .i64 m.id, .int .u64 m.at'] ++ tcells L)[(i + 1) * 2 + j]? = (tcells L)[i * 2 + j]? := by
      intro j
      rw [List.getElem?_append_right (by simp; omega)]
      congr 1
      simp
      omega
    rw [e]
    exact ⟨(sh 0).trans a, (sh 1).trans b⟩
theorem tcells_one {L : List Tm} : ∀ u ∈ tcells L, u.oneCell' = true := by
  intro u hu
  obtain ⟨t, _, h⟩ := List.mem_flatMap.1 hu
  simp at h
  rcases h with rfl | rfl <;> rfl
/-- The list's row. -/
def TRow (w : World) (G : Nat → Prop) (p : Nat) (a : Option Addr) (c : Nat) (L : List Tm) : Prop :=
  (a = none ∧ L = [] ∧ c = 0) ∨ ∃ g off, a = some ⟨g, off, none⟩ ∧ G g ∧ g ≠ p ∧ L.length ≤ c ∧ c ≤ 9223372036854775807 ∧ ∀ j u, (tcells L)[j]? = some u → w.cell? ⟨g, off + j, none⟩ = some u
theorem TRow.fr {w w' : World} {G F : Nat → Prop} {p : Nat} {a : Option Addr} {c : Nat} {L : List Tm} (h : TRow w G p a c L) (hl : ∀ k, G k → k < w.heap.size) (hf : Fr F w w') (hG : ∀ k, G k → k ≠ p → ¬ F k) : TRow w' G p a c L := by
  rcases h with h | ⟨g, off, e, hg, hgp, h⟩
  · exact .inl h
  · exact .inr ⟨g, off, e, hg, hgp, h.1, h.2.1, fun j u hu => (hf.cell (p := ⟨g, off + j, none⟩) (hl g hg) (hG g hg hgp)).trans (h.2.2 j u hu)⟩
theorem addr_add (g off j : Nat) : (⟨g, off, none⟩ : Addr).add j = ⟨g, off + j, none⟩ := by
  unfold Addr.add
  split
  · rename_i h; subst h; rfl
  · rfl
/-- The two slices of a row. -/
theorem src_take {W : World} {g off i : Nat} {L : List Tm} (hg : g < W.heap.size) (hc : ∀ j u, (tcells L)[j]? = some u → W.cell? ⟨g, off + j, none⟩ = some u) : SrcAt W (some ⟨g, off, none⟩) i (tcells (L.take i)) := by
  refine .inr ⟨_, rfl, fun j u hu => ?_⟩
  rw [addr_add]
  refine ⟨hg, hc j u ?_⟩
  have hL : tcells L = tcells (L.take i) ++ tcells (L.drop i) := by rw [← tcells_append, List.take_append_drop]
  have hj := (List.getElem?_eq_some_iff.1 hu).1
  rw [hL, List.getElem?_append_left hj]
  exact hu
theorem src_drop {W : World} {g off i : Nat} {L : List Tm} (hg : g < W.heap.size) (hi : i ≤ L.length) (hc : ∀ j u, (tcells L)[j]? = some u → W.cell? ⟨g, off + j, none⟩ = some u) (A : Addr) (hA : i < L.length → A = ⟨g, off + i * 2, none⟩) : SrcAt W (some A) (L.length - i) (tcells (L.drop i)) := by
  refine .inr ⟨_, rfl, fun j u hu => ?_⟩
  have hj := (List.getElem?_eq_some_iff.1 hu).1
  rw [tcells_len, List.length_drop] at hj
  rw [hA (by omega), addr_add]
  refine ⟨hg, ?_⟩
  have e := hc (i * 2 + j) u (by
    have hL : tcells L = tcells (L.take i) ++ tcells (L.drop i) := by rw [← tcells_append, List.take_append_drop]
    have hlen : (tcells (L.take i)).length = i * 2 := by rw [tcells_len, List.length_take]; omega
    rw [hL, List.getElem?_append_right (by omega), hlen]
    simpa using hu)
  rwa [← Nat.add_assoc] at e
/-- Where a number stands first. -/
def FindR (L : List Tm) (x r : Int) : Prop :=
  (∃ k : Nat, r = k ∧ ∃ hk : k < L.length, L[k].id = x ∧ ∀ j (hj : j < L.length), j < k → L[j].id ≠ x) ∨ (r = -1 ∧ ∀ m ∈ L, m.id ≠ x)
theorem findR_ex (L : List Tm) (x : Int) : ∃ r, FindR L x r := by
  by_cases h : ∃ m ∈ L, m.id = x
  · have key : ∀ n : Nat, (∃ k : Nat, k ≤ n ∧ ∃ hk : k < L.length, L[k].id = x) → ∃ k : Nat, ∃ hk : k < L.length, L[k].id = x ∧ ∀ j (hj : j < L.length), j < k → L[j].id ≠ x := by
      intro n
      induction n with
      | zero => rintro ⟨k, h0, hk, e⟩; exact ⟨k, hk, e, fun j _ hj => by omega⟩
      | succ n ih =>
        rintro ⟨k, h0, hk, e⟩
        by_cases h2 : ∃ j, j < k ∧ ∃ hj : j < L.length, L[j].id = x
        · obtain ⟨j, h3, h4, h5⟩ := h2
          exact ih ⟨j, by omega, h4, h5⟩
        · exact ⟨k, hk, e, fun j hj hjk hc => h2 ⟨j, hjk, hj, hc⟩⟩
    obtain ⟨m, hm, e⟩ := h
    obtain ⟨k, hk, hk2⟩ := List.getElem_of_mem hm
    obtain ⟨k, hk, h1, h2⟩ := key k ⟨k, Nat.le_refl _, hk, by rw [hk2]; exact e⟩
    exact ⟨k, .inl ⟨k, rfl, hk, h1, h2⟩⟩
  · exact ⟨-1, .inr ⟨rfl, fun m hm e => h ⟨m, hm, e⟩⟩⟩
/-- Ahead of: by times, then by numbers. -/
def Tm.lt (a b : Tm) : Prop := a.at' < b.at' ∨ (a.at' = b.at' ∧ a.id < b.id)
theorem Tm.lt_irrefl (a : Tm) : ¬ a.lt a := by unfold Tm.lt; omega
theorem Tm.lt_trans {a b c : Tm} (h : a.lt b) (k : b.lt c) : a.lt c := by unfold Tm.lt at *; omega
theorem Tm.lt_asymm {a b : Tm} (h : a.lt b) : ¬ b.lt a := by unfold Tm.lt at *; omega
theorem Tm.tri {a b : Tm} (h1 : ¬ a.lt b) (h2 : ¬ b.lt a) : a = b := by
  have e1 : a.at' = b.at' := by unfold Tm.lt at *; omega
  have e2 : a.id = b.id := by unfold Tm.lt at *; omega
  cases a; cases b; simp_all
/-- In order. -/
abbrev TSort (L : List Tm) : Prop := L.Pairwise Tm.lt
theorem tsort_eq {l1 l2 : List Tm} (h1 : TSort l1) (h2 : TSort l2) (hm : ∀ x, x ∈ l1 ↔ x ∈ l2) : l1 = l2 := by
  induction l1 generalizing l2 with
  | nil =>
    cases l2 with
    | nil => rfl
    | cons b r => exact absurd ((hm b).2 (List.mem_cons_self ..)) (by simp)
  | cons a r ih =>
    cases l2 with
    | nil => exact absurd ((hm a).1 (List.mem_cons_self ..)) (by simp)
    | cons b s =>
      rw [TSort, List.pairwise_cons] at h1 h2
      have hab : a = b := by
        have e1 := (hm a).1 (List.mem_cons_self ..)
        have e2 := (hm b).2 (List.mem_cons_self ..)
        rw [List.mem_cons] at e1 e2
        rcases e1 with e1 | e1
        · exact e1
        · rcases e2 with e2 | e2
          · exact e2.symm
          · exact absurd (h2.1 a e1) (Tm.lt_asymm (h1.1 b e2))
      subst hab
      congr 1
      refine ih h1.2 h2.2 fun x => ?_
      have hx := hm x
      rw [List.mem_cons, List.mem_cons] at hx
      constructor
      · intro h
        rcases hx.1 (.inr h) with e | e
        · exact absurd (e ▸ h1.1 x h) (Tm.lt_irrefl _)
        · exact e
      · intro h
        rcases hx.2 (.inr h) with e | e
        · exact absurd (e ▸ h2.1 x h) (Tm.lt_irrefl _)
        · exact e
/-- Each number once. -/
def TUniq (L : List Tm) : Prop := ∀ a ∈ L, ∀ b ∈ L, a.id = b.id → a = b
theorem tsort_nodup {L : List Tm} (h : TSort L) : L.Nodup := by
  rw [List.nodup_iff_pairwise_ne]
  exact h.imp fun {a b} h e => by subst e; exact Tm.lt_irrefl _ h
theorem tsort_idx {L : List Tm} (h : TSort L) {i j : Nat} (hi : i < L.length) (hj : j < L.length) (hij : i < j) : L[i].lt L[j] := (List.pairwise_iff_getElem.1 h) i j hi hj hij
/-- The list without one. -/
theorem tdrop_sort {L : List Tm} (h : TSort L) (k : Nat) : TSort (L.take k ++ L.drop (k + 1)) :=
  List.Pairwise.sublist (by
    have : L.take k ++ L.drop (k + 1) = L.eraseIdx k := (List.eraseIdx_eq_take_drop_succ L k).symm
    rw [this]; exact List.eraseIdx_sublist L k) h
theorem tdrop_mem {L : List Tm} (h : TSort L) (hu : TUniq L) {k : Nat} (hk : k < L.length) (m : Tm) : m ∈ L.take k ++ L.drop (k + 1) ↔ m ∈ L ∧ m.id ≠ L[k].id := by
  have hL : L = L.take k ++ (L[k] :: L.drop (k + 1)) := by rw [← List.drop_eq_getElem_cons hk, List.take_append_drop]
  have hn := tsort_nodup h
  rw [hL] at hn
  rw [List.nodup_append] at hn
  obtain ⟨_, n2, n3⟩ := hn
  rw [List.nodup_cons] at n2
  have hmem : m ∈ L ↔ m ∈ L.take k ∨ m = L[k] ∨ m ∈ L.drop (k + 1) := by
    conv => lhs; rw [hL]
    rw [List.mem_append, List.mem_cons]
  rw [List.mem_append, hmem]
  have hk2 : L[k] ∈ L := List.getElem_mem hk
  constructor
  · intro hx
    have hx' : m ∈ L.take k ∨ m = L[k] ∨ m ∈ L.drop (k + 1) := hx.imp id .inr
    refine ⟨hx', fun e => ?_⟩
    have := hu m (hmem.2 hx') _ hk2 e
    rcases hx with hx | hx
    · exact n3 m hx L[k] (List.mem_cons_self ..) this
    · rw [this] at hx; exact n2.1 hx
  · rintro ⟨h1 | h1 | h1, h2⟩
    · exact .inl h1
    · exact absurd (by rw [h1]) h2
    · exact .inr h1
/-- The list with one more, where it belongs. -/
theorem tput_sort {L : List Tm} (h : TSort L) (m : Tm) {k : Nat} (hk : k ≤ L.length) (h1 : ∀ j (hj : j < L.length), j < k → L[j].lt m) (h2 : ∀ hl : k < L.length, ¬ (L[k]'hl).lt m) (hne : ∀ x ∈ L, x.id ≠ m.id) :
    TSort (L.take k ++ [m] ++ L.drop k) ∧ ∀ x, x ∈ L.take k ++ [m] ++ L.drop k ↔ x = m ∨ x ∈ L := by
  have hlt : ∀ j (hj : j < L.length), k ≤ j → m.lt L[j] := fun j hj hkj => by
    have hkl : k < L.length := by omega
    have h3 : m.lt L[k] := by
      by_cases e : m.lt L[k]
      · exact e
      · exact absurd (by rw [Tm.tri (h2 hkl) e]) (hne _ (List.getElem_mem hkl))
    by_cases e : k = j
    · subst e; exact h3
    · exact Tm.lt_trans h3 (tsort_idx h hkl hj (by omega))
  constructor
  · rw [List.append_assoc, TSort, List.pairwise_append]
    refine ⟨h.sublist (List.take_sublist _ _), ?_, fun a ha b hb => ?_⟩
    · show List.Pairwise _ (m :: L.drop k)
      rw [List.pairwise_cons]
      refine ⟨fun b hb => ?_, h.sublist (List.drop_sublist _ _)⟩
      obtain ⟨j, hj, rfl⟩ := List.getElem_of_mem hb
      rw [List.getElem_drop]
      rw [List.length_drop] at hj
      exact hlt _ (by omega) (by omega)
    · obtain ⟨i, hi, rfl⟩ := List.getElem_of_mem ha
      rw [List.length_take] at hi
      rw [List.getElem_take]
      have hb' : b = m ∨ b ∈ L.drop k := by simpa using hb
      have ha' := h1 i (by omega) (by omega)
      rcases hb' with rfl | hb'
      · exact ha'
      · obtain ⟨j, hj, rfl⟩ := List.getElem_of_mem hb'
        rw [List.getElem_drop]
        rw [List.length_drop] at hj
        exact tsort_idx h _ _ (by omega)
  · intro x
    have hL : x ∈ L ↔ x ∈ L.take k ∨ x ∈ L.drop k := by
      conv => lhs; rw [← List.take_append_drop k L]
      exact List.mem_append
    simp only [List.mem_append, List.mem_singleton]
    rw [hL]
    constructor
    · rintro ((h | h) | h)
      · exact .inr (.inl h)
      · exact .inl h
      · exact .inr (.inr h)
    · rintro (h | h | h)
      · exact .inl (.inr h)
      · exact .inl (.inl h)
      · exact .inr h

end Go.Proofs.Ytbodnmcaipakcaa
