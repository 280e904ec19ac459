/-
  Records of ticks: how the document reads a text, in plain words.
-/
import Derived.Test.YtimeodjfihpgeaaDoorTrQ
import Derived.Test.YtimeodjfihpgeaaDoorTrH
namespace Go.Proofs.YtimeodjfihpgeaaDoor
open Go.RowKit

/-- The number that stands at the begin of a text, and what is behind it; none: -1. -/
noncomputable def numberF (l : Bs) : Int × Bs := match numV (l.takeWhile (fun c => decide (digB c))) with
  | some n => (n, l.dropWhile (fun c => decide (digB c)))
  | none => (-1, l)
theorem numberF_len (l : Bs) : (numberF l).2.length ≤ l.length ∧ (0 ≤ (numberF l).1 → (numberF l).2.length < l.length) := by
  unfold numberF
  have e := congrArg List.length (List.takeWhile_append_dropWhile (p := fun c : UInt8 => decide (digB c)) (l := l))
  rw [List.length_append] at e
  cases h : numV (l.takeWhile (fun c => decide (digB c))) with
  | none => exact ⟨Nat.le_refl _, fun h => by simp only at h; omega⟩
  | some n =>
    have : 1 ≤ (l.takeWhile (fun c => decide (digB c))).length := by
      unfold numV at h
      split at h
      · rename_i hk; exact hk.1
      · cases h
    simp only
    omega
/-- What may stand behind a number. -/
def NoDig (l : Bs) : Prop := ∀ c r, l = c :: r → ¬ digB c
theorem numberF_itoa {v : Int} (h0 : 0 ≤ v) (h1 : v ≤ 2147483647) {r : Bs} (hr : NoDig r) : numberF (Lib.itoa v ++ r) = (v, r) := by
  have hd := itoa_digits h0
  have e1 : (Lib.itoa v ++ r).takeWhile (fun c => decide (digB c)) = Lib.itoa v ∧ (Lib.itoa v ++ r).dropWhile (fun c => decide (digB c)) = r := by
    generalize Lib.itoa v = d at hd
    induction d with
    | nil =>
      cases r with
      | nil => exact ⟨rfl, rfl⟩
      | cons c r =>
        have := hr c r rfl
        simp [List.takeWhile, List.dropWhile, this]
    | cons c d ih =>
      have hc := hd c (List.mem_cons_self ..)
      have ih := ih (fun x hx => hd x (List.mem_cons_of_mem _ hx))
      simp only [List.cons_append]
      rw [List.takeWhile_cons_of_pos (by simpa using hc), List.dropWhile_cons_of_pos (by simpa using hc), ih.1, ih.2]
      exact ⟨rfl, rfl⟩
  unfold numberF
  rw [e1.1, e1.2, itoa_some h0 h1]
  simp only [Int.toNat_of_nonneg h0]

/-- What the document reads. -/
noncomputable def scanF : Nat → Bs → Tk → Option Tk
  | 0, _, _ => none
  | _ + 1, [], t => some t
  | k + 1, c :: r, t =>
    if (numberF r).1 < 0 then none
    else if c = 43 then scanF k (numberF r).2 ⟨t.who, t.dn ++ [(numberF r).1], t.ct, t.ms, t.fs⟩
    else if c = 47 then scanF k (numberF r).2 ⟨t.who, t.dn, t.ct ++ [(numberF r).1], t.ms, t.fs⟩
    else if c = 33 then scanF k (numberF r).2 ⟨t.who, t.dn, t.ct, t.ms ++ [(numberF r).1], t.fs⟩
    else if c = 61 then match (numberF r).2 with
      | [] => none
      | d :: q => if (numberF q).1 < 0 then none else scanF k (numberF q).2 ⟨t.who, t.dn, t.ct, t.ms, t.fs ++ [((numberF r).1, if d = 100 then 1 else 2, (numberF q).1)]⟩
    else none
noncomputable def startF : Bs → Int × Bs
  | [] => (-1, [])
  | c :: r => if c = 116 then numberF r else if c = 115 then (100 + (numberF r).1, (numberF r).2) else (-1, r)
noncomputable def rparseF (s : Bs) : Option Tk := scanF (s.length + 1) (startF s).2 ⟨(startF s).1, [], [], [], []⟩

theorem scan_dn : ∀ {l : List Int} {rest : Bs} {k : Nat} {t : Tk}, (∀ v ∈ l, 0 ≤ v ∧ v ≤ 31) → NoDig rest → (marksB [43] l ++ rest).length < k →
    NoDig (marksB [43] l ++ rest) ∧ ∃ k', rest.length < k' ∧ scanF k (marksB [43] l ++ rest) t = scanF k' rest ⟨t.who, t.dn ++ l, t.ct, t.ms, t.fs⟩
  | [], rest, k, t, _, hr, hk => ⟨hr, k, by simpa [marksB] using hk, by simp [marksB]⟩
  | v :: l, rest, k, t, hl, hr, hk => by
    have hv := hl v (List.mem_cons_self ..)
    have e : marksB [43] (v :: l) ++ rest = 43 :: (Lib.itoa v ++ (marksB [43] l ++ rest)) := by simp [marksB]
    rw [e] at hk ⊢
    obtain ⟨k, rfl⟩ : ∃ j, k = j + 1 := ⟨k - 1, by omega⟩
    obtain ⟨i1, i2⟩ := scan_dn (l := l) (rest := rest) (k := k) (t := ⟨t.who, t.dn ++ [v], t.ct, t.ms, t.fs⟩) (fun x hx => hl x (List.mem_cons_of_mem _ hx)) hr (by simp only [List.length_cons, List.length_append] at hk ⊢; omega)
    obtain ⟨k', h1, h2⟩ := i2
    refine ⟨fun c r hc => by injection hc with hc _; subst hc; decide, k', h1, ?_⟩
    have hn := numberF_itoa hv.1 (by omega) i1
    rw [scanF, hn]
    simp only
    rw [if_neg (by omega), if_pos trivial, h2]
    simp
theorem scan_ct : ∀ {l : List Int} {rest : Bs} {k : Nat} {t : Tk}, (∀ v ∈ l, 0 ≤ v ∧ v ≤ 31) → NoDig rest → (marksB [47] l ++ rest).length < k →
    NoDig (marksB [47] l ++ rest) ∧ ∃ k', rest.length < k' ∧ scanF k (marksB [47] l ++ rest) t = scanF k' rest ⟨t.who, t.dn, t.ct ++ l, t.ms, t.fs⟩
  | [], rest, k, t, _, hr, hk => ⟨hr, k, by simpa [marksB] using hk, by simp [marksB]⟩
  | v :: l, rest, k, t, hl, hr, hk => by
    have hv := hl v (List.mem_cons_self ..)
    have e : marksB [47] (v :: l) ++ rest = 47 :: (Lib.itoa v ++ (marksB [47] l ++ rest)) := by simp [marksB]
    rw [e] at hk ⊢
    obtain ⟨k, rfl⟩ : ∃ j, k = j + 1 := ⟨k - 1, by omega⟩
    obtain ⟨i1, i2⟩ := scan_ct (l := l) (rest := rest) (k := k) (t := ⟨t.who, t.dn, t.ct ++ [v], t.ms, t.fs⟩) (fun x hx => hl x (List.mem_cons_of_mem _ hx)) hr (by simp only [List.length_cons, List.length_append] at hk ⊢; omega)
    obtain ⟨k', h1, h2⟩ := i2
    refine ⟨fun c r hc => by injection hc with hc _; subst hc; decide, k', h1, ?_⟩
    have hn := numberF_itoa hv.1 (by omega) i1
    rw [scanF, hn]
    simp only
    rw [if_neg (by omega), if_neg (by decide), if_pos trivial, h2]
    simp
theorem scan_ms : ∀ {l : List Int} {rest : Bs} {k : Nat} {t : Tk}, (∀ v ∈ l, 0 ≤ v ∧ v ≤ 31) → NoDig rest → (marksB [33] l ++ rest).length < k →
    NoDig (marksB [33] l ++ rest) ∧ ∃ k', rest.length < k' ∧ scanF k (marksB [33] l ++ rest) t = scanF k' rest ⟨t.who, t.dn, t.ct, t.ms ++ l, t.fs⟩
  | [], rest, k, t, _, hr, hk => ⟨hr, k, by simpa [marksB] using hk, by simp [marksB]⟩
  | v :: l, rest, k, t, hl, hr, hk => by
    have hv := hl v (List.mem_cons_self ..)
    have e : marksB [33] (v :: l) ++ rest = 33 :: (Lib.itoa v ++ (marksB [33] l ++ rest)) := by simp [marksB]
    rw [e] at hk ⊢
    obtain ⟨k, rfl⟩ : ∃ j, k = j + 1 := ⟨k - 1, by omega⟩
    obtain ⟨i1, i2⟩ := scan_ms (l := l) (rest := rest) (k := k) (t := ⟨t.who, t.dn, t.ct, t.ms ++ [v], t.fs⟩) (fun x hx => hl x (List.mem_cons_of_mem _ hx)) hr (by simp only [List.length_cons, List.length_append] at hk ⊢; omega)
    obtain ⟨k', h1, h2⟩ := i2
    refine ⟨fun c r hc => by injection hc with hc _; subst hc; decide, k', h1, ?_⟩
    have hn := numberF_itoa hv.1 (by omega) i1
    rw [scanF, hn]
    simp only
    rw [if_neg (by omega), if_neg (by decide), if_neg (by decide), if_pos trivial, h2]
    simp
theorem scan_fs : ∀ {l : List (Int × Int × Int)} {k : Nat} {t : Tk}, (∀ f ∈ l, fateB f = true) → (fatesT l).length < k →
    NoDig (fatesT l) ∧ scanF k (fatesT l) t = some ⟨t.who, t.dn, t.ct, t.ms, t.fs ++ l⟩
  | [], k, t, _, hk => by
    obtain ⟨k, rfl⟩ : ∃ j, k = j + 1 := ⟨k - 1, by simp [fatesT] at hk; omega⟩
    show NoDig [] ∧ scanF (k + 1) [] t = _
    refine ⟨fun c r hc => (by cases hc), ?_⟩
    rw [scanF]
    simp
  | (i, kd, v) :: l, k, t, hl, hk => by
    have hb := fate_bounds (hl _ (List.mem_cons_self ..))
    simp only at hb
    obtain ⟨d, hd⟩ : ∃ d : UInt8, d = if kd = 1 then 100 else 97 := ⟨_, rfl⟩
    have hd2 : ¬ digB d ∧ (if d = 100 then (1 : Int) else 2) = kd := by
      rcases hb.2.1 with rfl | rfl
      · rw [if_pos rfl] at hd; subst hd; exact ⟨by decide, rfl⟩
      · rw [if_neg (by decide)] at hd; subst hd; exact ⟨by decide, rfl⟩
    have e : fatesT ((i, kd, v) :: l) = 61 :: (Lib.itoa i ++ d :: (Lib.itoa v ++ fatesT l)) := by
      rw [hd]
      simp [fatesT, fateT]
    rw [e] at hk ⊢
    obtain ⟨k, rfl⟩ : ∃ j, k = j + 1 := ⟨k - 1, by omega⟩
    obtain ⟨i1, i2⟩ := scan_fs (l := l) (k := k) (t := ⟨t.who, t.dn, t.ct, t.ms, t.fs ++ [(i, kd, v)]⟩) (fun x hx => hl x (List.mem_cons_of_mem _ hx)) (by simp only [List.length_cons, List.length_append] at hk; omega)
    refine ⟨fun c r hc => by injection hc with hc _; subst hc; decide, ?_⟩
    have hn1 := numberF_itoa (v := i) (r := d :: (Lib.itoa v ++ fatesT l)) hb.1.1 (by omega) (fun c r hc => by injection hc with hc _; subst hc; exact hd2.1)
    have hn2 := numberF_itoa (v := v) (r := fatesT l) hb.2.2.1 (by omega) i1
    rw [scanF, hn1]
    simp only
    rw [if_neg (by omega), if_neg (by decide), if_neg (by decide), if_neg (by decide), if_pos trivial, hn2]
    simp only
    rw [if_neg (by omega), hd2.2, i2]
    simp
/-- What is told is read. -/
theorem rparse_text {t : Tk} (h : mayT t = true) : rparseF (textU t) = some t := by
  obtain ⟨h0, h1, h2, h3, h4⟩ := may_parts h
  have bd : ∀ {l : List Int}, risingF (-1) l = true → ∀ v ∈ l, 0 ≤ v ∧ v ≤ 31 := fun h v hv => rising_bounds (by omega) h v hv
  have main : ∀ k, (marksB [43] t.dn ++ (marksB [47] t.ct ++ (marksB [33] t.ms ++ fatesT t.fs))).length < k → NoDig (marksB [43] t.dn ++ (marksB [47] t.ct ++ (marksB [33] t.ms ++ fatesT t.fs))) ∧ scanF k (marksB [43] t.dn ++ (marksB [47] t.ct ++ (marksB [33] t.ms ++ fatesT t.fs))) ⟨t.who, [], [], [], []⟩ = some t := by
    intro k hk
    obtain ⟨n4, _⟩ := scan_fs (k := (fatesT t.fs).length + 1) (t := t) h4 (by omega)
    obtain ⟨n3, _⟩ := scan_ms (t := t) (bd h3) n4 (Nat.lt_succ_self _)
    obtain ⟨n2, _⟩ := scan_ct (t := t) (bd h2) n3 (Nat.lt_succ_self _)
    obtain ⟨n1, k1, l1, e1⟩ := scan_dn (t := ⟨t.who, [], [], [], []⟩) (bd h1) n2 hk
    obtain ⟨_, k2, l2, e2⟩ := scan_ct (t := ⟨t.who, [] ++ t.dn, [], [], []⟩) (bd h2) n3 l1
    obtain ⟨_, k3, l3, e3⟩ := scan_ms (t := ⟨t.who, [] ++ t.dn, [] ++ t.ct, [], []⟩) (bd h3) n4 l2
    obtain ⟨_, e4⟩ := scan_fs (k := k3) (t := ⟨t.who, [] ++ t.dn, [] ++ t.ct, [] ++ t.ms, []⟩) h4 l3
    exact ⟨n1, by rw [e1, e2, e3, e4]; simp⟩
  have e : textU t = whoT t.who ++ (marksB [43] t.dn ++ (marksB [47] t.ct ++ (marksB [33] t.ms ++ fatesT t.fs))) := by unfold textU; simp
  rw [e]
  generalize marksB [43] t.dn ++ (marksB [47] t.ct ++ (marksB [33] t.ms ++ fatesT t.fs)) = T at main
  have hw := h0
  unfold whoB at hw
  simp only [Bool.or_eq_true, decide_eq_true_eq] at hw
  unfold rparseF
  have key : startF (whoT t.who ++ T) = (t.who, T) := by
    have nd := (main (T.length + 1) (by omega)).1
    unfold whoT
    split
    · have := numberF_itoa (v := t.who - 100) (r := T) (by omega) (by omega) nd
      simp only [List.cons_append, startF]
      rw [if_neg (by decide), if_pos trivial, this]
      simp only
      congr 1
      omega
    · split
      · have := numberF_itoa (v := t.who) (r := T) (by omega) (by omega) nd
        simp only [List.cons_append, startF]
        rw [if_pos trivial, this]
      · simp only [List.cons_append, List.nil_append, startF]
        rw [if_neg (by decide), if_neg (by decide)]
        congr 1
        omega
  rw [key]
  exact (main _ (by rw [List.length_append]; omega)).2

end Go.Proofs.YtimeodjfihpgeaaDoor
