/-
  A record of a tick: its text, what it is made of, and how it is read: in plain words.
-/
import Derived.Test.YtimeodjfihpgeaaDoorStPx
namespace Go.Proofs.YtimeodjfihpgeaaDoor
open Go.RowKit

/-- A record: who ran; which jobs were done, cut off, missed; the outcomes. -/
structure Tk where
  who : Int
  dn : List Int
  ct : List Int
  ms : List Int
  fs : List (Int × Int × Int)
def risingF : Int → List Int → Bool
  | _, [] => true
  | a, n :: r => decide (a < n) && (decide (n ≤ 31) && risingF n r)
def whoB (w : Int) : Bool := decide (-1 ≤ w ∧ w ≤ 31) || decide (100 ≤ w ∧ w ≤ 115)
def fateB (f : Int × Int × Int) : Bool := decide (0 ≤ f.1 ∧ f.1 ≤ 65535) && (decide (f.2.1 = 1 ∧ 0 ≤ f.2.2 ∧ f.2.2 ≤ 255) || decide (f.2.1 = 2 ∧ 1 ≤ f.2.2 ∧ f.2.2 ≤ 3))
def mayT (t : Tk) : Bool := whoB t.who && (risingF (-1) t.dn && (risingF (-1) t.ct && (risingF (-1) t.ms && t.fs.all fateB)))
def marksB (m : Bs) (l : List Int) : Bs := (l.map (fun n => m ++ Lib.itoa n)).flatten
def whoT (w : Int) : Bs := if 100 ≤ w then 115 :: Lib.itoa (w - 100) else if 0 ≤ w then 116 :: Lib.itoa w else [46]
def fateT (f : Int × Int × Int) : Bs := (61 :: Lib.itoa f.1) ++ ((if f.2.1 = 1 then 100 else 97) :: Lib.itoa f.2.2)
def fatesT (l : List (Int × Int × Int)) : Bs := (l.map fateT).flatten
def textU (t : Tk) : Bs := whoT t.who ++ (marksB [43] t.dn ++ marksB [47] t.ct ++ marksB [33] t.ms) ++ fatesT t.fs
def textT (t : Tk) : Bs := if mayT t = true then textU t else []

/-! Bounds. -/
theorem rising_bounds : ∀ {l : List Int} {a : Int}, -1 ≤ a → risingF a l = true → ∀ v ∈ l, 0 ≤ v ∧ v ≤ 31
  | [], _, _, _ => fun v h => by cases h
  | n :: r, a, ha, h => by
    unfold risingF at h
    simp only [Bool.and_eq_true, decide_eq_true_eq] at h
    intro v hv
    rcases List.mem_cons.1 hv with rfl | hv
    · omega
    · exact rising_bounds (by omega) h.2.2 v hv
theorem fate_bounds {f : Int × Int × Int} (h : fateB f = true) : (0 ≤ f.1 ∧ f.1 ≤ 65535) ∧ (f.2.1 = 1 ∨ f.2.1 = 2) ∧ 0 ≤ f.2.2 ∧ f.2.2 ≤ 255 := by
  unfold fateB at h
  simp only [Bool.and_eq_true, Bool.or_eq_true, decide_eq_true_eq] at h
  omega
theorem may_parts {t : Tk} (h : mayT t = true) : whoB t.who = true ∧ risingF (-1) t.dn = true ∧ risingF (-1) t.ct = true ∧ risingF (-1) t.ms = true ∧ ∀ f ∈ t.fs, fateB f = true := by
  unfold mayT at h
  simp only [Bool.and_eq_true, List.all_eq_true] at h
  exact ⟨h.1, h.2.1, h.2.2.1, h.2.2.2.1, h.2.2.2.2⟩

/-! What a text is made of. -/
inductive Part where
  | mk (r : Nat)
  | num (n : Int)
def digR (r : Nat) : Bool := decide (48 ≤ r) && decide (r ≤ 57)
noncomputable def partsG : List Nat → Bs → Option (List Part)
  | [], ds => if ds = [] then some [] else match numV ds with
    | some n => some [.num n]
    | none => none
  | r :: rs, ds => if digR r = true then partsG rs (ds ++ [UInt8.ofNat r]) else if ds = [] then (partsG rs []).map (Part.mk r :: ·) else match numV ds with
    | some n => (partsG rs []).map (fun p => Part.num n :: Part.mk r :: p)
    | none => none
def codes (l : Bs) : List Nat := l.map UInt8.toNat
theorem codes_app (a b : Bs) : codes (a ++ b) = codes a ++ codes b := by simp [codes]
theorem parts_digits : ∀ {d : Bs} {rs : List Nat} {ds : Bs}, (∀ c ∈ d, digB c) → partsG (codes d ++ rs) ds = partsG rs (ds ++ d)
  | [], rs, ds, _ => by simp [codes]
  | c :: d, rs, ds, h => by
    have hc := h c (List.mem_cons_self ..)
    have hr : digR c.toNat = true := by
      unfold digR
      unfold digB at hc
      simpa using hc
    have ih := parts_digits (d := d) (rs := rs) (ds := ds ++ [c]) (fun x hx => h x (List.mem_cons_of_mem _ hx))
    show partsG (c.toNat :: (codes d ++ rs)) ds = _
    rw [partsG, if_pos hr, UInt8.ofNat_toNat, ih]
    simp
theorem itoa_digits {v : Int} (h0 : 0 ≤ v) : ∀ c ∈ Lib.itoa v, digB c := by
  have e : Lib.itoa v = Lib.decDigits v.toNat := by unfold Lib.itoa; rw [if_neg (by omega)]
  rw [e]
  exact (dec_val v.toNat).2.1
theorem itoa_some {v : Int} (h0 : 0 ≤ v) (h1 : v ≤ 2147483647) : numV (Lib.itoa v) = some v.toNat := by rw [numV_itoa, if_pos ⟨h0, h1⟩]
theorem itoa_nn (v : Int) : Lib.itoa v ≠ [] := fun e => by have := itoa_pos v; rw [e] at this; simp at this
/-- Pairs of a mark and a number. -/
def pairsB (P : List (Nat × Int)) : Bs := (P.map (fun p => UInt8.ofNat p.1 :: Lib.itoa p.2)).flatten
def pairsP (P : List (Nat × Int)) : List Part := (P.map (fun p => [Part.mk p.1, Part.num p.2])).flatten
def PairOk (p : Nat × Int) : Prop := p.1 < 256 ∧ digR p.1 = false ∧ 0 ≤ p.2 ∧ p.2 ≤ 2147483647
theorem parts_end {v : Int} (h0 : 0 ≤ v) (h1 : v ≤ 2147483647) : partsG [] (Lib.itoa v) = some [.num v] := by
  unfold partsG
  rw [if_neg (itoa_nn v), itoa_some h0 h1]
  simp only [Int.toNat_of_nonneg h0]
theorem parts_pairs : ∀ {P : List (Nat × Int)}, (∀ p ∈ P, PairOk p) → (∀ v : Int, 0 ≤ v → v ≤ 2147483647 → partsG (codes (pairsB P)) (Lib.itoa v) = some (.num v :: pairsP P)) ∧ partsG (codes (pairsB P)) [] = some (pairsP P)
  | [], _ => ⟨fun v h0 h1 => parts_end h0 h1, rfl⟩
  | (m, n) :: P, h => by
    obtain ⟨h1, h2, h3, h4⟩ := h (m, n) (List.mem_cons_self ..)
    simp only at h1 h2 h3 h4
    obtain ⟨i1, i2⟩ := parts_pairs (P := P) (fun p hp => h p (List.mem_cons_of_mem _ hp))
    have e : codes (pairsB ((m, n) :: P)) = m :: (codes (Lib.itoa n) ++ codes (pairsB P)) := by
      rw [← codes_app]
      simp [codes, pairsB, Nat.mod_eq_of_lt h1]
    have key : partsG (codes (Lib.itoa n) ++ codes (pairsB P)) [] = some (.num n :: pairsP P) := by
      rw [parts_digits (itoa_digits h3), List.nil_append]
      exact i1 n h3 h4
    have hP : pairsP ((m, n) :: P) = .mk m :: .num n :: pairsP P := by simp [pairsP]
    rw [e, hP]
    refine ⟨fun v h0 h5 => ?_, ?_⟩
    · unfold partsG
      rw [if_neg (by rw [h2]; simp), if_neg (itoa_nn v), itoa_some h0 h5]
      simp only [key, Option.map_some, Int.toNat_of_nonneg h0]
    · unfold partsG
      rw [if_neg (by rw [h2]; simp), if_pos rfl, key]
      rfl

/-! The reader. -/
def markP (m : Nat) : List Part → Option (List Part)
  | .mk r :: ps => if r = m then some ps else none
  | _ => none
theorem markP_len {m : Nat} {ps q : List Part} (h : markP m ps = some q) : q.length < ps.length := by
  cases ps with
  | nil => cases h
  | cons x ps =>
    cases x with
    | num n => cases h
    | mk r =>
      simp only [markP] at h
      split at h
      · injection h with h; subst h; simp
      · cases h
def numP : List Part → Int × List Part
  | .num n :: ps => (n, ps)
  | ps => (-1, ps)
theorem numP_len (ps : List Part) : (numP ps).2.length ≤ ps.length := by
  cases ps with
  | nil => simp [numP]
  | cons x ps => cases x <;> simp [numP]
def numsP (m : Nat) (ps : List Part) : List Int × List Part :=
  match h : markP m ps with
  | none => ([], ps)
  | some q => ((numP q).1 :: (numsP m (numP q).2).1, (numsP m (numP q).2).2)
termination_by ps.length
decreasing_by all_goals (have h1 := markP_len h; have h2 := numP_len q; omega)
theorem numsP_none {m : Nat} {ps : List Part} (h : markP m ps = none) : numsP m ps = ([], ps) := by
  rw [numsP]
  split
  · rfl
  · rename_i q hq; rw [h] at hq; cases hq
theorem numsP_some {m : Nat} {ps q : List Part} (h : markP m ps = some q) : numsP m ps = ((numP q).1 :: (numsP m (numP q).2).1, (numsP m (numP q).2).2) := by
  rw [numsP]
  split
  · rename_i hq; rw [h] at hq; cases hq
  · rename_i q' hq; rw [h] at hq; injection hq with hq; subst hq; rfl
def kindP (ps : List Part) : Int × List Part := match markP 100 ps with
  | some q => (1, q)
  | none => (2, (markP 97 ps).getD ps)
theorem kindP_len (ps : List Part) : (kindP ps).2.length ≤ ps.length := by
  unfold kindP
  split
  · rename_i q h; have := markP_len h; simp only; omega
  · simp only
    cases h : markP 97 ps with
    | none => simp
    | some q => have := markP_len h; simp; omega
def fatesP (ps : List Part) : List (Int × Int × Int) × List Part :=
  match h : markP 61 ps with
  | none => ([], ps)
  | some q => (((numP q).1, (kindP (numP q).2).1, (numP (kindP (numP q).2).2).1) :: (fatesP (numP (kindP (numP q).2).2).2).1, (fatesP (numP (kindP (numP q).2).2).2).2)
termination_by ps.length
decreasing_by all_goals (have h1 := markP_len h; have h2 := numP_len q; have h3 := kindP_len (numP q).2; have h4 := numP_len (kindP (numP q).2).2; omega)
theorem fatesP_none {ps : List Part} (h : markP 61 ps = none) : fatesP ps = ([], ps) := by
  rw [fatesP]
  split
  · rfl
  · rename_i q hq; rw [h] at hq; cases hq
theorem fatesP_some {ps q : List Part} (h : markP 61 ps = some q) : fatesP ps = (((numP q).1, (kindP (numP q).2).1, (numP (kindP (numP q).2).2).1) :: (fatesP (numP (kindP (numP q).2).2).2).1, (fatesP (numP (kindP (numP q).2).2).2).2) := by
  rw [fatesP]
  split
  · rename_i hq; rw [h] at hq; cases hq
  · rename_i q' hq; rw [h] at hq; injection hq with hq; subst hq; rfl
def whoP (ps : List Part) : Int × List Part := match markP 116 ps with
  | some q => numP q
  | none => match markP 115 ps with
    | some q => (100 + (numP q).1, (numP q).2)
    | none => (-1, (markP 46 ps).getD ps)
def readP (ps : List Part) : Tk :=
  let a := whoP ps
  let b := numsP 43 a.2
  let c := numsP 47 b.2
  let d := numsP 33 c.2
  let e := fatesP d.2
  ⟨a.1, b.1, c.1, d.1, e.1⟩

/-! What is told is read. -/
def starts (m : Nat) (ps : List Part) : Prop := ∃ q, ps = .mk m :: q
theorem mark_other {m : Nat} {ps : List Part} (h : ∀ r q, ps = .mk r :: q → r ≠ m) : markP m ps = none := by
  cases ps with
  | nil => rfl
  | cons x ps =>
    cases x with
    | num n => rfl
    | mk r => simp only [markP]; rw [if_neg (h r ps rfl)]
theorem nums_run {m : Nat} : ∀ {l : List Int} {rest : List Part}, markP m rest = none → numsP m (pairsP (l.map (fun n => (m, n))) ++ rest) = (l, rest)
  | [], rest, h => by show numsP m rest = _; rw [numsP_none h]
  | n :: l, rest, h => by
    have e : pairsP ((n :: l).map (fun n => (m, n))) ++ rest = .mk m :: .num n :: (pairsP (l.map (fun n => (m, n))) ++ rest) := by simp [pairsP]
    have ih := nums_run (l := l) h
    rw [e, numsP_some (q := .num n :: (pairsP (l.map (fun n => (m, n))) ++ rest)) (by simp [markP])]
    simp only [numP, ih]
def fatePairs (f : Int × Int × Int) : List (Nat × Int) := [(61, f.1), (if f.2.1 = 1 then 100 else 97, f.2.2)]
theorem fates_run : ∀ {l : List (Int × Int × Int)}, (∀ f ∈ l, f.2.1 = 1 ∨ f.2.1 = 2) → fatesP (pairsP (l.map fatePairs).flatten) = (l, [])
  | [], _ => by show fatesP [] = _; rw [fatesP_none rfl]
  | (i, k, v) :: l, h => by
    have hk := h _ (List.mem_cons_self ..)
    have ih := fates_run (l := l) (fun f hf => h f (List.mem_cons_of_mem _ hf))
    simp only at hk
    rcases hk with rfl | rfl
    · have e : pairsP (((i, (1 : Int), v) :: l).map fatePairs).flatten = .mk 61 :: .num i :: .mk 100 :: .num v :: pairsP (l.map fatePairs).flatten := by simp [pairsP, fatePairs]
      rw [e, fatesP_some (q := .num i :: .mk 100 :: .num v :: pairsP (l.map fatePairs).flatten) (by simp [markP])]
      simp [numP, kindP, markP, ih]
    · have e : pairsP (((i, (2 : Int), v) :: l).map fatePairs).flatten = .mk 61 :: .num i :: .mk 97 :: .num v :: pairsP (l.map fatePairs).flatten := by simp [pairsP, fatePairs]
      rw [e, fatesP_some (q := .num i :: .mk 97 :: .num v :: pairsP (l.map fatePairs).flatten) (by simp [markP])]
      simp [numP, kindP, markP, ih]
def tailPairs (t : Tk) : List (Nat × Int) := t.dn.map (fun n => (43, n)) ++ (t.ct.map (fun n => (47, n)) ++ (t.ms.map (fun n => (33, n)) ++ (t.fs.map fatePairs).flatten))
def whoParts (w : Int) : List Part := if 100 ≤ w then [.mk 115, .num (w - 100)] else if 0 ≤ w then [.mk 116, .num w] else [.mk 46]
theorem pairsP_app (a b : List (Nat × Int)) : pairsP (a ++ b) = pairsP a ++ pairsP b := by simp [pairsP]
theorem pairsB_app (a b : List (Nat × Int)) : pairsB (a ++ b) = pairsB a ++ pairsB b := by simp [pairsB]
theorem pairs_first {m : Nat} {P : List (Nat × Int)} (h : ∀ p ∈ P, p.1 ≠ m) : markP m (pairsP P) = none := by
  refine mark_other fun r q e => ?_
  cases P with
  | nil => cases e
  | cons p P =>
    rw [show pairsP (p :: P) = .mk p.1 :: .num p.2 :: pairsP P from by simp [pairsP]] at e
    injection e with e _
    injection e with e
    subst e
    exact h p (List.mem_cons_self ..)
theorem read_run {t : Tk} (hw : whoB t.who = true) (hf : ∀ f ∈ t.fs, f.2.1 = 1 ∨ f.2.1 = 2) : readP (whoParts t.who ++ pairsP (tailPairs t)) = t := by
  have hfm : ∀ p ∈ (t.fs.map fatePairs).flatten, p.1 = 61 ∨ p.1 = 100 ∨ p.1 = 97 := by
    intro p hp
    obtain ⟨l, hl, hp⟩ := List.mem_flatten.1 hp
    obtain ⟨f, _, rfl⟩ := List.mem_map.1 hl
    simp only [fatePairs, List.mem_cons, List.not_mem_nil, or_false] at hp
    rcases hp with rfl | rfl
    · exact .inl rfl
    · simp only; split
      · exact .inr (.inl rfl)
      · exact .inr (.inr rfl)
  have h0 : whoP (whoParts t.who ++ pairsP (tailPairs t)) = (t.who, pairsP (tailPairs t)) := by
    unfold whoParts
    unfold whoB at hw
    simp only [Bool.or_eq_true, decide_eq_true_eq] at hw
    split
    · simp only [whoP, List.cons_append, List.nil_append, markP, numP]
      simp
      omega
    · split
      · simp [whoP, markP, numP]
      · simp only [whoP, List.cons_append, List.nil_append, markP]
        simp
        omega
  have e1 : pairsP (tailPairs t) = pairsP (t.dn.map (fun n => (43, n))) ++ (pairsP (t.ct.map (fun n => (47, n))) ++ (pairsP (t.ms.map (fun n => (33, n))) ++ pairsP (t.fs.map fatePairs).flatten)) := by
    unfold tailPairs; rw [pairsP_app, pairsP_app, pairsP_app]
  have m4 : markP 33 (pairsP (t.fs.map fatePairs).flatten) = none := pairs_first fun p hp => by have := hfm p hp; omega
  have m3 : markP 47 (pairsP (t.ms.map (fun n => (33, n))) ++ pairsP (t.fs.map fatePairs).flatten) = none := by
    rw [← pairsP_app]
    refine pairs_first fun p hp => ?_
    rcases List.mem_append.1 hp with hp | hp
    · obtain ⟨n, _, rfl⟩ := List.mem_map.1 hp; simp
    · have := hfm p hp; omega
  have m2 : markP 43 (pairsP (t.ct.map (fun n => (47, n))) ++ (pairsP (t.ms.map (fun n => (33, n))) ++ pairsP (t.fs.map fatePairs).flatten)) = none := by
    rw [← pairsP_app, ← pairsP_app]
    refine pairs_first fun p hp => ?_
    rcases List.mem_append.1 hp with hp | hp
    · obtain ⟨n, _, rfl⟩ := List.mem_map.1 hp; simp
    · rcases List.mem_append.1 hp with hp | hp
      · obtain ⟨n, _, rfl⟩ := List.mem_map.1 hp; simp
      · have := hfm p hp; omega
  unfold readP
  rw [h0]
  simp only
  rw [e1, nums_run m2]
  simp only
  rw [nums_run m3]
  simp only
  rw [nums_run m4]
  simp only
  rw [fates_run hf]
theorem marks_pairs (m : Nat) : ∀ (l : List Int), marksB [UInt8.ofNat m] l = pairsB (l.map (fun n => (m, n)))
  | [] => rfl
  | n :: l => by
    have ih := marks_pairs m l
    unfold marksB pairsB at *
    simp only [List.map_cons, List.flatten_cons, ih]
    rfl
theorem fates_pairs : ∀ (l : List (Int × Int × Int)), fatesT l = pairsB (l.map fatePairs).flatten
  | [] => rfl
  | f :: l => by
    have ih := fates_pairs l
    rw [List.map_cons, List.flatten_cons, pairsB_app, ← ih]
    unfold fatesT
    rw [List.map_cons, List.flatten_cons]
    congr 1
    unfold fateT fatePairs pairsB
    split <;> simp
theorem text_pairs (t : Tk) : textU t = whoT t.who ++ pairsB (tailPairs t) := by
  unfold textU tailPairs
  rw [pairsB_app, pairsB_app, pairsB_app, ← marks_pairs, ← marks_pairs, ← marks_pairs, ← fates_pairs]
  simp
theorem tail_ok {t : Tk} (h : mayT t = true) : ∀ p ∈ tailPairs t, PairOk p := by
  obtain ⟨_, h1, h2, h3, h4⟩ := may_parts h
  intro p hp
  unfold tailPairs at hp
  have hn : ∀ (m : Nat) (l : List Int), m < 256 → digR m = false → risingF (-1) l = true → p ∈ l.map (fun n => (m, n)) → PairOk p := by
    intro m l hm hd hr hp
    obtain ⟨n, hn, rfl⟩ := List.mem_map.1 hp
    have := rising_bounds (by omega) hr n hn
    exact ⟨hm, hd, this.1, by simp only; omega⟩
  rcases List.mem_append.1 hp with hp | hp
  · exact hn 43 _ (by decide) (by decide) h1 hp
  rcases List.mem_append.1 hp with hp | hp
  · exact hn 47 _ (by decide) (by decide) h2 hp
  rcases List.mem_append.1 hp with hp | hp
  · exact hn 33 _ (by decide) (by decide) h3 hp
  obtain ⟨l, hl, hp⟩ := List.mem_flatten.1 hp
  obtain ⟨f, hf, rfl⟩ := List.mem_map.1 hl
  have hb := fate_bounds (h4 f hf)
  simp only [fatePairs, List.mem_cons, List.not_mem_nil, or_false] at hp
  rcases hp with rfl | rfl
  · exact ⟨by show (61 : Nat) < 256; decide, by show digR 61 = false; decide, hb.1.1, by simp only; omega⟩
  · refine ⟨?_, ?_, hb.2.2.1, by simp only; omega⟩
    · simp only; split <;> decide
    · simp only; split <;> decide
theorem parts_text {t : Tk} (h : mayT t = true) : partsG (codes (textU t)) [] = some (whoParts t.who ++ pairsP (tailPairs t)) := by
  obtain ⟨i1, i2⟩ := parts_pairs (tail_ok h)
  have hw := (may_parts h).1
  unfold whoB at hw
  simp only [Bool.or_eq_true, decide_eq_true_eq] at hw
  rw [text_pairs, codes_app]
  unfold whoT whoParts
  have step : ∀ (m : Nat) (v : Int), m < 256 → digR m = false → 0 ≤ v → v ≤ 2147483647 → partsG (codes (UInt8.ofNat m :: Lib.itoa v) ++ codes (pairsB (tailPairs t))) [] = some ([.mk m, .num v] ++ pairsP (tailPairs t)) := by
    intro m v hm hd h0 h1
    have e : codes (UInt8.ofNat m :: Lib.itoa v) ++ codes (pairsB (tailPairs t)) = m :: (codes (Lib.itoa v) ++ codes (pairsB (tailPairs t))) := by simp [codes, Nat.mod_eq_of_lt hm]
    rw [e]
    unfold partsG
    rw [if_neg (by rw [hd]; simp), if_pos rfl, parts_digits (itoa_digits h0), List.nil_append, i1 v h0 h1]
    rfl
  split
  · exact step 115 _ (by decide) (by decide) (by omega) (by omega)
  · split
    · exact step 116 _ (by decide) (by decide) (by omega) (by omega)
    · show partsG (46 :: codes (pairsB (tailPairs t))) [] = _
      unfold partsG
      rw [if_neg (by decide), if_pos rfl, i2]
      rfl
theorem read_text {t : Tk} (h : mayT t = true) : ∃ ps, partsG (codes (textU t)) [] = some ps ∧ readP ps = t :=
  ⟨_, parts_text h, read_run (may_parts h).1 (fun f hf => (fate_bounds ((may_parts h).2.2.2.2 f hf)).2.1)⟩
/-- Two records with the same text are the same. -/
theorem text_inj {t t' : Tk} (h : mayT t = true) (h' : mayT t' = true) (e : textU t = textU t') : t = t' := by
  obtain ⟨ps, h1, h2⟩ := read_text h
  obtain ⟨ps', h1', h2'⟩ := read_text h'
  rw [e, h1'] at h1
  injection h1 with h1
  rw [← h2, ← h2', h1]

end Go.Proofs.YtimeodjfihpgeaaDoor
