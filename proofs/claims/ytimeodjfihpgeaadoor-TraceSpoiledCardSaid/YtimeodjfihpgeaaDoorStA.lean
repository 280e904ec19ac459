/-
  Lines of bytes and their words, plainly; what a range over a string tells of them. No program in sight.
-/
import Derived.Test.YtimeodjfihpgeaaDoorAppR
import Derived.Laws.RangeAny
import Derived.Lib.Strings
namespace Go.Proofs.YtimeodjfihpgeaaDoor
open Go.RowKit

abbrev Bs := List UInt8
/-- A text as a value, texts as cells. -/
abbrev strv (l : Bs) : Value := .string ⟨l.toArray⟩
def strV (W : List Bs) : List Value := W.map strv
theorem strV_append (A B : List Bs) : strV (A ++ B) = strV A ++ strV B := by simp [strV]
theorem strV_len (A : List Bs) : (strV A).length = A.length * 1 := by simp [strV]
def blankB (c : UInt8) : Bool := c == 32 || c == 9 || c == 10 || c == 13
/-- The words of what is left, a word begun. -/
def wgo : Bs → Bs → List Bs
  | cur, [] => if cur = [] then [] else [cur]
  | cur, c :: r => if blankB c then (if cur = [] then wgo [] r else cur :: wgo [] r) else wgo (cur ++ [c]) r
def words (l : Bs) : List Bs := wgo [] l
theorem wgo_blank {cur : Bs} {c : UInt8} {r : Bs} (h : blankB c = true) : wgo cur (c :: r) = if cur = [] then wgo [] r else cur :: wgo [] r := by
  rw [wgo, if_pos h]
theorem wgo_letter {cur : Bs} {c : UInt8} {r : Bs} (h : blankB c = false) : wgo cur (c :: r) = wgo (cur ++ [c]) r := by
  rw [wgo, if_neg (by simp [h])]
theorem wgo_letters : ∀ {k cur r : Bs}, (∀ c ∈ k, blankB c = false) → wgo cur (k ++ r) = wgo (cur ++ k) r
  | [], cur, r, _ => by simp
  | c :: k, cur, r, h => by
    rw [List.cons_append, wgo_letter (h c (List.mem_cons_self ..)), wgo_letters (fun d hd => h d (List.mem_cons_of_mem _ hd)), List.append_assoc]
    rfl
theorem wgo_len : ∀ {r cur : Bs}, (wgo cur r).length ≤ r.length + (if cur = [] then 0 else 1)
  | [], cur => by unfold wgo; split <;> simp
  | c :: r, cur => by
    unfold wgo
    split
    · split
      · have := wgo_len (r := r) (cur := []); simp at this ⊢; omega
      · have := wgo_len (r := r) (cur := []); simp at this ⊢; omega
    · have := wgo_len (r := r) (cur := cur ++ [c])
      simp at this ⊢
      split <;> omega
theorem words_len (l : Bs) : (words l).length ≤ l.length := by have := wgo_len (r := l) (cur := []); unfold words; simpa using this
/-- Each word: some bytes, no blank among them. -/
theorem wgo_mem : ∀ {r cur : Bs}, (∀ c ∈ cur, blankB c = false) → ∀ x ∈ wgo cur r, x ≠ [] ∧ (∀ c ∈ x, blankB c = false) ∧ x.length ≤ cur.length + r.length
  | [], cur, hc, x, hx => by
    unfold wgo at hx
    split at hx
    · cases hx
    · rw [List.mem_singleton] at hx; subst hx; exact ⟨by assumption, hc, by simp⟩
  | c :: r, cur, hc, x, hx => by
    by_cases hb : blankB c = true
    · rw [wgo_blank hb] at hx
      split at hx
      · obtain ⟨h1, h2, h3⟩ := wgo_mem (fun c h => by cases h) x hx
        exact ⟨h1, h2, by simp at h3 ⊢; omega⟩
      · rcases List.mem_cons.1 hx with rfl | hx
        · exact ⟨by assumption, hc, by simp⟩
        · obtain ⟨h1, h2, h3⟩ := wgo_mem (fun c h => by cases h) x hx
          exact ⟨h1, h2, by simp at h3 ⊢; omega⟩
    · have hb' : blankB c = false := by simpa using hb
      rw [wgo_letter hb'] at hx
      obtain ⟨h1, h2, h3⟩ := wgo_mem (cur := cur ++ [c]) (fun d hd => by
        rcases List.mem_append.1 hd with h | h
        · exact hc d h
        · rw [List.mem_singleton] at h; subst h; exact hb') x hx
      exact ⟨h1, h2, by simp at h3 ⊢; omega⟩
theorem words_mem {l x : Bs} (hx : x ∈ words l) : x ≠ [] ∧ (∀ c ∈ x, blankB c = false) ∧ x.length ≤ l.length := by
  have := wgo_mem (cur := []) (fun c h => by cases h) x hx
  simpa using this
/-- A word alone. -/
theorem words_one {x : Bs} (h1 : x ≠ []) (h2 : ∀ c ∈ x, blankB c = false) : words x = [x] := by
  have := wgo_letters (k := x) (cur := []) (r := []) h2
  rw [List.append_nil] at this
  unfold words
  rw [this]
  simp [wgo, h1]
/-- Lines one behind the other, a blank between. -/
theorem wgo_join {c : UInt8} (h : blankB c = true) : ∀ {a cur b : Bs}, wgo cur (a ++ c :: b) = wgo cur a ++ words b
  | [], cur, b => by
    rw [List.nil_append, wgo_blank h]
    unfold words
    by_cases e : cur = []
    · simp [wgo, e]
    · simp [wgo, e]
  | x :: a, cur, b => by
    rw [List.cons_append]
    by_cases hx : blankB x = true
    · rw [wgo_blank hx, wgo_blank hx, wgo_join h]
      split <;> simp
    · have hx' : blankB x = false := by simpa using hx
      rw [wgo_letter hx', wgo_letter hx', wgo_join h]
theorem words_join {c : UInt8} (h : blankB c = true) (a b : Bs) : words (a ++ c :: b) = words a ++ words b := wgo_join h
theorem words_nil : words [] = [] := rfl
theorem words_ahead {c : UInt8} (h : blankB c = true) (b : Bs) : words (c :: b) = words b := by
  have := words_join h [] b; simpa [words_nil] using this
theorem words_aheads : ∀ {k : Bs}, (∀ c ∈ k, blankB c = true) → ∀ b, words (k ++ b) = words b
  | [], _, b => rfl
  | c :: k, h, b => by rw [List.cons_append, words_ahead (h c (List.mem_cons_self ..)), words_aheads (fun d hd => h d (List.mem_cons_of_mem _ hd))]
theorem words_behinds : ∀ {k : Bs}, (∀ c ∈ k, blankB c = true) → ∀ a, words (a ++ k) = words a
  | [], _, a => by rw [List.append_nil]
  | c :: k, h, a => by
    have hk : words k = [] := by
      have := words_aheads (k := k) (fun d hd => h d (List.mem_cons_of_mem _ hd)) []
      rwa [List.append_nil] at this
    rw [words_join (h c (List.mem_cons_self ..)), hk, List.append_nil]

/-! A string as its bytes; a rune's bytes. -/
theorem bts_size (s : ByteArray) : s.size = s.data.toList.length := Lib.size_eq s
theorem bts_get {s : ByteArray} {i : Nat} (h : i < s.size) : s.data.toList[i]'(by rw [← bts_size]; exact h) = s[i]'h := by
  rw [Array.getElem_toList]; rfl
theorem bts_mk (l : Bs) : (⟨l.toArray⟩ : ByteArray).data.toList = l := rfl
/-- A rune that isn't ASCII's: all its bytes are from 128 on. -/
theorem decode_run {s : ByteArray} {pos : Nat} (h : pos < s.size) (ha : 128 ≤ (s[pos]'h).toNat) : pos + (Utf8.decode s pos).2 ≤ s.size ∧ ∀ k (hk : pos + k < s.size), k < (Utf8.decode s pos).2 → 128 ≤ (s[pos + k]'hk).toNat := by
  have hn : ¬ (s[pos]'h).toNat < 128 := by omega
  have hget : ∀ k (hk : pos + k < s.size), (s.get! (pos + k)).toNat = (s[pos + k]'hk).toNat := fun k hk => by
    rw [show s.get! (pos + k) = s[pos + k]'hk from get_at s (pos + k) hk]
  have one : pos + 1 ≤ s.size ∧ ∀ k (hk : pos + k < s.size), k < 1 → 128 ≤ (s[pos + k]'hk).toNat := ⟨h, fun k hk h1 => by
    obtain rfl : k = 0 := by omega
    exact ha⟩
  simp only [Utf8.decode, get_at s pos h, hn, if_false]
  split
  · rename_i h2
    simp only [Bool.and_eq_true, decide_eq_true_eq, beq_iff_eq] at h2
    obtain ⟨_, h3, h4⟩ := h2
    split
    · refine ⟨h3, fun k hk hk2 => ?_⟩
      rcases (by omega : k = 0 ∨ k = 1) with rfl | rfl
      · exact ha
      · rw [hget 1 hk] at h4; omega
    · exact one
  · split
    · rename_i h2
      simp only [Bool.and_eq_true, decide_eq_true_eq, beq_iff_eq] at h2
      obtain ⟨⟨_, h3, h4⟩, h5, h6⟩ := h2
      split
      · refine ⟨h5, fun k hk hk2 => ?_⟩
        rcases (by omega : k = 0 ∨ k = 1 ∨ k = 2) with rfl | rfl | rfl
        · exact ha
        · rw [hget 1 hk] at h4; omega
        · rw [hget 2 hk] at h6; omega
      · exact one
    · split
      · rename_i h2
        simp only [Bool.and_eq_true, decide_eq_true_eq, beq_iff_eq] at h2
        obtain ⟨⟨⟨_, h3, h4⟩, h5, h6⟩, h7, h8⟩ := h2
        split
        · refine ⟨h7, fun k hk hk2 => ?_⟩
          rcases (by omega : k = 0 ∨ k = 1 ∨ k = 2 ∨ k = 3) with rfl | rfl | rfl | rfl
          · exact ha
          · rw [hget 1 hk] at h4; omega
          · rw [hget 2 hk] at h6; omega
          · rw [hget 3 hk] at h8; omega
        · exact one
      · exact one
/-- What a range tells at a place: ASCII's byte, or a rune beyond. -/
theorem rune_at {s : ByteArray} {pos : Nat} (h : pos < s.size) : (∃ c : UInt8, c.toNat < 128 ∧ Utf8.decode s pos = (c.toNat, 1) ∧ s.data.toList.drop pos = c :: s.data.toList.drop (pos + 1)) ∨
    (128 ≤ (Utf8.decode s pos).1 ∧ 1 ≤ (Utf8.decode s pos).2 ∧ ∃ k : Bs, k.length = (Utf8.decode s pos).2 ∧ (∀ c ∈ k, 128 ≤ c.toNat) ∧ s.data.toList.drop pos = k ++ s.data.toList.drop (pos + (Utf8.decode s pos).2)) := by
  have hl : pos < s.data.toList.length := by rw [← bts_size]; exact h
  by_cases ha : (s[pos]'h).toNat < 128
  · exact .inl ⟨s[pos]'h, ha, decode_ascii s pos h ha, by rw [List.drop_eq_getElem_cons hl, bts_get h]⟩
  · obtain ⟨h1, h2⟩ := decode_high s pos h (by omega)
    obtain ⟨h3, h4⟩ := decode_run h (by omega)
    generalize Utf8.decode s pos = d at h1 h2 h3 h4
    refine .inr ⟨h1, h2, (s.data.toList.drop pos).take d.2, ?_, fun c hc => ?_, ?_⟩
    · rw [List.length_take, List.length_drop, ← bts_size]; omega
    · obtain ⟨k, hk, rfl⟩ := List.getElem_of_mem hc
      rw [List.length_take, List.length_drop, ← bts_size] at hk
      rw [List.getElem_take, List.getElem_drop, bts_get (by omega)]
      exact h4 k (by omega) (by omega)
    · rw [← List.drop_drop, List.take_append_drop]
def blankR (r : Nat) : Bool := r == 32 || r == 9 || r == 10 || r == 13
theorem blankR_of {c : UInt8} : blankR c.toNat = blankB c := by
  unfold blankR blankB
  have e : ∀ k : UInt8, (c.toNat == k.toNat) = (c == k) := fun k => by
    by_cases h : c = k
    · subst h; simp
    · have : ¬ c.toNat = k.toNat := fun e => h (UInt8.toNat_inj.1 e)
      rw [beq_eq_false_iff_ne.2 this, beq_eq_false_iff_ne.2 h]
  rw [← e 32, ← e 9, ← e 10, ← e 13]
  rfl
theorem high_letter {c : UInt8} (h : 128 ≤ c.toNat) : blankB c = false := by
  rw [← blankR_of]
  unfold blankR
  simp
  omega
/-- The words over one rune. -/
theorem wgo_rune {s : ByteArray} {pos : Nat} (h : pos < s.size) (cur : Bs) :
    (blankR (Utf8.decode s pos).1 = true ∧ (Utf8.decode s pos).2 = 1 ∧ wgo cur (s.data.toList.drop pos) = if cur = [] then wgo [] (s.data.toList.drop (pos + 1)) else cur :: wgo [] (s.data.toList.drop (pos + 1))) ∨
    (blankR (Utf8.decode s pos).1 = false ∧ 1 ≤ (Utf8.decode s pos).2 ∧ pos + (Utf8.decode s pos).2 ≤ s.size ∧ wgo cur (s.data.toList.drop pos) = wgo (cur ++ (s.data.toList.drop pos).take (Utf8.decode s pos).2) (s.data.toList.drop (pos + (Utf8.decode s pos).2))) := by
  rcases rune_at h with ⟨c, _, hd, hr⟩ | ⟨h1, h2, k, hk, hc, hr⟩
  · rw [hd]
    simp only
    rw [blankR_of]
    by_cases hb : blankB c = true
    · exact .inl ⟨hb, trivial, by rw [hr, wgo_blank hb]⟩
    · have hb' : blankB c = false := by simpa using hb
      exact .inr ⟨hb', by omega, h, by rw [hr, wgo_letter hb']; rfl⟩
  · refine .inr ⟨?_, h2, ?_, ?_⟩
    · unfold blankR; simp; omega
    · have := congrArg List.length hr
      rw [List.length_append, List.length_drop, List.length_drop, ← bts_size, hk] at this
      omega
    · have e : (s.data.toList.drop pos).take (Utf8.decode s pos).2 = k := by rw [hr, ← hk]; exact List.take_left' rfl
      rw [e]
      conv => lhs; rw [hr]
      exact wgo_letters (fun c h => high_letter (hc c h))

end Go.Proofs.YtimeodjfihpgeaaDoor
