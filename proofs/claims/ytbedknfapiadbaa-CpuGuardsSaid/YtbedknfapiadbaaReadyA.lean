/-
  The walks of package ready's readers: 'slices.Index', 'slices.Contains' at int; 'may', 'prio', 'First'.
-/
import Derived.Test.YtbedknfapiadbaaProg
import Derived.Test.YtbedknfapiadbaaBase
namespace Go.Proofs.Ytbedknfapiadbaa
open Go.RowKit

/-- Where x stands first; -1: nowhere. -/
def idx (x : Int) : List Int → Int
  | [] => -1
  | y :: l => if x = y then 0 else if idx x l = -1 then -1 else idx x l + 1
theorem idx_none {x : Int} {l : List Int} (h : x ∉ l) : idx x l = -1 := by
  induction l with
  | nil => rfl
  | cons y l ih =>
    simp only [List.mem_cons, not_or] at h
    rw [idx, if_neg h.1, if_pos (ih h.2)]
theorem idx_ge (x : Int) (l : List Int) : -1 ≤ idx x l := by
  induction l with
  | nil => simp [idx]
  | cons y l ih => rw [idx]; split; omega; split <;> omega
theorem idx_at {x : Int} {l : List Int} (k : Nat) (hk : k < l.length) (h : x ∉ l.take k) (hx : x = l[k]) : idx x l = k := by
  induction l generalizing k with
  | nil => simp at hk
  | cons y l ih =>
    cases k with
    | zero => simp at hx; rw [idx, if_pos hx]; rfl
    | succ k =>
      simp only [List.take_succ_cons, List.mem_cons, not_or] at h
      have := ih k (by simpa using hk) h.2 (by simpa using hx)
      rw [idx, if_neg h.1, this, if_neg (by omega)]
      omega
theorem idx_lt {x : Int} {l : List Int} : 0 ≤ idx x l ↔ x ∈ l := by
  induction l with
  | nil => simp [idx]
  | cons y l ih =>
    rw [idx]
    have := idx_ge x l
    by_cases h : x = y
    · simp [h]
    · rw [if_neg h]
      by_cases h2 : idx x l = -1
      · rw [if_pos h2]
        have : ¬ x ∈ l := fun hm => by have := ih.2 hm; omega
        simp [h, this]
      · rw [if_neg h2]
        have : x ∈ l := ih.1 (by omega)
        simp [this]; omega
theorem not_mem_take_succ {x : Int} {l : List Int} {k : Nat} (hk : k < l.length) (h : x ∉ l.take k) (hx : ¬ x = l[k]) : x ∉ l.take (k + 1) := by
  rw [List.take_succ_eq_append_getElem hk]
  intro hm
  rcases List.mem_append.1 hm with hm | hm
  · exact h hm
  · exact hx (List.mem_singleton.1 hm)
theorem ints_get {l : List Int} {k : Nat} (hk : k < l.length) : (ints l)[k]? = some (.int .i64 l[k]) := by simp [hk]
theorem ret_int {k : IntKind} {a b : Int} (h : a = b) : Ending.returned (.int k a) = .returned (.int k b) := by rw [h]
theorem ret_bool {a b : Bool} (h : a = b) : Ending.returned (.bool a) = .returned (.bool b) := by rw [h]

set_option maxHeartbeats 400000 in
theorem index_any (G : Nat → Prop) (v : Value) (n : Nat) (l : List Int) (x : Int) (w : World) (h : RowAt w G v n 1 (ints l)) :
    Calls Try.prog 64 #[v, .int .i64 x] w fun e w' => e = .returned (.int .i64 (idx x l)) ∧ w = w' := by
  obtain ⟨hl, h⟩ := h
  obtain rfl : n = l.length := by simpa using hl.symm
  clear hl
  rcases h with ⟨rfl, h0⟩ | ⟨b, off, cap, rfl, hnc, hm, _, hb, hc⟩
  · obtain rfl : l = [] := by simpa using h0
    go_enter Try.func64, Try.ntmps64
    go_wp2
    refine wp_loop_rounds 1 ?_
    rw [rounds_succ]
    go_wp2
    go_ret
    exact ⟨rfl, rfl⟩
  · go_enter Try.func64, Try.ntmps64
    go_wp2
    go_loop [8] (fun i => ∃ k : Nat, k ≤ l.length ∧ i = .int .i64 k ∧ x ∉ l.take k) (fun i => l.length - (intOf i).toNat)
    case atStart => exact ⟨0, Nat.zero_le _, rfl, by simp⟩
    case round =>
      obtain ⟨k, hk, rfl, hx⟩ := hrel
      by_cases hlt : k < l.length
      · have hcell := hc k _ (ints_get hlt)
        by_cases hq : x = l[k]
        · have hq' : (x == l[k]) = true := by simpa using hq
          have Hq : Hid (x = l[k]) := hq
          clear hq hc
          go_wp2
          go_ret
          exact ⟨ret_int (idx_at k hlt hx Hq.out).symm, rfl⟩
        · have hq' : (x == l[k]) = false := by simpa using hq
          clear hc
          go_wp2
          go_round
          case rel => exact ⟨k + 1, by omega, by go_num, not_mem_take_succ hlt hx hq⟩
          case measure => simp [intOf]; omega
      · clear hc
        have hx' : x ∉ l := by rwa [List.take_of_length_le (by omega)] at hx
        have hd := idx_none hx'
        have Hd := Lib.hid hd
        clear hd
        go_wp2
        go_ret
        exact ⟨ret_int Hd.out.symm, rfl⟩

set_option maxHeartbeats 400000 in
theorem contains_any (G : Nat → Prop) (v : Value) (n : Nat) (l : List Int) (x : Int) (w : World) (h : RowAt w G v n 1 (ints l)) :
    Calls Try.prog 58 #[v, .int .i64 x] w fun e w' => e = .returned (.bool (decide (x ∈ l))) ∧ w = w' := by
  have H := Lib.hid h
  have hq : Hid (decide (0 ≤ idx x l) = decide (x ∈ l)) := by simp only [Hid, decide_eq_decide]; exact idx_lt
  clear h
  go_enter Try.func58, Try.ntmps58
  go_wp2_with (go_at_call 64; refine (index_any G v n l x _ H.out).mono ?_; rintro e w' ⟨rfl, rfl⟩)
  go_ret
  exact ⟨ret_bool hq.out, rfl⟩

/-- Whether a number, and an urgency, may be. -/
def mayB (a b : Int) : Bool := decide (0 ≤ a) && (decide (a ≤ 63) && (decide (0 ≤ b) && decide (b < 101)))
theorem mayB_iff {a b : Int} : mayB a b = true ↔ 0 ≤ a ∧ a ≤ 63 ∧ 0 ≤ b ∧ b < 101 := by simp [mayB]

set_option maxHeartbeats 400000 in
theorem may_any (a b : Int) (w : World) :
    Calls Try.prog 47 #[.int .i64 a, .int .i64 b] w fun e w' => e = .returned (.bool (mayB a b)) ∧ w = w' := by
  go_enter Try.func47, Try.ntmps47
  go_wp2
  all_goals
    go_ret
    exact ⟨ret_bool (by simp [mayB, *]; try omega), rfl⟩

/-- The queue's rows, as they lie in the heap: block q holds 101 slices; each is nil, or owns a block of its own. F: all these blocks. -/
structure QRep (w : World) (q : Nat) (r : Nat → List Int) (F : Nat → Prop) : Prop where
  mem : F q
  lt : ∀ k, F k → k < w.heap.size
  row : ∃ vs : Array Value, vs.size = 101 ∧ w.heap[q]? = some (.cells vs 92 (0, 0)) ∧
    (∀ i (h : i < vs.size), w.ownsRow 0 3 1 vs[i] (r i).length (ints (r i)) ∧ (∀ g, vs[i].ownBlock = some g → F g ∧ g ≠ q)) ∧
    (∀ i j (hi : i < vs.size) (hj : j < vs.size), i ≠ j → ∀ g, vs[i].ownBlock = some g → vs[j].ownBlock ≠ some g)

theorem QRep.fr {w w' : World} {q : Nat} {r : Nat → List Int} {F G : Nat → Prop} (h : QRep w q r F) (hf : Fr G w w') (hG : ∀ k, F k → ¬ G k) : QRep w' q r F := by
  obtain ⟨hm, hl, vs, hs, hb, hr, hd⟩ := h
  refine ⟨hm, fun k hk => Nat.lt_of_lt_of_le (hl k hk) hf.size, vs, hs, hf.blk hb (hG q hm), fun i hi => ⟨?_, (hr i hi).2⟩, hd⟩
  obtain ⟨h1, h2⟩ := (hr i hi).1
  refine ⟨h1, h2.imp id ?_⟩
  rintro ⟨g, cap, cur, hv, h0, hg, r⟩
  exact ⟨g, cap, cur, hv, h0, hf.blk hg (hG g ((hr i hi).2 g (by rw [hv]; rfl)).1), r⟩

/-- What a loop over the rows wants: the cell of row i, and where that leads. -/
theorem QRep.cell {w : World} {q : Nat} {r : Nat → List Int} {F : Nat → Prop} (h : QRep w q r F) (i : Nat) (hi : i < 101) :
    ∃ v, w.cell? ⟨q, i, none⟩ = some v ∧ RowAt w F v (r i).length 1 (ints (r i)) := by
  obtain ⟨hm, hl, vs, hs, hb, hr, hd⟩ := h
  have hi' : i < vs.size := by omega
  refine ⟨vs[i], by rw [cell_blk hb]; simp [hi'], ?_⟩
  exact (RowAt.of_owns (hr i hi').1).mono fun k hk => ((hr i hi').2 k hk).1

/-- The first row that has x, from k on; 101: none. -/
def prioOf (r : Nat → List Int) (x : Int) : Nat → Nat → Option Nat
  | 0, _ => none
  | n + 1, k => if x ∈ r k then some k else prioOf r x n (k + 1)
/-- A member's urgency. -/
def prio (r : Nat → List Int) (x : Int) : Option Nat := prioOf r x 101 0
def prioN (o : Option Nat) : Int := match o with | some p => p | none => 0

set_option maxHeartbeats 1000000 in
theorem prio_any (q : Nat) (r : Nat → List Int) (F : Nat → Prop) (x : Int) (w : World) (h : QRep w q r F) :
    Calls Try.prog 48 #[.pointer (some ⟨q, 0, none⟩), .int .i64 x] w fun e w' => e = .returned (.tuple #[.int .i64 (prioN (prio r x)), .bool (prio r x).isSome]) ∧ w = w' := by
  have H := Lib.hid h
  clear h
  go_enter Try.func48, Try.ntmps48
  go_wp2
  go_loop [7] (fun i => ∃ k : Nat, k ≤ 101 ∧ i = .int .i64 k ∧ Hid (prio r x = prioOf r x (101 - k) k)) (fun i => 101 - (intOf i).toNat)
  case atStart => exact ⟨0, Nat.zero_le _, rfl, rfl⟩
  case round =>
    obtain ⟨k, hk, rfl, hx⟩ := hrel
    by_cases hlt : k < 101
    · obtain ⟨v, hv, hrow⟩ := H.out.cell k hlt
      have HR := Lib.hid hrow
      clear hrow
      have he : prioOf r x (101 - k) k = if x ∈ r k then some k else prioOf r x (101 - (k + 1)) (k + 1) := by
        rw [show 101 - k = (101 - (k + 1)) + 1 from by omega, prioOf]
      have He := Lib.hid he
      clear he
      by_cases hq : x ∈ r k
      · have hq' : decide (x ∈ r k) = true := by simpa using hq
        have Hp : Hid (prio r x = some k) := by rw [hx.out, He.out, if_pos hq]; rfl
        clear hq
        go_wp2_with (go_at_call 58; refine (contains_any F v _ (r k) x _ HR.out).mono ?_; rintro e w' ⟨rfl, rfl⟩)
        go_ret2
        rw [Hp.out]
        exact ⟨rfl, rfl⟩
      · have hq' : decide (x ∈ r k) = false := by simpa using hq
        have Hp : Hid (prio r x = prioOf r x (101 - (k + 1)) (k + 1)) := by rw [hx.out, He.out, if_neg hq]; rfl
        clear hq
        go_wp2_with (go_at_call 58; refine (contains_any F v _ (r k) x _ HR.out).mono ?_; rintro e w' ⟨rfl, rfl⟩)
        go_round
        case rel => exact ⟨k + 1, by omega, by go_num, Hp⟩
        case measure => simp [intOf]; omega
    · have hp : Hid (prio r x = none) := by rw [hx.out, show 101 - k = 0 from by omega]; rfl
      go_wp2
      go_ret2
      rw [hp.out]
      exact ⟨rfl, rfl⟩

end Go.Proofs.Ytbedknfapiadbaa
