/-
  A wheel, as it lies in memory; the walk of part.
-/
import Derived.Test.YtbodnmcaipakcaaProg
import Derived.Test.YtbodnmcaipakcaaMapL
import Derived.Tactics
import Derived.Tactics2
import Derived.WalkKit
import Derived.KernelRfl
import Derived.IntWalk
import Derived.BigRegion
import Derived.Deep.QuietTactic
import Derived.BigQuiet
import Derived.Deep.DeepCutAuto
import Derived.Deep.CutBlock
import Derived.Laws.BitsAllLaws
import Derived.Laws.BitsLemmas
namespace Go.Proofs.Ytbodnmcaipakcaa
open Go.RowKit Go.ChangeMaps Go.MapKept
open Go.Maps (Keyed)

theorem ofInt_i64 (a : Nat) (ha : a < 9223372036854775808) : (BitVec.ofInt 64 (a : Int)).toNat = a := by
  rw [BitVec.ofInt_natCast, BitVec.toNat_ofNat]; exact Nat.mod_eq_of_lt (by omega)
theorem i64_and_nat (a b : Nat) (ha : a < 9223372036854775808) (hb : b < 9223372036854775808) : bits .and .i64 (a : Int) (b : Int) = ((a &&& b : Nat) : Int) := by
  have hx : a &&& b < 2 ^ 63 := Nat.and_lt_two_pow _ (by omega)
  show IntKind.i64.wrap ((BitVec.ofInt 64 (a : Int) &&& BitVec.ofInt 64 (b : Int)).toNat : Int) = _
  rw [BitVec.toNat_and, ofInt_i64 a ha, ofInt_i64 b hb, IntKind.wrap_i64]
  omega

/-- A time's part at a level. -/
def partN (t lv : Nat) : Nat := t / 16 ^ lv % 16
theorem partN_lt (t lv : Nat) : partN t lv < 16 := Nat.mod_lt _ (by decide)
theorem part_val (t lv : Nat) (ht : t < 9223372036854775808) : bits .and .i64 (wrap64 ((t : Int) / 2 ^ (4 * lv))) 15 = (partN t lv : Int) := by
  have e1 : (t : Int) / 2 ^ (4 * lv) = ((t / 2 ^ (4 * lv) : Nat) : Int) := by simp
  have h1 : t / 2 ^ (4 * lv) < 9223372036854775808 := Nat.lt_of_le_of_lt (Nat.div_le_self _ _) ht
  have e2 : wrap64 ((t / 2 ^ (4 * lv) : Nat) : Int) = ((t / 2 ^ (4 * lv) : Nat) : Int) := by
    generalize t / 2 ^ (4 * lv) = X at h1
    unfold wrap64
    omega
  rw [e1, e2]
  have e3 := i64_and_nat (t / 2 ^ (4 * lv)) 15 h1 (by decide)
  have e4 : t / 2 ^ (4 * lv) &&& 15 = partN t lv := by
    have : (15 : Nat) = 2 ^ 4 - 1 := by decide
    rw [this, Nat.and_two_pow_sub_one_eq_mod]
    unfold partN
    rw [Nat.pow_mul]
  rw [e4] at e3
  exact e3
theorem part_any (t lv : Nat) (hl : lv < 16) (ht : t < 9223372036854775808) (w : World) :
    Calls Try.prog 40 #[.int .u64 t, .int .i64 lv] w fun e w' => e = .returned (.int .i64 (partN t lv)) ∧ w = w' := by
  have HV := Box.mk (part_val t lv ht)
  go_enter Try.func40, Try.ntmps40
  go_wp2
  go_ret
  rw [HV.out]
  exact ⟨rfl, rfl⟩

/-- Where a timer lies, and when it goes off. -/
structure Spot where
  at' : Nat
  lv : Nat
  pl : Nat
def spotV (s : Spot) : Value := .agg #[.int .u64 s.at', .int .i64 s.lv, .int .i64 s.pl]
def spotD (v : Value) : Option Spot := match v with
  | .agg ⟨[.int .u64 a, .int .i64 b, .int .i64 c]⟩ => if 0 ≤ a ∧ 0 ≤ b ∧ 0 ≤ c then some ⟨a.toNat, b.toNat, c.toNat⟩ else none
  | _ => none
def spotE : ElemR Spot where
  val := spotV
  dec := spotD
  enc := fun s => .agg [.lit (.int .u64 s.at'), .lit (.int .i64 s.lv), .lit (.int .i64 s.pl)]
  mkdec := fun s => by simp [spotV, spotD]
  decmk := fun v s h => by
    unfold spotD at h
    split at h
    · split at h
      · simp only [Option.some.injEq] at h
        subst h
        rename_i hc
        simp only [spotV, Int.toNat_of_nonneg hc.1, Int.toNat_of_nonneg hc.2.1, Int.toNat_of_nonneg hc.2.2]
      · cases h
    · cases h
  inj := fun a b h => by
    obtain ⟨a1, a2, a3⟩ := a
    obtain ⟨b1, b2, b3⟩ := b
    simp at h
    obtain ⟨h1, h2, h3⟩ := h
    have e1 : a1 = b1 := by omega
    have e2 : a2 = b2 := by omega
    have e3 : a3 = b3 := by omega
    rw [e1, e2, e3]

/-- A wheel: the time, and where each timer lies. -/
structure WM where
  now : Nat
  f : Nat → Option Spot
def WM.all (M : WM) : Int → Option Spot := fun x => if 0 ≤ x then M.f x.toNat else none
def inRow (l q : Nat) : Option Spot → Bool
  | some s => decide (s.lv = l ∧ s.pl = q)
  | none => false
def WM.row (M : WM) (l q : Nat) : Int → Option Bool := fun x => if inRow l q (M.all x) then some true else none
def mapV : Option Nat → Value := Value.map
/-- The cells of a wheel. -/
def wcells (rb : Nat → Nat → Option Nat) (ab now : Nat) : Array Value := ((List.range 256).map (fun i => Value.map (rb (i / 16) (i % 16))) ++ [Value.map (some ab), Value.int .u64 now]).toArray
theorem wcells_row {rb : Nat → Nat → Option Nat} {ab now l q : Nat} (hl : l < 16) (hq : q < 16) : (wcells rb ab now)[l * 16 + q]? = some (.map (rb l q)) := by
  unfold wcells
  rw [List.getElem?_toArray, List.getElem?_append_left (by simp; omega), List.getElem?_map, List.getElem?_range (by omega)]
  have e1 : (l * 16 + q) / 16 = l := by omega
  have e2 : (l * 16 + q) % 16 = q := by omega
  simp [e1, e2]
theorem wcells_all {rb : Nat → Nat → Option Nat} {ab now : Nat} : (wcells rb ab now)[256]? = some (.map (some ab)) := by
  unfold wcells
  rw [List.getElem?_toArray, List.getElem?_append_right (by simp)]
  simp
theorem wcells_now {rb : Nat → Nat → Option Nat} {ab now : Nat} : (wcells rb ab now)[257]? = some (.int .u64 now) := by
  unfold wcells
  rw [List.getElem?_toArray, List.getElem?_append_right (by simp)]
  simp
theorem wcells_size (rb : Nat → Nat → Option Nat) (ab now : Nat) : (wcells rb ab now).size = 258 := by simp [wcells]
/-- rb, but at l, q. -/
def rb1 (rb : Nat → Nat → Option Nat) (l q : Nat) (o : Option Nat) : Nat → Nat → Option Nat := fun l' q' => if l' = l ∧ q' = q then o else rb l' q'
theorem wcells_set {rb : Nat → Nat → Option Nat} {ab now l q : Nat} (hl : l < 16) (hq : q < 16) (o : Option Nat) : (wcells rb ab now).setIfInBounds (l * 16 + q) (.map o) = wcells (rb1 rb l q o) ab now := by
  unfold wcells
  rw [List.setIfInBounds_toArray]
  congr 1
  apply List.ext_getElem?
  intro i
  rw [List.getElem?_set]
  by_cases e : l * 16 + q = i
  · subst e
    rw [if_pos rfl, if_pos (by simp; omega), List.getElem?_append_left (by simp; omega), List.getElem?_map, List.getElem?_range (by omega)]
    have e1 : (l * 16 + q) / 16 = l := by omega
    have e2 : (l * 16 + q) % 16 = q := by omega
    simp [e1, e2, rb1]
  · rw [if_neg e]
    by_cases hi : i < 256
    · rw [List.getElem?_append_left (by simp; omega), List.getElem?_append_left (by simp; omega), List.getElem?_map, List.getElem?_map, List.getElem?_range hi]
      have : ¬ (i / 16 = l ∧ i % 16 = q) := by omega
      simp [rb1, this]
    · rw [List.getElem?_append_right (by simp; omega), List.getElem?_append_right (by simp; omega)]
      simp
theorem wcells_set_now {rb : Nat → Nat → Option Nat} {ab now : Nat} (n : Nat) : (wcells rb ab now).setIfInBounds 257 (.int .u64 n) = wcells rb ab n := by
  unfold wcells
  rw [List.setIfInBounds_toArray, List.set_append]
  simp

/-- A wheel in memory: block p; a map of all timers; a map for each place that was used. F: all these blocks. -/
structure WRep (w : World) (p : Nat) (M : WM) (F : Nat → Prop) (ab : Nat) (rb : Nat → Nat → Option Nat) : Prop where
  mem : F p
  lt : ∀ k, F k → k < w.heap.size
  blk : w.heap[p]? = some (.cells (wcells rb ab M.now) 83 (0, 0))
  all : F ab ∧ ab ≠ p ∧ MapAt Try.prog 3 spotE w ab 1000 M.all
  row : ∀ l q, l < 16 → q < 16 → match rb l q with
    | none => ∀ x, M.row l q x = none
    | some b => F b ∧ b ≠ p ∧ b ≠ ab ∧ MapAt Try.prog 3 boolE w b 1000 (M.row l q)
  apart : ∀ l q l' q' b, l < 16 → q < 16 → l' < 16 → q' < 16 → rb l q = some b → rb l' q' = some b → l = l' ∧ q = q'
  ids : ∀ i, 1000 ≤ i → M.f i = none
  spots : ∀ i s, M.f i = some s → s.lv < 16 ∧ s.pl < 16 ∧ s.at' < 4611686018427387904
  time : M.now < 4611686018427387904
def WAt (w : World) (p : Nat) (M : WM) (F : Nat → Prop) : Prop := ∃ ab rb, WRep w p M F ab rb
theorem WRep.fr {w w' : World} {p : Nat} {M : WM} {F G : Nat → Prop} {ab : Nat} {rb : Nat → Nat → Option Nat} (h : WRep w p M F ab rb) (hf : Fr G w w') (hG : ∀ k, F k → ¬ G k) : WRep w' p M F ab rb := by
  refine ⟨h.mem, fun k hk => Nat.lt_of_lt_of_le (h.lt k hk) hf.size, hf.blk h.blk (hG p h.mem), ⟨h.all.1, h.all.2.1, h.all.2.2.fr hf (hG _ h.all.1)⟩, fun l q hl hq => ?_, h.apart, h.ids, h.spots, h.time⟩
  have := h.row l q hl hq
  cases hb : rb l q with
  | none => rw [hb] at this; exact this
  | some b =>
    rw [hb] at this
    exact ⟨this.1, this.2.1, this.2.2.1, this.2.2.2.fr hf (hG _ this.1)⟩
theorem WAt.fr {w w' : World} {p : Nat} {M : WM} {F G : Nat → Prop} (h : WAt w p M F) (hf : Fr G w w') (hG : ∀ k, F k → ¬ G k) : WAt w' p M F := by
  obtain ⟨ab, rb, h⟩ := h
  exact ⟨ab, rb, h.fr hf hG⟩
/-- What a call leaves. -/
def WPost (w : World) (p : Nat) (M' : WM) (F : Nat → Prop) (w' : World) : Prop := ∃ F', WAt w' p M' F' ∧ Fr F w w' ∧ Gro F F' w

theorem Try.zeroSpot (w : World) : (zeroValue 85).run Try.prog w = .ok (spotE.val ⟨0, 0, 0⟩) w := by kernel_rfl
theorem Try.zeroBool (w : World) : (zeroValue 4).run Try.prog w = .ok (boolE.val false) w := by kernel_rfl

theorem wnow_any (p : Nat) (M : WM) (F : Nat → Prop) (w : World) (h : WAt w p M F) :
    Calls Try.prog 24 #[.pointer (some ⟨p, 0, none⟩)] w fun e w' => e = .returned (.int .u64 M.now) ∧ w = w' := by
  obtain ⟨ab, rb, h⟩ := h
  have c := (cell_blk h.blk 257).trans wcells_now
  clear h
  go_enter Try.func24, Try.ntmps24
  go_wp2
  go_ret
  exact ⟨rfl, rfl⟩

end Go.Proofs.Ytbodnmcaipakcaa
