/-
  The walks of package ready: 'New', 'First', 'Come'.
-/
import Derived.Test.YtbedknfapiadbaaReadyA
import Derived.Deep.RegionLaw
namespace Go.Proofs.Ytbedknfapiadbaa
open Go.RowKit

theorem Try.infoInt : (Try.prog.info? 3).map (fun i => (i.zero, i.size, i.bytes)) = some (some (.int .i64 0), 1, 8) := by kernel_rfl

/-- A function at one place turned. -/
def upd {α : Type} (r : Nat → α) (p : Nat) (x : α) : Nat → α := fun i => if i = p then x else r i
theorem upd_same {α : Type} (r : Nat → α) (p : Nat) (x : α) : upd r p x p = x := by simp [upd]
theorem upd_ne {α : Type} (r : Nat → α) {p i : Nat} (x : α) (h : i ≠ p) : upd r p x i = r i := by simp [upd, h]

/-- Row p is another one, whose block is the old one's, or new: the queue behind it. -/
theorem QRep.store {w w1 : World} {q : Nat} {r : Nat → List Int} {F : Nat → Prop} (h : QRep w q r F) {p : Nat} (hp : p < 101) {v : Value} (hv : w.cell? ⟨q, p, none⟩ = some v)
    (hf : Fr (fun k => v.ownBlock = some k) w w1) {v' : Value} {l' : List Int} (hown : w1.ownsRow 0 3 1 v' l'.length (ints l'))
    (hg : ∀ g, v'.ownBlock = some g → (v.ownBlock = some g ∨ w.heap.size ≤ g) ∧ g < w1.heap.size) :
    QRep (w1.setCell ⟨q, p, none⟩ v') q (upd r p l') (fun k => F k ∨ v'.ownBlock = some k) ∧ Fr F w (w1.setCell ⟨q, p, none⟩ v') ∧ Gro F (fun k => F k ∨ v'.ownBlock = some k) w := by
  obtain ⟨hm, hl, vs, hs, hb, hr, hd⟩ := h
  have hp' : p < vs.size := by omega
  obtain rfl : vs[p] = v := by
    rw [cell_blk hb] at hv
    simpa [hp'] using hv
  have hqs : q < w.heap.size := lt_blk hb
  have hqne : ∀ g, vs[p].ownBlock = some g → F g ∧ g ≠ q := (hr p hp').2
  have hb1 : w1.heap[q]? = some (.cells vs 92 (0, 0)) := hf.blk hb (fun e => (hqne q e).2 rfl)
  have hgq : ∀ g, v'.ownBlock = some g → g ≠ q := by
    intro g e
    rcases (hg g e).1 with h1 | h1
    · exact (hqne g h1).2
    · omega
  refine ⟨⟨Or.inl hm, ?_, vs.setIfInBounds p v', by simpa using hs, blk_set hb1 _, ?_, ?_⟩, ?_, ?_⟩
  · rintro k (hk | hk)
    · have := hl k hk; have := hf.size; simp [World.setCell]; omega
    · have := (hg k hk).2; simp [World.setCell]; omega
  · intro i hi
    have hi' : i < vs.size := by simpa using hi
    by_cases hip : i = p
    · subst hip
      simp only [Array.getElem_setIfInBounds_self, upd_same]
      exact ⟨ownsRow_fr hown (fun g e => blk_set_ne _ (hgq g e)), fun g e => ⟨Or.inr e, hgq g e⟩⟩
    · rw [Array.getElem_setIfInBounds_ne hi' (fun e => hip e.symm), upd_ne _ _ hip]
      refine ⟨ownsRow_fr (hr i hi').1 (fun g e => ?_), fun g e => ⟨Or.inl ((hr i hi').2 g e).1, ((hr i hi').2 g e).2⟩⟩
      rw [blk_set_ne _ ((hr i hi').2 g e).2]
      exact hf.block g (hl g ((hr i hi').2 g e).1) (hd i p hi' hp' hip g e)
  · intro i j hi hj hij g e
    have hi' : i < vs.size := by simpa using hi
    have hj' : j < vs.size := by simpa using hj
    -- a block of v' is no other row's
    have key : ∀ k, (hk : k < vs.size) → k ≠ p → ∀ g, vs[k].ownBlock = some g → v'.ownBlock ≠ some g := by
      intro k hk hkp g eg eg'
      rcases (hg g eg').1 with h1 | h1
      · exact hd k p hk hp' hkp g eg h1
      · have := hl g ((hr k hk).2 g eg).1; omega
    by_cases hip : i = p
    · subst hip
      rw [Array.getElem_setIfInBounds_self] at e
      rw [Array.getElem_setIfInBounds_ne hj' hij]
      exact fun e' => key j hj' (fun x => hij x.symm) g e' e
    · rw [Array.getElem_setIfInBounds_ne hi' (fun e => hip e.symm)] at e
      by_cases hjp : j = p
      · subst hjp
        rw [Array.getElem_setIfInBounds_self]
        exact key i hi' hip g e
      · rw [Array.getElem_setIfInBounds_ne hj' (fun e => hjp e.symm)]
        exact hd i j hi' hj' hij g e
  · exact (hf.mono (fun k _ e => (hqne k e).1)).setCell (Or.inl hm) _
  · rintro k (hk | hk)
    · exact .inl hk
    · rcases (hg k hk).1 with h1 | h1
      · exact .inl (hqne k h1).1
      · exact .inr h1

/-- The cells of a new queue. -/
def nilRows : Array Value := Array.replicate 101 (.slice none 0 0)
theorem zeroQ (w : World) : (zeroValue 92).run Try.prog w = .ok (.agg nilRows) w := by kernel_rfl
theorem QRep.new (w : World) : QRep (w.alloc (.cells nilRows 92)) w.heap.size (fun _ => []) (fun k => k = w.heap.size) := by
  refine ⟨rfl, fun k hk => by simp [hk], nilRows, by simp [nilRows], blk_new _ _, fun i hi => ?_, fun i j hi hj _ g e => ?_⟩
  · have : nilRows[i] = .slice none 0 0 := by simp [nilRows]
    rw [this]
    exact ⟨World.ownsRow_nil _ _ _ _, fun g e => by simp [Value.ownBlock] at e⟩
  · have : nilRows[i] = .slice none 0 0 := by simp [nilRows]
    rw [this] at e
    simp [Value.ownBlock] at e

set_option maxHeartbeats 400000 in
theorem new_any (w : World) :
    Calls Try.prog 25 #[] w fun e w' => e = .returned (.pointer (some ⟨w.heap.size, 0, none⟩)) ∧ w.alloc (.cells nilRows 92) = w' := by
  have hz := zeroQ
  go_enter Try.func25, Try.ntmps25
  go_wp2
  go_ret
  exact ⟨rfl, rfl⟩

/-- The first row that isn't empty. -/
def firstOf (r : Nat → List Int) : Nat → Nat → Option Nat
  | 0, _ => none
  | n + 1, k => if r k = [] then firstOf r n (k + 1) else some k
def first (r : Nat → List Int) : Option Nat := firstOf r 101 0
theorem head_get {l : List Int} (h : 0 < l.length) : l[0] = l.head?.getD 0 := by
  cases l with
  | nil => simp at h
  | cons y l => rfl
/-- What 'First' answers. -/
def firstV (r : Nat → List Int) : Value :=
  match first r with
  | some p => .tuple #[.int .i64 ((r p).head?.getD 0), .int .i64 p, .int .i64 0]
  | none => .tuple #[.int .i64 0, .int .i64 0, .int .i64 5]

set_option maxHeartbeats 1000000 in
theorem first_any (q : Nat) (r : Nat → List Int) (F : Nat → Prop) (w : World) (h : QRep w q r F) :
    Calls Try.prog 43 #[.pointer (some ⟨q, 0, none⟩)] w fun e w' => e = .returned (firstV r) ∧ w = w' := by
  have H := Lib.hid h
  clear h
  go_enter Try.func43, Try.ntmps43
  go_wp2
  go_loop [6] (fun i => ∃ k : Nat, k ≤ 101 ∧ i = .int .i64 k ∧ Hid (first r = firstOf r (101 - k) k)) (fun i => 101 - (intOf i).toNat)
  case atStart => exact ⟨0, Nat.zero_le _, rfl, rfl⟩
  case round =>
    obtain ⟨k, hk, rfl, hx⟩ := hrel
    by_cases hlt : k < 101
    · obtain ⟨v, hv, hrow⟩ := H.out.cell k hlt
      have he : firstOf r (101 - k) k = if r k = [] then firstOf r (101 - (k + 1)) (k + 1) else some k := by
        rw [show 101 - k = (101 - (k + 1)) + 1 from by omega, firstOf]
      have He := Lib.hid he
      clear he
      obtain ⟨_, hrow⟩ := hrow
      rcases hrow with ⟨rfl, h0⟩ | ⟨b, off, cap, rfl, hnc, hm, _, hb, hc⟩
      · have h0' : r k = [] := by simpa using h0
        have Hp : Hid (first r = firstOf r (101 - (k + 1)) (k + 1)) := by rw [hx.out, He.out, if_pos h0']; rfl
        clear h0 h0'
        go_wp2
        go_round
        case rel => exact ⟨k + 1, by omega, by go_num, Hp⟩
        case measure => simp [intOf]; omega
      · by_cases h0 : (r k).length = 0
        · have h0' : r k = [] := by simpa using h0
          have Hp : Hid (first r = firstOf r (101 - (k + 1)) (k + 1)) := by rw [hx.out, He.out, if_pos h0']; rfl
          have hq : ¬ 0 < (r k).length := by omega
          clear h0 h0' hc
          go_wp2
          go_round
          case rel => exact ⟨k + 1, by omega, by go_num, Hp⟩
          case measure => simp [intOf]; omega
        · have h0' : ¬ r k = [] := fun e => h0 (by simp [e])
          have Hp : Hid (first r = some k) := by rw [hx.out, He.out, if_neg h0']; rfl
          have hq : 0 < (r k).length := by omega
          have hcell := hc 0 _ (ints_get hq)
          have hhd := head_get hq
          rw [hhd] at hcell
          rw [Nat.add_zero] at hcell
          clear h0 h0' hc hhd
          go_wp2
          go_ret3
          unfold firstV
          rw [Hp.out]
          exact ⟨rfl, rfl⟩
    · have hp : Hid (first r = none) := by rw [hx.out, show 101 - k = 0 from by omega]; rfl
      go_wp2
      go_ret3
      unfold firstV
      rw [hp.out]
      exact ⟨rfl, rfl⟩

end Go.Proofs.Ytbedknfapiadbaa
