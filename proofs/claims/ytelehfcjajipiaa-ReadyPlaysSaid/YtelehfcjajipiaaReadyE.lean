/-
  The walks of 'slices.Grow' at nil, 'slices.Concat' and package ready's 'All'.
-/
import Derived.Test.YtelehfcjajipiaaReadyD
import Derived.Lib.AppendZerosOnto
namespace Go.Proofs.Ytelehfcjajipiaa
open Go.RowKit

set_option maxHeartbeats 1000000 in
theorem grow_nil (n : Nat) (w : World) (hn : n * 8 ≤ 140737488355328) :
    Calls Try.prog 30 #[.slice none 0 0, .int .i64 n] w fun e w' => ∃ v, e = .returned v ∧ w'.ownsRow w.heap.size 3 1 v 0 [] ∧ Below w.heap.size w w' := by
  by_cases h0 : n = 0
  · subst h0
    go_enter Try.func30, Try.ntmps30
    go_wp2
    go_ret
    exact ⟨_, rfl, World.ownsRow_nil _ _ _ _, Below.refl _ _⟩
  · obtain ⟨i0, hi, hz0, hz1, hz2⟩ := info_parts Try.infoInt
    have hrz : ∀ ty, (Builtin.append_ #[31, 3] ty #[.slice none 0 0, .int .i64 (n : Int)]).run Try.prog w = .ok (.slice (some ⟨w.heap.size, 0, none⟩) n (grownCap w n 0 3)) (w.drew.alloc (.cells ((#[] : Array Value) ++ Builtin.zeroCells (Value.int .i64 0).cells n ++ Builtin.zeroCells (Value.int .i64 0).cells (grownCap w n 0 3 - n)) 3)) := fun ty => by
      have h := Lib.run_append_grow_zeros w 31 3 ty 3 i0 (.int .i64 0) .i64 .i64 Try.underlying31 Try.underlying3 hi hz0 none 0 0 [] (run_firstCells_none w.drew i0.size 0 0 0) n (by omega) (by omega) (by omega) (by omega) (by rw [hz2]; omega)
        (growslice_fits (by omega) (by rw [hz2]; omega))
      simpa using h
    have hGn : n ≤ grownCap w n 0 3 := grownCap_ge w _ _ _
    have hGm := grownCap_le_maxLen w n 0 3 (by unfold maxLen; omega)
    obtain ⟨G, hG⟩ : ∃ G, G = grownCap w n 0 3 := ⟨_, rfl⟩
    rw [← hG] at hrz hGn hGm
    have hG63 : G ≤ 9223372036854775807 := by unfold maxLen at hGm; omega
    have HGm := Lib.hid hGm
    have h4 : (n : Int) > 0 := by omega
    clear hG hi hz0 hz1 hz2 hGm
    go_enter Try.func30, Try.ntmps30
    go_wp2_with (at_builtin; refine Lib.wpList_append_run _ rfl _ _ _ _ rfl _ _ rfl rfl _ _ (hrz _) ?_)
    all_goals
      go_ret
      refine ⟨_, rfl, World.ownsRow_made w.drew _ _ (Nat.le_refl _) HGm.out ?_, ((Below.refl _ _).drew).alloc (Nat.le_refl _) _⟩
      simp [size_zeroCells, Value.cells]
      omega

/-- A slice of slices of numbers, as it lies in memory: element i leads to the row r i. -/
def RowsAt (w : World) (G : Nat → Prop) (v : Value) (n : Nat) (r : Nat → List Int) : Prop :=
  ∃ b off cap, v = .slice (some ⟨b, off, none⟩) n cap ∧ n ≤ cap ∧ cap ≤ 1000000 ∧ b < w.heap.size ∧
    ∀ i, i < n → ∃ x, w.cell? ⟨b, off + i, none⟩ = some x ∧ RowAt w G x (r i).length 1 (ints (r i))

/-- The rows, one behind the other. -/
def cat (r : Nat → List Int) : Nat → List Int
  | 0 => []
  | k + 1 => cat r k ++ r k
theorem cat_len {r : Nat → List Int} {m : Nat} (h : ∀ i, (r i).length ≤ m) (k : Nat) : (cat r k).length ≤ k * m := by
  induction k with
  | zero => simp [cat]
  | succ k ih =>
    have := h k
    rw [cat, List.length_append, Nat.add_mul]
    omega

set_option maxHeartbeats 2000000 in
set_option maxRecDepth 100000 in
theorem concat_any (v : Value) (n : Nat) (r : Nat → List Int) (G : Nat → Prop) (w : World) (h : RowsAt w G v n r) (hG : ∀ k, G k → k < w.heap.size) (hlen : ∀ i, (r i).length ≤ 1000000) :
    Calls Try.prog 25 #[v] w fun e w' => ∃ v', e = .returned v' ∧ w'.ownsRow w.heap.size 3 1 v' (cat r n).length (ints (cat r n)) ∧ Below w.heap.size w w' := by
  obtain ⟨b, off, cap, rfl, hnc, hcap, hb, hcells⟩ := h
  obtain ⟨i0, hi, hz0, hz1, hz2⟩ := info_parts Try.infoInt
  have hcl : ∀ k, (cat r k).length ≤ k * 1000000 := cat_len hlen
  have HL := Lib.hid hcl
  have HLN := Lib.hid hlen
  have HC := Lib.hid hcells
  have HG := Lib.hid hG
  clear hcl hlen hcells hG
  go_enter Try.func25, Try.ntmps25
  go_wp2
  go_loop [3, 11] (fun s i => ∃ k : Nat, k ≤ n ∧ i = .int .i64 k ∧ s = .int .i64 (cat r k).length) (fun _ i => n - (intOf i).toNat)
  case atStart => exact ⟨0, Nat.zero_le _, rfl, rfl⟩
  case round =>
    obtain ⟨k, hk, rfl, rfl⟩ := hrel
    have hck : (cat r k).length ≤ 1000000000000 := by have := HL.out k; have : k * 1000000 ≤ 1000000 * 1000000 := Nat.mul_le_mul_right _ (by omega); omega
    by_cases hlt : k < n
    · obtain ⟨x, hx, hrow⟩ := HC.out k hlt
      have hlk := HLN.out k
      obtain ⟨ao, c, rfl⟩ : ∃ ao c, x = .slice ao (r k).length c := by
        rcases hrow.2 with ⟨rfl, h0⟩ | ⟨_, _, _, rfl, _⟩
        · exact ⟨_, _, by rw [h0]⟩
        · exact ⟨_, _, rfl⟩
      have HS : Hid ((cat r (k + 1)).length = (cat r k).length + (r k).length) := by simp [Hid, cat]
      clear hrow
      go_wp2
      go_round
      case rel => exact ⟨k + 1, by omega, by go_num, by rw [HS.out]; go_num⟩
      case measure => simp [intOf] <;> omega
    · obtain rfl : k = n := by omega
      go_wp2_with (go_at_call 30; refine (grow_nil _ _ (by omega)).mono ?_; rintro e w1 ⟨nv, rfl, hown1, hbel1⟩)
      go_loopw [6, 27] (fun s i wr => ∃ j : Nat, j ≤ k ∧ i = .int .i64 j ∧ wr.ownsRow w.heap.size 3 1 s (cat r j).length (ints (cat r j)) ∧ Below w.heap.size w wr) (fun _ i _ => k - (intOf i).toNat)
      case atStart => exact ⟨0, Nat.zero_le _, rfl, hown1, hbel1⟩
      case round =>
        obtain ⟨j, hj, rfl, hown, hbel⟩ := hrel
        have HO := Lib.hid hown
        have HB := Lib.hid hbel
        obtain ⟨sa, sc, hsv⟩ := ownsRow_slice hown
        subst hsv
        by_cases hltj : j < k
        · obtain ⟨x, hx, hrow⟩ := HC.out j hltj
          have hlk := HLN.out j
          have hcj : (cat r j).length ≤ 1000000000000 := by have := HL.out j; have : j * 1000000 ≤ 1000000 * 1000000 := Nat.mul_le_mul_right _ (by omega); omega
          have hxr : wr.cell? ⟨b, off + j, none⟩ = some x := (hbel.cell (p := ⟨b, off + j, none⟩) hb).trans hx
          have hrow' : RowAt wr G x (r j).length 1 (ints (r j)) := by
            refine ⟨hrow.1, hrow.2.imp _root_.id ?_⟩
            rintro ⟨b', off', cap', rfl, h1, h2, h3, h4, h5⟩
            exact ⟨b', off', cap', rfl, h1, h2, h3, Nat.lt_of_lt_of_le h4 hbel.size, fun i u hu => (hbel.cell (p := ⟨b', off' + i, none⟩) h4).trans (h5 i u hu)⟩
          have HR := Lib.hid hrow'
          obtain ⟨ao, c, rfl⟩ : ∃ ao c, x = .slice ao (r j).length c := by
            rcases hrow.2 with ⟨rfl, h0⟩ | ⟨_, _, _, rfl, _⟩
            · exact ⟨_, _, by rw [h0]⟩
            · exact ⟨_, _, rfl⟩
          clear hrow hrow' hown hbel hown1 hbel1
          go_wp2_with (at_builtin; refine wpList_append_row rfl _ _ 31 rfl w.heap.size 3 i0 (.int .i64 0) 1 8 Try.underlying31 hi hz0 hz1 hz2 rfl (by decide) (.slice sa (cat r j).length sc) (cat r j).length (ints (cat r j)) rfl HO.out G (.slice ao (r j).length c) (r j).length (ints (r j)) rfl HR.out ?h1 ?b1 ?b2 HB.out.size ?next)
          case h1 => intro u hu; simp at hu; obtain ⟨y, _, rfl⟩ := hu; rfl
          case b1 => unfold maxLen; omega
          case b2 => omega
          case next =>
           intro ao' cap' w' hown' hgrow' _
           go_wp2
           go_roundw
           case rel => exact ⟨j + 1, by omega, by go_num, by simpa [cat] using hown', HB.out.grown hgrow' HB.out.size (fun g e => (ownsRow_lt HO.out e).1)⟩
           case measure => simp [intOf] <;> omega
        · obtain rfl : j = k := by omega
          clear hown hbel hown1 hbel1
          go_wp2
          go_ret
          exact ⟨_, rfl, HO.out, HB.out⟩

theorem QRep.rows {w : World} {q : Nat} {r : Nat → List Int} {F : Nat → Prop} (h : QRep w q r F) : RowsAt w F (.slice (some ⟨q, 0, none⟩) 101 101) 101 r := by
  refine ⟨q, 0, 101, rfl, Nat.le_refl _, by omega, h.qlt, fun i hi => ?_⟩
  obtain ⟨v, hv, hr⟩ := h.cell i hi
  exact ⟨v, by rw [Nat.zero_add]; exact hv, hr⟩

/-- All members, as they stand. -/
def allQ (r : Nat → List Int) : List Int := cat r 101

set_option maxHeartbeats 1000000 in
theorem all_any (q : Nat) (r : Nat → List Int) (F : Nat → Prop) (w : World) (h : QRep w q r F) (hlen : ∀ i, (r i).length ≤ 1000000) :
    Calls Try.prog 13 #[.pointer (some ⟨q, 0, none⟩)] w fun e w' => ∃ v', e = .returned v' ∧ w'.ownsRow w.heap.size 3 1 v' (allQ r).length (ints (allQ r)) ∧ Below w.heap.size w w' := by
  have H := Lib.hid h.rows
  have HG := Lib.hid h.lt
  have HL := Lib.hid hlen
  clear h hlen
  go_enter Try.func13, Try.ntmps13
  go_wp2_with (go_at_call 25; refine (concat_any _ _ r F _ H.out HG.out HL.out).mono ?_; rintro e w1 ⟨v1, rfl, hown1, hbel1⟩)
  go_ret
  exact ⟨_, rfl, hown1, hbel1⟩

end Go.Proofs.Ytelehfcjajipiaa
