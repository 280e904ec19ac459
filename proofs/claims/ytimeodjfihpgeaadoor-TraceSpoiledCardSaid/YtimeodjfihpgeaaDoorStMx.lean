/-
  Commands as lines: the walks of 'Digits', where there is no more.
-/
import Derived.Test.YtimeodjfihpgeaaDoorStLx
import Derived.Test.YtimeodjfihpgeaaDoorSh
import Derived.Lib.AppendIntMem
import Derived.Lib.Join
namespace Go.Proofs.YtimeodjfihpgeaaDoor
open Go.RowKit

/-- The library's table reads as it is laid. -/
def Tab (w : World) : Prop := Lib.TabIs Tryd.prog w "internal/strconv.uint64pow10" .u64 Lib.pow10Tab
theorem Tab.on {w w' : World} (h : Tab w) (hb : Below w.heap.size w w') : Tab w' := Lib.tabBelow_of_tabIs h w' hb
theorem itoa_any (n : Int) (h0 : -9223372036854775808 ≤ n) (h1 : n ≤ 9223372036854775807) (w : World) (ht : Tab w) : Calls Tryd.prog 33 #[.int .i64 n] w fun e w' => e = .returned (strv (Lib.itoa n)) ∧ Below w.heap.size w w' :=
  (Tryd.strconv_Itoa n h0 h1 w ht).mono fun e w' hx => by
    obtain ⟨e1, k, os, rfl⟩ := hx
    exact ⟨e1, Lib.below_grow _ w (Nat.le_refl _) k os⟩
set_option maxHeartbeats 4000000 in
theorem digits_any (n : Int) (h0 : -9223372036854775807 ≤ n) (h1 : n ≤ 9223372036854775807) (w : World) : Calls Tryd.prog 17 #[.int .i64 n] w fun e w' => e = .returned (strv (Lib.itoa n)) ∧ Below w.heap.size w w' := by
  by_cases hn : n < 0
  · have HD := digitsN_any n.natAbs (by omega) w
    have e1 : ((n.natAbs : Nat) : Int) = -n := by omega
    rw [e1] at HD
    have HD := Box.mk HD
    have HE : Box (strv (Lib.itoa n) = .string ((⟨#[45]⟩ : ByteArray) ++ ⟨(Lib.decDigits n.natAbs).toArray⟩)) := ⟨by
      unfold Lib.itoa; rw [if_pos hn]; exact str_app [45] (Lib.decDigits n.natAbs)⟩
    have hl : (Lib.decDigits n.natAbs).length ≤ 20 := by rw [Lib.decDigits_length]; exact Lib.nDigits_le20 _ (by omega)
    clear e1
    generalize Lib.decDigits n.natAbs = l at HD HE hl
    go_enter Tryd.func17, Tryd.ntmps17
    go_wp2_with (go_at_call 17; (with_reducible refine HD.out.mono ?_); rintro e w1 ⟨rfl, hb⟩; have HB := Box.mk hb; clear hb)
    go_ret
    exact ⟨by rw [HE.out]; rfl, HB.out⟩
  · obtain ⟨k, rfl⟩ : ∃ k : Nat, n = k := ⟨n.toNat, by omega⟩
    refine (digitsN_any k (by omega) w).mono fun e w' hx => ⟨?_, hx.2⟩
    rw [hx.1]
    unfold Lib.itoa
    rw [if_neg hn, Int.toNat_natCast]

end Go.Proofs.YtimeodjfihpgeaaDoor
