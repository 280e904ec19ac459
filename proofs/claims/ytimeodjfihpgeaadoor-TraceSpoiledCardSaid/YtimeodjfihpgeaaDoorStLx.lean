/-
  The walk of the document's 'Digits'.
-/
import Derived.Test.YtimeodjfihpgeaaDoorStE
import Derived.Lib.Itoa
import Derived.Lib.ItoaLen
import Derived.Laws.IdiomStrings
namespace Go.Proofs.YtimeodjfihpgeaaDoor
open Go.RowKit

theorem conv_byte (w : World) (x : Nat) (hx : x < 256) : (Go.convert 38 9 (.slice (some ⟨w.heap.size, 0, none⟩) 1 1)).run Tryd.prog (w.alloc (.cells #[.int .u8 x] 5)) = .ok (strv [UInt8.ofNat x]) (w.alloc (.cells #[.int .u8 x] 5)) := by
  have := run_convert_bytes_back (P := Tryd.prog) (w.alloc (.cells #[.int .u8 x] 5)) 38 9 5 ⟨w.heap.size, 0, none⟩ 1 [UInt8.ofNat x] Tryd.underlying38 Tryd.underlying5 Tryd.underlying9 (fun j hj => by
    obtain rfl : j = 0 := by simpa using hj
    have e : (UInt8.ofNat x).toNat = x := by simp; omega
    have h := cell_blk (blk_new w (.cells #[.int .u8 x] 5)) 0
    simp only [List.getElem_cons_zero, e]
    exact h.trans rfl)
  exact this
/-- The digits ahead of the last one. -/
def preD (u : Nat) : Bs := if u < 10 then [] else Lib.decDigits (u / 10)
theorem preD_last (u : Nat) : preD u ++ [UInt8.ofNat (48 + u % 10)] = Lib.decDigits u := by
  unfold preD
  conv => rhs; rw [Lib.decDigits]
  by_cases h : u < 10
  · rw [if_pos h, dif_pos h, Nat.mod_eq_of_lt h]; rfl
  · rw [if_neg h, dif_neg h]
theorem preD_step {u : Nat} (h : ¬ u < 10) : preD u = preD (u / 10) ++ [UInt8.ofNat (48 + u / 10 % 10)] := by
  rw [preD_last]; unfold preD; rw [if_neg h]

set_option maxHeartbeats 8000000 in
set_option maxRecDepth 100000 in
theorem digitsN_any (n : Nat) (hn : n ≤ 9223372036854775807) (w : World) : Calls Tryd.prog 17 #[.int .i64 n] w fun e w' => e = .returned (strv (Lib.decDigits n)) ∧ Below w.heap.size w w' := by
  obtain ⟨d, hd⟩ : ∃ d : Nat, (n : Int).tmod 10 = d := ⟨n % 10, by rw [Int.tmod_eq_emod_of_nonneg (by omega)]; omega⟩
  have hd10 : d < 10 := by rw [Int.tmod_eq_emod_of_nonneg (by omega)] at hd; omega
  have HD : Box (d = n % 10) := ⟨by rw [Int.tmod_eq_emod_of_nonneg (by omega)] at hd; omega⟩
  have hcv := conv_byte w (48 + d) (by omega)
  have ec : ((48 + d : Nat) : Int) = 48 + (d : Int) := by omega
  rw [ec] at hcv
  obtain ⟨bt, hbt⟩ : ∃ bt, UInt8.ofNat (48 + d) = bt := ⟨_, rfl⟩
  rw [hbt] at hcv
  have HS0 : Box (preD n ++ [bt] = Lib.decDigits n) := ⟨by rw [← hbt, HD.out]; exact preD_last n⟩
  have HB0 : Box (Below w.heap.size w (w.alloc (.cells #[.int .u8 (48 + (d : Int))] 5))) := ⟨(Below.refl _ _).alloc (Nat.le_refl _) _⟩
  clear hbt
  have hn0 : ¬ (n : Int) < 0 := by omega
  clear ec
  go_enter Tryd.func17, Tryd.ntmps17
  go_upto_block 0 with fail
  generalize w.alloc (.cells #[.int .u8 (48 + (d : Int))] 5) = w1 at HB0 ⊢
  clear hcv hd hd10 HD hn0
  go_wp2
  go_loopw [0, 3] (fun s0 s3 wr => ∃ (u : Nat) (s : Bs), u ≤ n ∧ s0 = .int .i64 u ∧ s3 = strv s ∧ Box (preD u ++ s = Lib.decDigits n) ∧ Box (Below w.heap.size w wr)) (fun s0 _ _ => (intOf s0).toNat)
  case atStart => exact ⟨n, [bt], Nat.le_refl _, rfl, rfl, HS0, HB0⟩
  case round =>
    clear HS0 HB0
    obtain ⟨u, s, hu, rfl, rfl, HS, HB⟩ := hrel
    have hsl : s.length ≤ 20 := by
      have h1 := congrArg List.length HS.out
      rw [List.length_append, Lib.decDigits_length] at h1
      have h2 := Lib.nDigits_le20 n (by omega)
      omega
    by_cases h10 : 10 ≤ u
    · have hui : (10 : Int) ≤ u := by omega
      obtain ⟨q, hq⟩ : ∃ q : Nat, (u : Int).tdiv 10 = q := ⟨u / 10, by rw [Int.tdiv_eq_ediv_of_nonneg (by omega)]; omega⟩
      have HQ : Box (q = u / 10) := ⟨by rw [Int.tdiv_eq_ediv_of_nonneg (by omega)] at hq; omega⟩
      have hqu : q < u := by have := HQ.out; omega
      obtain ⟨d, hd⟩ : ∃ d : Nat, (q : Int).tmod 10 = d := ⟨q % 10, by rw [Int.tmod_eq_emod_of_nonneg (by omega)]; omega⟩
      have hd10 : d < 10 := by rw [Int.tmod_eq_emod_of_nonneg (by omega)] at hd; omega
      have HD : Box (d = q % 10) := ⟨by rw [Int.tmod_eq_emod_of_nonneg (by omega)] at hd; omega⟩
      have hcv := conv_byte wr (48 + d) (by omega)
      have ec : ((48 + d : Nat) : Int) = 48 + (d : Int) := by omega
      rw [ec] at hcv
      obtain ⟨bt, hbt⟩ : ∃ bt, UInt8.ofNat (48 + d) = bt := ⟨_, rfl⟩
      rw [hbt] at hcv
      have HS2 : Box (preD q ++ ([bt] ++ s) = Lib.decDigits n) := ⟨by
        rw [← HS.out, preD_step (by omega : ¬ u < 10), ← hbt, HD.out, HQ.out, List.append_assoc]⟩
      have HB2 : Box (Below w.heap.size w (wr.alloc (.cells #[.int .u8 (48 + (d : Int))] 5))) := ⟨HB.out.alloc HB.out.size _⟩
      clear hbt ec
      go_wp2
      go_roundw
      case rel => exact ⟨q, [bt] ++ s, by omega, rfl, by rw [str_app [bt] s], HS2, HB2⟩
      case measure => simp [intOf] <;> omega
    · have hui : ¬ (10 : Int) ≤ u := by omega
      have HE : Box (s = Lib.decDigits n) := ⟨by rw [← HS.out]; unfold preD; rw [if_pos (by omega)]; rfl⟩
      go_wp2
      go_ret
      exact ⟨by rw [← HE.out]; rfl, HB.out⟩

end Go.Proofs.YtimeodjfihpgeaaDoor
