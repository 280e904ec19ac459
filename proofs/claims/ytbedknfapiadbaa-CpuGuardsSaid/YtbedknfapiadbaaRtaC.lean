/-
  The walks of what loads take and what is wanted of a span: the program's and the document's.
-/
import Derived.Test.YtbedknfapiadbaaRtaB
namespace Go.Proofs.Ytbedknfapiadbaa
open Go.RowKit

theorem drewN_add (w : World) (a b : Nat) : (w.drewN a).drewN b = w.drewN (a + b) := by
  simp [World.drewN, Nat.add_assoc]
/-- Where a span is small and the loads may be, nothing wraps. -/
structure TakeOk (ls : List ServM) (s : Nat) : Prop where
  ok : okLoads ls = true
  span : s ≤ 2147483648
theorem TakeOk.bd {ls : List ServM} {s : Nat} (h : TakeOk ls s) {k : Nat} (hk : k < ls.length) :
    takenK ls s k ≤ 34359741568 ∧ 1 ≤ (sv ls k).budget ∧ (sv ls k).budget ≤ 200 ∧ (sv ls k).period ≤ 4611686018427387904 ∧ up s (sv ls k).period * (sv ls k).budget.toNat ≤ 2147483848 := by
  have h1 := takenK_le h.ok s k (by omega)
  have h2 := ServM.ok_iff.1 (serv_get h.ok hk)
  have h3 := up_mul (n := s) (b := (sv ls k).period) (c := (sv ls k).budget.toNat) (by omega)
  have h4 := (okLoads_iff.1 h.ok).1
  have h5 := h.span
  have h6 : k * (s + 200) ≤ 16 * 2147483848 := Nat.mul_le_mul (by omega) (by omega)
  refine ⟨by omega, h2.1, h2.2.1, by omega, by omega⟩

set_option maxHeartbeats 2000000 in
theorem taken_any (ao : Option Addr) (cap : Nat) (ls : List ServM) (s : Nat) (w : World) (h : LoadsAt w ao ls) (hs : TakeOk ls s) :
    Calls Try.prog 61 #[.slice ao ls.length cap, .int .u64 s] w fun e w' => e = .returned (.int .u64 (taken ls s)) ∧ Below w.heap.size w w' := by
  have H := Lib.hid h
  have HS := Lib.hid hs
  have hs1 : s ≤ 4611686018427387904 := by have := hs.span; omega
  have hn := h.1
  clear h hs
  go_enter Try.func61, Try.ntmps61
  go_wp2
  go_loopw [5, 10] (fun u i wr => ∃ k : Nat, k ≤ ls.length ∧ i = .int .i64 k ∧ u = .int .u64 (takenK ls s k) ∧ Below w.heap.size w wr) (fun _ i _ => ls.length - (intOf i).toNat)
  case atStart => exact ⟨0, Nat.zero_le _, rfl, rfl, Below.refl _ _⟩
  case round =>
    obtain ⟨k, hk, rfl, rfl, hb⟩ := hrel
    have HB := Lib.hid hb
    clear hb
    by_cases hlt : k < ls.length
    · obtain ⟨b, off, rfl, hbl, hc⟩ := (H.out.later HB.out).2 (by omega)
      obtain ⟨c0, c1⟩ := hc k hlt
      obtain ⟨g1, g2, g3, g4, g5⟩ := HS.out.bd hlt
      obtain ⟨B, hB⟩ : ∃ B : Nat, (sv ls k).budget = B := ⟨(sv ls k).budget.toNat, by omega⟩
      have HT : Hid (takenK ls s (k + 1) = takenK ls s k + up s (sv ls k).period * B) := by show _ = _; rw [takenK, hB]; rfl
      rw [hB] at c0 g2 g3 g5
      rw [show ((B : Int)).toNat = B from rfl] at g5
      generalize (sv ls k).period = p at *
      generalize takenK ls s k = T at *
      obtain ⟨M, hM⟩ : ∃ M, up s p * B = M := ⟨_, rfl⟩
      rw [hM] at g5 HT
      have hmul : ((up s p : Nat) : Int) * (B : Int) = (M : Int) := by rw [← Int.natCast_mul, hM]
      clear hc hB hM
      go_wp2
      go_quiet ((go_at_call 62; exact Calls.quiet_of_same (tickUp_any s p _ hs1 g4)))
      go_wp2
      go_roundw
      case rel => exact ⟨k + 1, by omega, by go_num, by rw [HT.out]; go_num, HB.out.trans ((((Below.refl _ _).alloc (Nat.le_refl _) _).mono HB.out.size).trans ⟨rfl, rfl, rfl, Nat.le_refl _, fun _ _ => rfl⟩)⟩
      case measure => simp [intOf] <;> omega
    · obtain rfl : k = ls.length := by omega
      go_wp2
      go_ret
      exact ⟨rfl, HB.out⟩

set_option maxHeartbeats 2000000 in
theorem load_any (ao : Option Addr) (cap : Nat) (ls : List ServM) (s : Nat) (w : World) (h : LoadsAt w ao ls) (hs : TakeOk ls s) :
    Calls Try.prog 57 #[.slice ao ls.length cap, .int .u64 s] w fun e w' => e = .returned (.int .u64 (taken ls s)) ∧ ∃ n, w' = w.drewN n := by
  have H := Lib.hid h
  have HS := Lib.hid hs
  have hs1 : s ≤ 4611686018427387904 := by have := hs.span; omega
  have hn := h.1
  clear h hs
  go_enter Try.func57, Try.ntmps57
  go_wp2
  go_loopw [5, 6] (fun u i wr => ∃ k d : Nat, k ≤ ls.length ∧ i = .int .i64 k ∧ u = .int .u64 (takenK ls s k) ∧ wr = w.drewN d) (fun _ i _ => ls.length - (intOf i).toNat)
  case atStart => exact ⟨0, 0, Nat.zero_le _, rfl, rfl, rfl⟩
  case round =>
    obtain ⟨k, d, hk, rfl, rfl, hwr⟩ := hrel
    have HW : Box (wr = w.drewN d) := ⟨hwr⟩
    by_cases hlt : k < ls.length
    · obtain ⟨b, off, rfl, hbl, hc⟩ := H.out.2 (by omega)
      obtain ⟨c0, c1⟩ := hc k hlt
      have d0 : wr.cell? ⟨b, off + k * 2, none⟩ = some (.int .i64 (sv ls k).budget) := by rw [hwr]; exact c0
      have d1 : wr.cell? ⟨b, off + k * 2 + 1, none⟩ = some (.int .u64 (sv ls k).period) := by rw [hwr]; exact c1
      obtain ⟨g1, g2, g3, g4, g5⟩ := HS.out.bd hlt
      obtain ⟨B, hB⟩ : ∃ B : Nat, (sv ls k).budget = B := ⟨(sv ls k).budget.toNat, by omega⟩
      have HT : Hid (takenK ls s (k + 1) = takenK ls s k + up s (sv ls k).period * B) := by show _ = _; rw [takenK, hB]; rfl
      rw [hB] at d0 g2 g3 g5
      rw [show ((B : Int)).toNat = B from rfl] at g5
      generalize (sv ls k).period = p at *
      generalize takenK ls s k = T at *
      obtain ⟨M, hM⟩ : ∃ M, up s p * B = M := ⟨_, rfl⟩
      rw [hM] at g5 HT
      have hmul : ((up s p : Nat) : Int) * (B : Int) = (M : Int) := by rw [← Int.natCast_mul, hM]
      have hki : (k : Int) < (ls.length : Int) := by omega
      clear hc hB hM c0 c1 hwr
      go_wp2
      go_quiet ((go_at_call 32; exact Calls.quiet_of_same (refUp_any s p _ hs1 g4)))
      go_wp2
      go_roundw
      case rel => exact ⟨k + 1, _, by omega, by go_num, by rw [HT.out]; go_num, by rw [HW.out]; exact drewN_add _ _ _⟩
      case measure => simp [intOf] <;> omega
    · obtain rfl : k = ls.length := by omega
      clear hwr
      go_wp2
      go_ret
      exact ⟨rfl, d, HW.out⟩

end Go.Proofs.Ytbedknfapiadbaa
