/-
  The walk of package ready's 'Change'.
-/
import Derived.Test.YtelehfcjajipiaaReadyP
namespace Go.Proofs.Ytelehfcjajipiaa
open Go.RowKit

def chgC (r : Nat → List Int) (x pr : Int) : Int := if mayB x pr then match prio r x with | none => 6 | some p => if (p : Int) = pr then 0 else comeC (goR r x) x pr else 1
def chg (r : Nat → List Int) (x pr : Int) : Nat → List Int := if mayB x pr then match prio r x with | none => r | some p => if (p : Int) = pr then r else come (goR r x) x pr else r

theorem QPost.trans {w w1 w2 : World} {q : Nat} {r1 r2 : Nat → List Int} {F F1 : Nat → Prop} (h1 : QRep w1 q r1 F1) (h2 : Fr F w w1) (h3 : Gro F F1 w) (h : ∃ F2, QRep w2 q r2 F2 ∧ Fr F1 w1 w2 ∧ Gro F1 F2 w1) :
    ∃ F2, QRep w2 q r2 F2 ∧ Fr F w w2 ∧ Gro F F2 w := by
  obtain ⟨F2, g1, g2, g3⟩ := h
  refine ⟨F2, g1, h2.trans' g2 (fun i hi hF => ?_), h3.trans g3 h2.size⟩
  rcases h3 i hF with g | g
  · exact g
  · omega

set_option maxHeartbeats 1000000 in
theorem change_any (q : Nat) (r : Nat → List Int) (F : Nat → Prop) (x pr : Int) (w : World) (h : QRep w q r F) (hlen : ∀ i, (r i).length ≤ 1000000) :
    Calls Try.prog 16 #[.pointer (some ⟨q, 0, none⟩), .int .i64 x, .int .i64 pr] w (QPost w q (chg r x pr) F (chgC r x pr)) := by
  have H := Lib.hid h
  have HLN := Lib.hid hlen
  clear h hlen
  by_cases hm : mayB x pr = true
  · cases hp : prio r x with
    | none =>
      have hp' : (prio r x).isSome = false := by simp [hp]
      have Hc : Box (chgC r x pr = 6 ∧ chg r x pr = r) := ⟨by simp [chg, chgC, hm, hp]⟩
      clear hp
      go_enter Try.func16, Try.ntmps16
      go_wp2_with (first | (go_at_call 21; refine (may_any _ _ _).mono ?_; rintro e w' ⟨rfl, rfl⟩) | (go_at_call 22; refine (prio_any q r F x _ H.out).mono ?_; rintro e w' ⟨rfl, rfl⟩))
      go_ret
      rw [Hc.out.1, Hc.out.2]
      exact ⟨rfl, F, H.out, Fr.refl _ _, Gro.refl _ _⟩
    | some p =>
      have hp' : (prio r x).isSome = true := by simp [hp]
      have hpN : prioN (prio r x) = (p : Int) := by simp [hp, prioN]
      by_cases he : (p : Int) = pr
      · have Hc : Box (chgC r x pr = 0 ∧ chg r x pr = r) := ⟨by simp [chg, chgC, hm, hp, he]⟩
        have he' : ((p : Int) == pr) = true := by simpa using he
        clear hp he
        go_enter Try.func16, Try.ntmps16
        go_wp2_with (first | (go_at_call 21; refine (may_any _ _ _).mono ?_; rintro e w' ⟨rfl, rfl⟩) | (go_at_call 22; refine (prio_any q r F x _ H.out).mono ?_; rintro e w' ⟨rfl, rfl⟩))
        go_ret
        rw [Hc.out.1, Hc.out.2]
        exact ⟨rfl, F, H.out, Fr.refl _ _, Gro.refl _ _⟩
      · have Hc : Box (chgC r x pr = comeC (goR r x) x pr ∧ chg r x pr = come (goR r x) x pr) := ⟨by simp [chg, chgC, hm, hp, he]⟩
        have he' : ((p : Int) == pr) = false := by simpa using he
        clear hp he
        go_enter Try.func16, Try.ntmps16
        go_wp2_with (first | (go_at_call 21; refine (may_any _ _ _).mono ?_; rintro e w' ⟨rfl, rfl⟩) | (go_at_call 22; refine (prio_any q r F x _ H.out).mono ?_; rintro e w' ⟨rfl, rfl⟩))
        refine (go_any q r F x _ H.out).mono ?_
        rintro e w1 ⟨rfl, F1, h1, h2, h3⟩
        have H1 := Lib.hid h1
        have H2 := Lib.hid h2
        have H3 := Lib.hid h3
        clear h1 h2 h3
        go_wp2_with fail
        refine (come_any q (goR r x) F1 x pr _ H1.out (fun i => goR_len HLN.out x i)).mono ?_
        rintro e w2 ⟨rfl, h4⟩
        have H4 := Lib.hid h4
        clear h4
        go_wp2
        go_ret
        rw [Hc.out.1, Hc.out.2]
        exact ⟨rfl, QPost.trans H1.out H2.out H3.out H4.out⟩
  · have hm' : mayB x pr = false := by simpa using hm
    have Hc : Box (chgC r x pr = 1 ∧ chg r x pr = r) := ⟨by simp [chg, chgC, hm']⟩
    clear hm
    go_enter Try.func16, Try.ntmps16
    go_wp2_with (first | (go_at_call 21; refine (may_any _ _ _).mono ?_; rintro e w' ⟨rfl, rfl⟩))
    go_ret
    rw [Hc.out.1, Hc.out.2]
    exact ⟨rfl, F, H.out, Fr.refl _ _, Gro.refl _ _⟩

theorem change_st (w0 : World) (q : Nat) (r : Nat → List Int) (x pr : Int) (w : World) (F : Nat → Prop) (h1 : QRep w q r F) (h2 : ∀ k, F k → w0.heap.size ≤ k) (h3 : Below w0.heap.size w0 w) (hlen : ∀ i, (r i).length ≤ 1000000) :
    Calls Try.prog 16 #[.pointer (some ⟨q, 0, none⟩), .int .i64 x, .int .i64 pr] w fun e w' => e = .returned (.int .i64 (chgC r x pr)) ∧ QSt w0 w' q (chg r x pr) ∧ Fr F w w' := by
  refine (change_any q r F x pr w h1 hlen).mono ?_
  rintro e w' ⟨rfl, hp⟩
  exact ⟨rfl, QSt.post h1 h2 h3 hp, by obtain ⟨_, _, h, _⟩ := hp; exact h⟩

end Go.Proofs.Ytelehfcjajipiaa
