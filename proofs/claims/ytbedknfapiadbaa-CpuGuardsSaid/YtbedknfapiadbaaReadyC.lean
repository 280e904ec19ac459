/-
  The walk of package ready's 'Come': a statement that draws its order (an append, stored back into the queue).
-/
import Derived.Test.YtbedknfapiadbaaReadyB
namespace Go.Proofs.Ytbedknfapiadbaa
open Go.RowKit

theorem QRep.owns {w : World} {q : Nat} {r : Nat → List Int} {F : Nat → Prop} (h : QRep w q r F) (i : Nat) (hi : i < 101) :
    ∃ v, w.cell? ⟨q, i, none⟩ = some v ∧ w.ownsRow 0 3 1 v (r i).length (ints (r i)) ∧ (∀ g, v.ownBlock = some g → F g ∧ g ≠ q) := by
  obtain ⟨hm, hl, vs, hs, hb, hr, hd⟩ := h
  have hi' : i < vs.size := by omega
  exact ⟨vs[i], by rw [cell_blk hb]; simp [hi'], (hr i hi').1, (hr i hi').2⟩
theorem QRep.free {w : World} {q : Nat} {r : Nat → List Int} {F : Nat → Prop} (h : QRep w q r F) (i : Nat) : w.frozen? ⟨q, i, none⟩ = false := by
  obtain ⟨hm, hl, vs, hs, hb, hr, hd⟩ := h
  exact free_blk hb i
theorem QRep.qlt {w : World} {q : Nat} {r : Nat → List Int} {F : Nat → Prop} (h : QRep w q r F) : q < w.heap.size := h.lt q h.mem

/-- What a call on a queue leaves: a code, and the rows r'. -/
def QPost (w : World) (q : Nat) (r' : Nat → List Int) (F : Nat → Prop) (c : Int) (e : Ending) (w' : World) : Prop :=
  e = .returned (.int .i64 c) ∧ ∃ F', QRep w' q r' F' ∧ Fr F w w' ∧ Gro F F' w

def comeC (r : Nat → List Int) (id pr : Int) : Int := if mayB id pr then if (prio r id).isSome then 7 else 0 else 1
def come (r : Nat → List Int) (id pr : Int) : Nat → List Int := if comeC r id pr = 0 then upd r pr.toNat (r pr.toNat ++ [id]) else r

set_option maxHeartbeats 1000000 in
theorem come_any (q : Nat) (r : Nat → List Int) (F : Nat → Prop) (id pr : Int) (w : World) (h : QRep w q r F) (hlen : ∀ i, (r i).length ≤ 1000000) :
    Calls Try.prog 36 #[.pointer (some ⟨q, 0, none⟩), .int .i64 id, .int .i64 pr] w (QPost w q (come r id pr) F (comeC r id pr)) := by
  have H := Lib.hid h
  by_cases hm : mayB id pr = true
  · by_cases hp : (prio r id).isSome = true
    · have Hc : Hid (comeC r id pr = 7 ∧ come r id pr = r) := by simp [Hid, come, comeC, hm, hp]
      clear h
      go_enter Try.func36, Try.ntmps36
      go_wp2_with (first | (go_at_call 47; refine (may_any _ _ _).mono ?_; rintro e w' ⟨rfl, rfl⟩) | (go_at_call 48; refine (prio_any q r F id _ H.out).mono ?_; rintro e w' ⟨rfl, rfl⟩))
      go_ret
      rw [Hc.out.1, Hc.out.2]
      exact ⟨rfl, F, H.out, Fr.refl _ _, Gro.refl _ _⟩
    · have hp' : (prio r id).isSome = false := by simpa using hp
      obtain ⟨p, rfl⟩ : ∃ p : Nat, pr = p := ⟨pr.toNat, by have := mayB_iff.1 hm; omega⟩
      have hlt : p < 101 := by have := mayB_iff.1 hm; omega
      have hlti : (p : Int) < 101 := by omega
      have Hc : Hid (comeC r id p = 0 ∧ come r id p = upd r p (r p ++ [id])) := by simp [Hid, come, comeC, hm, hp']
      obtain ⟨v, hv, hown, hob⟩ := h.owns p hlt
      have HO := Lib.hid hown
      have HB := Lib.hid hob
      have hfr := h.free p
      have hq := h.qlt
      have hl := hlen p
      have HL := Lib.hid hlen
      obtain ⟨i0, hi, hz0, hz1, hz2⟩ := info_parts Try.infoInt
      clear h hown hob hp hlen
      go_enter Try.func36, Try.ntmps36
      go_wp2_with (first | (go_at_call 47; refine (may_any _ _ _).mono ?_; rintro e w' ⟨rfl, rfl⟩) | (go_at_call 48; refine (prio_any q r F id _ H.out).mono ?_; rintro e w' ⟨rfl, rfl⟩))
      go_region_law (refine step_append_lies _ rfl (.tmp 27) (.tmp 29) 34 rfl 0 3 i0 (.int .i64 0) 1 8 Try.underlying34 hi hz0 hz1 hz2 rfl (by decide) v (r p).length (ints (r p)) (by simp [Act.eval]) (HO.out.alloc _) ⟨w.heap.size, 0, none⟩ 1 1 [.int .i64 id] (by simp [Act.eval]) rfl (cell_one_new _ _ _) (by simp [Value.oneCell']) (by omega) (by unfold maxLen; omega) (by omega) (Nat.zero_le _) _ rfl ?_; intro g cap w1 hown hgrow hat hlt1; have k0 : w1.cell? ⟨q, p, none⟩ = some v := (hgrow.cell_far ⟨q, p, none⟩ (by simp; omega) (fun e => (HB.out q e.symm).2 rfl)).trans ((World.cell?_alloc_past _ _ _ hq).trans hv); have k1 : w1.frozen? ⟨q, p, none⟩ = false := (hgrow.frozen_far ⟨q, p, none⟩ (by simp; omega) (fun e => (HB.out q e.symm).2 rfl)).trans ((World.frozen?_alloc_past _ _ _ hq).trans hfr))
      all_goals
        go_wp2
        go_ret
        rw [Hc.out.1, Hc.out.2]
        have hs := H.out.store hlt hv (w1 := w1) (v' := .slice (some ⟨g, 0, none⟩) ((r p).length + 1) cap) (l' := r p ++ [id]) ((Fr.refl _ _).drew.alloc _ |>.grown hgrow (fun k e => .inl e)) (by simpa [ints] using hown) (fun k e => by
          simp [Value.ownBlock] at e; subst e
          exact ⟨hat.imp _root_.id (fun e => by simp at e; omega), hlt1⟩)
        exact ⟨rfl, _, hs⟩
  · have hm' : mayB id pr = false := by simpa using hm
    have Hc : Hid (comeC r id pr = 1 ∧ come r id pr = r) := by simp [Hid, come, comeC, hm']
    clear h hm
    go_enter Try.func36, Try.ntmps36
    go_wp2_with (first | (go_at_call 47; refine (may_any _ _ _).mono ?_; rintro e w' ⟨rfl, rfl⟩))
    go_ret
    rw [Hc.out.1, Hc.out.2]
    exact ⟨rfl, F, H.out, Fr.refl _ _, Gro.refl _ _⟩

end Go.Proofs.Ytbedknfapiadbaa
