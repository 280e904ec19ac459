/-
  A book: 'sorted', plainly and its walk.
-/
import Derived.Test.YtbodnmcaipakcaaLiG
import Derived.Test.YtbodnmcaipakcaaTimL
import Derived.Laws.MakeOwn
namespace Go.Proofs.Ytbodnmcaipakcaa
open Go.RowKit Go.ChangeMaps Go.MapKept

/-- By when one must have come out. -/
def dl (op : Int → Option Ent) (x : Int) : Nat := match op x with | some e => e.dead | none => 0
/-- Ahead of: by abort times, then by numbers. -/
def oLt (op : Int → Option Ent) (x y : Int) : Prop := dl op x < dl op y ∨ (dl op x = dl op y ∧ x < y)
section
variable {op : Int → Option Ent}
theorem oLt_trans {x y z : Int} (h : oLt op x y) (k : oLt op y z) : oLt op x z := by unfold oLt at *; omega
theorem oLt_tot {x y : Int} (h : ¬ oLt op x y) (hn : x ≠ y) : oLt op y x := by unfold oLt at *; omega
theorem blt_iff {x y : Int} {ex ey : Ent} (hx : op x = some ex) (hy : op y = some ey) : bltB ex.dead x ey.dead y = true ↔ oLt op x y := by
  unfold bltB oLt dl
  rw [hx, hy, decide_eq_true_eq]
/-- The first i stand in order. -/
def SInv (op : Int → Option Ent) (i : Nat) (l : List Int) : Prop := ∀ a b (ha : a < l.length) (hb : b < l.length), a < b → b < i → oLt op l[a] l[b]
/-- .. but for one. -/
def KInv (op : Int → Option Ent) (i k : Nat) (l : List Int) : Prop := ∀ a b (ha : a < l.length) (hb : b < l.length), a < b → b ≤ i → b ≠ k → oLt op l[a] l[b]
theorem KInv.start {i : Nat} {l : List Int} (h : SInv op i l) : KInv op i i l := fun a b ha hb hab hbi hne => h a b ha hb hab (by omega)
theorem KInv.zero {i : Nat} {l : List Int} (h : KInv op i 0 l) : SInv op (i + 1) l := fun a b ha hb hab hbi => h a b ha hb hab (by omega) (by omega)
theorem KInv.stop {i k : Nat} {l : List Int} (h : KInv op i (k + 1) l) (hn : l.Nodup) (hk : k + 1 ≤ i) (hkl : k + 1 < l.length) (hs : ¬ oLt op l[k + 1] l[k]) : SInv op (i + 1) l := fun a b ha hb hab hbi => by
  by_cases e : b = k + 1
  · subst e
    have hne : l[k + 1] ≠ l[k] := fun e => by
      have := (List.pairwise_iff_getElem.1 (List.nodup_iff_pairwise_ne.1 hn)) k (k + 1) (by omega) hkl (by omega)
      exact this e.symm
    have h1 := oLt_tot hs hne
    by_cases e2 : a = k
    · subst e2; exact h1
    · exact oLt_trans (h a k ha (by omega) (by omega) (by omega) (by omega)) h1
  · exact h a b ha hb hab (by omega) e
/-- k + 1 and k exchanged. -/
def swp (l : List Int) (k : Nat) (h : k + 1 < l.length) : List Int := (l.set (k + 1) l[k]).set k l[k + 1]
theorem swp_len (l : List Int) (k : Nat) (h : k + 1 < l.length) : (swp l k h).length = l.length := by simp [swp]
theorem swp_perm (l : List Int) (k : Nat) (h : k + 1 < l.length) : (swp l k h).Perm l := List.set_set_perm h (by omega)
theorem swp_get (l : List Int) (k : Nat) (h : k + 1 < l.length) {b : Nat} (hb : b < (swp l k h).length) : (swp l k h)[b] = if b = k then l[k + 1] else if b = k + 1 then l[k] else l[b]'(by rw [swp_len] at hb; exact hb) := by
  simp only [swp, List.getElem_set]
  by_cases e : b = k
  · rw [if_pos e, if_pos e.symm]
  · rw [if_neg e, if_neg (fun x => e x.symm)]
    by_cases e2 : b = k + 1
    · rw [if_pos e2, if_pos e2.symm]
    · rw [if_neg e2, if_neg (fun x => e2 x.symm)]
theorem KInv.step {i k : Nat} {l : List Int} (h : KInv op i (k + 1) l) (hk : k + 1 ≤ i) (hkl : k + 1 < l.length) (hs : oLt op l[k + 1] l[k]) : KInv op i k (swp l k hkl) := fun a b ha hb hab hbi hne => by
  rw [swp_get l k hkl ha, swp_get l k hkl hb]
  rw [swp_len] at ha hb
  rw [if_neg hne]
  by_cases e : b = k + 1
  · rw [if_pos e]
    by_cases e2 : a = k
    · rw [if_pos e2]; exact hs
    · rw [if_neg e2, if_neg (by omega)]
      exact h a k ha (by omega) (by omega) (by omega) (by omega)
  · rw [if_neg e]
    by_cases e2 : a = k
    · rw [if_pos e2]
      exact h (k + 1) b hkl hb (by omega) hbi e
    · rw [if_neg e2]
      by_cases e3 : a = k + 1
      · rw [if_pos e3]
        exact h k b (by omega) hb (by omega) hbi e
      · rw [if_neg e3]
        exact h a b ha hb hab hbi e
end
/-- Cells that hold a list from the start on. -/
def CellsL (cs : Array Value) (l : List Int) : Prop := ∀ j (hj : j < l.length), cs[j]? = some (.int .i64 l[j])
theorem CellsL.swp {cs : Array Value} {l : List Int} (h : CellsL cs l) {k : Nat} (hk : k + 1 < l.length) : CellsL ((cs.setIfInBounds (k + 1) (.int .i64 l[k])).setIfInBounds k (.int .i64 l[k + 1])) (swp l k hk) := fun j hj => by
  have hsz : l.length ≤ cs.size := by
    rcases Nat.lt_or_ge cs.size l.length with g | g
    · have := h cs.size g
      simp at this
    · exact g
  rw [swp_get l k hk hj]
  rw [swp_len] at hj
  rw [Array.getElem?_setIfInBounds, Array.getElem?_setIfInBounds]
  by_cases e : k = j
  · subst e
    rw [if_pos rfl, if_pos (by simp; omega), if_pos rfl]
  · have e' : ¬ j = k := fun x => e x.symm
    by_cases e2 : k + 1 = j
    · subst e2
      rw [if_neg e, if_pos rfl, if_pos (by omega), if_neg e', if_pos rfl]
    · have e2' : ¬ j = k + 1 := fun x => e2 x.symm
      rw [if_neg e, if_neg e2, if_neg e', if_neg e2']
      exact h j hj

end Go.Proofs.Ytbodnmcaipakcaa
