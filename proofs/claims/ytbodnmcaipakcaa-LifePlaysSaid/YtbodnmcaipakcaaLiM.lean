/-
  The law's own first look (law19).
-/
import Derived.Test.YtbodnmcaipakcaaLiL
namespace Go.Proofs.Ytbodnmcaipakcaa
open Go.RowKit

theorem nodup_sub_len {α : Type} [DecidableEq α] : ∀ {l m : List α}, l.Nodup → (∀ x ∈ l, x ∈ m) → l.length ≤ m.length := by
  intro l
  induction l with
  | nil => intro m _ _; simp
  | cons x l ih =>
    intro m hn hs
    obtain ⟨h1, h2⟩ := List.nodup_cons.1 hn
    have hx := hs x (List.mem_cons_self ..)
    have := ih (m := m.erase x) h2 (fun y hy => by
      have hne : y ≠ x := fun e => h1 (by rw [← e]; exact hy)
      exact (List.mem_erase_of_ne hne).2 (hs y (List.mem_cons_of_mem _ hy)))
    rw [List.length_erase, if_pos (by simpa using hx)] at this
    have hpos := List.length_pos_of_mem hx
    simp only [List.length_cons]
    omega
theorem cntD_le {d : Int → Option Nat} (L : List Int) (h : ∀ x a, d x = some a → x ∈ L) : cntD d ≤ L.length := by
  unfold cntD
  have hn : (((List.range 65536).filter (fun i : Nat => (d (i : Int)).isSome)).map (fun i : Nat => (i : Int))).Nodup := by
    rw [List.nodup_iff_pairwise_ne, List.pairwise_map]
    exact (List.nodup_iff_pairwise_ne.1 (List.nodup_range.filter _)).imp (fun h => by omega)
  have := nodup_sub_len hn (m := L) (fun x hx => by
    obtain ⟨i, hi, rfl⟩ := List.mem_map.1 hx
    obtain ⟨a, ha⟩ := Option.isSome_iff_exists.1 (List.mem_filter.1 hi).2
    exact h _ a ha)
  rwa [List.length_map] at this
theorem openD_ok {cost now : Nat} {d : Int → Option Nat} {id : Int} {dead : Nat} (h1 : 0 ≤ id) (h2 : id ≤ 65535) (h3 : dead < 4611686018427387904) (h4 : d id = none) (h5 : cntD d < 64) (h6 : now + cost < dead) : openD cost now d id dead = 0 := by
  unfold openD
  rw [if_neg (by omega), if_neg (by omega), h4, if_neg (by simp), if_neg (by omega), if_neg (by omega)]
theorem openD_den {cost now : Nat} {d : Int → Option Nat} {id : Int} {dead : Nat} (h1 : 0 ≤ id) (h2 : id ≤ 65535) (h3 : dead < 4611686018427387904) (h4 : d id = none) (h5 : cntD d < 64) (h6 : dead ≤ now + cost) : openD cost now d id dead = 11 := by
  unfold openD
  rw [if_neg (by omega), if_neg (by omega), h4, if_neg (by simp), if_neg (by omega), if_pos h6]
def dA0 : Int → Option Nat := fun _ => none
def dA1 : Int → Option Nat := at1 dA0 7 (some 20)
def dA2 : Int → Option Nat := at1 dA1 8 (some 30)
def dA3 : Int → Option Nat := at1 dA2 8 none
theorem dA3_some (x : Int) (a : Nat) : dA3 x = some a ↔ x = 7 ∧ a = 20 := by
  unfold dA3 dA2 dA1 dA0 at1
  by_cases h : x = 8
  · subst h; simp
  · by_cases h2 : x = 7
    · subst h2; simp; omega
    · simp [h, h2]
theorem cA0 : cntD dA0 < 64 := Nat.lt_of_le_of_lt (cntD_le [] (fun x a h => by cases h)) (by decide)
theorem cA1 : cntD dA1 < 64 := Nat.lt_of_le_of_lt (cntD_le [7] (fun x a h => by
  unfold dA1 dA0 at1 at h
  by_cases e : x = 7
  · subst e; simp
  · simp [e] at h)) (by decide)
theorem lateA {l : List Int} (h : LateL dA3 20 l) : l = [7] := late_eq h ⟨List.pairwise_singleton _ _, fun x => by
  rw [List.mem_singleton]
  constructor
  · rintro rfl; exact ⟨20, (dA3_some 7 20).2 ⟨rfl, rfl⟩, by omega⟩
  · rintro ⟨a, h1, _⟩; exact ((dA3_some x a).1 h1).1⟩
theorem dA4 : lateD dA3 20 = dA0 := by
  funext x
  refine Option.ext fun a => ?_
  rw [lateD_some, dA3_some]
  constructor
  · rintro ⟨⟨_, h⟩, h2⟩; omega
  · intro h; cases h
theorem cntA0 : cntD dA0 = 0 := Nat.le_zero.1 (cntD_le [] (fun x a h => by cases h))

set_option maxHeartbeats 8000000 in
set_option maxRecDepth 100000 in
theorem awake19_any (w : World) :
    Calls Try.prog 9 #[] w fun e w' => e = .returned (.bool true) ∧ Below w.heap.size w w' := by
  have HNW := Box.mk (ls_new 5 w (by omega) w (Below.refl _ _) [] (fun q hq => by cases hq))
  go_enter Try.func9, Try.ntmps9
  go_upto_region 4 with (go_at_call 10; refine HNW.out.mono ?_; rintro e w1 ⟨p, rfl, hs⟩; have HS := Box.mk hs; clear hs)
  clear HNW
  have HR := Box.mk (ls_open w w1 p 5 0 dA0 [] [] HS.out 7 20 (kwf_of (by omega) (by omega)) (by omega) 0 (openD_ok (by omega) (by omega) (by omega) rfl cA0 (by omega)))
  go_upto_region 5 with (go_at_call 11; refine HR.out.mono ?_; rintro e w2 ⟨rfl, hs⟩; have HS : Box (LS w w2 p 5 0 dA1 [] []) := Box.mk hs; clear hs)
  clear HR
  have HR := Box.mk (ls_open w w2 p 5 0 dA1 [] [] HS.out 8 30 (kwf_of (by omega) (by omega)) (by omega) 0 (openD_ok (by omega) (by omega) (by omega) (by simp [dA1, dA0, at1]) cA1 (by omega)))
  go_upto_region 6 with (go_at_call 11; refine HR.out.mono ?_; rintro e w3 ⟨rfl, hs⟩; have HS : Box (LS w w3 p 5 0 dA2 [] []) := Box.mk hs; clear hs)
  clear HR
  have e1 : ansC dA2 8 3 = 0 ∧ ansD dA2 8 3 = dA3 ∧ ansF dA2 [] 8 3 false = [⟨8, 1, 3⟩] := by
    refine ⟨?_, rfl, ?_⟩
    · simp [ansC, outD, dA2, at1]
    · simp [ansF, fsO, dA2, at1]
  have HR := ls_answer w w3 p 5 0 dA2 [] [] HS.out 8 3 false (kwf_of (by omega) (by omega)) (by simp)
  rw [e1.1, e1.2.1, e1.2.2] at HR
  have HR := Box.mk HR
  clear e1
  go_upto_region 7 with (go_at_call 12; refine HR.out.mono ?_; rintro e w4 ⟨rfl, hs⟩; have HS := Box.mk hs; clear hs)
  clear HR
  have e1 : ansC dA3 8 3 = 6 ∧ ansD dA3 8 3 = dA3 ∧ ansF dA3 [⟨8, 1, 3⟩] 8 3 false = [⟨8, 1, 3⟩] := by
    refine ⟨?_, ?_, ?_⟩
    · simp [ansC, outD, dA3, at1]
    · unfold ansD
      rw [if_neg (by omega)]
      funext x
      by_cases e : x = 8
      · subst e; rw [at1_same]; simp [dA3, at1]
      · rw [at1_ne _ _ e]
    · simp [ansF, fsO, dA3, at1]
  have HR := ls_answer w w4 p 5 0 dA3 [⟨8, 1, 3⟩] [] HS.out 8 3 false (kwf_of (by omega) (by omega)) (by simp)
  rw [e1.1, e1.2.1, e1.2.2] at HR
  have HR := Box.mk HR
  clear e1
  go_upto_region 8 with (go_at_call 12; refine HR.out.mono ?_; rintro e w5 ⟨rfl, hs⟩; have HS := Box.mk hs; clear hs)
  clear HR
  have HR := Box.mk (ls_go w w5 p 5 0 dA3 [⟨8, 1, 3⟩] [] HS.out 15 (by omega) (by omega) (by simp))
  go_upto_region 9 with (go_at_call 13; refine HR.out.mono ?_; rintro e w6 ⟨fo, n, c, l, Y, rfl, hl, hn, hs, -, -, hrow⟩; obtain rfl := lateA hl; have HS := Box.mk hs; have HROW := Box.mk hrow; obtain rfl : n = 2 := hn; clear hl hs hrow)
  clear HR
  obtain ⟨b, cur, rfl, hY, a0, a1, a2⟩ := HROW.out 0 (by simp [timeF])
  obtain ⟨b', cur', hb, hY', a3, a4, a5⟩ := HROW.out 1 (by simp [timeF])
  obtain rfl : b' = b := by injection hb with hb; injection hb with hb; exact hb.symm
  have q1 := HS.out.blk (q := (b', Obj.cells cur 35 (0, 0))) (by simpa using hY)
  have q2 := HS.out.blk (q := (b', Obj.cells cur' 35 (0, 0))) (by simpa using hY')
  have x0 : w6.cell? ⟨b', 0, none⟩ = some (.int .i64 8) := (cell_blk q1 0).trans a0
  have x1 : w6.cell? ⟨b', 1, none⟩ = some (.int .i64 1) := (cell_blk q1 1).trans a1
  have x2 : w6.cell? ⟨b', 2, none⟩ = some (.int .i64 3) := (cell_blk q1 2).trans a2
  have x3 : w6.cell? ⟨b', 3, none⟩ = some (.int .i64 7) := (cell_blk q2 3).trans a3
  have x4 : w6.cell? ⟨b', 4, none⟩ = some (.int .i64 2) := (cell_blk q2 4).trans a4
  have x5 : w6.cell? ⟨b', 5, none⟩ = some (.int .i64 1) := (cell_blk q2 5).trans a5
  have hS := HS.out
  rw [show 15 + 5 = 20 from rfl, dA4] at hS
  have HS := Box.mk hS
  have HC := ls_count w w6 p 5 15 dA0 [] _ HS.out
  rw [cntA0] at HC
  have HC := Box.mk HC
  have HR := Box.mk (ls_open w w6 p 5 15 dA0 [] _ HS.out 7 20 (kwf_of (by omega) (by omega)) (by omega) 11 (openD_den (by omega) (by omega) (by omega) rfl cA0 (by omega)))
  clear q1 q2 a0 a1 a2 a3 a4 a5 hY hY' hS hb HROW
  go_wp2_with (first
    | (go_at_call 15; refine HC.out.mono ?_; rintro e w7 ⟨rfl, rfl⟩)
    | (go_at_call 11; refine HR.out.mono ?_; rintro e w8 ⟨rfl, hs⟩; have HS := Box.mk hs; clear hs))
  go_ret
  exact ⟨rfl, HS.out.below⟩

end Go.Proofs.Ytbodnmcaipakcaa
