/-
  A line's command, plainly; the walk of 'value'.
-/
import Derived.Test.YtanlodaimbocoaaDoorStH
namespace Go.Proofs.YtanlodaimbocoaaDoor
open Go.RowKit

/-- A word as a value of any type. -/
noncomputable def anyV (x : Bs) : Value := match numV x with
  | some n => .iface 3 (.int .i64 n)
  | none => .iface 9 (strv x)
theorem anyV_some {x : Bs} {n : Nat} (h : numV x = some n) : anyV x = .iface 3 (.int .i64 n) := by unfold anyV; rw [h]
theorem anyV_none {x : Bs} (h : numV x = none) : anyV x = .iface 9 (strv x) := by unfold anyV; rw [h]
set_option maxHeartbeats 4000000 in
theorem value_any (x : Bs) (hx : x.length ≤ 1000000) (w : World) : Calls Tryd.prog 24 #[strv x] w fun e w' => e = .returned (anyV x) ∧ Below w.heap.size w w' := by
  have HN := Box.mk (number_any ⟨x.toArray⟩ (by rw [bts_size]; exact hx) w)
  cases hn : numV x with
  | none =>
    have e : numT (numV (⟨x.toArray⟩ : ByteArray).data.toList) = .tuple #[.int .i64 0, .bool false] := by rw [bts_mk, hn]; rfl
    rw [e] at HN
    have HE := Box.mk (anyV_none hn)
    clear hn e
    go_enter Tryd.func24, Tryd.ntmps24
    go_wp2_with (go_at_call 11; (with_reducible refine HN.out.mono ?_); rintro e w1 ⟨rfl, hb⟩; have HB := Box.mk hb; clear hb)
    go_ret
    exact ⟨by rw [HE.out]; rfl, HB.out⟩
  | some n =>
    have e : numT (numV (⟨x.toArray⟩ : ByteArray).data.toList) = .tuple #[.int .i64 n, .bool true] := by rw [bts_mk, hn]; rfl
    rw [e] at HN
    have HE := Box.mk (anyV_some hn)
    clear hn e
    go_enter Tryd.func24, Tryd.ntmps24
    go_wp2_with (go_at_call 11; (with_reducible refine HN.out.mono ?_); rintro e w1 ⟨rfl, hb⟩; have HB := Box.mk hb; clear hb)
    go_ret
    exact ⟨by rw [HE.out]; rfl, HB.out⟩

/-- The numbers of some words; none, if one of them is none's. -/
noncomputable def numsV : List Bs → Option (List Int)
  | [] => some []
  | x :: r => match numV x, numsV r with
    | some n, some z => some ((n : Int) :: z)
    | _, _ => none
/-- The command of a line. -/
noncomputable def parseV (l : Bs) : Option (Bs × List Int) := match words l with
  | [] => none
  | x :: r => match numsV r with
    | some z => if mayB x z = true then some (x, z) else none
    | none => none
theorem numsV_len : ∀ {r : List Bs} {z : List Int}, numsV r = some z → z.length = r.length
  | [], z, h => by simp [numsV] at h; subst h; rfl
  | x :: r, z, h => by
    unfold numsV at h
    split at h
    · rename_i n z' h1 h2
      injection h with h
      subst h
      simp [numsV_len h2]
    · cases h
theorem numsV_at : ∀ {r : List Bs} {z : List Int}, numsV r = some z → ∀ i (hi : i < r.length) (hz : i < z.length), ∃ n : Nat, numV r[i] = some n ∧ z[i] = n
  | [], z, h, i, hi, _ => by simp at hi
  | x :: r, z, h, i, hi, hz => by
    unfold numsV at h
    split at h
    · rename_i n z' h1 h2
      injection h with h
      subst h
      cases i with
      | zero => exact ⟨n, h1, rfl⟩
      | succ i => exact numsV_at h2 i (by simpa using hi) (by simpa using hz)
    · cases h
theorem numsV_none : ∀ {r : List Bs}, numsV r = none → ∃ x ∈ r, numV x = none
  | [], h => by simp [numsV] at h
  | x :: r, h => by
    cases hx : numV x with
    | none => exact ⟨x, List.mem_cons_self .., hx⟩
    | some n =>
      cases hr : numsV r with
      | none =>
        obtain ⟨y, hy, e⟩ := numsV_none hr
        exact ⟨y, List.mem_cons_of_mem _ hy, e⟩
      | some z => unfold numsV at h; rw [hx, hr] at h; cases h
theorem numsV_bad : ∀ {r : List Bs} {x : Bs}, x ∈ r → numV x = none → numsV r = none
  | y :: r, x, hx, hn => by
    rcases List.mem_cons.1 hx with rfl | hx
    · unfold numsV; rw [hn]
    · unfold numsV; rw [numsV_bad hx hn]
      cases numV y <;> rfl
theorem numsV_snoc {r : List Bs} {z : List Int} {x : Bs} {n : Nat} (h : numsV r = some z) (hx : numV x = some n) : numsV (r ++ [x]) = some (z ++ [(n : Int)]) := by
  induction r generalizing z with
  | nil =>
    simp [numsV] at h
    subst h
    simp [numsV, hx]
  | cons y r ih =>
    unfold numsV at h
    split at h
    · rename_i k z' h1 h2
      injection h with h
      subst h
      rw [List.cons_append]
      unfold numsV
      rw [h1, ih h2]
      rfl
    · cases h
/-- A number's word is no command's name. -/
theorem number_no_name {x : Bs} {n : Nat} (h : numV x = some n) : namesF x = none := by
  refine namesF_none fun p hp e => ?_
  have hok : numOk x := by
    by_cases hk : numOk x
    · exact hk
    · rw [numV_none hk] at h; cases h
  have hd := hok.2.2.2.1
  rw [e] at hd
  have key : ∀ p ∈ namesL, ∃ c ∈ p.1, ¬ digB c := by
    intro p hp
    simp only [namesL, List.mem_cons, List.not_mem_nil, or_false] at hp
    rcases hp with rfl | rfl | rfl | rfl | rfl | rfl | rfl | rfl | rfl | rfl | rfl | rfl | rfl | rfl | rfl | rfl | rfl
    all_goals exact ⟨_, List.mem_cons_self .., by decide⟩
  obtain ⟨c, hc, hb⟩ := key p hp
  exact hb (hd c hc)
theorem may_no_name {x : Bs} {z : List Int} (h : namesF x = none) : mayB x z = false := by unfold mayB; rw [h]; simp

end Go.Proofs.YtanlodaimbocoaaDoor
