/-
  LifeOrder: outcomes by time come by when their abort times are, alike ones by numbers; those that were answered ahead of them, as they came. No condition but the statement's.
-/
import Derived.Test.YtbodnmcaipakcaaLiM
import Derived.Test.YtbodnmcaipakcaaArgsS
import Derived.Test.YtbodnmcaipakcaaRows
namespace Go.Proofs.Ytbodnmcaipakcaa.lifeOrder
open Go.ChangeShapes Go.WideShapes Go.ChangeAt Go.RowKit Go.Proofs.Ytbodnmcaipakcaa

/-- Request x's abort time. -/
def dd (z : List Int) (x : Int) : Nat := 6 + (zv z x.toNat).toNat
/-- The first i requests are open. -/
def dI (z : List Int) (i : Nat) : Int → Option Nat := fun x => if 0 ≤ x ∧ x < i then some (dd z x) else none
theorem dI_zero (z : List Int) : dI z 0 = fun _ => none := by funext x; unfold dI; rw [if_neg (by omega)]
theorem dI_at (z : List Int) (i : Nat) : dI z i i = none := by unfold dI; rw [if_neg (by omega)]
theorem dI_next (z : List Int) (i : Nat) : at1 (dI z i) i (some (dd z i)) = dI z (i + 1) := by
  funext x
  by_cases e : x = i
  · subst e; rw [at1_same]; unfold dI; rw [if_pos (by omega)]
  · rw [at1_ne _ _ e]; unfold dI
    by_cases h : 0 ≤ x ∧ x < i
    · rw [if_pos h, if_pos (by omega)]
    · rw [if_neg h, if_neg (by omega)]
theorem dI_cnt (z : List Int) (i : Nat) : cntD (dI z i) ≤ i := by
  have := cntD_le (d := dI z i) ((List.range i).map (fun k : Nat => (k : Int))) (fun x a h => by
    unfold dI at h
    split at h
    · exact List.mem_map.2 ⟨x.toNat, List.mem_range.2 (by omega), by omega⟩
    · cases h)
  simpa using this
/-- Those from j on that are to be answered have been. -/
def dJ (z : List Int) (n j : Nat) : Int → Option Nat := fun x => if 0 ≤ x ∧ x < n ∧ ¬ ((j : Int) ≤ x ∧ x % 5 = 0) then some (dd z x) else none
theorem dJ_all (z : List Int) (n : Nat) : dJ z n n = dI z n := by
  funext x
  unfold dJ dI
  by_cases h : 0 ≤ x ∧ x < n
  · rw [if_pos (by omega), if_pos h]
  · rw [if_neg (by omega), if_neg h]
theorem dJ_yes (z : List Int) {n i : Nat} (hm : (i : Int) % 5 = 0) : at1 (dJ z n (i + 1)) i none = dJ z n i := by
  funext x
  by_cases e : x = i
  · subst e; rw [at1_same]; unfold dJ; rw [if_neg (by omega)]
  · rw [at1_ne _ _ e]; unfold dJ
    by_cases h : 0 ≤ x ∧ x < n ∧ ¬ ((i : Int) ≤ x ∧ x % 5 = 0)
    · rw [if_pos h, if_pos (by omega)]
    · rw [if_neg h, if_neg (by omega)]
theorem dJ_no (z : List Int) {n i : Nat} (hm : (i : Int) % 5 ≠ 0) : dJ z n (i + 1) = dJ z n i := by
  funext x
  unfold dJ
  by_cases h : 0 ≤ x ∧ x < n ∧ ¬ ((i : Int) ≤ x ∧ x % 5 = 0)
  · rw [if_pos h, if_pos (by omega)]
  · rw [if_neg h, if_neg (by omega)]
theorem dJ_some (z : List Int) {n i : Nat} (hi : i < n) : (dJ z n (i + 1) i).isSome = true := by
  unfold dJ; rw [if_pos (by omega)]; rfl
/-- Those that were answered, in the order that they were. -/
def ansM (n : Nat) : Nat → List Nat
  | 0 => []
  | m + 1 => if ((n - 1 - m : Nat) : Int) % 5 = 0 then ansM n m ++ [n - 1 - m] else ansM n m
theorem ansM_succ (n m : Nat) : ansM n (m + 1) = if ((n - 1 - m : Nat) : Int) % 5 = 0 then ansM n m ++ [n - 1 - m] else ansM n m := rfl
theorem ansM_mem (n : Nat) : ∀ (m : Nat), m ≤ n → ∀ x, x ∈ ansM n m ↔ n - m ≤ x ∧ x < n ∧ (x : Int) % 5 = 0
  | 0, _, x => by simp [ansM]; omega
  | m + 1, h, x => by
    have ih := ansM_mem n m (by omega) x
    unfold ansM
    split
    · rename_i h5
      rw [List.mem_append, ih, List.mem_singleton]
      constructor
      · rintro (h1 | rfl)
        · omega
        · omega
      · intro h1
        by_cases e : x = n - 1 - m
        · exact .inr e
        · exact .inl (by omega)
    · rename_i h5
      rw [ih]
      constructor
      · intro h1; omega
      · intro h1
        by_cases e : x = n - 1 - m
        · subst e; exact absurd h1.2.2 h5
        · omega
theorem ansM_down (n : Nat) : ∀ (m : Nat), m ≤ n → (ansM n m).Pairwise (fun x y => y < x)
  | 0, _ => List.Pairwise.nil
  | m + 1, h => by
    have ih := ansM_down n m (by omega)
    unfold ansM
    split
    · refine List.pairwise_append.2 ⟨ih, List.pairwise_singleton _ _, fun a ha b hb => ?_⟩
      have := (ansM_mem n m (by omega) a).1 ha
      rw [List.mem_singleton] at hb
      omega
    · exact ih
def F (k : Nat) : FateM := if (k : Int) % 2 = 1 then ⟨k, 2, 2⟩ else ⟨k, 1, k⟩
theorem F_id (k : Nat) : (F k).id = k := by unfold F; split <;> rfl
def fsJ (n j : Nat) : List FateM := (ansM n (n - j)).map F
theorem fsJ_all (n : Nat) : fsJ n n = [] := by unfold fsJ; rw [Nat.sub_self]; rfl
theorem fsJ_yes {n i : Nat} (hi : i < n) (hm : (i : Int) % 5 = 0) : fsJ n i = fsJ n (i + 1) ++ [F i] := by
  unfold fsJ
  rw [show n - i = (n - (i + 1)) + 1 from by omega]
  rw [ansM_succ, show n - 1 - (n - (i + 1)) = i from by omega, if_pos hm, List.map_append]
  rfl
theorem fsJ_no {n i : Nat} (hi : i < n) (hm : (i : Int) % 5 ≠ 0) : fsJ n i = fsJ n (i + 1) := by
  unfold fsJ
  rw [show n - i = (n - (i + 1)) + 1 from by omega]
  rw [ansM_succ, show n - 1 - (n - (i + 1)) = i from by omega, if_neg hm]
theorem fsJ_len (n j : Nat) (hn : n ≤ 64) : (fsJ n j).length ≤ 64 := by
  unfold fsJ
  rw [List.length_map]
  have hnd : (ansM n (n - j)).Nodup := by
    rw [List.nodup_iff_pairwise_ne]
    exact (ansM_down n (n - j) (by omega)).imp fun h => by omega
  have := nodup_sub_len hnd (m := List.range n) (fun x hx => List.mem_range.2 ((ansM_mem n _ (by omega) x).1 hx).2.1)
  rw [List.length_range] at this
  omega
/-- Neighbours stand as they should. -/
def Nb (z : List Int) (x y : Int) : Prop := (x % 5 = 0 ∧ y % 5 = 0 ∧ y < x) ∨ (x % 5 = 0 ∧ y % 5 ≠ 0) ∨ (x % 5 ≠ 0 ∧ y % 5 ≠ 0 ∧ (dd z x < dd z y ∨ (dd z x = dd z y ∧ x < y)))
theorem all_of {z : List Int} {n : Nat} (hz : ∀ i : Nat, i < n → zv z i ≤ 255) {l : List Int} (h : LateL (dJ z n 0) 1005 l) :
    ∃ I : List Int, (fsJ n 0 ++ timeF l).length = n ∧ I.length = n ∧ (∀ j (hj : j < (fsJ n 0 ++ timeF l).length), I[j]? = some (fsJ n 0 ++ timeF l)[j].id) ∧ I.Pairwise (Nb z) ∧ ∀ x ∈ I, 0 ≤ x ∧ x < n := by
  have hl : ∀ x, x ∈ l ↔ 0 ≤ x ∧ x < n ∧ x % 5 ≠ 0 := fun x => by
    rw [h.2]
    unfold dJ
    constructor
    · rintro ⟨a, h1, h2⟩
      split at h1
      · omega
      · cases h1
    · intro hx
      refine ⟨dd z x, by rw [if_pos (by omega)], ?_⟩
      have := hz x.toNat (by omega)
      unfold dd
      omega
  have hm : ∀ x : Nat, x ∈ ansM n n ↔ x < n ∧ (x : Int) % 5 = 0 := fun x => by
    rw [ansM_mem n n (Nat.le_refl _) x]; omega
  have hmI : ∀ x : Int, x ∈ (ansM n n).map (fun k : Nat => (k : Int)) ↔ 0 ≤ x ∧ x < n ∧ x % 5 = 0 := fun x => by
    rw [List.mem_map]
    constructor
    · rintro ⟨k, hk, rfl⟩
      have := (hm k).1 hk
      omega
    · intro hx
      exact ⟨x.toNat, (hm _).2 (by omega), by omega⟩
  have hid : (fsJ n 0 ++ timeF l).map FateM.id = (ansM n n).map (fun k : Nat => (k : Int)) ++ l := by
    rw [List.map_append]
    congr 1
    · unfold fsJ
      rw [List.map_map, Nat.sub_zero]
      exact List.map_congr_left fun k _ => F_id k
    · unfold timeF
      rw [List.map_map]
      exact List.map_id'' (fun _ => rfl) l
  have hpw : ((ansM n n).map (fun k : Nat => (k : Int)) ++ l).Pairwise (Nb z) := by
    refine List.pairwise_append.2 ⟨?_, ?_, fun a ha b hb => .inr (.inl ⟨((hmI a).1 ha).2.2, ((hl b).1 hb).2.2⟩)⟩
    · rw [List.pairwise_map]
      refine (ansM_down n n (Nat.le_refl _)).imp_of_mem fun {a b} ha hb hab => .inl ⟨((hm a).1 ha).2, ((hm b).1 hb).2, by omega⟩
    · refine h.1.imp_of_mem fun {a b} ha hb hab => ?_
      have h1 := (hl a).1 ha
      have h2 := (hl b).1 hb
      have e1 : dJ z n 0 a = some (dd z a) := by unfold dJ; rw [if_pos (by omega)]
      have e2 : dJ z n 0 b = some (dd z b) := by unfold dJ; rw [if_pos (by omega)]
      rw [e1, e2] at hab
      exact .inr (.inr ⟨h1.2.2, h2.2.2, hab⟩)
  have hnd : ((ansM n n).map (fun k : Nat => (k : Int)) ++ l).Nodup := by
    rw [List.nodup_iff_pairwise_ne]
    exact hpw.imp fun {a b} h e => by unfold Nb at h; subst e; omega
  have hrn : ((List.range n).map (fun k : Nat => (k : Int))).Nodup := by
    rw [List.nodup_iff_pairwise_ne, List.pairwise_map]
    exact (List.nodup_iff_pairwise_ne.1 List.nodup_range).imp (fun h => by omega)
  have hlen := len_eq_of_mem hnd hrn (fun x => by
    rw [List.mem_append, hmI, hl, List.mem_map]
    constructor
    · intro hx; exact ⟨x.toNat, List.mem_range.2 (by omega), by omega⟩
    · rintro ⟨k, hk, rfl⟩; have := List.mem_range.1 hk; omega)
  rw [List.length_map, List.length_range] at hlen
  refine ⟨_, ?_, hlen, fun j hj => ?_, hpw, fun x hx => ?_⟩
  · rw [← List.length_map (f := FateM.id), hid]; exact hlen
  · rw [← hid, List.getElem?_map, List.getElem?_eq_getElem hj]; rfl
  · rw [List.mem_append, hmI, hl] at hx; omega

set_option maxHeartbeats 16000000 in
set_option maxRecDepth 100000 in
theorem walk (a0 : Option Addr) (n cap0 : Nat) (z : List Int) (w : World) (g0 : ArgInts .u8 w a0 n z) :
    Calls Try.prog 3 #[.slice a0 n cap0] w fun e w' => e = .returned (.bool true) ∧ Below w.heap.size w w' := by
  have hn63 := g0.2.1
  have HU : Box (∀ i, i < n → 0 ≤ zv z i ∧ zv z i ≤ 255) := ⟨fun i hi => by
    have h1 := g0.2.2.1 (zv z i) (by unfold zv; rw [getD_in (by rw [g0.1]; exact hi)]; exact List.getElem_mem _)
    simp [Lit.wf, IntKind.min, IntKind.max, IntKind.signed, IntKind.bits] at h1
    omega⟩
  have HA := Box.mk g0
  clear g0
  have HNW := Box.mk (fun w1 (hb : Below w.heap.size w w1) => ls_new 5 w1 (by omega) w hb [] (fun q hq => by cases hq))
  go_enter Try.func3, Try.ntmps3
  go_upto_region 3 with (go_at_call 9; refine (awake19_any _).mono ?_; rintro e w1 ⟨rfl, hb1⟩; have HB1 := Box.mk hb1; clear hb1)
  by_cases hn : 64 < n
  · have hni : (64 : Int) < n := by omega
    go_wp2_with (go_at_call 10; refine (HNW.out _ HB1.out).mono ?_; rintro e w2 ⟨p, rfl, hs⟩; have HS := Box.mk hs; clear hs)
    go_ret
    exact ⟨rfl, HS.out.below⟩
  · have hni : ¬ (64 : Int) < n := by omega
    go_upto_region 6 with (go_at_call 10; refine (HNW.out _ HB1.out).mono ?_; rintro e w2 ⟨p, rfl, hs⟩; rw [← dI_zero z] at hs; have HS := Box.mk hs; clear hs)
    clear HNW HB1
    go_wp2
    go_loopw [5] (fun s5 wr => ∃ i : Nat, i ≤ n ∧ s5 = .int .i64 i ∧ Box (LS w wr p 5 0 (dI z i) [] [])) (fun s5 _ => n - (intOf s5).toNat)
    case atStart => exact ⟨0, by omega, rfl, HS⟩
    case round =>
      clear HS
      obtain ⟨i, hin, rfl, HS⟩ := hrel
      by_cases hlt : i < n
      · obtain ⟨b, off, rfl, hbw, hcell⟩ := HA.out.get (by omega)
        have cx := (HS.out.below.cell (p := ⟨b, off + i, none⟩) hbw).trans (hcell i hlt)
        have hu := HU.out i hlt
        have htm : ((dd z i : Nat) : Int) = 6 + zv z i := by unfold dd; rw [Int.toNat_natCast]; omega
        have HR := ls_open w _ p 5 0 _ [] [] HS.out i (dd z i) (kwf_of (by omega) (by omega)) (by omega) 0 (openD_ok (by omega) (by omega) (by omega) (dI_at z i) (by have := dI_cnt z i; omega) (by omega))
        rw [if_pos rfl, dI_next, htm] at HR
        have HR := Box.mk HR
        clear htm hcell
        generalize zv z i = y at cx hu HR
        have hil : (i : Int) < n := by omega
        go_wp2_with (go_at_call 11; (with_reducible refine HR.out.mono ?_); rintro e w3 ⟨rfl, hs⟩; have HS := Box.mk hs; clear hs)
        go_roundw
        case rel => exact ⟨i + 1, by omega, by go_num, HS⟩
        case measure => simp [intOf] <;> omega
      · have e : n = i := by omega
        subst e
        have hil : ¬ (n : Int) < n := by omega
        have HS3 : Box (LS w _ p 5 0 (dJ z n n) (fsJ n n) []) := ⟨by rw [dJ_all, fsJ_all]; exact HS.out⟩
        clear HS
        go_upto_block 2 with fail
        go_wp2
        go_loopw [6] (fun s6 wr => ∃ j : Nat, j ≤ n ∧ s6 = .int .i64 ((j : Int) - 1) ∧ Box (LS w wr p 5 0 (dJ z n j) (fsJ n j) [])) (fun s6 _ => (intOf s6 + 1).toNat)
        case atStart => exact ⟨n, by omega, by go_num, HS3⟩
        case round =>
          clear HS3
          obtain ⟨j, hjn, e6, HS⟩ := hrel
          by_cases hj : 0 < j
          · obtain ⟨i, hi⟩ : ∃ i, j = i + 1 := ⟨j - 1, by omega⟩
            subst hi
            rw [show ((i + 1 : Nat) : Int) - 1 = i from by omega] at e6
            subst e6
            have hi0 : (0 : Int) ≤ i := by omega
            have h256 : (i : Int).tmod 256 = i := by rw [Int.tmod_eq_emod_of_nonneg (by omega)]; omega
            obtain ⟨r, hr⟩ : ∃ r, (i : Int) % 5 = r := ⟨_, rfl⟩
            have htr : (i : Int).tmod 5 = r := by rw [Int.tmod_eq_emod_of_nonneg (by omega)]; exact hr
            obtain ⟨u, hu⟩ : ∃ u, (i : Int) % 2 = u := ⟨_, rfl⟩
            have htu : (i : Int).tmod 2 = u := by rw [Int.tmod_eq_emod_of_nonneg (by omega)]; exact hu
            obtain ⟨bad, hbad⟩ : ∃ bad, (u == 1) = bad := ⟨_, rfl⟩
            by_cases h5 : (i : Int) % 5 = 0
            · have hz : (r == 0) = true := by simp; omega
              have e1 : ansC (dJ z n (i + 1)) i i = 0 := by unfold ansC outD; rw [if_neg (by omega), dJ_some z (by omega), if_pos rfl]
              have e2 : ansD (dJ z n (i + 1)) i i = dJ z n i := by unfold ansD; rw [if_neg (by omega)]; exact dJ_yes z h5
              have e3 : ansF (dJ z n (i + 1)) (fsJ n (i + 1)) i i bad = fsJ n i := by
                have hF : (if bad then (⟨i, 2, 2⟩ : FateM) else ⟨i, 1, i⟩) = F i := by
                  unfold F
                  rw [hu, ← hbad]
                  by_cases hu1 : u = 1
                  · rw [if_pos (by simp [hu1]), if_pos hu1]
                  · rw [if_neg (by simp [hu1]), if_neg hu1]
                unfold ansF fsO
                rw [if_neg (by omega), hF, F_id, dJ_some z (by omega), if_pos rfl, fsJ_yes (by omega) h5]
              have HR := ls_answer w _ p 5 0 _ _ [] HS.out i i bad (kwf_of (by omega) (by omega)) (by have := fsJ_len n (i + 1) (by omega); omega)
              rw [e1, e2, e3] at HR
              have HR := Box.mk HR
              clear e1 e2 e3 hr hu h5
              go_wp2_with (go_at_call 12; (with_reducible refine HR.out.mono ?_); rintro e w3 ⟨rfl, hs⟩; have HS := Box.mk hs; clear hs)
              go_roundw
              case rel => exact ⟨i, by omega, by go_num, HS⟩
              case measure => simp [intOf] <;> omega
            · have hz : (r == 0) = false := beq_eq_false_iff_ne.2 (by omega)
              have hS := HS.out
              rw [dJ_no z h5, ← fsJ_no (by omega) h5] at hS
              have HS := Box.mk hS
              clear hS hr hu h5
              go_wp2
              go_roundw
              case rel => exact ⟨i, by omega, by go_num, HS⟩
              case measure => simp [intOf] <;> omega
          · obtain rfl : j = 0 := by omega
            subst e6
            have HR := ls_go w _ p 5 0 _ _ [] HS.out 1000 (by omega) (by omega) (by have := fsJ_len n 0 (by omega); omega)
            have HR := Box.mk HR
            have HALL := Box.mk (fun l (h : LateL (dJ z n 0) 1005 l) => all_of (fun i hi => (HU.out i hi).2) h)
            go_upto_region 17 with (go_at_call 13; refine HR.out.mono ?_; rintro e w7 ⟨fo, nn, c, l, Y, rfl, hl, hnn, hs, -, -, hrow⟩; obtain ⟨I, i1, i2, i3, i4, i5⟩ := HALL.out l hl; obtain rfl : nn = n := hnn.trans i1; have HS := Box.mk hs; clear hs hl hnn; have HI : Box (∀ j, j < nn → ∃ (b : Nat) (x : Int), fo = some ⟨b, 0, none⟩ ∧ w7.cell? ⟨b, j * 3, none⟩ = some (.int .i64 x) ∧ I[j]? = some x) := ⟨fun j hj => by
              obtain ⟨b, cur, h1, h2, h3, -, -⟩ := hrow j (by omega)
              refine ⟨b, _, h1, (cell_blk (HS.out.blk (q := (b, Obj.cells cur 35 (0, 0))) (by simpa using h2)) (j * 3)).trans h3, i3 j (by omega)⟩⟩; have HP := Box.mk (And.intro i2 (And.intro i4 i5)); clear hrow i1 i2 i3 i4 i5)
            clear HR HALL
            have HW0 : Box (Below w.heap.size w w7 ∧ ∀ a, w7.cell? a = w7.cell? a) := ⟨HS.out.below, fun _ => rfl⟩
            clear HS
            go_upto_block 4 with fail
            go_wp2
            go_loopw [9, 10, 11] (fun s9 _ _ wr => ∃ K : Nat, 1 ≤ K ∧ (K ≤ nn ∨ K = 1) ∧ s9 = .int .i64 K ∧ Box (Below w.heap.size w wr ∧ ∀ a, wr.cell? a = w7.cell? a)) (fun s9 _ _ _ => nn - (intOf s9).toNat)
            case atStart => exact ⟨1, by omega, by omega, rfl, ⟨HW0.out.1, fun _ => rfl⟩⟩
            case round =>
              clear HW0
              obtain ⟨K, hK1, hKn, rfl, HW⟩ := hrel
              by_cases hlt : K < nn
              · obtain ⟨k, hk⟩ : ∃ k, k + 1 = K := ⟨K - 1, by omega⟩
                have hkk : (K : Int) - 1 = k := by omega
                obtain ⟨b, x0, e1, c1, x1⟩ := HI.out k (by omega)
                obtain ⟨b', y0, e2, c2, y1⟩ := HI.out K hlt
                obtain rfl : b' = b := by rw [e1] at e2; injection e2 with h; injection h with h; exact h.symm
                obtain ⟨i2, i4, i5⟩ := HP.out
                have hx := i5 x0 (List.mem_of_getElem? x1)
                have hy := i5 y0 (List.mem_of_getElem? y1)
                obtain ⟨x2, x3⟩ := List.getElem?_eq_some_iff.1 x1
                obtain ⟨y2, y3⟩ := List.getElem?_eq_some_iff.1 y1
                have hnb := List.pairwise_iff_getElem.1 i4 k K x2 y2 (by omega)
                rw [x3, y3] at hnb
                clear i2 i4 i5 x1 y1 x2 x3 y2 y3 e2
                obtain ⟨x, rfl⟩ : ∃ x : Nat, x0 = x := ⟨x0.toNat, by omega⟩
                obtain ⟨y, rfl⟩ : ∃ y : Nat, y0 = y := ⟨y0.toNat, by omega⟩
                obtain ⟨b0, off, rfl, hbw, hcell⟩ := HA.out.get (by omega)
                have dx := (HW.out.1.cell (p := ⟨b0, off + x, none⟩) hbw).trans (hcell x (by omega))
                have dy := (HW.out.1.cell (p := ⟨b0, off + y, none⟩) hbw).trans (hcell y (by omega))
                have d1 := (HW.out.2 _).trans c1
                have d2 := (HW.out.2 _).trans c2
                have hux := HU.out x (by omega)
                have huy := HU.out y (by omega)
                unfold Nb dd at hnb
                simp only [Int.toNat_natCast] at hnb
                generalize zv z x = u at dx hux hnb
                generalize zv z y = v at dy huy hnb
                obtain ⟨r, hr⟩ : ∃ r, (x : Int) % 5 = r := ⟨_, rfl⟩
                have htr : (x : Int).tmod 5 = r := by rw [Int.tmod_eq_emod_of_nonneg (by omega)]; exact hr
                obtain ⟨s, hs⟩ : ∃ s, (y : Int) % 5 = s := ⟨_, rfl⟩
                have hts : (y : Int).tmod 5 = s := by rw [Int.tmod_eq_emod_of_nonneg (by omega)]; exact hs
                have hnb2 : (r = 0 ∧ s = 0 ∧ y < x) ∨ (r = 0 ∧ s ≠ 0) ∨ (r ≠ 0 ∧ s ≠ 0 ∧ u < v) ∨ (r ≠ 0 ∧ s ≠ 0 ∧ u = v ∧ x < y) := by omega
                have hil : (K : Int) < nn := by omega
                have hxn : (x : Int) < nn := by omega
                have hyn : (y : Int) < nn := by omega
                have hkn : (k : Int) < nn := by omega
                clear hnb hr hs hcell c1 c2 HI HP HA HU
                rw [e1]
                clear e1
                rcases hnb2 with ⟨q1, q2, q3⟩ | ⟨q1, q2⟩ | ⟨q1, q2, q3⟩ | ⟨q1, q2, q3, q4⟩
                · subst q1
                  subst q2
                  have z3 : ¬ (x : Int) ≤ y := by omega
                  clear q3
                  go_wp2
                  go_quiet (fail)
                  go_wp2
                  go_roundw
                  case rel => exact ⟨K + 1, by omega, by omega, by go_num, ⟨HW.out.1.trans (Below.mono ⟨rfl, rfl, rfl, Nat.le_refl _, fun _ _ => rfl⟩ HW.out.1.size), fun a => HW.out.2 a⟩⟩
                  case measure => simp [intOf] <;> omega
                · subst q1
                  have z2 : (s == 0) = false := beq_eq_false_iff_ne.2 q2
                  have q2' : ¬ s = 0 := q2
                  clear q2
                  go_wp2
                  go_quiet (fail)
                  go_wp2
                  go_roundw
                  case rel => exact ⟨K + 1, by omega, by omega, by go_num, ⟨HW.out.1.trans (Below.mono ⟨rfl, rfl, rfl, Nat.le_refl _, fun _ _ => rfl⟩ HW.out.1.size), fun a => HW.out.2 a⟩⟩
                  case measure => simp [intOf] <;> omega
                · have z1 : (r == 0) = false := beq_eq_false_iff_ne.2 q1
                  have z2 : (s == 0) = false := beq_eq_false_iff_ne.2 q2
                  have z3 : ¬ v < u := by omega
                  have z4 : (u == v) = false := beq_eq_false_iff_ne.2 (by omega)
                  have q1' : ¬ r = 0 := q1
                  have q2' : ¬ s = 0 := q2
                  clear q1 q2 q3
                  go_wp2
                  go_quiet (fail)
                  go_wp2
                  go_roundw
                  case rel => exact ⟨K + 1, by omega, by omega, by go_num, ⟨HW.out.1.trans (Below.mono ⟨rfl, rfl, rfl, Nat.le_refl _, fun _ _ => rfl⟩ HW.out.1.size), fun a => HW.out.2 a⟩⟩
                  case measure => simp [intOf] <;> omega
                · have z1 : (r == 0) = false := beq_eq_false_iff_ne.2 q1
                  have z2 : (s == 0) = false := beq_eq_false_iff_ne.2 q2
                  have z3 : ¬ v < u := by omega
                  have z4 : (u == v) = true := by simp [q3]
                  have z5 : ¬ (y : Int) ≤ x := by omega
                  have q1' : ¬ r = 0 := q1
                  have q2' : ¬ s = 0 := q2
                  clear q1 q2 q3 q4
                  go_wp2
                  go_quiet (fail)
                  go_wp2
                  go_roundw
                  case rel => exact ⟨K + 1, by omega, by omega, by go_num, ⟨HW.out.1.trans (Below.mono ⟨rfl, rfl, rfl, Nat.le_refl _, fun _ _ => rfl⟩ HW.out.1.size), fun a => HW.out.2 a⟩⟩
                  case measure => simp [intOf] <;> omega
              · have hil : ¬ (K : Int) < nn := by omega
                go_wp2
                go_ret
                exact ⟨rfl, HW.out.1⟩

/-! The row's step. -/
theorem own : ownKnob Try.prog.godebug = none := by kernel_rfl
theorem laidOut : laidOutB Try.prog = true := by kernel_rfl

set_option maxRecDepth 100000 in
theorem lifted (os : Os) (started : os.Started) (H : Type) (enc : TypeId × Value → H) :
    ReturnsInHanded {} Try.checked os 3 .any (Rows.lifeOrderSpec.pre6 enc Try.prog Try.f3 Rows.lifeOrderRow.domain false) (Rows.lifeOrderSpec.post enc Try.prog Try.f3 false true false false) := by
  refine returnsInHanded_of_change (C := Try.checked) own started (by kernel_rfl) Try.func3
    (ChangeSpec.witness6 (enc := enc) (C := Try.checked) false ⟨#[], #[.slice none 0 0], []⟩ 8 (by kernel_rfl) (by kernel_rfl) (by kernel_rfl) (by kernel_rfl)) ?_
  intro W base args ds gs before hval0 hW hcnd _
  have hval : ∀ (j : Nat) t v, Try.f3.params[j]? = some t → args[j]? = some v → Value.okWide Try.prog W .any base t v := hval0
  have hW' := hW
  obtain ⟨p, q, hA0, hV, rfl, hfz, hnd⟩ := hW
  have hA : DataW.TrodAll enc Try.prog W 0 (fun _ => true) true Try.f3.params.toList args.toList ds p := hA0
  rw [Try.params3] at hA hval
  obtain ⟨v0, vs0, d0, ds0, p0, q0, hargs, rfl, rfl, h0, r0⟩ := trodAll_cons hA
  obtain ⟨rfl, rfl, rfl⟩ := trodAll_nil r0
  obtain rfl : args = #[v0] := by cases args; simp_all
  obtain ⟨rfl, rfl⟩ := trodVars_none hV
  obtain ⟨a0, len0, cap0, rfl⟩ := okWide_slice Try.underlying22 (hval 0 22 v0 rfl rfl)
  have k0 := h0
  have lt0 : ∀ x ∈ p0, x.block < W.heap.size := by obtain ⟨m, hm⟩ := k0; exact DataW.trod_lt m _ _ _ hm
  obtain ⟨z0, w0⟩ : ∃ zs, ArgInts .u8 W a0 len0 zs := by
    obtain ⟨fuel, hf⟩ := h0
    rcases open_ints Try.underlying22 Try.underlying5 (by kernel_rfl) hf with ⟨hcs, _⟩ | ⟨x, l, c, zs, hcs, _, hl, hm, hz, _, hcell, hwz⟩
    · simp [Value.cells] at hcs
      obtain ⟨rfl, rfl, rfl⟩ := hcs
      exact ⟨[], rfl, by omega, by simp, fun h => by omega⟩
    · simp [Value.cells] at hcs
      obtain ⟨rfl, rfl, rfl⟩ := hcs
      exact ⟨zs.take len0, argInts_of_ints hl hm (by simpa using hz) hcell hwz⟩
  clear hA0 hval0
  refine (walk a0 len0 cap0 z0 W w0).mono fun e W' ⟨he, bel⟩ => ?_
  subst he
  exact ⟨_, rfl, _, _, _, [], _, [], hW', trodAll_mk1 (shut_bool Try.underlying4 _), (trodAll_cons_mk (Below.trod laidOut (by kernel_rfl) (of_decide_eq_true (by kernel_rfl)) k0 bel lt0) trodAll_mk0), rfl, bel.frame _, fun h => by cases h⟩

theorem over : Rows.lifeOrderRow.holds Try.pinned (OpenSpec.ofChange Rows.lifeOrderSpec) :=
  OpenClaim.holds_of_wide 3 Try.f3 rfl rfl rfl rfl rfl rfl rfl ⟨rfl, rfl, rfl, rfl, rfl⟩ rfl rfl rfl rfl rfl (by kernel_rfl) Try.func3 (by kernel_rfl)
    (of_decide_eq_true (by kernel_rfl)) (by unfold Func.isWrapper; first | (rw [if_pos (by decide +kernel)]; kernel_rfl) | (rw [if_neg (by decide +kernel)]; exact ⟨rfl, rfl⟩))
    (fun os started H enc _ => lifted os started H enc)

/-- The statement. -/
theorem proved : Rows.LifeOrderSaid := over
#print axioms proved

end Go.Proofs.Ytbodnmcaipakcaa.lifeOrder
