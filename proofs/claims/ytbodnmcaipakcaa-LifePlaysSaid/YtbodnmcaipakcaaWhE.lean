/-
  The walk of a wheel's first.
-/
import Derived.Test.YtbodnmcaipakcaaWhD
namespace Go.Proofs.Ytbodnmcaipakcaa
open Go.RowKit Go.ChangeMaps Go.MapKept

theorem field_spot (a b c : Int) (w : World) : (Instr.field 85 (.agg #[.int .u64 a, .int .i64 b, .int .i64 c]) 0).run Try.prog w = .ok (.int .u64 a) w := by kernel_rfl
/-- Timer x lies there. -/
def Lies (M : WM) (l q : Nat) (i : Nat) (s : Spot) : Prop := M.f i = some s ∧ s.lv = l ∧ s.pl = q
theorem row_some {M : WM} {l q : Nat} {x : Int} {a : Bool} (h : M.row l q x = some a) : a = true ∧ ∃ s, x = (x.toNat : Int) ∧ Lies M l q x.toNat s ∧ M.all x = some s := by
  unfold WM.row at h
  split at h
  · rename_i hr
    cases ho : M.all x with
    | none => rw [ho] at hr; simp [inRow] at hr
    | some s =>
      rw [ho] at hr
      obtain ⟨e1, e2⟩ := all_some ho
      simp only [inRow, decide_eq_true_eq] at hr
      exact ⟨by simpa using h.symm, s, e1, ⟨e2, hr.1, hr.2⟩, rfl⟩
  · cases h
theorem row_of_lies {M : WM} {l q i : Nat} {s : Spot} (h : Lies M l q i s) : M.row l q (i : Int) = some true := by
  unfold WM.row
  rw [all_nat, h.1, if_pos (by simp [inRow, h.2.1, h.2.2])]
/-- No timer lies at a level from a place on, up to another one. -/
def NoneAt (M : WM) (l q q' : Nat) : Prop := ∀ c, q ≤ c → c < q' → ∀ i s, ¬ Lies M l c i s
/-- What first tells. -/
def FirstR (M : WM) (a : Nat) (ok : Bool) : Prop :=
  (ok = false ∧ a = 0 ∧ ∀ l, l < 16 → NoneAt M l (partN M.now l) 16) ∨
  (ok = true ∧ ∃ l q, l < 16 ∧ partN M.now l ≤ q ∧ q < 16 ∧ (∀ l', l' < l → NoneAt M l' (partN M.now l') 16) ∧ NoneAt M l (partN M.now l) q ∧ (∃ i s, Lies M l q i s ∧ s.at' = a) ∧ ∀ i s, Lies M l q i s → a ≤ s.at')
/-- Of the first timers of a place. -/
def LeastTo (M : WM) (l q : Nat) (left : Int → Bool) (A : Nat) : Prop :=
  (A = 18446744073709551615 ∨ ∃ i s, Lies M l q i s ∧ s.at' = A) ∧ ∀ i s, Lies M l q i s → left i = false → A ≤ s.at'

/-- How many timers lie there. -/
def rowN (M : WM) (l q : Nat) : Nat := (ints' (idsOf (fun i => inRow l q (M.f i)))).length
theorem rowN_zero {M : WM} {l q : Nat} (hi : ∀ i, 1000 ≤ i → M.f i = none) (h : rowN M l q = 0) : ∀ i s, ¬ Lies M l q i s := by
  intro i s hl
  have h1 : (i : Int) ∈ ints' (idsOf (fun i => inRow l q (M.f i))) := (row_keys M l q hi i).2 (by rw [row_of_lies hl]; rfl)
  unfold rowN at h
  rw [List.length_eq_zero_iff] at h
  rw [h] at h1
  cases h1
theorem rowN_pos {M : WM} {l q : Nat} (hi : ∀ i, 1000 ≤ i → M.f i = none) (h : rowN M l q ≠ 0) : ∃ i s, Lies M l q i s := by
  obtain ⟨x, hx⟩ := List.exists_mem_of_length_pos (Nat.pos_of_ne_zero h)
  have h2 := (row_keys M l q hi x).1 hx
  obtain ⟨a, ha⟩ := Option.isSome_iff_exists.1 h2
  obtain ⟨_, s, _, hl, _⟩ := row_some ha
  exact ⟨_, s, hl⟩
theorem NoneAt.next {M : WM} {l q0 q : Nat} (h : NoneAt M l q0 q) (hq : ∀ i s, ¬ Lies M l q i s) : NoneAt M l q0 (q + 1) := fun c h1 h2 => by
  by_cases e : c = q
  · rw [e]; exact hq
  · exact h c h1 (by omega)

theorem LeastTo.step {M : WM} {l q i A N : Nat} {s : Spot} {left : Int → Bool} (h : LeastTo M l q left A) (hl : Lies M l q i s) (hN : min A s.at' = N) : LeastTo M l q (fun y => left y && !decide (y = (i : Int))) N := by
  refine ⟨?_, fun j s' hj hlj => ?_⟩
  · by_cases hlt : s.at' < A
    · exact .inr ⟨i, s, hl, by omega⟩
    · have e : N = A := by omega
      rw [e]; exact h.1
  · by_cases e : j = i
    · subst e
      have := hj.1.symm.trans hl.1
      simp only [Option.some.injEq] at this
      subst this
      omega
    · have := h.2 j s' hj (by
        have hne : ¬ ((j : Int) = (i : Int)) := by omega
        simpa [hne] using hlj)
      omega
theorem LeastTo.done {M : WM} {l q A : Nat} {left : Int → Bool} (h : LeastTo M l q left A) (hl : ∀ x, kwf x → left x = false) (hpos : ∃ i s, Lies M l q i s) (hat : ∀ i s, M.f i = some s → s.at' < 4611686018427387904) (hids : ∀ i, 1000 ≤ i → M.f i = none) : (∃ i s, Lies M l q i s ∧ s.at' = A) ∧ ∀ i s, Lies M l q i s → A ≤ s.at' := by
  have hk : ∀ i s, Lies M l q i s → kwf (i : Int) := fun i s hi => by
    rcases Nat.lt_or_ge i 1000 with g | g
    · exact kwf_of (by omega) (by omega)
    · have := hi.1; rw [hids i g] at this; cases this
  have hall : ∀ i s, Lies M l q i s → A ≤ s.at' := fun i s hi => h.2 i s hi (hl i (hk i s hi))
  refine ⟨?_, hall⟩
  rcases h.1 with e | e
  · obtain ⟨i, s, hi⟩ := hpos
    have h1 := hall i s hi
    have h2 := hat i s hi.1
    omega
  · exact e

set_option maxHeartbeats 8000000 in
set_option maxRecDepth 100000 in
theorem first_any (p : Nat) (M : WM) (F : Nat → Prop) (w : World) (h : WAt w p M F) :
    Calls Try.prog 35 #[.pointer (some ⟨p, 0, none⟩)] w fun e w' => ∃ (a : Nat) (ok : Bool), e = .returned (.tuple #[.int .u64 a, .bool ok]) ∧ FirstR M a ok ∧ Below w.heap.size w w' := by
  obtain ⟨ab, rb, h⟩ := h
  have H := Box.mk h
  have htm := h.time
  have hpl := lt_blk h.blk
  have hP := fun (l : Nat) (hl : l < 16) (w : World) => part_any M.now l hl (by omega) w
  have HP := Box.mk hP
  have hnow := (cell_blk h.blk 257).trans wcells_now
  have hab := (cell_blk h.blk 256).trans wcells_all
  have HNOW := Box.mk hnow
  have HAB := Box.mk hab
  clear h hP hnow hab
  go_enter Try.func35, Try.ntmps35
  go_wp2
  go_loopw [2, 3, 4, 5, 6, 7, 8] (fun _ _ _ _ _ _ k wr => ∃ l : Nat, l ≤ 16 ∧ k = .int .i64 l ∧ Box (∀ l', l' < l → NoneAt M l' (partN M.now l') 16) ∧ Below w.heap.size w wr) (fun _ _ _ _ _ _ k _ => 16 - (intOf k).toNat)
  case atStart => exact ⟨0, by omega, rfl, ⟨fun l' h => by omega⟩, Below.refl _ _⟩
  case round =>
    obtain ⟨l, hl, rfl, HL, hb⟩ := hrel
    have HB := Box.mk hb
    clear hb
    by_cases hl16 : l < 16
    · have hli : (l : Int) < 16 := by omega
      have c257 := (HB.out.cell (p := ⟨p, 257, none⟩) hpl).trans HNOW.out
      have hpp := HP.out l hl16 wr
      obtain ⟨q0, hq0⟩ : ∃ q0, partN M.now l = q0 := ⟨_, rfl⟩
      rw [hq0] at hpp
      have HQ0 := Box.mk hq0
      have HPP := Box.mk hpp
      clear hpp hq0
      go_upto_block 2 with (go_at_call 40; (with_reducible refine HPP.out.mono ?_); rintro e w1 ⟨rfl, rfl⟩)
      go_wp2
      go_loopw [2, 3, 5, 6, 7] (fun _ _ k _ _ wr => ∃ q : Nat, q0 ≤ q ∧ q ≤ 16 ∧ k = .int .i64 q ∧ Box (NoneAt M l q0 q) ∧ Below w.heap.size w wr) (fun _ _ k _ _ _ => 16 - (intOf k).toNat)
      case atStart => exact ⟨q0, Nat.le_refl _, by have := partN_lt M.now l; rw [HQ0.out] at this; omega, rfl, ⟨fun c h1 h2 => by omega⟩, HB.out⟩
      case round =>
        clear c257 HB HPP
        obtain ⟨q, hq0q, hq16, rfl, HNA, hb⟩ := hrel
        have HB := Box.mk hb
        clear hb
        by_cases hq : q < 16
        · have hqi : (q : Int) < 16 := by omega
          have crow := H.out.row l q hl16 hq
          have cr := (HB.out.cell (p := ⟨p, l * 16 + q, none⟩) hpl).trans ((cell_blk H.out.blk (l * 16 + q)).trans (wcells_row hl16 hq))
          cases hrb : rb l q with
          | none =>
            rw [hrb] at crow cr
            have hln := Maps.len_nil (P := Try.prog) (w := wr) Try.underlying79 3
            have HNX : Box (∀ i s, ¬ Lies M l q i s) := ⟨fun i s hl => by have := row_of_lies hl; rw [crow] at this; cases this⟩
            clear crow hrb
            go_wp2
            go_roundw
            case rel => exact ⟨q + 1, by omega, by omega, by go_num, ⟨HNA.out.next HNX.out⟩, HB.out⟩
            case measure => simp [intOf] <;> omega
          | some b =>
            rw [hrb] at crow cr
            obtain ⟨_, hbp, hbab, hmap⟩ := crow
            have hfr : Fr (fun _ => False) w wr := Fr.of_below HB.out
            have hmr := hmap.fr hfr (fun h => h)
            have hln := hmr.len Try.underlying3 Try.underlying79 3 (ints'_nodup (idsOf_nodup _)) (row_keys M l q H.out.ids)
            obtain ⟨C, hC⟩ : ∃ C, rowN M l q = C := ⟨_, rfl⟩
            have hC' : (ints' (idsOf (fun i => inRow l q (M.f i)))).length = C := hC
            rw [hC'] at hln
            have HC := Box.mk hC
            clear hC hC' hrb
            by_cases hC0 : C = 0
            · have hz : ((C : Int) == 0) = true := by simp [hC0]
              have HNX : Box (∀ i s, ¬ Lies M l q i s) := ⟨rowN_zero H.out.ids (HC.out.trans hC0)⟩
              clear hC0 hmap hmr hfr
              go_wp2
              go_roundw
              case rel => exact ⟨q + 1, by omega, by omega, by go_num, ⟨HNA.out.next HNX.out⟩, HB.out⟩
              case measure => simp [intOf] <;> omega
            · have hz : ((C : Int) == 0) = false := beq_eq_false_iff_ne.2 (by omega)
              have HPOS : Box (∃ i s, Lies M l q i s) := ⟨rowN_pos H.out.ids (fun e => hC0 (HC.out.symm.trans e))⟩
              obtain ⟨W0, cnt, hr0, hrg0, hbr0, hsz0⟩ := hmr.range Try.underlying3 Try.underlying79
              have HRG := Box.mk hrg0
              have HBR := Box.mk (HB.out.trans (hbr0.mono HB.out.size))
              have hrw : w.heap.size ≤ wr.heap.size := HB.out.size
              clear hC0 hmap hmr hfr hrg0 hbr0 hsz0
              go_wp2
              try go_frame
              obtain ⟨r, hr⟩ : ∃ r, wr.heap.size = r := ⟨_, rfl⟩
              rw [hr] at HRG hrw ⊢
              clear hr0 hln cr hr
              go_loopw [6, 7] (fun A _ wr => ∃ (A' : Nat) (left : Int → Bool) (cnt : Nat), A = .int .u64 A' ∧ A' ≤ 18446744073709551615 ∧ Box (LeastTo M l q left A') ∧ RangeAt Try.prog 3 boolE wr b r 1000 (M.row l q) left cnt ∧ Below w.heap.size w wr) (fun _ _ wr => wr.rangeLeft b r)
              case atStart => exact ⟨18446744073709551615, _, cnt, rfl, Nat.le_refl _, ⟨.inl rfl, fun i s hl hlf => by rw [row_of_lies hl] at hlf; cases hlf⟩, HRG.out, HBR.out⟩
              case round =>
                clear HRG HBR HB
                obtain ⟨A, left, cnt, rfl, hA, HLE, hrg, hb⟩ := hrel
                have HB := Box.mk hb
                have HRG := Box.mk hrg
                rcases hrg.next Try.underlying3 0 with ⟨-, hl0, hrun⟩ | ⟨x, a, W1, cnt1, hkx, -, hfx, hrun, hrg1, hlt1, hf1, -, hen⟩
                · have HFR : Box (FirstR M A true) := ⟨by
                    obtain ⟨g1, g2⟩ := HLE.out.done hl0 HPOS.out (fun i s hi => (H.out.spots i s hi).2.2) H.out.ids
                    exact .inr ⟨rfl, l, q, hl16, by rw [HQ0.out]; exact hq0q, hq, HL.out, by rw [HQ0.out]; exact HNA.out, g1, g2⟩⟩
                  clear hrg hl0 hb
                  go_wp2
                  go_ret2
                  exact ⟨A, true, rfl, HFR.out, HB.out⟩
                · obtain ⟨rfl, s, hxi, hlies, hax⟩ := row_some hfx
                  obtain ⟨i, hi⟩ : ∃ i, x.toNat = i := ⟨_, rfl⟩
                  rw [hi] at hxi hlies
                  have hbelow1 : Below w.heap.size w W1 := HB.out.trans (hf1.below (HB.out.size) (fun k _ e => by omega))
                  have cab := (hbelow1.cell (p := ⟨p, 256, none⟩) hpl).trans HAB.out
                  have hlk := (H.out.all.2.2.fr (F := fun _ => False) (Fr.of_below hbelow1) (fun h => h)).look Try.underlying3 Try.underlying78 (Try.zeroSpot W1) hkx
                  rw [hax] at hlk
                  obtain ⟨N, hN⟩ : ∃ N, min A s.at' = N := ⟨_, rfl⟩
                  have HST : Box (LeastTo M l q (fun y => left y && !decide (y = x)) N) := ⟨by rw [hxi]; exact HLE.out.step hlies hN⟩
                  have HMI : Box ((if s.at' < A then (s.at' : Int) else (A : Int)) = (N : Int)) := ⟨by rw [← hN]; split <;> omega⟩
                  have hNb : N ≤ 18446744073709551615 := by omega
                  obtain ⟨sa, sl, sq⟩ := s
                  replace hlk : (Instr.lookup 78 (.map (some ab)) (.int .i64 x) false).run Try.prog W1 = .ok (.agg #[.int .u64 sa, .int .i64 sl, .int .i64 sq]) W1 := hlk
                  replace hrun : (Instr.next (.pointer (some ⟨r, 0, none⟩)) false 0).run Try.prog wr = .ok (.tuple #[.bool true, .int .i64 x, .bool true]) W1 := hrun
                  replace hen : (Instr.entry (.pointer (some ⟨r, 0, none⟩))).run Try.prog W1 = .ok (.tuple #[.int .i64 x, .bool true]) W1 := hen
                  have HRG1 := Box.mk hrg1
                  have HB1 := Box.mk hbelow1
                  have hfi := field_spot
                  clear hrg hb hrg1 hf1 hfx hxi hlies hax hN hbelow1 hi hkx
                  go_wp2
                  go_roundw
                  case rel => exact ⟨N, _, cnt1, by rw [← HMI.out], hNb, HST, HRG1.out, HB1.out⟩
                  case measure => rw [HRG1.out.left_eq, HRG.out.left_eq]; exact hlt1
        · have HNX : Box (∀ l', l' < l + 1 → NoneAt M l' (partN M.now l') 16) := ⟨fun l' hl' => by
            by_cases e : l' = l
            · rw [e, HQ0.out, show 16 = q from by omega]; exact HNA.out
            · exact HL.out l' (by omega)⟩
          go_wp2
          go_roundw
          case rel => exact ⟨l + 1, by omega, by go_num, HNX, HB.out⟩
          case measure => simp [intOf] <;> omega
    · have HFR : Box (FirstR M 0 false) := ⟨.inl ⟨rfl, rfl, fun l' hl' => HL.out l' (by omega)⟩⟩
      go_wp2
      go_ret2
      exact ⟨0, false, rfl, HFR.out, HB.out⟩

end Go.Proofs.Ytbodnmcaipakcaa
