/-
  ReadyRight: for every list of steps the law answers true, and what it was handed reads as it did. No condition.
-/
import Derived.Test.YtelehfcjajipiaaRightP
import Derived.Test.YtelehfcjajipiaaReadyAwake
import Derived.Test.YtelehfcjajipiaaRows
import Derived.BigQuiet
import Derived.Deep.QuietTactic
import Derived.Deep.DeepCutAuto
import Derived.Deep.CutBlock
namespace Go.Proofs.Ytelehfcjajipiaa.readyRight
open Go.ChangeShapes Go.WideShapes Go.ChangeAt Go.RowKit

/-- What holds at the head of each round, and behind a step. -/
def Inv (w wr : World) (q bi t : Nat) (s : Value) : Prop := ∃ r f, ∃ N : Nat, s = .int .i64 N ∧ N ≤ t * 101 ∧ (allQ r).length = N ∧ RSt w wr q bi r f ∧ RInv r f t

theorem Inv.mk {w wr : World} {q bi t N : Nat} {r : Nat → List Int} {f : Nat → Bool} (h1 : (allQ r).length = N) (h2 : RSt w wr q bi r f) (h3 : RInv r f t) : Inv w wr q bi t (.int .i64 N) :=
  ⟨r, f, N, rfl, by have := cat_len h3.len 101; rw [← h1]; unfold allQ; omega, h1, h2, h3⟩

theorem makeBools (w : World) : (Instr.makeSlice 36 (.int .i64 64) (.int .i64 64)).run Try.prog w = .ok (.slice (some ⟨w.heap.size, 0, none⟩) 64 64) (w.alloc (.cells (boolCells 64 (fun _ => false)) 4)) := by kernel_rfl

theorem Inv.start {w w1 : World} {q : Nat} (h : QSt w w1 q (fun _ => [])) : Inv w (w1.alloc (.cells (boolCells 64 (fun _ => false)) 4)) q w1.heap.size 0 (.int .i64 0) := by
  obtain ⟨F, h1, h2, h3⟩ := h
  refine Inv.mk (N := 0) (r := fun _ => []) (f := fun _ => false) ?_ ⟨F, h1.alloc _, h2, h3.alloc h3.size _, fun hF => by have := h1.lt _ hF; omega, h3.size, blk_new _ _⟩ RInv.start
  rw [show allQ (fun _ => []) = [] from cat_nil.2 (fun _ _ => rfl)]
  rfl

/-- The row 'seen' in the inner loop: who was met among the first j. -/
def SInv (w5 wi : World) (L : List Int) (j : Nat) : Prop := Fr (fun k => w5.heap.size ≤ k) w5 wi ∧ wi.heap[w5.heap.size]? = some (.cells (boolCells 64 (fun i => decide ((i : Int) ∈ L.take j))) 4 (0, 0))
theorem SInv.start (w5 : World) (L : List Int) : SInv w5 (w5.alloc (.cells (boolCells 64 (fun _ => false)) 4)) L 0 := by
  refine ⟨(Fr.refl _ _).alloc _, ?_⟩
  rw [boolCells_congr (g := fun _ => false) (fun i _ => by simp)]
  exact blk_new _ _
theorem SInv.new {w5 wi : World} {L : List Int} {j k : Nat} (_h : SInv w5 wi L j) (hn : L.Nodup) (hj : j < L.length) (hk : zv L j = k) : decide ((k : Int) ∈ L.take j) = false := by
  rw [← hk, zv, getD_in hj]
  have h1 := List.take_append_drop j L
  rw [← h1, List.nodup_append] at hn
  have h2 := hn.2.2
  simp only [decide_eq_false_iff_not]
  intro hm
  exact h2 _ hm L[j] (by rw [List.drop_eq_getElem_cons hj]; exact List.mem_cons_self) rfl
theorem SInv.next {w5 wi : World} {L : List Int} {j k : Nat} (h : SInv w5 wi L j) (hj : j < L.length) (hk : zv L j = k) (h64 : k < 64) : SInv w5 (wi.setCell ⟨w5.heap.size, k, none⟩ (.bool true)) L (j + 1) := by
  refine ⟨h.1.setCell (Or.inl (Nat.le_refl _)) _, ?_⟩
  rw [bools_set h.2 h64 true]
  congr 2
  apply boolCells_congr
  intro i _
  rw [List.take_succ_eq_append_getElem hj]
  have he : L[j] = (k : Int) := by rw [← hk, zv, getD_in hj]
  rw [he]
  by_cases e : i = k
  · subst e; simp
  · have e2 : ¬ (i : Int) = (k : Int) := by omega
    simp only [e, if_false, List.mem_append, List.mem_singleton, e2, or_false]

set_option maxHeartbeats 8000000 in
set_option maxRecDepth 100000 in
theorem walk (a0 : Option Addr) (n cap0 : Nat) (z : Nat → Nat → Int) (w : World) (ha : ArgStructs [.i64, .i64, .i64] w a0 n z) :
    Calls Try.prog 5 #[.slice a0 n cap0] w fun e w' => e = .returned (.bool true) ∧ Below w.heap.size w w' := by
  have HA := Lib.hid ha
  have hn63 : n ≤ 9223372036854775807 := ha.1
  have hmk := makeBools
  clear ha
  go_enter Try.func5, Try.ntmps5
  go_wp2_with (first | (go_at_call 8; refine (awake_any _).mono ?_; rintro e w1 ⟨rfl, hb1⟩) | (go_at_call 9; refine (new_st w _ hb1).mono ?_; rintro e w2 ⟨rfl, hq2⟩))
  have HQ2 := Lib.hid (Inv.start hq2)
  clear hq2
  go_loopw [5, 6] (fun s i wr => ∃ t : Nat, t ≤ n ∧ t ≤ 120 ∧ i = .int .i64 t ∧ Inv w wr w1.heap.size w2.heap.size t s) (fun _ i _ => n - (intOf i).toNat)
  case atStart => exact ⟨0, Nat.zero_le _, by omega, rfl, HQ2.out⟩
  case round =>
    obtain ⟨t, ht, ht2, rfl, hI⟩ := hrel
    obtain ⟨r, f, N, rfl, hN, hrN, hs, hr⟩ := hI
    have HN : Box ((allQ r).length = N) := ⟨hrN⟩
    have hN2 : N ≤ 12120 := by omega
    have HS := Lib.hid hs
    have HR := Lib.hid hr
    have HLN : Hid (∀ i, (r i).length ≤ 1000000) := fun i => Nat.le_trans (hr.len i) (by omega)
    clear hs hr hrN hN
    by_cases hgo : t < n ∧ t < 120
    · obtain ⟨hlt, hlt2⟩ := hgo
      obtain ⟨_, hwf, hcc⟩ := HA.out
      obtain ⟨b, off, rfl, hb, hc⟩ := hcc (by omega)
      have c0 : wr.cell? ⟨b, off + t * 3, none⟩ = some (.int .i64 (z t 0)) := (HS.out.below.cell (p := ⟨b, off + t * 3, none⟩) hb).trans (hc t hlt 0 .i64 rfl)
      have c1 : wr.cell? ⟨b, off + t * 3 + 1, none⟩ = some (.int .i64 (z t 1)) := (HS.out.below.cell (p := ⟨b, off + t * 3 + 1, none⟩) hb).trans (hc t hlt 1 .i64 rfl)
      have c2 : wr.cell? ⟨b, off + t * 3 + 2, none⟩ = some (.int .i64 (z t 2)) := (HS.out.below.cell (p := ⟨b, off + t * 3 + 2, none⟩) hb).trans (hc t hlt 2 .i64 rfl)
      generalize z t 0 = kd at c0
      generalize z t 1 = x at c1
      generalize z t 2 = pr at c2
      clear hc hcc hwf
      have hcd : ∀ j, (wr.alloc (.cells #[.int .i64 kd, .int .i64 x, .int .i64 pr] 38)).cell? ⟨wr.heap.size, j, none⟩ = (#[Value.int .i64 kd, .int .i64 x, .int .i64 pr] : Array Value)[j]? := fun j => World.cell?_alloc_at _ _ _ _ rfl
      have HCD := Lib.hid hcd
      clear hcd
      go_upto_region 10 with (fail)
      go_cut [8] (fun s8 wx => s8 = .bool (mayB x pr) ∧ wx = wr.alloc (.cells #[.int .i64 kd, .int .i64 x, .int .i64 pr] 38))
      case first =>
        by_cases g1 : 0 ≤ x
        · by_cases g2 : x ≤ 63
          · by_cases g3 : 0 ≤ pr
            · have g2' : x < 64 := by omega
              by_cases g4 : pr < 101
              · have g4' : pr ≤ 100 := by omega
                go_wp2_with fail
                go_meet
                exact ⟨by simp [mayB, g1, g2, g3, g4], rfl⟩
              · have g4' : ¬ pr ≤ 100 := by omega
                have hb : mayB x pr = false := by simp [mayB]; intros; omega
                go_wp2_with fail
                go_meet
                exact ⟨by rw [hb], rfl⟩
            · have g2' : x < 64 := by omega
              have hb : mayB x pr = false := by simp [mayB]; intros; omega
              go_wp2_with fail
              go_meet
              exact ⟨by rw [hb], rfl⟩
          · have g2' : ¬ x < 64 := by omega
            have hb : mayB x pr = false := by simp [mayB]; intros; omega
            go_wp2_with fail
            go_meet
            exact ⟨by rw [hb], rfl⟩
        · have hb : mayB x pr = false := by simp [mayB]; intros; omega
          go_wp2_with fail
          go_meet
          exact ⟨by rw [hb], rfl⟩
      case rest =>
        obtain ⟨rfl, rfl⟩ := hcut
        go_upto_block 2 with (fail)
        go_cut [5, 8] (fun s5 _ wx => Inv w wx w1.heap.size w2.heap.size (t + 1) s5)
        case first =>
          by_cases k0 : kd = 0
          · have hk : (kd == 0) = true := by simpa using k0
            clear k0
            by_cases hb : mayB x pr = true
            · have hbb := mayB_iff.1 hb
              obtain ⟨xn, rfl⟩ : ∃ xn : Nat, x = xn := ⟨x.toNat, by omega⟩
              have hx : xn < 64 := by omega
              have hxi : (xn : Int) < 64 := by omega
              by_cases hf : f xn = true
              · have HC := Lib.hid (HR.out.come_no hb hf)
                have HF := Lib.hid hf
                clear hf hbb
                rw [hb]
                clear hb
                go_wp2_with fail
                have hQ := come_r w w1.heap.size w2.heap.size r f xn pr wr (.cells #[.int .i64 kd, .int .i64 xn, .int .i64 pr] 38) HS.out HLN.out
                rw [HC.out.1, HC.out.2] at hQ
                refine hQ.mono ?_
                clear hQ
                rintro e w4 ⟨rfl, hs4, hd4⟩
                have HS4 := Lib.hid hs4
                have e1 : w4.cell? ⟨wr.heap.size, 1, none⟩ = some (.int .i64 xn) := cell_blk hd4 1
                have e2 : w4.cell? ⟨wr.heap.size, 2, none⟩ = some (.int .i64 pr) := cell_blk hd4 2
                have e3 : w4.cell? ⟨w2.heap.size, xn, none⟩ = some (.bool true) := by rw [hs4.cell hx, HF.out]
                clear hs4 hd4
                go_wp2_with fail
                go_meet
                exact Inv.mk HN.out HS4.out (HR.out.mono (by omega))
              · have hf' : f xn = false := by simpa using hf
                obtain ⟨hc1, hc2, hc3⟩ := HR.out.come hb hf'
                have HC : Hid (comeC r xn pr = 0 ∧ True) := ⟨hc1, trivial⟩
                have HI := Lib.hid hc2
                have HL3 : Box ((allQ (come r xn pr)).length = N + 1) := ⟨by rw [hc3, HN.out]⟩
                have HF := Lib.hid hf'
                clear hf hf' hbb hc1 hc2 hc3
                rw [hb]
                clear hb
                go_wp2_with fail
                have hQ := come_r w w1.heap.size w2.heap.size r f xn pr wr (.cells #[.int .i64 kd, .int .i64 xn, .int .i64 pr] 38) HS.out HLN.out
                rw [HC.out.1] at hQ
                refine hQ.mono ?_
                clear hQ
                rintro e w4 ⟨rfl, hs4, hd4⟩
                have HS4 := Lib.hid hs4
                have e1 : w4.cell? ⟨wr.heap.size, 1, none⟩ = some (.int .i64 xn) := cell_blk hd4 1
                have e2 : w4.cell? ⟨wr.heap.size, 2, none⟩ = some (.int .i64 pr) := cell_blk hd4 2
                have e3 : w4.cell? ⟨w2.heap.size, xn, none⟩ = some (.bool false) := by rw [hs4.cell hx, HF.out]
                have e4 : w4.frozen? ⟨w2.heap.size, xn, none⟩ = false := hs4.free xn
                clear hs4 hd4
                go_wp2_with fail
                go_meet
                exact Inv.mk HL3.out (HS4.out.set hx true) HI.out
            · have hb' : mayB x pr = false := by simpa using hb
              have HC := Lib.hid (come_bad (r := r) hb')
              rw [hb']
              clear hb hb'
              go_wp2_with fail
              have hQ := come_r w w1.heap.size w2.heap.size r f x pr wr (.cells #[.int .i64 kd, .int .i64 x, .int .i64 pr] 38) HS.out HLN.out
              rw [HC.out.1, HC.out.2] at hQ
              refine hQ.mono ?_
              clear hQ
              rintro e w4 ⟨rfl, hs4, hd4⟩
              have HS4 := Lib.hid hs4
              have e1 : w4.cell? ⟨wr.heap.size, 1, none⟩ = some (.int .i64 x) := cell_blk hd4 1
              have e2 : w4.cell? ⟨wr.heap.size, 2, none⟩ = some (.int .i64 pr) := cell_blk hd4 2
              clear hs4 hd4
              go_wp2_with fail
              go_meet
              exact Inv.mk HN.out HS4.out (HR.out.mono (by omega))
          · have hk : (kd == 0) = false := by simpa using k0
            clear k0
            by_cases k1 : kd = 1
            · have hk1 : (kd == 1) = true := by simpa using k1
              clear k1
              by_cases hx0 : 0 ≤ x
              · by_cases hx1 : x < 64
                · obtain ⟨xn, rfl⟩ : ∃ xn : Nat, x = xn := ⟨x.toNat, by omega⟩
                  have hx : xn < 64 := by omega
                  by_cases hf : f xn = true
                  · obtain ⟨hc1, hc2, hc3⟩ := HR.out.go hx hf
                    have HC : Hid (goC r xn = 0 ∧ True) := ⟨hc1, trivial⟩
                    have HI := Lib.hid hc2
                    have hN1 : 1 ≤ N := by have := HN.out; omega
                    have HL3 : Box ((allQ (goR r xn)).length = N - 1) := ⟨by have := HN.out; omega⟩
                    have e0 : wr.cell? ⟨w2.heap.size, xn, none⟩ = some (.bool true) := by rw [HS.out.cell hx, hf]
                    have hbl := HS.out.lt
                    clear hf hc1 hc2 hc3
                    go_wp2_with fail
                    have hQ := go_r w w1.heap.size w2.heap.size r f xn wr (.cells #[.int .i64 kd, .int .i64 xn, .int .i64 pr] 38) HS.out
                    rw [HC.out.1] at hQ
                    refine hQ.mono ?_
                    clear hQ
                    rintro e w4 ⟨rfl, hs4, hd4⟩
                    have HS4 := Lib.hid hs4
                    have e1 : w4.cell? ⟨wr.heap.size, 1, none⟩ = some (.int .i64 xn) := cell_blk hd4 1
                    have e4 : w4.frozen? ⟨w2.heap.size, xn, none⟩ = false := hs4.free xn
                    have e3 : w4.cell? ⟨w2.heap.size, xn, none⟩ = some (.bool (f xn)) := hs4.cell hx
                    have HNN : Hid (((N - 1 : Nat) : Int) = (N : Int) - 1) := by show ((N - 1 : Nat) : Int) = (N : Int) - 1; omega
                    clear hs4 hd4
                    go_wp2_with fail
                    go_meet
                    rw [← HNN.out]
                    exact Inv.mk HL3.out (HS4.out.set hx false) (HI.out.mono (by omega))
                  · have hf' : f xn = false := by simpa using hf
                    have HC := Lib.hid (HR.out.go_no (id := (xn : Int)) (fun i _ e => by rw [show i = xn from by omega]; exact hf'))
                    have e0 : wr.cell? ⟨w2.heap.size, xn, none⟩ = some (.bool false) := by rw [HS.out.cell hx, hf']
                    have hbl := HS.out.lt
                    clear hf hf'
                    go_wp2_with fail
                    have hQ := go_r w w1.heap.size w2.heap.size r f xn wr (.cells #[.int .i64 kd, .int .i64 xn, .int .i64 pr] 38) HS.out
                    rw [HC.out.1, HC.out.2] at hQ
                    refine hQ.mono ?_
                    clear hQ
                    rintro e w4 ⟨rfl, hs4, hd4⟩
                    have HS4 := Lib.hid hs4
                    have e1 : w4.cell? ⟨wr.heap.size, 1, none⟩ = some (.int .i64 xn) := cell_blk hd4 1
                    clear hs4 hd4
                    go_wp2_with fail
                    go_meet
                    exact Inv.mk HN.out HS4.out (HR.out.mono (by omega))
                · have HC := Lib.hid (HR.out.go_no (id := x) (fun i _ e => by omega))
                  go_wp2_with fail
                  have hQ := go_r w w1.heap.size w2.heap.size r f x wr (.cells #[.int .i64 kd, .int .i64 x, .int .i64 pr] 38) HS.out
                  rw [HC.out.1, HC.out.2] at hQ
                  refine hQ.mono ?_
                  clear hQ
                  rintro e w4 ⟨rfl, hs4, hd4⟩
                  have HS4 := Lib.hid hs4
                  have e1 : w4.cell? ⟨wr.heap.size, 1, none⟩ = some (.int .i64 x) := cell_blk hd4 1
                  clear hs4 hd4
                  go_wp2_with fail
                  go_meet
                  exact Inv.mk HN.out HS4.out (HR.out.mono (by omega))
              · have HC := Lib.hid (HR.out.go_no (id := x) (fun i _ e => by omega))
                go_wp2_with fail
                have hQ := go_r w w1.heap.size w2.heap.size r f x wr (.cells #[.int .i64 kd, .int .i64 x, .int .i64 pr] 38) HS.out
                rw [HC.out.1, HC.out.2] at hQ
                refine hQ.mono ?_
                clear hQ
                rintro e w4 ⟨rfl, hs4, hd4⟩
                have HS4 := Lib.hid hs4
                have e1 : w4.cell? ⟨wr.heap.size, 1, none⟩ = some (.int .i64 x) := cell_blk hd4 1
                clear hs4 hd4
                go_wp2_with fail
                go_meet
                exact Inv.mk HN.out HS4.out (HR.out.mono (by omega))
            · have hk1 : (kd == 1) = false := by simpa using k1
              clear k1
              go_wp2_with fail
              go_meet
              exact Inv.mk HN.out (HS.out.later ((Below.refl _ _).alloc (Nat.le_refl _) _)) (HR.out.mono (by omega))
        case rest =>
          obtain ⟨r1, f1, N1, rfl, hN1, hrN1, hs1, hr1⟩ := hcut
          obtain ⟨L, hL⟩ : ∃ L, allQ r1 = L := ⟨_, rfl⟩
          have hLr : ∀ y, y ∈ L → ∃ k : Nat, y = k ∧ k < 64 ∧ f1 k = true := by
            intro y hy
            rw [← hL] at hy
            have := hr1.range y hy
            refine ⟨y.toNat, by omega, by omega, ?_⟩
            rw [hr1.mem _ (by omega), ← mem_allQ, show ((y.toNat : Nat) : Int) = y from by omega]
            exact hy
          have hLn : L.Nodup := by rw [← hL]; exact hr1.all
          obtain rfl : N1 = L.length := by rw [← hrN1, hL]
          have hl4 : ∀ i, (r1 i).length ≤ 1000000 := fun i => Nat.le_trans (hr1.len i) (by omega)
          have hQ := all_r w w1.heap.size w2.heap.size r1 f1 wc hs1 hl4
          rw [hL] at hQ
          have HL : Box (allQ r1 = L) := ⟨hL⟩
          have HQ : Box (Calls Try.prog 13 #[.pointer (some ⟨w1.heap.size, 0, none⟩)] wc _) := ⟨hQ⟩
          have HLR := Lib.hid hLr
          have HLN2 := Lib.hid hLn
          have HR1 := Lib.hid hr1
          have hNb : L.length ≤ 12221 := by omega
          clear hL hLr hLn hl4 hQ hs1 hr1 hrN1 hN1
          go_wp2_with fail
          refine HQ.out.mono ?_
          clear HQ
          rintro e w5 ⟨ao, cp, rfl, hrow, hs5⟩
          have HRW := Lib.hid hrow
          have HS5 := Lib.hid hs5
          clear hrow hs5
          go_wp2
          go_loopw [13] (fun i wi => ∃ j : Nat, j ≤ L.length ∧ i = .int .i64 j ∧ SInv w5 wi L j) (fun i _ => L.length - (intOf i).toNat)
          case atStart => exact ⟨0, Nat.zero_le _, rfl, SInv.start w5 L⟩
          case round =>
            obtain ⟨j, hj, rfl, hsi⟩ := hrel
            have HSI := Lib.hid hsi
            clear hsi
            by_cases hlj : j < L.length
            · obtain ⟨bl, ol, rfl, _, hbl, hcl⟩ := HRW.out.get (by omega)
              obtain ⟨xk, hxk, hx64, hxf⟩ := HLR.out (zv L j) (by rw [zv, getD_in hlj]; exact List.getElem_mem hlj)
              have c3 : wr.cell? ⟨bl, ol + j, none⟩ = some (.int .i64 xk) := by rw [← hxk]; exact (HSI.out.1.cell hbl (by simp; omega)).trans (hcl j hlj)
              have c4 : wr.cell? ⟨w2.heap.size, xk, none⟩ = some (.bool true) := by rw [← hxf]; exact (HSI.out.1.cell HS5.out.lt (by have := HS5.out.lt; simp; omega)).trans (HS5.out.cell hx64)
              have hnx := HSI.out.new HLN2.out hlj hxk
              have c5 : wr.cell? ⟨w5.heap.size, xk, none⟩ = some (.bool false) := by rw [← hnx]; exact bools_cell HSI.out.2 hx64
              have c6 : wr.frozen? ⟨w5.heap.size, xk, none⟩ = false := free_blk HSI.out.2 xk
              have hxi : (xk : Int) < 64 := by omega
              have HX := Lib.hid hxk
              clear hcl hxk hxf hnx
              go_wp2
              go_roundw
              case rel => exact ⟨j + 1, by omega, by go_num, HSI.out.next hlj HX.out hx64⟩
              case measure => simp [intOf] <;> omega
            · obtain rfl : j = L.length := by omega
              go_wp2
              go_roundw
              case rel => exact ⟨t + 1, by omega, by omega, by go_num, Inv.mk (by rw [HL.out]) (HS5.out.beside (Nat.le_refl _) HSI.out.1) HR1.out⟩
              case measure => simp [intOf] <;> omega
    · by_cases hlt : t < n
      · have h120 : ¬ t < 120 := fun h => hgo ⟨hlt, h⟩
        clear hgo
        go_wp2
        go_ret
        exact ⟨rfl, HS.out.below⟩
      · clear hgo
        go_wp2
        go_ret
        exact ⟨rfl, HS.out.below⟩

/-! The row's step. -/
theorem own : ownKnob Try.prog.godebug = none := by kernel_rfl
theorem laidOut : laidOutB Try.prog = true := by kernel_rfl

set_option maxRecDepth 100000 in
theorem lifted (os : Os) (started : os.Started) (H : Type) (enc : TypeId × Value → H) :
    ReturnsInHanded {} Try.checked os 5 .any (Rows.readyRightSpec.pre6 enc Try.prog Try.f5 Rows.readyRightRow.domain false) (Rows.readyRightSpec.post enc Try.prog Try.f5 false true false false) := by
  refine returnsInHanded_of_change (C := Try.checked) own started (by kernel_rfl) Try.func5
    (ChangeSpec.witness6 (enc := enc) (C := Try.checked) false ⟨#[], #[.slice none 0 0], []⟩ 8 (by kernel_rfl) (by kernel_rfl) (by kernel_rfl) (by kernel_rfl)) ?_
  intro W base args ds gs before hval0 hW hcnd _
  have hval : ∀ (j : Nat) t v, Try.f5.params[j]? = some t → args[j]? = some v → Value.okWide Try.prog W .any base t v := hval0
  have hW' := hW
  obtain ⟨p, q, hA0, hV, rfl, hfz, hnd⟩ := hW
  have hA : DataW.TrodAll enc Try.prog W 0 (fun _ => true) true Try.f5.params.toList args.toList ds p := hA0
  rw [Try.params5] at hA hval
  obtain ⟨v0, vs0, d0, ds0, p0, q0, hargs, rfl, rfl, h0, r0⟩ := trodAll_cons hA
  obtain ⟨rfl, rfl, rfl⟩ := trodAll_nil r0
  obtain rfl : args = #[v0] := by cases args; simp_all
  obtain ⟨rfl, rfl⟩ := trodVars_none hV
  obtain ⟨a0, len0, cap0, rfl⟩ := okWide_slice Try.underlying35 (hval 0 35 v0 rfl rfl)
  have k0 := h0
  have lt0 : ∀ x ∈ p0, x.block < W.heap.size := by obtain ⟨m, hm⟩ := k0; exact DataW.trod_lt m _ _ _ hm
  obtain ⟨z0, w0⟩ := open_structs (ks := [.i64, .i64, .i64]) Try.underlying35 Try.underlying38 (by kernel_rfl) (by kernel_rfl) (by kernel_rfl) (by decide) h0
  clear hA0 hval0
  refine (walk a0 len0 cap0 z0 W w0).mono fun e W' ⟨he, bel⟩ => ?_
  subst he
  exact ⟨_, rfl, _, _, _, [], _, [], hW', trodAll_mk1 (shut_bool Try.underlying4 _), (trodAll_cons_mk (Below.trod laidOut (by kernel_rfl) (of_decide_eq_true (by kernel_rfl)) k0 bel lt0) trodAll_mk0), rfl, bel.frame _, fun h => by cases h⟩

theorem over : Rows.readyRightRow.holds Try.pinned (OpenSpec.ofChange Rows.readyRightSpec) :=
  OpenClaim.holds_of_wide 5 Try.f5 rfl rfl rfl rfl rfl rfl rfl ⟨rfl, rfl, rfl, rfl, rfl⟩ rfl rfl rfl rfl rfl (by kernel_rfl) Try.func5 (by kernel_rfl)
    (of_decide_eq_true (by kernel_rfl)) (by unfold Func.isWrapper; first | (rw [if_pos (by decide +kernel)]; kernel_rfl) | (rw [if_neg (by decide +kernel)]; exact ⟨rfl, rfl⟩))
    (fun os started H enc _ => lifted os started H enc)

/-- The statement. -/
theorem proved : Rows.ReadyRightSaid := over
#print axioms proved

end Go.Proofs.Ytelehfcjajipiaa.readyRight
