/-
  Records of ticks: the reader: the walks of 'mark', 'num', 'who'.
-/
import Derived.Test.YtimeodjfihpgeaaDoorTrL
namespace Go.Proofs.YtimeodjfihpgeaaDoor
open Go.RowKit

theorem ta_32_32 (v : Value) (w : World) : (Instr.typeAssert (.iface 21 v) 20 21 true).run Tryd.prog w = .ok (.tuple #[v, .bool true]) w := by kernel_rfl
theorem ta_int_32 (v : Value) (w : World) : (Instr.typeAssert (.iface 3 v) 20 21 true).run Tryd.prog w = .ok (.tuple #[.int .i32 0, .bool false]) w := by kernel_rfl
theorem ta_32_int (v : Value) (w : World) : (Instr.typeAssert (.iface 21 v) 20 3 true).run Tryd.prog w = .ok (.tuple #[.int .i64 0, .bool false]) w := by kernel_rfl
theorem ta_int_int (v : Value) (w : World) : (Instr.typeAssert (.iface 3 v) 20 3 true).run Tryd.prog w = .ok (.tuple #[v, .bool true]) w := by kernel_rfl
theorem ta_int (v : Value) (w : World) : (Instr.typeAssert (.iface 3 v) 20 3 false).run Tryd.prog w = .ok v w := by kernel_rfl
/-- A reader: what it has not read yet. -/
def RdAt (w : World) (PB : Nat) (ps : List Part) : Prop := ∃ (ao : Option Addr) (n c : Nat), n = ps.length ∧ n ≤ c ∧ n ≤ 2000000 ∧ w.heap[PB]? = some (.cells #[.slice ao n c] 56 (0, 0)) ∧
  (0 < n → ∃ b off, ao = some ⟨b, off, none⟩ ∧ b < PB ∧ ∀ i (hi : i < ps.length), w.cell? ⟨b, off + i, none⟩ = some (partV ps[i]))
theorem rtail {b off n lc : Nat} (hn : 1 ≤ n) (hlc : n ≤ lc) : ∃ a2, (∀ w, (Instr.slice 51 (.slice (some ⟨b, off, none⟩) n lc) (some (.int .i64 1)) none none).run Tryd.prog w = .ok (.slice a2 (n - 1) (lc - 1)) w) ∧ (1 < n → a2 = some ⟨b, off + 1, none⟩) := by
  obtain ⟨ia, ha, _, hy1, _⟩ := info_parts Tryd.infoAny
  have he : Tryd.prog.elem 51 = 20 := by unfold Program.elem; rw [Tryd.underlying51]
  have ht' : Tryd.prog.underlying 51 = some (.slice (Tryd.prog.elem 51)) := by rw [he]; exact Tryd.underlying51
  have hs : ∀ w, (sizeOf (Tryd.prog.elem 51)).run Tryd.prog w = .ok 1 w := fun w => by rw [he]; simp [sizeOf, typeInfo, ha, hy1]
  have r2 : ∀ w, (Instr.slice 51 (.slice (some ⟨b, off, none⟩) n lc) (some (.int .i64 1)) none none).run Tryd.prog w = .ok (sliced (some ⟨b, off, none⟩) 1 n lc 1) w := fun w => by
    rw [run_slice_l w _ _ n lc ht' .i64 1 (by omega) (by omega), hs]
    simp [Result.andThen]
  refine ⟨_, r2, fun h => ?_⟩
  rw [if_neg (by omega)]
  rfl
theorem rd_tail {w : World} {PB n c b off : Nat} {p : Part} {q : List Part} {old : Value} {a2 : Option Addr} (hn : n = q.length + 1) (hc : n ≤ c) (h2 : n ≤ 2000000) (hb : w.heap[PB]? = some (.cells #[old] 56 (0, 0))) (hbP : b < PB)
    (hcell : ∀ i (hi : i < (p :: q).length), w.cell? ⟨b, off + i, none⟩ = some (partV (p :: q)[i])) (ha : 1 < n → a2 = some ⟨b, off + 1, none⟩) : RdAt (w.setCell ⟨PB, 0, none⟩ (.slice a2 (n - 1) (c - 1))) PB q := by
  have hne : b ≠ PB := by omega
  have hbl : b < w.heap.size := Nat.lt_trans hbP (lt_blk hb)
  refine ⟨a2, n - 1, c - 1, by omega, by omega, by omega, by rw [blk_set hb]; simp, fun h0 => ⟨b, off + 1, ha (by omega), hbP, fun i hi => ?_⟩⟩
  have := hcell (i + 1) (by simp; omega)
  rw [show off + 1 + i = off + (i + 1) from by omega]
  exact (((Fr.refl (fun k => k = PB) w).setCell (p := ⟨PB, 0, none⟩) (.inl rfl) (.slice a2 (n - 1) (c - 1))).cell (p := ⟨b, off + (i + 1), none⟩) hbl hne).trans this
theorem rd_fr {w w' : World} {PB : Nat} {ps : List Part} (h : RdAt w PB ps) (hb : Below w.heap.size w w') : RdAt w' PB ps := by
  obtain ⟨ao, n, c, h1, h2, h3, h4, h5⟩ := h
  exact ⟨ao, n, c, h1, h2, h3, (hb.block PB (lt_blk h4)).trans h4, fun h0 => by
    obtain ⟨b, off, e, hl, hc⟩ := h5 h0
    exact ⟨b, off, e, hl, fun i hi => (hb.cell (p := ⟨b, off + i, none⟩) (Nat.lt_trans hl (lt_blk h4))).trans (hc i hi)⟩⟩

/-- What is written above the reader doesn't matter to it. -/
theorem rd_up {w w' : World} {PB : Nat} {ps : List Part} (h : RdAt w PB ps) (hb : ∀ k, k ≤ PB → w'.heap[k]? = w.heap[k]?) : RdAt w' PB ps := by
  obtain ⟨ao, n, c, h1, h2, h3, h4, h5⟩ := h
  exact ⟨ao, n, c, h1, h2, h3, (hb PB (Nat.le_refl _)).trans h4, fun h0 => by
    obtain ⟨b, off, e, hl, hc⟩ := h5 h0
    exact ⟨b, off, e, hl, fun i hi => (World.cell?_of_block (w := w) (hb b (by omega))).trans (hc i hi)⟩⟩
theorem rd_lt {w : World} {PB : Nat} {ps : List Part} (h : RdAt w PB ps) : PB < w.heap.size := by
  obtain ⟨ao, n, c, h1, h2, h3, h4, h5⟩ := h
  exact lt_blk h4
def MarkOut (w : World) (PB m : Nat) (ps : List Part) (e : Ending) (w' : World) : Prop := e = .returned (.bool (markP m ps).isSome) ∧ RdAt w' PB ((markP m ps).getD ps) ∧ Fr (fun k => k = PB) w w'
def NumOut (w : World) (PB : Nat) (ps : List Part) (e : Ending) (w' : World) : Prop := e = .returned (.int .i64 (numP ps).1) ∧ RdAt w' PB (numP ps).2 ∧ Fr (fun k => k = PB) w w'
set_option maxHeartbeats 8000000 in
theorem mark_any (PB m : Nat) (ps : List Part) (w : World) (h : RdAt w PB ps) :
    Calls Tryd.prog 38 #[.pointer (some ⟨PB, 0, none⟩), .int .i32 m] w fun e w' => MarkOut w PB m ps e w' := by
  have HR := Box.mk h
  obtain ⟨ao, n, c, hn, hc, h2, hb, hcell⟩ := h
  have c0 : w.cell? ⟨PB, 0, none⟩ = some (.slice ao n c) := (cell_blk hb 0).trans rfl
  have f0 := free_blk hb 0
  cases ps with
  | nil =>
    obtain rfl : n = 0 := hn
    clear hb hcell
    go_enter Tryd.func38, Tryd.ntmps38
    go_wp2
    go_ret
    exact ⟨rfl, HR.out, Fr.refl _ _⟩
  | cons p q =>
    obtain ⟨b, off, rfl, hbP, hcs⟩ := hcell (by rw [hn]; simp)
    have d0 : w.cell? ⟨b, off, none⟩ = some (partV p) := hcs 0 (by simp)
    have HCS := Box.mk hcs
    have HB := Box.mk hb
    have HN : Box (n = q.length + 1) := ⟨hn⟩
    have hnb : ¬ n = 0 := by have := HN.out; omega
    have hnbb : ((n : Int) == 0) = false := by simp; omega
    have hn0 : (0 : Int) < n := by omega
    have hn1 : 1 ≤ n := by omega
    clear hb hcell hcs hn
    cases p with
    | num k =>
      replace d0 : w.cell? ⟨b, off, none⟩ = some (.iface 3 (.int .i64 k)) := d0
      have t1 := ta_int_32 (.int .i64 k)
      go_enter Tryd.func38, Tryd.ntmps38
      go_wp2
      go_ret
      exact ⟨rfl, HR.out, Fr.refl _ _⟩
    | mk r =>
      replace d0 : w.cell? ⟨b, off, none⟩ = some (.iface 21 (.int .i32 r)) := d0
      have t1 := ta_32_32 (.int .i32 r)
      by_cases hrm : r = m
      · subst hrm
        have hq : ((r : Int) != r) = false := by simp
        have HMK : Box (markP r (.mk r :: q) = some q) := ⟨by simp [markP]⟩
        obtain ⟨a2, hs, ha2⟩ := rtail (b := b) (off := off) hn1 hc
        have HP := Box.mk (rd_tail (p := .mk r) HN.out hc h2 HB.out hbP HCS.out ha2)
        clear ha2 HCS
        go_enter Tryd.func38, Tryd.ntmps38
        go_wp2
        go_ret
        exact ⟨by rw [HMK.out]; rfl, by rw [HMK.out]; exact HP.out, (Fr.refl (fun k => k = PB) w).setCell (p := ⟨PB, 0, none⟩) (.inl rfl) _⟩
      · have hq : ((r : Int) != m) = true := by simp; omega
        have HMK : Box (markP m (.mk r :: q) = none) := ⟨by simp [markP, hrm]⟩
        clear HCS HB
        go_enter Tryd.func38, Tryd.ntmps38
        go_wp2
        go_ret
        exact ⟨by rw [HMK.out]; rfl, by rw [HMK.out]; exact HR.out, Fr.refl _ _⟩
set_option maxHeartbeats 8000000 in
theorem num_any (PB : Nat) (ps : List Part) (w : World) (h : RdAt w PB ps) :
    Calls Tryd.prog 39 #[.pointer (some ⟨PB, 0, none⟩)] w fun e w' => NumOut w PB ps e w' := by
  have HR := Box.mk h
  obtain ⟨ao, n, c, hn, hc, h2, hb, hcell⟩ := h
  have c0 : w.cell? ⟨PB, 0, none⟩ = some (.slice ao n c) := (cell_blk hb 0).trans rfl
  have f0 := free_blk hb 0
  cases ps with
  | nil =>
    obtain rfl : n = 0 := hn
    clear hb hcell
    go_enter Tryd.func39, Tryd.ntmps39
    go_wp2
    go_ret
    exact ⟨rfl, HR.out, Fr.refl _ _⟩
  | cons p q =>
    obtain ⟨b, off, rfl, hbP, hcs⟩ := hcell (by rw [hn]; simp)
    have d0 : w.cell? ⟨b, off, none⟩ = some (partV p) := hcs 0 (by simp)
    have HCS := Box.mk hcs
    have HB := Box.mk hb
    have HN : Box (n = q.length + 1) := ⟨hn⟩
    have hnb : ¬ n = 0 := by have := HN.out; omega
    have hnbb : ((n : Int) == 0) = false := by simp; omega
    have hn0 : (0 : Int) < n := by omega
    have hn1 : 1 ≤ n := by omega
    clear hb hcell hcs hn
    cases p with
    | mk r =>
      replace d0 : w.cell? ⟨b, off, none⟩ = some (.iface 21 (.int .i32 r)) := d0
      have t1 := ta_32_int (.int .i32 r)
      go_enter Tryd.func39, Tryd.ntmps39
      go_wp2
      go_ret
      exact ⟨rfl, HR.out, Fr.refl _ _⟩
    | num k =>
      replace d0 : w.cell? ⟨b, off, none⟩ = some (.iface 3 (.int .i64 k)) := d0
      have t1 := ta_int_int (.int .i64 k)
      have t2 := ta_int (.int .i64 k)
      obtain ⟨a2, hs, ha2⟩ := rtail (b := b) (off := off) hn1 hc
      have HP := Box.mk (rd_tail (p := .num k) HN.out hc h2 HB.out hbP HCS.out ha2)
      clear ha2 HCS
      go_enter Tryd.func39, Tryd.ntmps39
      go_wp2
      go_ret
      exact ⟨rfl, HP.out, (Fr.refl (fun k => k = PB) w).setCell (p := ⟨PB, 0, none⟩) (.inl rfl) _⟩

end Go.Proofs.YtimeodjfihpgeaaDoor
