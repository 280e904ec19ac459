/-
  The law's own first look.
-/
import Derived.Test.YtbedknfapiadbaaCpuQ
import Derived.Test.YtbedknfapiadbaaReadyPc
namespace Go.Proofs.Ytbedknfapiadbaa
open Go.RowKit

theorem RanM.serve {M M1 : CpuM} {who : Int} {nd nc i : Nat} (h : RanM M M1 who nd nc) (hs : (serveL M.now M.servers).2 = some i) : who = 100 + i ∧ M1 = { M with servers := (serveL M.now M.servers).1 } ∧ nd = 0 ∧ nc = 0 := by
  rcases h with ⟨k, h1, h2, h3, h4, h5⟩ | ⟨h1, _⟩ | ⟨h1, _⟩
  · rw [hs] at h1
    simp only [Option.some.injEq] at h1
    subst h1
    exact ⟨h2, h3, h4, h5⟩
  · rw [hs] at h1; cases h1
  · rw [hs] at h1; cases h1
theorem RanM.work {M M1 : CpuM} {who : Int} {nd nc p i : Nat} (h : RanM M M1 who nd nc) (hs : (serveL M.now M.servers).2 = none) (hp : first M.rows = some p) (hi : (M.rows p).head?.getD 0 = (i : Int)) :
    who = i ∧ Worked { M with servers := (serveL M.now M.servers).1 } M1 i nd nc := by
  rcases h with ⟨k, h1, _⟩ | ⟨_, h1, _⟩ | ⟨_, p', i', h1, h2, h3, h4⟩
  · rw [hs] at h1; cases h1
  · rw [hp] at h1; cases h1
  · rw [hp] at h1
    simp only [Option.some.injEq] at h1
    subst h1
    have : i = i' := by rw [hi] at h2; omega
    subst this
    exact ⟨h3, h4⟩

theorem TasksAt.one {w : World} {b : Nat} {t : WorkM} {T : TypeId} (h : w.heap[b]? = some (.cells #[.int .i64 t.prio, .int .u64 t.cost, .int .u64 t.period, .int .u64 t.dead] T (0, 0))) : TasksAt w (some ⟨b, 0, none⟩) [t] := by
  refine ⟨by simp, fun _ => ⟨b, 0, rfl, lt_blk h, fun i hi => ?_⟩⟩
  obtain rfl : i = 0 := by simpa using hi
  exact ⟨cell_blk h 0, cell_blk h 1, cell_blk h 2, cell_blk h 3⟩
theorem LoadsAt.one {w : World} {b : Nat} {s : ServM} {T : TypeId} (h : w.heap[b]? = some (.cells #[.int .i64 s.budget, .int .u64 s.period] T (0, 0))) : LoadsAt w (some ⟨b, 0, none⟩) [s] := by
  refine ⟨by simp, fun _ => ⟨b, 0, rfl, lt_blk h, fun i hi => ?_⟩⟩
  obtain rfl : i = 0 := by simpa using hi
  exact ⟨cell_blk h 0, cell_blk h 1⟩

def aR : Nat → List Int := come (fun _ => []) 0 5
def aT (j : Option JobM) : List TaskM := [⟨⟨5, 1, 20, 10⟩, j, true, 0⟩]
def aM0 : CpuM := newM [⟨5, 1, 20, 10⟩] [⟨2, 10⟩]
def aM1 : CpuM := ⟨aT (some ⟨9, 0, 10, false⟩), [⟨⟨⟨2, 10⟩, [], 0⟩, 0⟩], aR, 0⟩
def aM2 : CpuM := ⟨aT (some ⟨9, 0, 10, false⟩), [⟨⟨⟨2, 10⟩, [], 0⟩, 5⟩], aR, 0⟩
def aM3 : CpuM := ⟨aT (some ⟨9, 0, 10, false⟩), [⟨⟨⟨2, 10⟩, [10], 0⟩, 4⟩], aR, 1⟩
def aM4 : CpuM := ⟨aT (some ⟨9, 0, 10, false⟩), [⟨⟨⟨2, 10⟩, [10, 11], 1⟩, 3⟩], aR, 2⟩
def aM5 : CpuM := ⟨aT none, [⟨⟨⟨2, 10⟩, [10, 11], 2⟩, 3⟩], goR aR 0, 3⟩
theorem a_rel : aM0.rel 0 9 = aM1 := by kernel_rfl
theorem a_relC : aM0.relC 0 9 = 0 := by kernel_rfl
theorem a_wake : aM1.wake 0 5 = aM2 := by kernel_rfl
theorem a_wakeC : aM1.wakeC 0 = 0 := by kernel_rfl
theorem a_s2 : serveL aM2.now aM2.servers = ([⟨⟨⟨2, 10⟩, [10], 0⟩, 4⟩], some 0) := by kernel_rfl
theorem a_s3 : serveL aM3.now aM3.servers = ([⟨⟨⟨2, 10⟩, [10, 11], 1⟩, 3⟩], some 0) := by kernel_rfl
theorem a_s4 : serveL aM4.now aM4.servers = ([⟨⟨⟨2, 10⟩, [10, 11], 2⟩, 3⟩], none) := by kernel_rfl
theorem a_f : first aR = some 5 := by kernel_rfl
theorem a_h : (aR 5).head?.getD 0 = ((0 : Nat) : Int) := by kernel_rfl
theorem a_3 : ({ aM2 with servers := [⟨⟨⟨2, 10⟩, [10], 0⟩, 4⟩] } : CpuM).after (aM2.now + 1) = aM3 := by kernel_rfl
theorem a_4 : ({ aM3 with servers := [⟨⟨⟨2, 10⟩, [10, 11], 1⟩, 3⟩] } : CpuM).after (aM3.now + 1) = aM4 := by kernel_rfl
theorem a_work : aM5.work 0 = 3 := by kernel_rfl
theorem a_den : aM5.relC 0 1 = 11 := by kernel_rfl
theorem a_ok (M : CpuM) (h1 : M.tasks = aT (some ⟨9, 0, 10, false⟩)) (h2 : M.rows = aR) (h3 : M.now ≤ 2) (s : SrvM) (h4 : M.servers = [s]) (h5 : SrvOk M.now s) : CpuOk M := by
  refine ⟨fun s' hs => ?_, by omega, by rw [h4]; simp, by rw [h1]; simp [aT], fun p hp => ?_⟩
  · rw [h4] at hs
    simp only [List.mem_singleton] at hs
    rw [hs]; exact h5
  · rw [h2, a_f] at hp
    simp only [Option.some.injEq] at hp
    subst hp
    exact ⟨0, _, _, by rw [h2]; exact a_h, by rw [h1]; rfl, rfl, by simp⟩
theorem a_bud {b : BudM} (h : b.s = ⟨2, 10⟩) (hl : b.back.length ≤ 2) : b.Ok := ⟨by rw [h]; rfl, by rw [h]; show (b.back.length : Int) ≤ 2; omega⟩
theorem a_ok2 : CpuOk aM2 := a_ok _ rfl rfl (by decide) _ rfl ⟨a_bud rfl (by decide), Nat.le_refl _, by decide⟩
theorem a_ok3 : CpuOk aM3 := a_ok _ rfl rfl (by decide) _ rfl ⟨a_bud rfl (by decide), by decide, by decide⟩
theorem a_ok4 : CpuOk aM4 := a_ok _ rfl rfl (by decide) _ rfl ⟨a_bud rfl (by decide), by decide, by decide⟩
theorem a_5 {M1 : CpuM} {nd nc : Nat} (h : Worked { aM4 with servers := (serveL aM4.now aM4.servers).1 } M1 0 nd nc) : nd = 0 ∧ nc = 1 ∧ M1.after (aM4.now + 1) = aM5 := by
  obtain ⟨t, j, ht, hj, h⟩ := h
  have e : t = ⟨⟨5, 1, 20, 10⟩, some ⟨9, 0, 10, false⟩, true, 0⟩ := by
    have : some t = some _ := ht.symm.trans (show _ = some (⟨⟨5, 1, 20, 10⟩, some ⟨9, 0, 10, false⟩, true, 0⟩ : TaskM) from rfl)
    simpa using this
  subst e
  simp only [Option.some.injEq] at hj
  subst hj
  rcases h with ⟨h1, _⟩ | ⟨_, _, h3, h4, h5⟩ | ⟨_, h2, _⟩
  · simp at h1
  · subst h3
    exact ⟨h4, h5, by rw [a_s4]; kernel_rfl⟩
  · simp at h2

theorem a_len (p : Nat) : (aM5.rows p).length ≤ 1000000 := Nat.le_trans (goR_len (come_len (r := fun _ => []) (n := 0) (fun _ => Nat.le_refl _) 0 5) 0 p) (by decide)

end Go.Proofs.Ytbedknfapiadbaa
