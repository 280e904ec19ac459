/-
  The walks of cpu's Now, is, Work and Wake.
-/
import Derived.Test.YtbedknfapiadbaaCpuC
namespace Go.Proofs.Ytbedknfapiadbaa
open Go.RowKit

/-- The processor's own cells. -/
theorem CpuAt.c0 {w : World} {y : Lay} {M : CpuM} (h : CpuAt w y M) : w.cell? ⟨y.c, 0, none⟩ = some (.slice y.ta M.tasks.length y.tc) := cell_blk h.cpu.2 0
theorem CpuAt.c1 {w : World} {y : Lay} {M : CpuM} (h : CpuAt w y M) : w.cell? ⟨y.c, 1, none⟩ = some (.slice y.sa M.servers.length y.sc) := cell_blk h.cpu.2 1
theorem CpuAt.c2 {w : World} {y : Lay} {M : CpuM} (h : CpuAt w y M) : w.cell? ⟨y.c, 2, none⟩ = some (.pointer (some ⟨y.q, 0, none⟩)) := cell_blk h.cpu.2 2
theorem CpuAt.c3 {w : World} {y : Lay} {M : CpuM} (h : CpuAt w y M) : w.cell? ⟨y.c, 3, none⟩ = some (.int .u64 M.now) := cell_blk h.cpu.2 3
/-- A row of pointers that has an element. -/
theorem PRow.get {w : World} {own : Nat → Option Own} {x : Own} {a : Option Addr} {c n : Nat} {f : Nat → Nat} (h : PRow w own x a c n f) {i : Nat} (hi : i < n) :
    ∃ g, a = some ⟨g, 0, none⟩ ∧ own g = some x ∧ n ≤ c ∧ c ≤ 9223372036854775807 ∧ w.cell? ⟨g, i, none⟩ = some (.pointer (some ⟨f i, 0, none⟩)) := by
  rcases h with ⟨_, h, _⟩ | ⟨g, e, ho, h1, h2, h3⟩
  · omega
  · exact ⟨g, e, ho, h1, h2, h3 i hi⟩
theorem PRow.small {w : World} {own : Nat → Option Own} {x : Own} {a : Option Addr} {c n : Nat} {f : Nat → Nat} (h : PRow w own x a c n f) : n ≤ 9223372036854775807 := by
  rcases h with ⟨_, h, _⟩ | ⟨g, e, ho, h1, h2, h3⟩ <;> omega

set_option maxHeartbeats 400000 in
theorem now_any (y : Lay) (M : CpuM) (w : World) (h : CpuAt w y M) :
    Calls Try.prog 22 #[.pointer (some ⟨y.c, 0, none⟩)] w fun e w' => e = .returned (.int .u64 M.now) ∧ w = w' := by
  have c3 := h.c3
  clear h
  go_enter Try.func22, Try.ntmps22
  go_wp2
  go_ret
  exact ⟨rfl, rfl⟩

set_option maxHeartbeats 400000 in
theorem is_any (y : Lay) (M : CpuM) (i : Int) (w : World) (h : CpuAt w y M) (v : Bool) (hv : decide (0 ≤ i ∧ i < M.tasks.length) = v) :
    Calls Try.prog 34 #[.pointer (some ⟨y.c, 0, none⟩), .int .i64 i] w fun e w' => e = .returned (.bool v) ∧ w = w' := by
  subst hv
  have c0 := h.c0
  have hs := h.tarr.small
  obtain ⟨n, hn⟩ : ∃ n, M.tasks.length = n := ⟨_, rfl⟩
  rw [hn] at c0 hs ⊢
  clear h hn
  go_enter Try.func34, Try.ntmps34
  go_wp2
  all_goals
    go_ret
    exact ⟨ret_bool' (by rw [Bool.eq_iff_iff]; simp [*]; try omega), rfl⟩

def CpuM.work (M : CpuM) (i : Int) : Nat := if 0 ≤ i then match M.servers[i.toNat]? with | some s => s.work | none => 0 else 0
set_option maxHeartbeats 1000000 in
theorem work_of_any (y : Lay) (M : CpuM) (i : Int) (w : World) (h : CpuAt w y M) :
    Calls Try.prog 13 #[.pointer (some ⟨y.c, 0, none⟩), .int .i64 i] w fun e w' => e = .returned (.int .u64 (M.work i)) ∧ w = w' := by
  have c1 := h.c1
  have hs := h.sarr.small
  obtain ⟨n, hn⟩ : ∃ n, M.servers.length = n := ⟨_, rfl⟩
  have H := Box.mk h
  rw [hn] at c1 hs
  by_cases h0 : i < 0
  · have HV : Box (M.work i = 0) := ⟨by unfold CpuM.work; rw [if_neg (by omega)]⟩
    clear h hn
    go_enter Try.func13, Try.ntmps13
    go_wp2
    go_ret
    rw [HV.out]
    exact ⟨rfl, rfl⟩
  · obtain ⟨k, rfl⟩ : ∃ k : Nat, i = k := ⟨i.toNat, by omega⟩
    by_cases hk : k < n
    · obtain ⟨s, hsv⟩ : ∃ s, M.servers[k]? = some s := ⟨M.servers[k]'(by omega), by simp [hn, hk]⟩
      have HV : Box (M.work k = s.work) := ⟨by unfold CpuM.work; rw [if_pos (by omega)]; simp [hsv]⟩
      obtain ⟨g, hg, _, hnc, hc, hcell⟩ := h.sarr.get (i := k) (by omega)
      have e1 := cell_blk (h.srv k s hsv).2.1 1
      simp only [List.getElem?_toArray, List.getElem?_cons_zero, List.getElem?_cons_succ] at e1
      rw [hg] at c1
      rw [hn] at hnc
      clear h hn hsv hg h0
      go_enter Try.func13, Try.ntmps13
      go_wp2
      go_ret
      rw [HV.out]
      exact ⟨rfl, rfl⟩
    · have HV : Box (M.work k = 0) := ⟨by unfold CpuM.work; rw [if_pos (by omega)]; simp [hn, hk]⟩
      clear h hn h0
      go_enter Try.func13, Try.ntmps13
      go_wp2
      go_ret
      rw [HV.out]
      exact ⟨rfl, rfl⟩

/-- 'Wake'. -/
def CpuM.wakeC (M : CpuM) (i : Int) : Int := if 0 ≤ i ∧ i < M.servers.length then 0 else 1
def SrvM.wake (s : SrvM) (n : Nat) : SrvM := ⟨s.bud, s.work + min n (1048576 - s.work)⟩
def CpuM.wake (M : CpuM) (i : Int) (n : Nat) : CpuM := if 0 ≤ i then match M.servers[i.toNat]? with | some s => { M with servers := M.servers.set i.toNat (s.wake n) } | none => M else M

theorem wake_end {w : World} {y : Lay} {M : CpuM} (h : CpuAt w y M) {k : Nat} {s s' : SrvM} {Z : Nat} (ho : y.own (y.sp k) = some (.srv k)) (hb : w.heap[y.sp k]? = some (.cells #[.pointer (some ⟨y.bp k, 0, none⟩), .int .u64 s.work] 78 (0, 0)))
    (hbud : BudAt w (y.bp k) s.bud (fun b => y.own b = some (.bud k)) false) (h1 : s'.bud = s.bud) (h2 : s'.work = Z) : CPost w y { M with servers := M.servers.set k s' } (w.setCell ⟨y.sp k, 1, none⟩ (.int .u64 Z)).drew := by
  have hf : Fr (fun b => b = y.sp k) w (w.setCell ⟨y.sp k, 1, none⟩ (.int .u64 Z)).drew := (Fr.setCell (F := fun b => b = y.sp k) (Fr.refl _ w) (p := ⟨y.sp k, 1, none⟩) (.inl rfl) _).drew
  have hs : Same w (w.setCell ⟨y.sp k, 1, none⟩ (.int .u64 Z)).drew y.own y.own := ⟨fun _ _ => rfl, fun b hb => Nat.lt_of_lt_of_le (h.lt b hb) hf.size⟩
  have hb2 := blk_set (i := 1) hb (.int .u64 Z)
  simp only [List.setIfInBounds_toArray, List.set_cons_succ, List.set_cons_zero] at hb2
  refine ⟨{ y with own := y.own }, rfl, h.srv_upd (i := k) (s' := s') (hf.mono (fun b _ e => by subst e; exact .inl ho)) hs (fun _ => by rw [h2]; exact hb2) (fun _ => ?_), hf.mono (fun b _ e => by subst e; rw [ho]; simp), hs⟩
  rw [h1]
  exact hbud.own hf hs (fun b e1 e2 => by subst e2; rw [ho] at e1; simp at e1)

set_option maxHeartbeats 2000000 in
theorem wake_any (y : Lay) (M : CpuM) (i : Int) (n : Nat) (w : World) (h : CpuAt w y M) (hw : ∀ s ∈ M.servers, s.work ≤ 1048576) (hn : n ≤ 9223372036854775807) :
    Calls Try.prog 12 #[.pointer (some ⟨y.c, 0, none⟩), .int .i64 i, .int .u64 n] w fun e w' => e = .returned (.int .i64 (M.wakeC i)) ∧ CPost w y (M.wake i n) w' := by
  have c1 := h.c1
  have hs := h.sarr.small
  obtain ⟨m, hm⟩ : ∃ m, M.servers.length = m := ⟨_, rfl⟩
  have H := Box.mk h
  rw [hm] at c1 hs
  by_cases h0 : i < 0
  · have HV : Box (M.wakeC i = 1 ∧ M.wake i n = M) := ⟨⟨by unfold CpuM.wakeC; rw [if_neg (by omega)], by unfold CpuM.wake; rw [if_neg (by omega)]⟩⟩
    clear h hm hw
    go_enter Try.func12, Try.ntmps12
    go_wp2
    go_ret
    rw [HV.out.1, HV.out.2]
    exact ⟨rfl, CPost.refl H.out⟩
  · obtain ⟨k, rfl⟩ : ∃ k : Nat, i = k := ⟨i.toNat, by omega⟩
    by_cases hk : k < m
    · obtain ⟨s, hsv⟩ : ∃ s, M.servers[k]? = some s := ⟨M.servers[k]'(by omega), by simp [hm, hk]⟩
      have hsw := hw s (List.mem_of_getElem? hsv)
      have HV : Box (M.wakeC k = 0 ∧ M.wake k n = { M with servers := M.servers.set k (s.wake n) }) := ⟨⟨by unfold CpuM.wakeC; rw [if_pos (by omega)], by unfold CpuM.wake; rw [if_pos (by omega)]; simp [hsv]⟩⟩
      obtain ⟨g, hg, _, hnc, hc, hcell⟩ := h.sarr.get (i := k) (by omega)
      obtain ⟨ho, hblk, hbud⟩ := h.srv k s hsv
      have HBK := Box.mk hblk
      have e1 := cell_blk hblk 1
      simp only [List.getElem?_toArray, List.getElem?_cons_zero, List.getElem?_cons_succ] at e1
      have f1 := free_blk hblk 1
      have HBU := Box.mk hbud
      have HO := Box.mk ho
      rw [hg] at c1
      rw [hm] at hnc
      obtain ⟨W, hW⟩ : ∃ W, s.work = W := ⟨_, rfl⟩
      have HWK : Box (s.wake n = ⟨s.bud, W + min n (1048576 - W)⟩) := ⟨by rw [← hW]; rfl⟩
      rw [hW] at e1 hsw
      have hsub : IntKind.u64.wrap (1048576 - (W : Int)) = ((1048576 - W : Nat) : Int) := by rw [IntWalk.u64_in _ (by omega)]; omega
      obtain ⟨D, hD⟩ : ∃ D, 1048576 - W = D := ⟨_, rfl⟩
      rw [hD] at hsub HWK
      obtain ⟨Z, hZ⟩ : ∃ Z, W + min n D = Z := ⟨_, rfl⟩
      have hz : (W : Int) + (if D < n then (D : Int) else (n : Int)) = (Z : Int) := by rw [← hZ]; split <;> omega
      rw [hZ] at HWK
      have HZ := Box.mk hz
      clear h hm hsv hg h0 hw hD hZ hblk hbud ho hW hz
      go_enter Try.func12, Try.ntmps12
      go_upto_region 4 with fail
      go_region
      rw [HZ.out]
      have HE := Box.mk (wake_end H.out (s' := s.wake n) HO.out HBK.out HBU.out (Z := Z) (by rw [HWK.out]) (by rw [HWK.out]))
      generalize (w.setCell ⟨y.sp k, 1, none⟩ (.int .u64 Z)).drew = V at HE ⊢
      go_wp2
      all_goals
        go_ret
        rw [HV.out.1, HV.out.2]
        exact ⟨rfl, HE.out⟩
    · have HV : Box (M.wakeC k = 1 ∧ M.wake k n = M) := ⟨⟨by unfold CpuM.wakeC; rw [if_neg (by omega)], by unfold CpuM.wake; rw [if_pos (by omega)]; simp [hm, hk]⟩⟩
      clear h hm h0 hw
      go_enter Try.func12, Try.ntmps12
      go_wp2
      go_ret
      rw [HV.out.1, HV.out.2]
      exact ⟨rfl, CPost.refl H.out⟩

end Go.Proofs.Ytbedknfapiadbaa
