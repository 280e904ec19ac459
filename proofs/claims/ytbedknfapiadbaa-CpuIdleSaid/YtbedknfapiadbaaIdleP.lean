/-
  CpuIdle, plainly: as long as there is work a server runs in sixty ticks.
-/
import Derived.Test.YtbedknfapiadbaaServP
namespace Go.Proofs.Ytbedknfapiadbaa
open Go.RowKit

theorem work_some_of {M : CpuM} {k : Nat} {s : SrvM} (h : M.servers[k]? = some s) : M.work k = s.work := by
  unfold CpuM.work
  rw [if_pos (by omega)]
  simp [h]
theorem work_none_of {M : CpuM} {k : Nat} (h : M.servers[k]? = none) : M.work k = 0 := by
  unfold CpuM.work
  rw [if_pos (by omega)]
  simp [h]
def totW (M : CpuM) : Nat := M.work (0 : Nat) + M.work (1 : Nat) + M.work (2 : Nat)

/-- While work is given. -/
structure IStart (ls : List ServM) (M : CpuM) (wt : List Int) (i : Nat) : Prop where
  sh : SH M ls (fun _ => [])
  now : M.now = 0
  wl : wt.length = ls.length
  want : ∀ k : Nat, zv wt k = M.work k ∧ M.work k ≤ 39
  per : ∀ k, k < i → (sv ls k).period ≤ 60
  rest : ∀ k : Nat, i ≤ k → M.work k = 0
theorem zv_rep (n k : Nat) : zv (List.replicate n 0) k = 0 := by
  unfold zv List.getD
  by_cases h : k < n
  · simp [h]
  · simp [List.getElem?_replicate, h]
theorem IStart.start {ls : List ServM} (h : okLoads ls = true) : IStart ls (newM [] ls) (List.replicate ls.length 0) 0 := by
  have hw : ∀ k : Nat, (newM [] ls).work k = 0 := fun k => by
    cases hk : (newM [] ls).servers[k]? with
    | none => exact work_none_of hk
    | some s =>
      rw [work_some_of hk]
      simp only [newM, List.getElem?_map] at hk
      cases hl : ls[k]? with
      | none => simp [hl] at hk
      | some x => simp [hl] at hk; subst hk; rfl
  exact ⟨SH.start h, rfl, by simp, fun k => ⟨by rw [hw, zv_rep]; rfl, by rw [hw]; omega⟩, fun k hk => by omega, fun k _ => hw k⟩
theorem IStart.skip {ls : List ServM} {M : CpuM} {wt : List Int} {i : Nat} (h : IStart ls M wt i) (hp : (sv ls i).period ≤ 60) : IStart ls M wt (i + 1) :=
  ⟨h.sh, h.now, h.wl, h.want, fun k hk => by
    by_cases e : k = i
    · rw [e]; exact hp
    · exact h.per k (by omega), fun k hk => h.rest k (by omega)⟩
theorem IStart.give {ls : List ServM} {M : CpuM} {wt : List Int} {i : Nat} (h : IStart ls M wt i) (hi : i < ls.length) (hp : (sv ls i).period ≤ 60) {n : Nat} (hn : n ≤ 39) : IStart ls (M.wake i n) (wt.set i n) (i + 1) := by
  have hw : ∀ k : Nat, (M.wake i n).work k = if k = i then n else M.work k := fun k => by
    have hlen := (wake_len M i n).1
    cases hk : (M.wake i n).servers[k]? with
    | none =>
      have : M.servers[k]? = none := by
        rw [List.getElem?_eq_none_iff] at hk ⊢
        omega
      have h3 := List.getElem?_eq_none_iff.1 this
      rw [h.sh.len] at h3
      rw [work_none_of hk, work_none_of this, if_neg (by omega)]
    | some s' =>
      obtain ⟨s, e0, _, e1⟩ := wake_get hk
      rw [work_some_of hk, work_some_of e0, e1]
      by_cases e : k = i
      · subst e
        have := h.rest k (Nat.le_refl _)
        rw [work_some_of e0] at this
        rw [if_pos rfl, if_pos rfl, this]
        omega
      · rw [if_neg e, if_neg (by omega)]
  refine ⟨h.sh.wake i n, (wake_len M i n).2.2.trans h.now, by rw [List.length_set]; exact h.wl, fun k => ?_, fun k hk => ?_, fun k hk => ?_⟩
  · rw [hw, zv_set (by rw [h.wl]; exact hi)]
    by_cases e : k = i
    · rw [if_pos e, if_pos e]; exact ⟨rfl, hn⟩
    · rw [if_neg e, if_neg e]; exact h.want k
  · by_cases e : k = i
    · rw [e]; exact hp
    · exact h.per k (by omega)
  · rw [hw, if_neg (by omega)]; exact h.rest k (by omega)

/-- While it is done. R: how many ticks of it are; L: behind the last one. -/
structure IInv (ls : List ServM) (M : CpuM) (H : Nat → List Nat) (wt : List Int) (W R L : Nat) : Prop where
  sh : SH M ls H
  wl : wt.length = ls.length
  want : ∀ k : Nat, zv wt k = M.work k ∧ M.work k ≤ 39
  per : ∀ x ∈ ls, x.period ≤ 60
  few : ls.length ≤ 3
  uses : ∀ k, ∀ u ∈ H k, u < L
  tot : totW M + R = W
  lr : L ≤ 60 * R
  ln : L ≤ M.now
  soon : 0 < totW M → M.now < L + 60
theorem IInv.start {ls : List ServM} {M : CpuM} {wt : List Int} (h : IStart ls M wt ls.length) (h3 : ls.length ≤ 3) : IInv ls M (fun _ => []) wt (totW M) 0 0 ∧ totW M ≤ 117 := by
  refine ⟨⟨h.sh, h.wl, h.want, fun x hx => ?_, h3, (fun k u hu => absurd hu (by simp)), rfl, Nat.le_refl _, Nat.zero_le _, fun _ => by rw [h.now]; omega⟩, ?_⟩
  · obtain ⟨k, hk, rfl⟩ := List.mem_iff_getElem.1 hx
    have := h.per k hk
    rwa [sv_in hk] at this
  · have h0 := (h.want 0).2
    have h1 := (h.want 1).2
    have h2 := (h.want 2).2
    unfold totW
    omega
theorem work_after {M M1 : CpuM} {n : Nat} (g : SrvM → Nat → Nat) (hl : (M1.after n).servers.length = M.servers.length) (h : ∀ (k : Nat) (s' : SrvM), (M1.after n).servers[k]? = some s' → ∃ s, M.servers[k]? = some s ∧ s'.work = g s k) (k : Nat) :
    (M1.after n).work k = match M.servers[k]? with | some s => g s k | none => 0 := by
  cases hk : (M1.after n).servers[k]? with
  | none =>
    have : M.servers[k]? = none := by
      rw [List.getElem?_eq_none_iff] at hk ⊢
      omega
    rw [work_none_of hk, this]
  | some s' =>
    obtain ⟨s, e0, e1⟩ := h k s' hk
    rw [work_some_of hk, e0, e1]
theorem IInv.tick {ls : List ServM} {M M1 : CpuM} {H : Nat → List Nat} {wt : List Int} {W R L nd nc : Nat} {who : Int} (h : IInv ls M H wt W R L) (hr : RanM M M1 who nd nc) :
    nd = 0 ∧ nc = 0 ∧ M1.tasks = [] ∧
    ((who = -1 ∧ IInv ls (M1.after (M.now + 1)) H wt W R L) ∨
     ∃ i : Nat, who = 100 + i ∧ i < ls.length ∧ 0 < zv wt i ∧ zv wt i ≤ 39 ∧ IInv ls (M1.after (M.now + 1)) (upd H i (H i ++ [M.now])) (wt.set i (zv wt i - 1)) W (R + 1) (M.now + 1)) := by
  obtain ⟨a, b, c, hx⟩ := h.sh.tick hr
  refine ⟨a, b, c, ?_⟩
  rcases hx with ⟨e, hsh, hno, hw⟩ | ⟨i, e, hi, hsh, ⟨s, hs, hpos⟩, hw⟩
  · left
    have hl : (M1.after (M.now + 1)).servers.length = M.servers.length := hsh.len.trans h.sh.len.symm
    have hwk : ∀ k : Nat, (M1.after (M.now + 1)).work k = M.work k := fun k => by
      rw [work_after (fun s _ => s.work) hl hw]
      cases hk : M.servers[k]? with
      | none => exact (work_none_of hk).symm
      | some s => exact (work_some_of hk).symm
    have ht : totW (M1.after (M.now + 1)) = totW M := by unfold totW; rw [hwk, hwk, hwk]
    refine ⟨e, hsh, h.wl, fun k => by rw [hwk]; exact h.want k, h.per, h.few, h.uses, by rw [ht]; exact h.tot, h.lr, Nat.le_trans h.ln (Nat.le_succ _), fun hpos => ?_⟩
    rw [ht] at hpos
    show M.now + 1 < L + 60
    have hsoon := h.soon hpos
    obtain ⟨k, s, hs, hsw⟩ : ∃ (k : Nat) (s : SrvM), M.servers[k]? = some s ∧ 0 < s.work := by
      have : 0 < M.work (0 : Nat) ∨ 0 < M.work (1 : Nat) ∨ 0 < M.work (2 : Nat) := by unfold totW at hpos; omega
      have hone : ∀ k : Nat, 0 < M.work k → ∃ (k : Nat) (s : SrvM), M.servers[k]? = some s ∧ 0 < s.work := fun k hk => by
        cases hs : M.servers[k]? with
        | none => rw [work_none_of hs] at hk; omega
        | some s => rw [work_some_of hs] at hk; exact ⟨k, s, hs, hk⟩
      rcases this with h | h | h
      · exact hone _ h
      · exact hone _ h
      · exact hone _ h
    have hz := (hno s (mem_get hs)).resolve_left (by omega)
    obtain ⟨hls, hho⟩ := h.sh.srv k s hs
    have hso := h.sh.inv.srv s (mem_get hs)
    have hp : s.bud.s.period ≤ 60 := h.per _ (mem_get hls)
    have hok := ServM.ok_iff.1 hso.1.s
    have hat := hho.at hso.2.1
    have hne : (s.bud.at M.now).back ≠ [] := fun e0 => by
      unfold BudM.left at hz
      rw [e0] at hz
      simp only [List.length_nil] at hz
      have : (s.bud.at M.now).s = s.bud.s := rfl
      rw [this] at hz
      omega
    rw [hat.back] at hne
    obtain ⟨u, hu⟩ := List.exists_mem_of_ne_nil _ (fun e0 => hne (by rw [e0]; rfl) : (H k).filter (fun u => decide ((s.bud.at M.now).now < u + (s.bud.at M.now).s.period)) ≠ [])
    obtain ⟨hu1, hu2⟩ := List.mem_filter.1 hu
    have hu3 := h.uses k u hu1
    have hu4 : M.now < u + s.bud.s.period := of_decide_eq_true hu2
    omega
  · right
    have hl : (M1.after (M.now + 1)).servers.length = M.servers.length := hsh.len.trans h.sh.len.symm
    have hwk : ∀ k : Nat, (M1.after (M.now + 1)).work k = if k = i then M.work k - 1 else M.work k := fun k => by
      rw [work_after (fun s k => if k = i then s.work - 1 else s.work) hl hw]
      cases hk : M.servers[k]? with
      | none => rw [work_none_of hk]; simp
      | some s => rw [work_some_of hk]
    have hiw : 0 < M.work i := by rw [work_some_of hs]; exact hpos
    have hz := (h.want i).1
    have h39 := (h.want i).2
    have hi3 := h.few
    have ht : totW (M1.after (M.now + 1)) + 1 = totW M := by
      unfold totW
      rw [hwk, hwk, hwk]
      obtain rfl | rfl | rfl : i = 0 ∨ i = 1 ∨ i = 2 := by omega
      · simp at hiw ⊢; omega
      · simp at hiw ⊢; omega
      · simp at hiw ⊢; omega
    refine ⟨i, e, hi, by omega, by omega, hsh, by rw [List.length_set]; exact h.wl, fun k => ?_, h.per, h.few, fun k u hu => ?_, by have := h.tot; omega, ?_, Nat.le_refl _, fun _ => by show M.now + 1 < _; omega⟩
    · rw [hwk, zv_set (by rw [h.wl]; exact hi)]
      have := h.want k
      by_cases e : k = i
      · subst e; rw [if_pos rfl, if_pos rfl]; omega
      · rw [if_neg e, if_neg e]; exact this
    · by_cases e : k = i
      · subst e
        rw [upd_same] at hu
        rcases List.mem_append.1 hu with hu | hu
        · have := (h.sh.srv k s hs).2.lt u hu; omega
        · simp at hu; omega
      · rw [upd_ne _ _ e] at hu
        have := h.uses k u hu
        have := h.ln
        omega
    · have hsoon := h.soon (by omega)
      have := h.lr
      omega
/-- At the end nothing is left. -/
theorem IInv.done {ls : List ServM} {M : CpuM} {H : Nat → List Nat} {wt : List Int} {W R L : Nat} (h : IInv ls M H wt W R L) (hW : W ≤ 117) (hn : M.now = 7400) (k : Nat) (hk : k < ls.length) : zv wt k = 0 ∧ M.work k = 0 := by
  have h0 : totW M = 0 := by
    rcases Nat.eq_zero_or_pos (totW M) with e | e
    · exact e
    · have h1 := h.soon e
      have h2 := h.lr
      have h3 := h.tot
      omega
  have hw : M.work k = 0 := by
    have := h.few
    unfold totW at h0
    obtain rfl | rfl | rfl : k = 0 ∨ k = 1 ∨ k = 2 := by omega
    · omega
    · omega
    · omega
  exact ⟨by rw [(h.want k).1, hw]; rfl, hw⟩

end Go.Proofs.Ytbedknfapiadbaa
