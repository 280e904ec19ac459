/-
  The walks of a wheel's New, Len, At, Cancel and Set.
-/
import Derived.Test.YtbodnmcaipakcaaWhC
namespace Go.Proofs.Ytbodnmcaipakcaa
open Go.RowKit Go.ChangeMaps Go.MapKept

def zcells : Array Value := (List.replicate 257 (Value.map none) ++ [Value.int .u64 0]).toArray
theorem Try.zeroWheel (w : World) : (zeroValue 83).run Try.prog w = .ok (.agg zcells) w := by kernel_rfl
theorem zcells_size : zcells.size = 258 := by kernel_rfl
theorem zcells_set (b : Nat) : zcells.setIfInBounds 256 (.map (some b)) = wcells (fun _ _ => none) b 0 := by kernel_rfl
def newW : WM := ⟨0, fun _ => none⟩
theorem newW_all : newW.all = fun _ => none := by funext x; simp [newW, WM.all]

set_option maxHeartbeats 1000000 in
set_option maxRecDepth 100000 in
theorem wnew_any (w : World) :
    Calls Try.prog 22 #[] w fun e w' => e = .returned (.pointer (some ⟨w.heap.size + 1, 0, none⟩)) ∧ WAt w' (w.heap.size + 1) newW (fun k => k = w.heap.size ∨ k = w.heap.size + 1) ∧ Below w.heap.size w w' := by
  have hmm := @run_makeMap Try.prog
  have hz := Try.zeroWheel
  have hs := zcells_size
  have hset := zcells_set w.heap.size
  go_enter Try.func22, Try.ntmps22
  go_wp2
  go_ret
  have hb := ((Below.refl w.heap.size w).alloc (Nat.le_refl _) (.map #[] 0)).alloc (by simp) (.cells (wcells (fun _ _ => none) w.heap.size 0) 83)
  have hblk : ((w.alloc (.map #[] 0)).alloc (.cells (wcells (fun _ _ => none) w.heap.size 0) 83)).heap[w.heap.size + 1]? = some (.cells (wcells (fun _ _ => none) w.heap.size 0) 83 (0, 0)) := by
    have := blk_new (w.alloc (.map #[] 0)) (.cells (wcells (fun _ _ => none) w.heap.size 0) 83)
    rwa [show (w.alloc (.map #[] 0)).heap.size = w.heap.size + 1 from by simp] at this
  have hall : MapAt Try.prog 3 spotE ((w.alloc (.map #[] 0)).alloc (.cells (wcells (fun _ _ => none) w.heap.size 0) 83)) w.heap.size 1000 newW.all := by
    rw [newW_all]
    exact ((MapAt.made w Try.prog 3 spotE).fr (F := fun _ => False) ((Fr.refl _ _).alloc _) (fun h => h)).mono (Nat.zero_le _)
  have hrow : ∀ l q x, newW.row l q x = none := fun l q x => by simp [WM.row, newW_all, inRow]
  have hlt : ∀ k, (k = w.heap.size ∨ k = w.heap.size + 1) → k < ((w.alloc (.map #[] 0)).alloc (.cells (wcells (fun _ _ => none) w.heap.size 0) 83)).heap.size := fun k hk => by simp; omega
  refine ⟨rfl, ⟨w.heap.size, fun _ _ => none, ?_⟩, hb⟩
  exact { mem := .inr rfl, lt := hlt, blk := hblk, all := ⟨.inl rfl, by omega, hall⟩, row := fun l q _ _ => hrow l q, apart := fun _ _ _ _ _ _ _ _ _ h => absurd h (by simp), ids := fun _ _ => rfl, spots := fun _ _ h => absurd h (by simp [newW]), time := (by show 0 < 4611686018427387904; decide) }

/-- How many there are. -/
def WM.count (M : WM) : Nat := (idsOf (fun i => (M.f i).isSome)).length
/-- What At answers. -/
def WM.atV (M : WM) (id : Int) : Value := match M.all id with
  | some s => .tuple #[.int .u64 s.at', .int .i64 0]
  | none => .tuple #[.int .u64 0, .int .i64 6]
theorem WPost.of_at {w w' : World} {p : Nat} {M : WM} {F : Nat → Prop} (h : WAt w' p M F) (hf : Fr F w w') : WPost w p M F w' := ⟨F, h, hf, Gro.refl F w⟩
theorem WPost.then {w w1 w2 : World} {p : Nat} {M : WM} {F : Nat → Prop} (hf : Fr F w w1) (h : WPost w1 p M F w2) : WPost w p M F w2 := by
  obtain ⟨F', a, b, c⟩ := h
  exact ⟨F', a, hf.trans b, fun k hk => (c k hk).imp id (fun h => Nat.le_trans hf.size h)⟩

/-- What Cancel answers, and leaves. -/
def WM.cancelC (M : WM) (id : Int) : Int := if (M.all id).isSome then 0 else 6
def WM.cancel (M : WM) (id : Int) : WM := if (M.all id).isSome then M.drop id.toNat else M
theorem all_some {M : WM} {id : Int} {s : Spot} (h : M.all id = some s) : id = (id.toNat : Int) ∧ M.f id.toNat = some s := by
  unfold WM.all at h
  split at h
  · exact ⟨by omega, h⟩
  · cases h
set_option maxHeartbeats 2000000 in
theorem wcancel_any (p : Nat) (M : WM) (F : Nat → Prop) (id : Int) (hk : kwf id) (w : World) (h : WAt w p M F) :
    Calls Try.prog 34 #[.pointer (some ⟨p, 0, none⟩), .int .i64 id] w fun e w' => e = .returned (.int .i64 (M.cancelC id)) ∧ WPost w p (M.cancel id) F w' := by
  have H0 := Box.mk h
  obtain ⟨ab, rb, h⟩ := h
  have c := (cell_blk h.blk 256).trans wcells_all
  have hl := h.all.2.2.look_ok Try.underlying3 Try.underlying78 (Try.zeroSpot w) hk
  clear h
  cases ho : M.all id with
  | none =>
    have HV : Box (M.cancelC id = 6 ∧ M.cancel id = M) := ⟨by unfold WM.cancelC WM.cancel; simp [ho]⟩
    rw [ho] at hl
    replace hl : (Instr.lookup 78 (.map (some ab)) (.int .i64 id) true).run Try.prog w = .ok (.tuple #[.agg #[.int .u64 0, .int .i64 0, .int .i64 0], .bool false]) w := hl
    clear ho
    go_enter Try.func34, Try.ntmps34
    go_wp2
    go_ret
    rw [HV.out.1, HV.out.2]
    have hf : Fr (fun _ => False) w (w.alloc (.cells #[.int .u64 0, .int .i64 0, .int .i64 0] 85)) := (Fr.refl _ w).alloc _
    exact ⟨rfl, WPost.of_at (H0.out.fr hf (fun _ _ h => h)) (hf.mono (fun _ _ h => h.elim))⟩
  | some s =>
    obtain ⟨e1, e2⟩ := all_some ho
    have HV : Box (M.cancelC id = 0 ∧ M.cancel id = M.drop id.toNat) := ⟨by unfold WM.cancelC WM.cancel; simp [ho]⟩
    have HD : Box (∀ w', Fr (fun _ => False) w w' → Calls Try.prog 32 #[.pointer (some ⟨p, 0, none⟩), .int .i64 id] w' fun e w'' => e = .returned (.tuple #[]) ∧ WAt w'' p (M.drop id.toNat) F ∧ Fr F w' w'') := ⟨fun w' hf => by
      have := drop_any p M F id.toNat s w' (H0.out.fr hf (fun _ _ h => h)) e2
      rwa [← e1] at this⟩
    obtain ⟨at', L, Q⟩ := s
    rw [ho] at hl
    replace hl : (Instr.lookup 78 (.map (some ab)) (.int .i64 id) true).run Try.prog w = .ok (.tuple #[.agg #[.int .u64 at', .int .i64 L, .int .i64 Q], .bool true]) w := hl
    clear ho e1 e2
    go_enter Try.func34, Try.ntmps34
    go_upto_region 4 with fail
    have hf : Fr (fun _ => False) w (w.alloc (.cells #[.int .u64 at', .int .i64 L, .int .i64 Q] 85)) := (Fr.refl _ w).alloc _
    generalize w.alloc (.cells #[.int .u64 at', .int .i64 L, .int .i64 Q] 85) = V at hf ⊢
    have HF := Box.mk hf
    clear hf
    go_wp2_with (go_at_call 32; refine (HD.out _ HF.out).mono ?_; rintro e w1 ⟨rfl, hw1, hf1⟩)
    go_ret
    rw [HV.out.1, HV.out.2]
    exact ⟨rfl, WPost.of_at hw1 ((HF.out.mono (fun _ _ h => h.elim)).trans hf1)⟩

theorem tickMay_yes (t : Nat) (h : t < 4611686018427387904) (w : World) : Calls Try.prog 23 #[.int .u64 t] w fun e w' => e = .returned (.bool true) ∧ w = w' := by
  have hi : (t : Int) < 4611686018427387904 := by omega
  go_enter Try.func23, Try.ntmps23
  go_wp2
  go_ret
  exact ⟨rfl, rfl⟩
theorem tickMay_no (t : Nat) (h : ¬ t < 4611686018427387904) (w : World) : Calls Try.prog 23 #[.int .u64 t] w fun e w' => e = .returned (.bool false) ∧ w = w' := by
  have hi : ¬ (t : Int) < 4611686018427387904 := by omega
  go_enter Try.func23, Try.ntmps23
  go_wp2
  go_ret
  exact ⟨rfl, rfl⟩
/-- What Set answers, and leaves. -/
def WM.setC (M : WM) (id : Int) (at' : Nat) : Int := if id < 0 ∨ 999 < id ∨ at' ≤ M.now then 1 else if 4611686018427387904 ≤ at' then 2 else 0
def WM.set (M : WM) (id : Int) (at' : Nat) : WM := if M.setC id at' = 0 then M.put id.toNat at' else M
theorem drop_put (M : WM) (i at' : Nat) : (M.drop i).put i at' = M.put i at' := by
  unfold WM.put WM.drop
  simp only [WM.mk.injEq, true_and]
  funext j
  unfold updF
  split <;> rfl
set_option maxHeartbeats 4000000 in
theorem wset_any (p : Nat) (M : WM) (F : Nat → Prop) (id : Int) (at' : Nat) (hk : kwf id) (hat : at' ≤ 18446744073709551615) (w : World) (h : WAt w p M F) :
    Calls Try.prog 26 #[.pointer (some ⟨p, 0, none⟩), .int .i64 id, .int .u64 at'] w fun e w' => e = .returned (.int .i64 (M.setC id at')) ∧ WPost w p (M.set id at') F w' := by
  have H0 := Box.mk h
  obtain ⟨ab, rb, h⟩ := h
  have c := (cell_blk h.blk 256).trans wcells_all
  have c2 := (cell_blk h.blk 257).trans wcells_now
  have hl := h.all.2.2.look_ok Try.underlying3 Try.underlying78 (Try.zeroSpot w) hk
  have htm := h.time
  clear h
  have hsame : ∀ (c : Int), c ≠ 0 → M.setC id at' = c → Box (M.setC id at' = c ∧ WPost w p (M.set id at') F w) := fun c hc e => ⟨e, by
    have : M.set id at' = M := by unfold WM.set; rw [if_neg (by rw [e]; exact hc)]
    rw [this]
    exact WPost.of_at H0.out (Fr.refl _ _)⟩
  by_cases h0 : id < 0
  · have HV := hsame 1 (by simp) (by unfold WM.setC; rw [if_pos (.inl h0)])
    clear hsame hl
    go_enter Try.func26, Try.ntmps26
    go_wp2
    go_ret
    rw [HV.out.1]
    exact ⟨rfl, HV.out.2⟩
  · by_cases h9 : 999 < id
    · have HV := hsame 1 (by simp) (by unfold WM.setC; rw [if_pos (.inr (.inl h9))])
      clear hsame hl
      go_enter Try.func26, Try.ntmps26
      go_wp2
      go_ret
      rw [HV.out.1]
      exact ⟨rfl, HV.out.2⟩
    · by_cases hle : at' ≤ M.now
      · have HV := hsame 1 (by simp) (by unfold WM.setC; rw [if_pos (.inr (.inr hle))])
        have hli : (at' : Int) ≤ M.now := by omega
        clear hsame hl hle
        go_enter Try.func26, Try.ntmps26
        go_wp2
        go_ret
        rw [HV.out.1]
        exact ⟨rfl, HV.out.2⟩
      · have hli : ¬ (at' : Int) ≤ M.now := by omega
        by_cases hla : 4611686018427387904 ≤ at'
        · have HV := hsame 2 (by simp) (by unfold WM.setC; rw [if_neg (by omega), if_pos hla])
          have hlai : ¬ (at' : Int) < 4611686018427387904 := by omega
          clear hsame hl hle hla
          go_enter Try.func26, Try.ntmps26
          go_wp2
          go_ret
          rw [HV.out.1]
          exact ⟨rfl, HV.out.2⟩
        · have hlai : (at' : Int) < 4611686018427387904 := by omega
          have HV : Box (M.setC id at' = 0 ∧ M.set id at' = M.put id.toNat at') := ⟨by
            have e : M.setC id at' = 0 := by unfold WM.setC; rw [if_neg (by omega), if_neg hla]
            exact ⟨e, by unfold WM.set; rw [if_pos e]⟩⟩
          have hid : id = (id.toNat : Int) := by omega
          have HMAY := Box.mk (tickMay_yes at' (by omega))
          cases ho : M.all id with
          | none =>
            have e2 : M.f id.toNat = none := by
              unfold WM.all at ho
              rwa [if_pos (by omega)] at ho
            have HP : Box (∀ w', Fr (fun _ => False) w w' → Calls Try.prog 33 #[.pointer (some ⟨p, 0, none⟩), .int .i64 id, .int .u64 at'] w' fun e w'' => e = .returned (.tuple #[]) ∧ WPost w' p (M.put id.toNat at') F w'') := ⟨fun w' hf => by
              have := put_any p M F id.toNat at' w' (H0.out.fr hf (fun _ _ h => h)) (by omega) e2 (by omega)
              rwa [← hid] at this⟩
            rw [ho] at hl
            replace hl : (Instr.lookup 78 (.map (some ab)) (.int .i64 id) true).run Try.prog w = .ok (.tuple #[.agg #[.int .u64 0, .int .i64 0, .int .i64 0], .bool false]) w := hl
            clear ho e2 hid hsame hle hla
            go_enter Try.func26, Try.ntmps26
            go_upto_region 8 with (go_at_call 23; refine (HMAY.out _).mono ?_; rintro e w1 ⟨rfl, rfl⟩)
            have hf : Fr (fun _ => False) w (w.alloc (.cells #[.int .u64 0, .int .i64 0, .int .i64 0] 85)) := (Fr.refl _ w).alloc _
            generalize w.alloc (.cells #[.int .u64 0, .int .i64 0, .int .i64 0] 85) = V at hf ⊢
            have HF := Box.mk hf
            clear hf
            go_wp2_with (go_at_call 33; refine (HP.out _ HF.out).mono ?_; rintro e w1 ⟨rfl, hw1⟩)
            go_ret
            rw [HV.out.1, HV.out.2]
            exact ⟨rfl, WPost.then (HF.out.mono (fun _ _ h => h.elim)) hw1⟩
          | some s =>
            obtain ⟨-, e2⟩ := all_some ho
            have HD : Box (∀ w', Fr (fun _ => False) w w' → Calls Try.prog 32 #[.pointer (some ⟨p, 0, none⟩), .int .i64 id] w' fun e w'' => e = .returned (.tuple #[]) ∧ WAt w'' p (M.drop id.toNat) F ∧ Fr F w' w'') := ⟨fun w' hf => by
              have := drop_any p M F id.toNat s w' (H0.out.fr hf (fun _ _ h => h)) e2
              rwa [← hid] at this⟩
            have HP : Box (∀ w', WAt w' p (M.drop id.toNat) F → Calls Try.prog 33 #[.pointer (some ⟨p, 0, none⟩), .int .i64 id, .int .u64 at'] w' fun e w'' => e = .returned (.tuple #[]) ∧ WPost w' p (M.put id.toNat at') F w'') := ⟨fun w' hw => by
              have := put_any p (M.drop id.toNat) F id.toNat at' w' hw (by omega) (by show updF M.f _ none _ = none; unfold updF; rw [if_pos rfl]) (by omega)
              rw [← hid, drop_put] at this
              exact this⟩
            obtain ⟨a0, L, Q⟩ := s
            rw [ho] at hl
            replace hl : (Instr.lookup 78 (.map (some ab)) (.int .i64 id) true).run Try.prog w = .ok (.tuple #[.agg #[.int .u64 a0, .int .i64 L, .int .i64 Q], .bool true]) w := hl
            clear ho e2 hid hsame hle hla
            go_enter Try.func26, Try.ntmps26
            go_upto_region 7 with (go_at_call 23; refine (HMAY.out _).mono ?_; rintro e w1 ⟨rfl, rfl⟩)
            have hf : Fr (fun _ => False) w (w.alloc (.cells #[.int .u64 a0, .int .i64 L, .int .i64 Q] 85)) := (Fr.refl _ w).alloc _
            generalize w.alloc (.cells #[.int .u64 a0, .int .i64 L, .int .i64 Q] 85) = V at hf ⊢
            have HF := Box.mk hf
            clear hf
            go_wp2_with (first
              | (go_at_call 32; refine (HD.out _ HF.out).mono ?_; rintro e w1 ⟨rfl, hw1, hf1⟩; have HW1 := Box.mk hw1)
              | (go_at_call 33; refine (HP.out _ HW1.out).mono ?_; rintro e w2 ⟨rfl, hw2⟩))
            go_ret
            rw [HV.out.1, HV.out.2]
            exact ⟨rfl, WPost.then (HF.out.mono (fun _ _ h => h.elim)) (WPost.then hf1 hw2)⟩

end Go.Proofs.Ytbodnmcaipakcaa
