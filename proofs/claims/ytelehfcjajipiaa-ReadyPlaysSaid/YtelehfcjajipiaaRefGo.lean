/-
  The document's 'Go'.
-/
import Derived.Test.YtelehfcjajipiaaRefR
import Derived.Deep.DeepCutAuto
import Derived.Deep.CutBlock
import Derived.Deep.RegionLawGrows
namespace Go.Proofs.Ytelehfcjajipiaa.readyPlays
open Go.RowKit Go.Proofs.Ytelehfcjajipiaa

set_option maxHeartbeats 8000000 in
set_option maxRecDepth 100000 in
theorem rgo_core (p : Nat) (L : List MemM) (G : Nat → Prop) (x : Int) (w : World) (h : RQ w p L G) (hlen : L.length ≤ 1000000) (k : Nat) (hk : k < L.length) (hq : idx x (ids L) = (k : Int)) :
    Calls Try.prog 15 #[.pointer (some ⟨p, 0, none⟩), .int .i64 x] w (RPost w p (L.take k ++ L.drop (k + 1)) G 0) := by
  have H := Lib.hid h
  have HQ := Lib.hid hq
  obtain ⟨a, c, hb, hr⟩ := h.at'
  have hc0 := cell_blk hb 0
  have hpl := lt_blk hb
  have HF0 := Lib.hid (free_blk hb 0)
  simp only [List.getElem?_toArray, List.getElem?_cons_zero] at hc0
  obtain ⟨i0, hi, hz0, hz1, hz2⟩ := info_parts Try.infoMem
  obtain ⟨n, hn⟩ : ∃ n, L.length = n := ⟨_, rfl⟩
  have HN := Lib.hid hn
  rw [hn] at hlen hc0 hk
  have HP0 := Lib.hid hc0
  clear h hb hq
  obtain ⟨g, rfl, hGg, _, hlc, hcm, hcell⟩ : ∃ g, a = some ⟨g, 0, none⟩ ∧ G g ∧ g ≠ p ∧ L.length ≤ c ∧ c ≤ 9223372036854775807 ∧ ∀ j u, (mcells L)[j]? = some u → w.cell? ⟨g, j, none⟩ = some u := by
    rcases hr with ⟨_, e, _⟩ | h
    · rw [← hn, e] at hk; simp at hk
    · exact h
  rw [hn] at hlc
  have hgl := H.out.lt g hGg
  have HWL : Box ((mcells (L.take k)).length = k * 2) := ⟨by rw [mcells_len, List.length_take, hn]; omega⟩
  have HWD : Box ((mcells (L.drop (k + 1))).length = (n - (k + 1)) * 2) := ⟨by rw [mcells_len, List.length_drop, hn]⟩
  have HL' : Box ((L.take k ++ L.drop (k + 1)).length = k + (n - (k + 1)) ∧ mcells (L.take k ++ L.drop (k + 1)) = mcells (L.take k) ++ mcells (L.drop (k + 1))) := ⟨by
    constructor
    · simp only [List.length_append, List.length_take, List.length_drop, hn]; omega
    · rw [mcells_append]⟩
  have HS1 : Box (SrcAt w (some ⟨g, 0, none⟩) k (mcells (L.take k))) := ⟨src_take hgl hcell⟩
  obtain ⟨A, hA, hA2⟩ : ∃ A : Addr, (if c = k + 1 then some ⟨g, 0, none⟩ else some ⟨g, (k + 1) * 2, none⟩ : Option Addr) = some A ∧ (k + 1 < n → A = ⟨g, (k + 1) * 2, none⟩) := by
    by_cases e : c = k + 1
    · exact ⟨_, if_pos e, fun h => by omega⟩
    · exact ⟨_, if_neg e, fun _ => rfl⟩
  have HS2 : Box (SrcAt w (some A) (n - (k + 1)) (mcells (L.drop (k + 1)))) := ⟨by rw [← hn]; exact src_drop hgl (by rw [hn]; exact hk) hcell A (by rw [hn]; exact hA2)⟩
  clear hr hcell hA2 hn
  have hk0 : (0 : Int) ≤ k := by omega
  have hsum : IntKind.i64.wrap ((k : Int) + 1) = (k : Int) + 1 := IntWalk.i64_in _ (by omega)
  have hsn : ((k : Int) + 1).toNat = k + 1 := by omega
  have hs0 : (0 : Int) ≤ (k : Int) + 1 := by omega
  have hkn : (k : Int) + 1 ≤ n := by omega
  have hkc : (k : Int) + 1 ≤ c := by omega
  have hkc1 : (k : Int) ≤ c := by omega
  have hkn1 : k + 1 ≤ n := hk
  go_enter Try.func15, Try.ntmps15
  go_upto_region 4 with (go_at_call 27; refine (rfind_any p L G x _ H.out).mono ?_; rintro e w1 ⟨rfl, rfl⟩; rw [HQ.out])
  go_region_law (first
    | (refine step_append_row _ rfl (.tmp 12) (.tmp 18) 41 rfl w.heap.size 58 i0 (.agg #[.int .i64 0, .int .i64 0]) 2 16 Try.underlying41 hi hz0 hz1 hz2 rfl (by decide) (.slice (some ⟨w.heap.size, 0, none⟩) 0 0) 0 [] (by simp [Act.eval, Act.put]) (ownA w 58 2) (some ⟨g, 0, none⟩) k c (mcells (L.take k)) (by simp [Act.eval, Act.put]) HWL.out (HS1.out.later (belA w 58)) mcells_one (by unfold maxLen; omega) (by omega) (belA w 58).size k (by simp) (some (w.heap.size)) rfl ?_; intro a1 c1 w3 ho3 hg3 _; have HM2 := Lib.hid (Mid.of (xs := mcells (L.take k)) (by simpa using ho3) (belA w 58) hg3 (fun b e => by simp at e; omega)); have hp3 := (HM2.out.bel.cell (p := ⟨p, 0, none⟩) hpl).trans HP0.out; have hpl3 := Nat.lt_of_lt_of_le hpl HM2.out.bel.size; clear ho3 hg3)
    | (refine step_append_row _ rfl (.tmp 19) (.tmp 26) 41 rfl w.heap.size 58 i0 (.agg #[.int .i64 0, .int .i64 0]) 2 16 Try.underlying41 hi hz0 hz1 hz2 rfl (by decide) (.slice a1 k c1) k (mcells (L.take k)) (by simp [Act.eval, Act.put]) HM2.out.own (some A) (n - (k + 1)) (c - (k + 1)) (mcells (L.drop (k + 1))) (by simp [Act.eval, Act.put, hA]) HWD.out (HS2.out.later HM2.out.bel) mcells_one (by unfold maxLen; omega) (by omega) HM2.out.bel.size (k + (n - (k + 1))) (by omega) _ rfl ?_; intro a3 c3 w5 ho5 hg5 _; have HZ := Lib.hid (HM2.out.fin rfl (Below.refl _ _) ho5 hg5); have hp5 := (HZ.out.bel.cell (p := ⟨p, 0, none⟩) hpl).trans HP0.out; have hf5 := (HZ.out.bel.frozen (p := ⟨p, 0, none⟩) hpl).trans HF0.out; clear ho5 hg5))
  all_goals
    go_wp2
    go_ret
    exact ⟨rfl, store_end H.out HL'.out.1 (by rw [HL'.out.2]; exact HZ.out)⟩

theorem rgo_any (p : Nat) (r : Nat → List Int) (n : Nat) (hg : Good r n) (hn : n ≤ 1000000) (G : Nat → Prop) (x : Int) (w : World) (h : RQ w p (catM r 101) G) :
    Calls Try.prog 15 #[.pointer (some ⟨p, 0, none⟩), .int .i64 x] w (RPost w p (catM (goR r x) 101) G (goC r x)) := by
  by_cases hf : 0 ≤ idx x (ids (catM r 101))
  · obtain ⟨k, hk, h1, h2, h3⟩ := idx_spec (idx_lt.1 hf)
    have hkl : k < (catM r 101).length := by rw [← ids_len]; exact hk
    have hx : (catM r 101)[k].id = x := by rw [← ids_get hkl]; exact h2
    have hc : goC r x = 0 := by unfold goC; rw [if_pos (find_in.1 hf)]
    have he := go_at hg.uniq hg.nd hkl hx
    rw [hc, ← he]
    exact rgo_core p _ G x w h (Nat.le_trans hg.all hn) k hkl h1
  · have hns : (prio r x).isSome = false := Bool.eq_false_iff.2 (fun e => hf (find_in.2 e))
    have hpn : prio r x = none := by cases e : prio r x with | none => rfl | some _ => rw [e] at hns; cases hns
    have hc : goC r x = 6 := by unfold goC; rw [hns]; rfl
    have hr : goR r x = r := by unfold goR; rw [hpn]
    obtain ⟨q, hq⟩ : ∃ q, idx x (ids (catM r 101)) = q := ⟨_, rfl⟩
    have HQ := Lib.hid hq
    rw [hq] at hf
    have H := Lib.hid h
    have HR : Box (goC r x = 6 ∧ goR r x = r) := ⟨hc, hr⟩
    clear h hc hr hq hns hpn
    go_enter Try.func15, Try.ntmps15
    go_wp2_with (go_at_call 27; refine (rfind_any p (catM r 101) G x _ H.out).mono ?_; rintro e w1 ⟨rfl, rfl⟩; rw [HQ.out])
    go_ret
    rw [HR.out.1, HR.out.2]
    exact ⟨rfl, G, H.out, Fr.refl _ _, Gro.refl _ _⟩

end Go.Proofs.Ytelehfcjajipiaa.readyPlays
