/-
  The document's wheel: the walk of 'Cancel'.
-/
import Derived.Test.YthlaebleaooeiaaRwA
import Derived.Deep.DeepCutAuto
import Derived.Deep.CutBlock
namespace Go.Proofs.Ythlaebleaooeiaa
open Go.RowKit

set_option maxHeartbeats 8000000 in
set_option maxRecDepth 100000 in
theorem rwcancel_core (p : Nat) (L : List Tm) (now : Nat) (G : Nat → Prop) (x : Int) (w : World) (h : RW w p L now G) (hlen : L.length ≤ 1000000) (k : Nat) (hk : k < L.length) (hq : FindR L x (k : Int)) :
    Calls Try.prog 17 #[.pointer (some ⟨p, 0, none⟩), .int .i64 x] w fun e w' => e = .returned (.int .i64 0) ∧ RWPost w p (L.take k ++ L.drop (k + 1)) now G w' := by
  have H := Box.mk h
  have HQ := Box.mk (rwfind_any p L now G x (k : Int) w h hq)
  obtain ⟨a, c, hb, hr⟩ := h.at'
  have hc0 := cell_blk hb 0
  have hpl := lt_blk hb
  have HF0 := Lib.hid (free_blk hb 0)
  simp only [List.getElem?_toArray, List.getElem?_cons_zero] at hc0
  obtain ⟨i0, hi, hz0, hz1, hz2⟩ := info_parts Try.infoTm
  obtain ⟨n, hn⟩ : ∃ n, L.length = n := ⟨_, rfl⟩
  have HN := Lib.hid hn
  rw [hn] at hlen hc0 hk
  have HP0 := Lib.hid hc0
  clear h hb hq
  obtain ⟨g, off, rfl, hGg, _, hlc, hcm, hcell⟩ : ∃ g off, a = some ⟨g, off, none⟩ ∧ G g ∧ g ≠ p ∧ L.length ≤ c ∧ c ≤ 9223372036854775807 ∧ ∀ j u, (tcells L)[j]? = some u → w.cell? ⟨g, off + j, none⟩ = some u := by
    rcases hr with ⟨_, e, _⟩ | h
    · rw [← hn, e] at hk; simp at hk
    · exact h
  rw [hn] at hlc
  have hgl := H.out.lt g hGg
  have HWL : Box ((tcells (L.take k)).length = k * 2) := ⟨by rw [tcells_len, List.length_take, hn]; omega⟩
  have HWD : Box ((tcells (L.drop (k + 1))).length = (n - (k + 1)) * 2) := ⟨by rw [tcells_len, List.length_drop, hn]⟩
  have HL' : Box ((L.take k ++ L.drop (k + 1)).length = k + (n - (k + 1)) ∧ tcells (L.take k ++ L.drop (k + 1)) = tcells (L.take k) ++ tcells (L.drop (k + 1))) := ⟨by
    constructor
    · simp only [List.length_append, List.length_take, List.length_drop, hn]; omega
    · rw [tcells_append]⟩
  have HS1 : Box (SrcAt w (some ⟨g, off, none⟩) k (tcells (L.take k))) := ⟨src_take hgl hcell⟩
  obtain ⟨A, hA, hA2⟩ : ∃ A : Addr, (if c = k + 1 then some ⟨g, off, none⟩ else some ⟨g, off + (k + 1) * 2, none⟩ : Option Addr) = some A ∧ (k + 1 < n → A = ⟨g, off + (k + 1) * 2, none⟩) := by
    by_cases e : c = k + 1
    · exact ⟨_, if_pos e, fun h => by omega⟩
    · exact ⟨_, if_neg e, fun _ => rfl⟩
  have HS2 : Box (SrcAt w (some A) (n - (k + 1)) (tcells (L.drop (k + 1)))) := ⟨by rw [← hn]; exact src_drop hgl (by rw [hn]; exact hk) hcell A (by rw [hn]; exact hA2)⟩
  clear hr hcell hA2 hn
  have hk0 : (0 : Int) ≤ k := by omega
  have hsum : IntKind.i64.wrap ((k : Int) + 1) = (k : Int) + 1 := IntWalk.i64_in _ (by omega)
  have hsn : ((k : Int) + 1).toNat = k + 1 := by omega
  have hs0 : (0 : Int) ≤ (k : Int) + 1 := by omega
  have hkn : (k : Int) + 1 ≤ n := by omega
  have hkc : (k : Int) + 1 ≤ c := by omega
  have hkc1 : (k : Int) ≤ c := by omega
  have hkn1 : k + 1 ≤ n := hk
  go_enter Try.func17, Try.ntmps17
  go_upto_region 4 with (go_at_call 28; (with_reducible refine HQ.out.mono ?_); rintro e w1 ⟨rfl, rfl⟩)
  go_region_law (first
    | (refine step_append_row _ rfl (.tmp 12) (.tmp 18) 46 rfl w.heap.size 72 i0 (.agg #[.int .i64 0, .int .u64 0]) 2 16 Try.underlying46 hi hz0 hz1 hz2 rfl (by decide) (.slice (some ⟨w.heap.size, 0, none⟩) 0 0) 0 [] (by simp [Act.eval, Act.put]) (ownA w 72 2) (some ⟨g, off, none⟩) k c (tcells (L.take k)) (by simp [Act.eval, Act.put]) HWL.out (HS1.out.later (belA w 72)) tcells_one (by unfold maxLen; omega) (by omega) (belA w 72).size k (by simp) (some (w.heap.size)) rfl ?_; intro a1 c1 w3 ho3 hg3 _; have HM2 := Lib.hid (Mid.of (xs := tcells (L.take k)) (by simpa using ho3) (belA w 72) hg3 (fun b e => by simp at e; omega)); have hp3 := (HM2.out.bel.cell (p := ⟨p, 0, none⟩) hpl).trans HP0.out; have hpl3 := Nat.lt_of_lt_of_le hpl HM2.out.bel.size; clear ho3 hg3)
    | (refine step_append_row _ rfl (.tmp 19) (.tmp 26) 46 rfl w.heap.size 72 i0 (.agg #[.int .i64 0, .int .u64 0]) 2 16 Try.underlying46 hi hz0 hz1 hz2 rfl (by decide) (.slice a1 k c1) k (tcells (L.take k)) (by simp [Act.eval, Act.put]) HM2.out.own (some A) (n - (k + 1)) (c - (k + 1)) (tcells (L.drop (k + 1))) (by simp [Act.eval, Act.put, hA]) HWD.out (HS2.out.later HM2.out.bel) tcells_one (by unfold maxLen; omega) (by omega) HM2.out.bel.size (k + (n - (k + 1))) (by omega) _ rfl ?_; intro a3 c3 w5 ho5 hg5 _; have HZ := Lib.hid (HM2.out.fin rfl (Below.refl _ _) ho5 hg5); have hp5 := (HZ.out.bel.cell (p := ⟨p, 0, none⟩) hpl).trans HP0.out; have hf5 := (HZ.out.bel.frozen (p := ⟨p, 0, none⟩) hpl).trans HF0.out; clear ho5 hg5))
  all_goals
    go_wp2
    go_ret
    exact ⟨rfl, rw_store H.out HL'.out.1 (by rw [HL'.out.2]; exact HZ.out)⟩

/-- What Cancel leaves. -/
def CanR (L L' : List Tm) (x c : Int) : Prop := TSort L' ∧ (∀ m, m ∈ L' ↔ m ∈ L ∧ m.id ≠ x) ∧ L'.length ≤ L.length ∧ ((c = 0 ∧ ∃ m ∈ L, m.id = x) ∨ (c = 6 ∧ L' = L ∧ ∀ m ∈ L, m.id ≠ x))
theorem rwcancel_any (p : Nat) (L : List Tm) (now : Nat) (G : Nat → Prop) (x : Int) (w : World) (h : RW w p L now G) (hlen : L.length ≤ 1000000) (hs : TSort L) (hu : TUniq L) :
    Calls Try.prog 17 #[.pointer (some ⟨p, 0, none⟩), .int .i64 x] w fun e w' => ∃ L' c, e = .returned (.int .i64 c) ∧ CanR L L' x c ∧ RWPost w p L' now G w' := by
  obtain ⟨r, hr⟩ := findR_ex L x
  have hr0 := hr
  rcases hr with ⟨k, rfl, hk, h1, _⟩ | ⟨rfl, h1⟩
  · refine (rwcancel_core p L now G x w h hlen k hk hr0).mono fun e w' ⟨h2, h3⟩ => ⟨_, 0, h2, ⟨tdrop_sort hs k, fun m => ?_, ?_, .inl ⟨rfl, _, List.getElem_mem hk, h1⟩⟩, h3⟩
    · rw [tdrop_mem hs hu hk, h1]
    · simp only [List.length_append, List.length_take, List.length_drop]; omega
  · have HF := Box.mk (rwfind_any p L now G x _ w h hr0)
    have HE : Box (CanR L L x 6 ∧ RWPost w p L now G w) := ⟨⟨hs, fun m => ⟨fun hm => ⟨hm, h1 m hm⟩, fun hm => hm.1⟩, Nat.le_refl _, .inr ⟨rfl, rfl, h1⟩⟩, G, h, Fr.refl _ _, Gro.refl _ _⟩
    clear h1 h hs hu hr0
    go_enter Try.func17, Try.ntmps17
    go_wp2_with (go_at_call 28; (with_reducible refine HF.out.mono ?_); rintro e w1 ⟨rfl, rfl⟩)
    go_ret
    exact ⟨L, 6, rfl, HE.out⟩

end Go.Proofs.Ythlaebleaooeiaa
