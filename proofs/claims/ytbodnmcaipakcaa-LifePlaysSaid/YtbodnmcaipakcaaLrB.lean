/-
  The document's book: a request has come out; Answer, Cancel.
-/
import Derived.Test.YtbodnmcaipakcaaLrA
import Derived.Deep.DeepCutAuto
import Derived.Deep.CutBlock
namespace Go.Proofs.Ytbodnmcaipakcaa
open Go.RowKit

/-- What a call leaves of the document's book. -/
def RK (w : World) (q cost now : Nat) (L : List Tm) (fs : List FateM) (G : Nat → Prop) : Prop := ∃ a c fv, RB w q cost now L fs a c fv ∧ G = RF q a fv
def RKPost (w : World) (q cost now : Nat) (L : List Tm) (fs : List FateM) (G : Nat → Prop) (w' : World) : Prop := ∃ G', RK w' q cost now L fs G' ∧ Fr G w w' ∧ Gro G G' w
theorem RK.lt {w : World} {q cost now : Nat} {L : List Tm} {fs : List FateM} {G : Nat → Prop} (h : RK w q cost now L fs G) {k : Nat} (hk : G k) : k < w.heap.size := by
  obtain ⟨a, c, fv, h, rfl⟩ := h
  exact h.lt hk
theorem RK.fr {w w' : World} {q cost now : Nat} {L : List Tm} {fs : List FateM} {G F : Nat → Prop} (h : RK w q cost now L fs G) (hf : Fr F w w') (hG : ∀ k, G k → ¬ F k) : RK w' q cost now L fs G := by
  obtain ⟨a, c, fv, h, rfl⟩ := h
  exact ⟨a, c, fv, h.fr hf hG, rfl⟩
theorem RK.later {w w' : World} {q cost now : Nat} {L : List Tm} {fs : List FateM} {G : Nat → Prop} (h : RK w q cost now L fs G) (hb : Below w.heap.size w w') : RK w' q cost now L fs G := h.fr (Fr.of_below (F := fun _ => False) hb) (fun _ _ h => h)
theorem RKPost.same {w : World} {q cost now : Nat} {L : List Tm} {fs : List FateM} {G : Nat → Prop} (h : RK w q cost now L fs G) : RKPost w q cost now L fs G w := ⟨G, h, Fr.refl _ _, Gro.refl _ _⟩

set_option maxHeartbeats 4000000 in
theorem rbout_none (q cost now : Nat) (L : List Tm) (fs : List FateM) (G : Nat → Prop) (id kind why : Int) (w : World) (h : RK w q cost now L fs G) (hn : FindR L id (-1)) :
    Calls Try.prog 31 #[.pointer (some ⟨q, 0, none⟩), .int .i64 id, .int .i64 kind, .int .i64 why] w fun e w' => e = .returned (.int .i64 6) ∧ w = w' := by
  obtain ⟨a, c, fv, h, rfl⟩ := h
  have HQ := Box.mk (rbfind_any q cost now L fs a c fv id (-1) w h hn)
  clear h hn
  go_enter Try.func31, Try.ntmps31
  go_wp2_with (go_at_call 30; (with_reducible refine HQ.out.mono ?_); rintro e w1 ⟨rfl, rfl⟩)
  go_ret
  exact ⟨rfl, rfl⟩

set_option maxHeartbeats 8000000 in
set_option maxRecDepth 100000 in
theorem rbout_some (q cost now : Nat) (L : List Tm) (fs : List FateM) (G : Nat → Prop) (id kind why : Int) (w : World) (h : RK w q cost now L fs G) (hlen : L.length ≤ 1000000) (hfl : fs.length ≤ 1000000) (k : Nat) (hk : k < L.length) (hq : FindR L id (k : Int)) :
    Calls Try.prog 31 #[.pointer (some ⟨q, 0, none⟩), .int .i64 id, .int .i64 kind, .int .i64 why] w fun e w' => e = .returned (.int .i64 0) ∧ RKPost w q cost now (L.take k ++ L.drop (k + 1)) (fs ++ [⟨id, kind, why⟩]) G w' := by
  obtain ⟨a, c, fv, h, rfl⟩ := h
  obtain ⟨fo, fc, rfl⟩ := ownsRow_slice h.out
  have H := Box.mk h
  have HQ := Box.mk (rbfind_any q cost now L fs a c _ id (k : Int) w h hq)
  have hb := h.blk
  have hr := h.row
  have hc0 := h.c2
  have hpl := lt_blk hb
  have HF0 := Lib.hid (h.free 2)
  obtain ⟨i0, hi, hz0, hz1, hz2⟩ := info_parts Try.infoTm
  obtain ⟨n, hn⟩ : ∃ n, L.length = n := ⟨_, rfl⟩
  have HN := Lib.hid hn
  rw [hn] at hlen hc0 hk
  have HP0 := Lib.hid hc0
  clear h hb hq
  obtain ⟨g, off, rfl, hgl, hlc, hcm, hcell⟩ : ∃ g off, a = some ⟨g, off, none⟩ ∧ g < w.heap.size ∧ L.length ≤ c ∧ c ≤ 9223372036854775807 ∧ ∀ j u, (tcells L)[j]? = some u → w.cell? ⟨g, off + j, none⟩ = some u := by
    rcases hr with ⟨_, e, _⟩ | ⟨g, off, e, hg, _, h⟩
    · rw [← hn, e] at hk; simp at hk
    · exact ⟨g, off, e, hg.1, h⟩
  rw [hn] at hlc
  have HWL : Box ((tcells (L.take k)).length = k * 2) := ⟨by rw [tcells_len, List.length_take, hn]; omega⟩
  have HWD : Box ((tcells (L.drop (k + 1))).length = (n - (k + 1)) * 2) := ⟨by rw [tcells_len, List.length_drop, hn]⟩
  have HL' : Box ((L.take k ++ L.drop (k + 1)).length = k + (n - (k + 1)) ∧ tcells (L.take k ++ L.drop (k + 1)) = tcells (L.take k) ++ tcells (L.drop (k + 1))) := ⟨by
    constructor
    · simp only [List.length_append, List.length_take, List.length_drop, hn]; omega
    · rw [tcells_append]⟩
  have HS1 : Box (SrcAt w (some ⟨g, off, none⟩) k (tcells (L.take k))) := ⟨src_take hgl hcell⟩
  obtain ⟨A, hA, hA2⟩ : ∃ A : Addr, (if c = k + 1 then some ⟨g, off, none⟩ else some ⟨g, off + (k + 1) * 2, none⟩ : Option Addr) = some A ∧ (k + 1 < n → A = ⟨g, off + (k + 1) * 2, none⟩) := by
    by_cases e : c = k + 1
    · exact ⟨_, if_pos e, fun h => by omega⟩
    · exact ⟨_, if_neg e, fun _ => rfl⟩
  have HS2 : Box (SrcAt w (some A) (n - (k + 1)) (tcells (L.drop (k + 1)))) := ⟨by rw [← hn]; exact src_drop hgl (by rw [hn]; exact hk) hcell A (by rw [hn]; exact hA2)⟩
  clear hr hcell hA2 hn
  have hk0 : (0 : Int) ≤ k := by omega
  have hsum : IntKind.i64.wrap ((k : Int) + 1) = (k : Int) + 1 := IntWalk.i64_in _ (by omega)
  have hsn : ((k : Int) + 1).toNat = k + 1 := by omega
  have hs0 : (0 : Int) ≤ (k : Int) + 1 := by omega
  have hkn : (k : Int) + 1 ≤ n := by omega
  have hkc : (k : Int) + 1 ≤ c := by omega
  have hkc1 : (k : Int) ≤ c := by omega
  have hkn1 : k + 1 ≤ n := hk
  go_enter Try.func31, Try.ntmps31
  go_upto_region 4 with (go_at_call 30; (with_reducible refine HQ.out.mono ?_); rintro e w1 ⟨rfl, rfl⟩)
  go_cut [] (fun wx => ∃ a' c', Box (RB wx q cost now (L.take k ++ L.drop (k + 1)) fs a' c' (.slice fo fs.length fc) ∧ Fr (fun k => k = q) w wx ∧ Gro (RF q (some ⟨g, off, none⟩) (.slice fo fs.length fc)) (RF q a' (.slice fo fs.length fc)) w))
  case first =>
    go_region_law (first
      | (refine step_append_row _ rfl (.tmp 16) (.tmp 22) 53 rfl w.heap.size 58 i0 (.agg #[.int .i64 0, .int .u64 0]) 2 16 Try.underlying53 hi hz0 hz1 hz2 rfl (by decide) (.slice (some ⟨w.heap.size, 0, none⟩) 0 0) 0 [] (by simp [Act.eval, Act.put]) (ownA w 58 2) (some ⟨g, off, none⟩) k c (tcells (L.take k)) (by simp [Act.eval, Act.put]) HWL.out (HS1.out.later (belA w 58)) tcells_one (by unfold maxLen; omega) (by omega) (belA w 58).size k (by simp) (some (w.heap.size)) rfl ?_; intro a1 c1 w3 ho3 hg3 _; have HM2 := Lib.hid (Mid.of (xs := tcells (L.take k)) (by simpa using ho3) (belA w 58) hg3 (fun b e => by simp at e; omega)); have hp3 := (HM2.out.bel.cell (p := ⟨q, 2, none⟩) hpl).trans HP0.out; have hpl3 := Nat.lt_of_lt_of_le hpl HM2.out.bel.size; clear ho3 hg3)
      | (refine step_append_row _ rfl (.tmp 23) (.tmp 30) 53 rfl w.heap.size 58 i0 (.agg #[.int .i64 0, .int .u64 0]) 2 16 Try.underlying53 hi hz0 hz1 hz2 rfl (by decide) (.slice a1 k c1) k (tcells (L.take k)) (by simp [Act.eval, Act.put]) HM2.out.own (some A) (n - (k + 1)) (c - (k + 1)) (tcells (L.drop (k + 1))) (by simp [Act.eval, Act.put, hA]) HWD.out (HS2.out.later HM2.out.bel) tcells_one (by unfold maxLen; omega) (by omega) HM2.out.bel.size (k + (n - (k + 1))) (by omega) _ rfl ?_; intro a3 c3 w5 ho5 hg5 _; have HZ := Lib.hid (HM2.out.fin rfl (Below.refl _ _) ho5 hg5); have hp5 := (HZ.out.bel.cell (p := ⟨q, 2, none⟩) hpl).trans HP0.out; have hf5 := (HZ.out.bel.frozen (p := ⟨q, 2, none⟩) hpl).trans HF0.out; clear ho5 hg5))
    all_goals
      go_wp2
      go_meet
      exact ⟨_, _, ⟨H.out.setL HL'.out.1 (by rw [HL'.out.2]; exact HZ.out)⟩⟩
  case rest =>
    obtain ⟨a', c', H6⟩ := hcut
    rename World => w6
    clear HP0 HF0 HWL HWD HL' HS1 HS2 hsum hc0
    have c3 := H6.out.1.c3
    have f3 := H6.out.1.free 3
    have HOWN := Box.mk H6.out.1.out
    obtain ⟨i1, hj, hy0, hy1, hy2⟩ := info_parts Try.infoFate
    obtain ⟨N, hN⟩ : ∃ N, fs.length = N := ⟨_, rfl⟩
    have HNN := Box.mk hN
    rw [hN] at hfl c3 HOWN
    clear hN
    go_wp2_with (at_builtin; refine wpList_append_lies _ rfl (.tmp 38) (.tmp 43) 31 rfl 0 35 i1 (.agg #[.int .i64 0, .int .i64 0, .int .i64 0]) 3 24 Try.underlying31 hj hy0 hy1 hy2 rfl (by decide) (.slice fo N fc) N (fcells fs) rfl (HOWN.out.alloc _) ⟨w6.heap.size, 0, none⟩ 1 1 [.int .i64 id, .int .i64 kind, .int .i64 why] rfl rfl (World.news_of_block (cs := #[.int .i64 id, .int .i64 kind, .int .i64 why]) (blk_new _ _)) ?h1 (by omega) ?b1 ?b2 (Nat.zero_le _) _ rfl ?next)
    case h1 => simp [Value.oneCell']
    case b1 => unfold maxLen; omega
    case b2 => omega
    case next =>
      intro g3 c3' w7 ho7 hg7 hat7 _
      have hf7 : Fr (fun k => (Value.slice fo N fc).ownBlock = some k) w6 w7 := ((Fr.refl _ w6).alloc _).grown hg7 (fun k e => .inl e)
      rw [← HNN.out] at hf7
      have HS7 := Box.mk (H6.out.1.setF (fs' := fs ++ [⟨id, kind, why⟩]) (fv' := .slice (some ⟨g3, 0, none⟩) (N + 1) c3') hf7 (by rw [List.length_append, fcells_append, HNN.out]; exact ho7) (fun k hk => by
        have hk' : g3 = k := by simpa [Value.ownBlock] using hk
        subst hk'
        rcases hat7 with e | e
        · left; rw [HNN.out]; exact e
        · right; have h1 : (w6.alloc (.cells #[.int .i64 id, .int .i64 kind, .int .i64 why] 35)).heap.size = w6.heap.size + 1 := by simp
          omega))
      have hb7 := hf7.blk H6.out.1.blk H6.out.1.s
      have c7 := (cell_blk hb7 3).trans rfl
      have f7 := free_blk hb7 3
      clear ho7 hg7 hat7 hf7 hb7 HOWN c3 f3
      go_wp2
      go_ret
      obtain ⟨hr7, hfr7, hgr7⟩ := HS7.out
      obtain ⟨_, hfr6, hgr6⟩ := H6.out
      refine ⟨rfl, _, ⟨_, _, _, hr7, rfl⟩, (hfr6.mono (fun k _ e => .inl e)).trans' hfr7 (fun k hk e => (hgr6 k e).resolve_right (by omega)), fun k hk => ?_⟩
      rcases hgr7 k hk with e | e
      · exact hgr6 k e
      · have := hfr6.size; exact .inr (by omega)

end Go.Proofs.Ytbodnmcaipakcaa
