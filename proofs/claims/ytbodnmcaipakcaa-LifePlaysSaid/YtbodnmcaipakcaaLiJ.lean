/-
  The walk of a book's Go.
-/
import Derived.Test.YtbodnmcaipakcaaLiI
namespace Go.Proofs.Ytbodnmcaipakcaa
open Go.RowKit Go.ChangeMaps Go.MapKept

/-- So many come out by time. -/
def BM.outs (M : BM) (l : List Int) : BM := l.foldl (fun M id => M.out ⟨id, 2, 1⟩) M
theorem outs_snoc (M : BM) (l : List Int) (x : Int) : M.outs (l ++ [x]) = (M.outs l).out ⟨x, 2, 1⟩ := by simp [BM.outs]
theorem out_len (M : BM) (f : FateM) : (M.out f).fs.length ≤ M.fs.length + 1 := by
  unfold BM.out
  split
  · simp [BM.outM]
  · omega
theorem outs_len (M : BM) (l : List Int) : (M.outs l).fs.length ≤ M.fs.length + l.length := by
  unfold BM.outs
  induction l generalizing M with
  | nil => simp
  | cons x l ih =>
    simp only [List.foldl_cons, List.length_cons]
    have := ih (M.out ⟨x, 2, 1⟩)
    have := out_len M ⟨x, 2, 1⟩
    omega
/-- The time has gone on. -/
def BM.at' (M : BM) (t : Nat) : BM := ⟨M.cost, t, M.op, M.ids, M.us, M.fs⟩
def BM.told (M : BM) : BM := ⟨M.cost, M.now, M.op, M.ids, M.us, []⟩
theorem BInv.at' {M : BM} (h : BInv M) (t : Nat) : BInv (M.at' t) := ⟨h.cost, h.used, h.opn⟩
theorem BInv.told {M : BM} (h : BInv M) : BInv M.told := ⟨h.cost, h.used, h.opn⟩
theorem g_at {M : BM} {t : Nat} (ht : M.now ≤ t) : goneT M.g t = (M.at' t).g := by
  show goneT (goneT M.g0 M.now) t = goneT (M.at' t).g0 t
  funext i
  refine Option.ext fun a => ?_
  have e : (M.at' t).g0 = M.g0 := rfl
  rw [e, goneT_some, goneT_some, goneT_some]
  constructor
  · rintro ⟨⟨h1, _⟩, h2⟩; exact ⟨h1, h2⟩
  · rintro ⟨h1, h2⟩; exact ⟨⟨h1, by omega⟩, h2⟩
theorem BPost.then {w w1 w2 : World} {p : Nat} {M : BM} {F F1 : Nat → Prop} (hf : Fr F w w1) (hg : Gro F F1 w) (h : BPost w1 p M F1 w2) : BPost w p M F w2 := by
  obtain ⟨F2, h1, h2, h3⟩ := h
  refine ⟨F2, h1, hf.trans' h2 (fun i hi h => (hg i h).resolve_right (by omega)), fun k hk => ?_⟩
  have := hf.size
  rcases h3 k hk with e | e
  · exact hg k e
  · exact .inr (by omega)
theorem due_ok {M : BM} (hi : BInv M) {t : Nat} {out : List Nat} (h : GoT M.g t out) : (∀ x ∈ out, x < 64 ∧ ∃ e, M.op (M.ids x) = some e ∧ kwf (M.ids x)) ∧ (out.map M.ids).Nodup := by
  have h1 : ∀ x ∈ out, M.us x = true := fun x hx => by
    obtain ⟨a, ha, _⟩ := (h.2 x).1 hx
    have h2 := (goneT_some.1 ha).1
    unfold BM.g0 at h2
    cases hu : M.us x with
    | true => rfl
    | false => rw [hu] at h2; cases h2
  refine ⟨fun x hx => ?_, ?_⟩
  · obtain ⟨g1, d, g2⟩ := hi.used x (h1 x hx)
    obtain ⟨a1, a2, _⟩ := hi.opn _ _ g2
    exact ⟨g1, _, g2, kwf_of (by omega) (by omega)⟩
  · have hn : out.Nodup := by
      rw [List.nodup_iff_pairwise_ne]
      exact h.1.imp fun {a b} h e => by subst e; omega
    rw [List.nodup_iff_pairwise_ne, List.pairwise_map]
    refine (List.nodup_iff_pairwise_ne.1 hn).imp_of_mem fun {a b} ha hb hne e => hne ?_
    obtain ⟨_, d1, e1⟩ := hi.used a (h1 a ha)
    obtain ⟨_, d2, e2⟩ := hi.used b (h1 b hb)
    rw [e, e2] at e1
    simp only [Option.some.injEq, Ent.mk.injEq] at e1
    exact e1.1.symm
theorem due_len {M : BM} (hi : BInv M) {t : Nat} {out : List Nat} (h : GoT M.g t out) : out.length ≤ 64 := by
  have hn : out.Nodup := by
    rw [List.nodup_iff_pairwise_ne]
    exact h.1.imp fun {a b} h e => by subst e; omega
  have e := len_eq_of_mem hn (List.nodup_range.filter (fun i => decide (i ∈ out)) : ((List.range 64).filter (fun i => decide (i ∈ out))).Nodup) (fun x => by
    rw [List.mem_filter, List.mem_range]
    constructor
    · intro hx; exact ⟨((due_ok hi h).1 x hx).1, by simpa using hx⟩
    · rintro ⟨_, h2⟩; simpa using h2)
  rw [e]
  exact Nat.le_trans (List.length_filter_le _ _) (by simp)
set_option maxHeartbeats 2000000 in
theorem bgo_bad (p : Nat) (M : BM) (F : Nat → Prop) (w : World) (h : BAt w p M F) (t : Nat) (ht : t ≤ 18446744073709551615) (c : Int) (hc : (4611686018427387904 ≤ t ∧ c = 2) ∨ (t < M.now ∧ c = 1)) :
    Calls Try.prog 13 #[.pointer (some ⟨p, 0, none⟩), .int .u64 t] w fun e w' => e = .returned (.tuple #[.slice none 0 0, .int .i64 c]) ∧ w = w' := by
  obtain ⟨pw, ab, Fw, fv, h, hi, -⟩ := h
  have k1 := h.c1
  have HG : Box (Calls Try.prog 28 #[.pointer (some ⟨pw, 0, none⟩), .int .u64 t] w fun e w' => e = .returned (.tuple #[.slice none 0 0, .int .i64 c]) ∧ w = w') := ⟨by
    rcases hc with ⟨h1, rfl⟩ | ⟨h1, rfl⟩
    · exact wgo_big pw t w ht h1
    · exact wt_past pw M.now M.g Fw w h.wh t h1⟩
  have hz : (c != 0) = true := by
    rcases hc with ⟨_, rfl⟩ | ⟨_, rfl⟩ <;> decide
  clear h hi hc ht
  go_enter Try.func13, Try.ntmps13
  go_wp2_with (go_at_call 28; (with_reducible refine HG.out.mono ?_); rintro e w1 ⟨rfl, rfl⟩)
  go_ret2
  exact ⟨rfl, rfl⟩
/-- What Go tells, and leaves. -/
def BGo (w : World) (p : Nat) (M : BM) (F : Nat → Prop) (t : Nat) (e : Ending) (w' : World) : Prop := ∃ (l : List Int) (D : List Nat) (fo : Option Addr) (n c : Nat), e = .returned (.tuple #[.slice fo n c, .int .i64 0]) ∧ GoT M.g t D ∧ l.Perm (D.map M.ids) ∧ SInv M.op l.length l ∧ n = ((M.at' t).outs l).fs.length ∧
  w'.ownsRow 0 35 3 (.slice fo n c) n (fcells ((M.at' t).outs l).fs) ∧ ∃ F', BAt w' p ((M.at' t).outs l).told F' ∧ Fr F w w' ∧ Gro F F' w ∧ ∀ k, (Value.slice fo n c).ownBlock = some k → ¬ F' k ∧ (F k ∨ w.heap.size ≤ k)
set_option maxHeartbeats 16000000 in
set_option maxRecDepth 100000 in
theorem bgo_any (p : Nat) (M : BM) (F : Nat → Prop) (w : World) (h : BAt w p M F) (t : Nat) (h1 : M.now ≤ t) (h2 : t < 4611686018427387904) (hlen : M.fs.length ≤ 900000) :
    Calls Try.prog 13 #[.pointer (some ⟨p, 0, none⟩), .int .u64 t] w (BGo w p M F t) := by
  obtain ⟨pw, ab, Fw, fv, h, hi, rfl⟩ := h
  have k1 := h.c1
  have HG := Box.mk (wt_go pw M.now M.g Fw w h.wh t h1 h2)
  have H := Box.mk h
  have HI := Box.mk hi
  have HT := Box.mk h1
  clear h hi h1 h2
  go_enter Try.func13, Try.ntmps13
  go_upto_region 4 with (go_at_call 28; (with_reducible refine HG.out.mono ?_); rintro e w1 ⟨v, D, rfl, hgo, hrow, Fw1, hw1, hf1, hg1, hdj⟩; have HGO := Box.mk hgo; have HR1 := Box.mk hrow; have HW1 := Box.mk (And.intro hw1 (And.intro hf1 hg1)); clear hgo hrow hw1 hf1 hg1 hdj)
  obtain ⟨hB1, hgr1⟩ := H.out.wheel HW1.out.1 HW1.out.2.1 HW1.out.2.2
  rw [g_at HT.out] at hB1
  have hA1 : BAt w1 p (M.at' t) (BF p ab Fw1 fv) := ⟨pw, ab, Fw1, fv, hB1, HI.out.at' t, rfl⟩
  have hf1 : Fr (BF p ab Fw fv) w w1 := HW1.out.2.1.mono (fun k _ h => .inr (.inr (.inl h)))
  obtain ⟨va, vc, hv, -⟩ := HR1.out.row'
  obtain ⟨n, hn⟩ : ∃ n, D.length = n := ⟨_, rfl⟩
  rw [hn] at hv
  subst hv
  have hok := due_ok HI.out HGO.out
  have hn64 : n ≤ 64 := by rw [← hn]; exact due_len HI.out HGO.out
  have HSO := Box.mk (bsorted_any w1 p _ _ _ _ _ _ _ _ _ _ _ _ hB1 va vc n D hn _ HR1.out hok.1 hok.2 (by omega))
  have HA1 := Box.mk hA1
  have HF1 := Box.mk (And.intro hf1 hgr1)
  have HN := Box.mk hn
  clear hB1 hgr1 hA1 hf1 hok hn k1 HG
  go_upto_block 0 with (go_at_call 29; (with_reducible refine HSO.out.mono ?_); rintro e w2 ⟨l, g, c, rfl, hpm, hsi, hgl, hcs, hb⟩; have HP := Box.mk (And.intro hpm hsi); have HGL := Box.mk hgl; have HCS := Box.mk hcs; have HB := Box.mk hb; clear hpm hsi hgl hcs hb)
  clear HSO
  have hll : l.length = n := by rw [HP.out.1.length_eq, List.length_map]; exact HN.out
  have HLL := Box.mk hll
  have HA2 : Box (BAt w2 p (M.at' t) (BF p ab Fw1 fv)) := ⟨HA1.out.fr (Fr.of_below (F := fun _ => False) HB.out) (fun _ _ h => h)⟩
  have HP0 : Box (BPost w2 p ((M.at' t).outs (l.take 0)) (BF p ab Fw1 fv) w2) := ⟨BPost.same HA2.out⟩
  have HKW : Box (∀ x ∈ l, kwf x) := ⟨fun x hx => by
    obtain ⟨d, hd, rfl⟩ := List.mem_map.1 (HP.out.1.mem_iff.1 hx)
    obtain ⟨_, _, _, h3⟩ := (due_ok HI.out HGO.out).1 d hd
    exact h3⟩
  clear hll
  go_wp2
  go_loopw [9, 27] (fun _ s27 wr => ∃ j : Nat, j ≤ n ∧ s27 = .int .i64 j ∧ Box (BPost w2 p ((M.at' t).outs (l.take j)) (BF p ab Fw1 fv) wr)) (fun _ s27 _ => n - (intOf s27).toNat)
  case atStart => exact ⟨0, by omega, rfl, HP0⟩
  case round =>
    clear HP0
    obtain ⟨j, hjn, rfl, HPJ⟩ := hrel
    obtain ⟨Fj, hAj, hfj, hgj⟩ := HPJ.out
    have hgnF : ¬ BF p ab Fw1 fv g := fun hF => by have := HA1.out.lt hF; have := HGL.out; omega
    by_cases hj : j < n
    · have hji : (j : Int) < n := by omega
      have hjl : j < l.length := by rw [HLL.out]; exact hj
      have c2 := (CellsL.blk2 HCS.out hjl).1
      have cj := (hfj.cell (p := ⟨g, j, none⟩) (by obtain ⟨cs, hc, _⟩ := HCS.out; exact lt_blk hc) hgnF).trans c2
      have hbl : ((M.at' t).outs (l.take j)).fs.length ≤ 1000000 := by
        have h1 := outs_len (M.at' t) (l.take j)
        rw [List.length_take] at h1
        have h2 : (M.at' t).fs.length = M.fs.length := rfl
        omega
      have HO := Box.mk (bout_any p _ Fj _ hAj l[j] 2 1 (HKW.out _ (List.getElem_mem hjl)) hbl)
      have HNX : Box (((M.at' t).outs (l.take j)).out ⟨l[j], 2, 1⟩ = (M.at' t).outs (l.take (j + 1))) := ⟨by rw [List.take_succ_eq_append_getElem hjl, outs_snoc]⟩
      have HFJ := Box.mk (And.intro hfj hgj)
      clear hAj hfj hgj c2 hbl hgnF
      generalize l[j] = x at cj HO HNX
      clear hjl
      go_wp2_with (go_at_call 27; (with_reducible refine HO.out.mono ?_); rintro e w4 ⟨rfl, hp⟩; rw [HNX.out] at hp; have HP2 := Box.mk (hp.then HFJ.out.1 HFJ.out.2); clear hp)
      go_roundw
      case rel => exact ⟨j + 1, by omega, by go_num, HP2⟩
      case measure => simp [intOf] <;> omega
    · obtain rfl : j = n := by omega
      have hji : ¬ (j : Int) < j := by omega
      have htk : l.take j = l := List.take_of_length_le (by rw [HLL.out]; exact Nat.le_refl _)
      rw [htk] at hAj
      obtain ⟨pw3, ab3, Fw3, fv3, hr3, hi3, rfl⟩ := hAj
      obtain ⟨fo, fc, rfl⟩ := ownsRow_slice hr3.row
      have k131 := hr3.c131
      have f131 := hr3.free 131
      have HR3 := Box.mk hr3
      have HI3 := Box.mk hi3
      have HFJ := Box.mk (And.intro hfj hgj)
      rename World => w5
      have HST := Box.mk (hr3.setFs (w' := w5) (fs' := []) (fv' := .slice none 0 0) (Fr.refl _ _) (World.ownsRow_nil _ _ _ _) (fun k hk => by simp [Value.ownBlock] at hk))
      have HWB := Box.mk HB.out.size
      have hF5 : Fr (BF p ab Fw fv) w w5 := by
        have hs2 := HB.out.size
        have hs1 := HF1.out.1.size
        refine (HF1.out.1.trans (Fr.of_below HB.out)).trans' hfj (fun i hi h => (HF1.out.2 i h).resolve_right (by omega))
      have HF5 := Box.mk hF5
      clear hr3 hi3 hfj hgj htk hgnF hF5
      obtain ⟨N, hN⟩ : ∃ N, ((M.at' t).outs l).fs.length = N := ⟨_, rfl⟩
      have HNN := Box.mk hN
      rw [hN] at k131
      clear hN
      go_wp2
      go_ret2
      obtain ⟨hb, hfr, hgr⟩ := HST.out
      have hs5 := HF5.out.size
      have hs1 := HF1.out.1.size
      have hs2 := HWB.out
      have hown := HR3.out.row
      rw [HNN.out] at hown
      have hback : ∀ k, BF p ab3 Fw3 (.slice fo N fc) k → BF p ab Fw fv k ∨ w.heap.size ≤ k := fun k hk => by
        have hk' : BF p ab3 Fw3 (.slice fo ((M.at' t).outs l).fs.length fc) k := by rw [HNN.out]; exact hk
        rcases HFJ.out.2 k hk' with h | h
        · rcases HF1.out.2 k h with h | h
          · exact .inl h
          · exact .inr h
        · exact .inr (by omega)
      refine ⟨l, D, fo, N, fc, rfl, HGO.out, HP.out.1, by rw [HLL.out]; exact HP.out.2, HNN.out.symm, ?_, BF p ab3 Fw3 (.slice none 0 0), ⟨pw3, ab3, Fw3, .slice none 0 0, hb, HI3.out.told, rfl⟩, ?_, fun k hk => ?_, fun k hk => ⟨fun hF => ?_, ?_⟩⟩
      · refine ownsRow_fr hown (fun k hk => (fr_cell w5 p 131 _).block k (ownsRow_lt hown hk).2 (fun e => ?_))
        have := HR3.out.s4 k (by rw [HNN.out]; exact hk)
        exact this.1 e
      · exact HF5.out.trans' hfr (fun i hi h => (hback i (by rw [← HNN.out]; exact h)).resolve_right (by omega))
      · rcases hk with e | e | e | e
        · exact hback k (.inl e)
        · exact hback k (.inr (.inl e))
        · exact hback k (.inr (.inr (.inl e)))
        · simp [Value.ownBlock] at e
      · have := HR3.out.s4 k (by rw [HNN.out]; exact hk)
        rcases hF with e | e | e | e
        · exact this.1 e
        · exact this.2.1 e
        · exact this.2.2 e
        · simp [Value.ownBlock] at e
      · exact hback k (.inr (.inr (.inr hk)))

end Go.Proofs.Ytbodnmcaipakcaa
