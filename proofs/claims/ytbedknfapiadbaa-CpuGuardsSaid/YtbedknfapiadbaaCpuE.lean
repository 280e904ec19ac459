/-
  The walk of cpu's serve.
-/
import Derived.Test.YtbedknfapiadbaaCpuD
namespace Go.Proofs.Ytbedknfapiadbaa
open Go.RowKit

/-- What a call leaves that turns budgets and servers alone: everything lies where it lay. -/
def SPost (w : World) (y : Lay) (M' : CpuM) (w' : World) : Prop := ∃ own', CpuAt w' { y with own := own' } M' ∧ Fr (fun k => y.own k ≠ none) w w' ∧ Same w w' y.own own'
theorem SPost.refl {w : World} {y : Lay} {M : CpuM} (h : CpuAt w y M) : SPost w y M w := ⟨y.own, h, Fr.refl _ _, fun _ _ => rfl, h.lt⟩
theorem SPost.to {w w' : World} {y : Lay} {M : CpuM} (h : SPost w y M w') : CPost w y M w' := by
  obtain ⟨o, a, b, c⟩ := h
  exact ⟨{ y with own := o }, rfl, a, b, c⟩
theorem Same.trans {w w1 w2 : World} {a b c : Nat → Option Own} (h : Same w w1 a b) (k : Same w1 w2 b c) (hs : w.heap.size ≤ w1.heap.size) : Same w w2 a c :=
  ⟨fun i hi => (k.1 i (by omega)).trans (h.1 i hi), k.2⟩
theorem SPost.trans {w w1 w2 : World} {y : Lay} {M : CpuM} {own1 : Nat → Option Own} (h2 : Fr (fun k => y.own k ≠ none) w w1) (h3 : Same w w1 y.own own1) (h : SPost w1 { y with own := own1 } M w2) : SPost w y M w2 := by
  obtain ⟨o, a, b, c⟩ := h
  exact ⟨o, a, h2.trans' b (fun i hi hg => by rw [← h3.1 i hi]; exact hg), h3.trans c h2.size⟩
theorem SPost.drew {w w' : World} {y : Lay} {M : CpuM} (h : SPost w y M w') : SPost w y M w'.drew := by
  obtain ⟨o, a, b, c⟩ := h
  exact ⟨o, a.fr (F := fun _ => False) ((Fr.refl _ _).drew) (fun _ _ h => h), b.drew, c⟩

open Classical in
/-- A call has turned server i's budget. -/
theorem CpuAt.bud_call {w w' : World} {y : Lay} {M : CpuM} (h : CpuAt w y M) {i : Nat} {s : SrvM} {b' : BudM} (hs : M.servers[i]? = some s) (hp : BPost w (y.bp i) b' (fun k => y.own k = some (.bud i)) false w') :
    SPost w y { M with servers := M.servers.set i ⟨b', s.work⟩ } w' := by
  obtain ⟨G', g1, g2, g3⟩ := hp
  obtain ⟨ho, hb, _⟩ := h.srv i s hs
  let own' : Nat → Option Own := fun k => if k < w.heap.size then y.own k else if G' k then some (.bud i) else none
  have hsm : Same w w' y.own own' := by
    refine ⟨fun k hk => by simp only [own', if_pos hk], fun k hk => ?_⟩
    by_cases hlt : k < w.heap.size
    · exact Nat.lt_of_lt_of_le hlt g2.size
    · by_cases hg : G' k
      · exact g1.lt k hg
      · simp only [own', if_neg hlt, if_neg hg] at hk
        exact absurd rfl hk
  have hbu : BudAt w' (y.bp i) b' (fun k => own' k = some (.bud i)) false := by
    refine g1.mono (fun k hg => ?_) (fun k (hk : own' k = _) => hsm.2 k (by rw [hk]; simp))
    show own' k = _
    by_cases hlt : k < w.heap.size
    · simp only [own', if_pos hlt]
      rcases g3 k hg with e | e
      · exact e
      · omega
    · simp only [own', if_neg hlt, if_pos hg]
  refine ⟨own', h.srv_upd (i := i) (s' := ⟨b', s.work⟩) (g2.mono (fun k _ e => .inr e)) hsm (fun _ => g2.blk hb (fun e => by rw [ho] at e; simp at e)) (fun _ => hbu), g2.mono (fun k _ e => by rw [e]; simp), hsm⟩

/-- Server i's work has turned. -/
theorem CpuAt.work_set {w : World} {y : Lay} {M : CpuM} (h : CpuAt w y M) {k : Nat} {s : SrvM} (hsv : M.servers[k]? = some s) (Z : Nat) :
    SPost w y { M with servers := M.servers.set k ⟨s.bud, Z⟩ } (w.setCell ⟨y.sp k, 1, none⟩ (.int .u64 Z)) := by
  obtain ⟨ho, hb, hbud⟩ := h.srv k s hsv
  have hf : Fr (fun b => b = y.sp k) w (w.setCell ⟨y.sp k, 1, none⟩ (.int .u64 Z)) := Fr.setCell (F := fun b => b = y.sp k) (Fr.refl _ w) (p := ⟨y.sp k, 1, none⟩) (.inl rfl) _
  have hs : Same w (w.setCell ⟨y.sp k, 1, none⟩ (.int .u64 Z)) y.own y.own := ⟨fun _ _ => rfl, fun b hb => Nat.lt_of_lt_of_le (h.lt b hb) hf.size⟩
  have hb2 := blk_set (i := 1) hb (.int .u64 Z)
  simp only [List.setIfInBounds_toArray, List.set_cons_succ, List.set_cons_zero] at hb2
  exact ⟨y.own, h.srv_upd (i := k) (s' := ⟨s.bud, Z⟩) (hf.mono (fun b _ e => by subst e; exact .inl ho)) hs (fun _ => hb2) (fun _ => hbud.own hf hs (fun b e1 e2 => by subst e2; rw [ho] at e1; simp at e1)), hf.mono (fun b _ e => by subst e; rw [ho]; simp), hs⟩

/-- Who serves: the servers behind it, and which one. -/
def serveL (now : Nat) : List SrvM → List SrvM × Option Nat
  | [] => ([], none)
  | s :: l => if s.work = 0 then (s :: (serveL now l).1, (serveL now l).2.map (· + 1))
    else if (s.bud.at now).left = 0 then (⟨s.bud.use now, s.work⟩ :: (serveL now l).1, (serveL now l).2.map (· + 1))
    else (⟨s.bud.use now, s.work - 1⟩ :: l, some 0)
/-- So far as server i: the list as it stands. -/
def ServeTo (now : Nat) (S0 S : List SrvM) (i : Nat) : Prop :=
  S.length = S0.length ∧ S.drop i = S0.drop i ∧ serveL now S0 = (S.take i ++ (serveL now (S.drop i)).1, (serveL now (S.drop i)).2.map (· + i))
theorem ServeTo.start (now : Nat) (S0 : List SrvM) : ServeTo now S0 S0 0 := ⟨rfl, rfl, by
  simp only [List.take_zero, List.nil_append, List.drop_zero]
  cases h : (serveL now S0).2 <;> simp [← h]⟩
theorem drop_set {S : List SrvM} {i : Nat} {s : SrvM} : (S.set i s).drop (i + 1) = S.drop (i + 1) := by
  apply List.ext_getElem?
  intro j
  rw [List.getElem?_drop, List.getElem?_drop, List.getElem?_set, if_neg (by omega)]
theorem take_set {S : List SrvM} {i : Nat} {s : SrvM} (hi : i < S.length) : (S.set i s).take (i + 1) = S.take i ++ [s] := by
  rw [List.take_succ_eq_append_getElem (by simpa using hi), List.getElem_set_self, List.take_set_of_le (Nat.le_refl _)]
/-- Server i has no work, or no unit. -/
theorem ServeTo.next {now : Nat} {S0 S : List SrvM} {i : Nat} {s s' : SrvM} (h : ServeTo now S0 S i) (hs : S[i]? = some s)
    (he : (s.work = 0 ∧ s' = s) ∨ (s.work ≠ 0 ∧ (s.bud.at now).left = 0 ∧ s' = ⟨s.bud.use now, s.work⟩)) : ServeTo now S0 (S.set i s') (i + 1) := by
  obtain ⟨h1, h2, h3⟩ := h
  have hi : i < S.length := (List.getElem?_eq_some_iff.1 hs).1
  have hsi : S[i] = s := (List.getElem?_eq_some_iff.1 hs).2
  refine ⟨by simpa using h1, ?_, ?_⟩
  · rw [drop_set]
    have e := congrArg (List.drop 1) h2
    rw [List.drop_drop, List.drop_drop] at e
    exact e
  · rw [h3, drop_set, take_set hi, List.drop_eq_getElem_cons hi, hsi]
    have hstep : serveL now (s :: S.drop (i + 1)) = (s' :: (serveL now (S.drop (i + 1))).1, (serveL now (S.drop (i + 1))).2.map (· + 1)) := by
      rcases he with ⟨a, rfl⟩ | ⟨a, b, rfl⟩
      · rw [serveL, if_pos a]
      · rw [serveL, if_neg a, if_pos b]
    rw [hstep]
    simp only [List.append_assoc, List.cons_append, List.nil_append, Option.map_map, Prod.mk.injEq, true_and]
    cases (serveL now (S.drop (i + 1))).2 with
    | none => rfl
    | some x => simp only [Option.map_some, Function.comp, Option.some.injEq]; omega
theorem ServeTo.hit {now : Nat} {S0 S : List SrvM} {i : Nat} {s : SrvM} (h : ServeTo now S0 S i) (hs : S[i]? = some s) (h1 : s.work ≠ 0) (h2 : ¬ (s.bud.at now).left = 0) :
    serveL now S0 = (S.set i ⟨s.bud.use now, s.work - 1⟩, some i) := by
  obtain ⟨_, _, h3⟩ := h
  have hi : i < S.length := (List.getElem?_eq_some_iff.1 hs).1
  have hsi : S[i] = s := (List.getElem?_eq_some_iff.1 hs).2
  rw [h3, List.drop_eq_getElem_cons hi, hsi, serveL, if_neg h1, if_neg h2]
  simp only [Option.map_some, Nat.zero_add, Prod.mk.injEq, and_true]
  rw [List.set_eq_take_append_cons_drop, if_pos hi]
theorem ServeTo.end {now : Nat} {S0 S : List SrvM} (h : ServeTo now S0 S S.length) : serveL now S0 = (S, none) := by
  obtain ⟨_, _, h3⟩ := h
  rw [h3, List.drop_length, List.take_length]
  simp [serveL]
theorem ServeTo.old {now : Nat} {S0 S : List SrvM} {i : Nat} {s : SrvM} (h : ServeTo now S0 S i) (hs : S[i]? = some s) : s ∈ S0 := by
  obtain ⟨_, h2, _⟩ := h
  have : (S.drop i)[0]? = some s := by rw [List.getElem?_drop]; simpa using hs
  rw [h2, List.getElem?_drop] at this
  exact List.mem_of_getElem? this

/-- Whether every server may be asked. -/
def SrvOk (now : Nat) (s : SrvM) : Prop := s.bud.Ok ∧ s.bud.now ≤ now ∧ s.work ≤ 1048576
def serveV (o : Option Nat) : Int := match o with | some i => 100 + i | none => -1

set_option maxHeartbeats 8000000 in
theorem serve_any (y : Lay) (M : CpuM) (out : Value) (w : World) (h : CpuAt w y M) (hok : ∀ s ∈ M.servers, SrvOk M.now s) (hnow : M.now < 4611686018427387904) (hlen : M.servers.length ≤ 1000) :
    Calls Try.prog 30 #[.pointer (some ⟨y.c, 0, none⟩), out] w fun e w' => e = .returned (.int .i64 (serveV (serveL M.now M.servers).2)) ∧ SPost w y { M with servers := (serveL M.now M.servers).1 } w' := by
  obtain ⟨ts, S0, rs, now⟩ := M
  simp only at hok hnow hlen
  have H := Box.mk h
  have HOK := Box.mk hok
  have c1 := h.c1
  simp only at c1
  obtain ⟨n, hn⟩ : ∃ n, S0.length = n := ⟨_, rfl⟩
  have HN := Box.mk hn
  rw [hn] at c1 hlen
  clear h hok hn
  go_enter Try.func30, Try.ntmps30
  go_wp2
  clear c1
  go_loopw [4, 5, 6, 7, 8, 14] (fun _ _ _ _ _ i wr => ∃ (k : Nat) (S : List SrvM), k ≤ n ∧ i = .int .i64 k ∧ ServeTo now S0 S k ∧ SPost w y ⟨ts, S, rs, now⟩ wr) (fun _ _ _ _ _ i _ => n - (intOf i).toNat)
  case atStart => exact ⟨0, S0, Nat.zero_le _, rfl, ServeTo.start _ _, SPost.refl H.out⟩
  case round =>
    obtain ⟨k, S, hk, rfl, hst, hsp⟩ := hrel
    have HST := Box.mk hst
    have HSP := Box.mk hsp
    obtain ⟨own1, hat, hfr, hsm⟩ := hsp
    have HAT := Box.mk hat
    have HFR := Box.mk hfr
    have HSM := Box.mk hsm
    have hSl : S.length = n := hst.1.trans HN.out
    clear hst hfr hsm
    by_cases hlt : k < n
    · obtain ⟨s, hs⟩ : ∃ s, S[k]? = some s := ⟨S[k]'(by omega), by simp [hSl, hlt]⟩
      have HS := Box.mk hs
      have hso := HOK.out s (HST.out.old hs)
      have HSO := Box.mk hso
      obtain ⟨g, hg, _, hnc, hc, hcell⟩ := hat.sarr.get (i := k) (by show k < S.length; omega)
      have hc3 := hat.c3
      obtain ⟨ho, hblk, hbud⟩ := hat.srv k s hs
      have HBUD := Box.mk hbud
      have e0 := cell_blk hblk 0
      have e1 := cell_blk hblk 1
      simp only [List.getElem?_toArray, List.getElem?_cons_zero, List.getElem?_cons_succ] at e0 e1
      simp only at hg hcell hc3 hnc hc
      rw [hSl] at hnc
      obtain ⟨W, hW⟩ : ∃ W, s.work = W := ⟨_, rfl⟩
      have HW := Box.mk hW
      rw [hW] at e1
      clear hat hs hso ho hblk hbud hW
      rw [hg]
      by_cases hw0 : W = 0
      · have hz : ((W : Int) == 0) = true := by simp [hw0]
        have HN2 := Box.mk (HST.out.next (s' := s) HS.out (.inl ⟨by rw [HW.out]; exact hw0, rfl⟩))
        have HSS : Box (S.set k s = S) := ⟨by
          apply List.ext_getElem?
          intro j
          rw [List.getElem?_set]
          split
          · rename_i e; subst e; rw [if_pos (by omega), HS.out]
          · rfl⟩
        clear hw0
        go_wp2
        go_roundw
        case rel => exact ⟨k + 1, S, by omega, by go_num, by have := HN2.out; rwa [HSS.out] at this, HSP.out⟩
        case measure => simp [intOf] <;> omega
      · have hz : ((W : Int) == 0) = false := beq_eq_false_iff_ne.2 (by omega)
        have hat2 : CpuAt wr.drew { y with own := own1 } ⟨ts, S, rs, now⟩ := HAT.out.fr (F := fun _ => False) ((Fr.refl _ _).drew) (fun _ _ h => h)
        have HAT2 := Box.mk hat2
        have HFR2 : Box (Fr (fun k => y.own k ≠ none) w wr.drew) := ⟨HFR.out.drew⟩
        have HSM2 : Box (Same w wr.drew y.own own1) := ⟨⟨HSM.out.1, fun i hi => HSM.out.2 i hi⟩⟩
        have hus := use_any (y.bp k) s.bud (fun b => own1 b = some (.bud k)) false now wr.drew (hat2.srv k s HS.out).2.2 HSO.out.1 hnow HSO.out.2.1
        have HUS := Box.mk hus
        clear hat2 hus
        by_cases hl : (s.bud.at now).left = 0
        · have hd : decide (¬ (s.bud.at now).left = 0) = false := by simp [hl]
          have HN2 := Box.mk (HST.out.next (s' := ⟨s.bud.use now, s.work⟩) HS.out (.inr ⟨by rw [HW.out]; exact hw0, hl, rfl⟩))
          clear hl hw0
          go_upto_region 5 with fail
          go_region_with (go_at_call 42; refine HUS.out.mono ?_; rw [hd]; rintro e w2 ⟨rfl, hp2⟩; have HP := Box.mk (SPost.trans HFR2.out HSM2.out (HAT2.out.bud_call HS.out hp2)); clear hp2)
          all_goals
            go_wp2
            go_roundw
            case rel => exact ⟨k + 1, _, by omega, by go_num, HN2.out, HP.out⟩
            case measure => simp [intOf] <;> omega
        · have hd : decide (¬ (s.bud.at now).left = 0) = true := by simp [hl]
          have HH := Box.mk (HST.out.hit HS.out (by rw [HW.out]; exact hw0) hl)
          have hsub : IntKind.u64.wrap ((W : Int) - 1) = ((W - 1 : Nat) : Int) := by have := HSO.out.2.2; rw [HW.out] at this; rw [IntWalk.u64_in _ (by omega)]; omega
          obtain ⟨C, hC⟩ : ∃ C, W - 1 = C := ⟨_, rfl⟩
          have HC := Box.mk hC
          rw [hC] at hsub
          clear hl hw0 hC
          go_upto_region 5 with fail
          go_region_with (go_at_call 42; refine HUS.out.mono ?_; rw [hd]; rintro e w2 ⟨rfl, hp2⟩; obtain ⟨own2, ha2, hf2, hs2⟩ := HAT2.out.bud_call HS.out hp2; have HA2 := Box.mk ha2; have HF2 := Box.mk hf2; have HS2 := Box.mk hs2; clear hp2 ha2 hf2 hs2)
          all_goals
            have hk2 : (S.set k ⟨s.bud.use now, s.work⟩)[k]? = some ⟨s.bud.use now, s.work⟩ := by rw [List.getElem?_set, if_pos rfl, if_pos (by omega)]
            have x1 := cell_blk (HA2.out.srv k _ hk2).2.1 1
            have x2 := free_blk (HA2.out.srv k _ hk2).2.1 1
            simp only [List.getElem?_toArray, List.getElem?_cons_zero, List.getElem?_cons_succ] at x1
            rw [HW.out] at x1
            have HZ := Box.mk (SPost.trans HFR2.out HSM2.out (SPost.trans HF2.out HS2.out (HA2.out.work_set hk2 C)))
            clear hk2
            go_wp2
            go_ret
            rw [HH.out]
            exact ⟨rfl, by have := HZ.out; rw [List.set_set] at this; rw [HW.out, HC.out]; exact this⟩
    · obtain rfl : n = k := by omega
      have HE : Box (serveL now S0 = (S, none)) := ⟨by have := HST.out; rw [← hSl] at this; exact this.end⟩
      go_wp2
      go_ret
      rw [HE.out]
      exact ⟨rfl, HSP.out⟩

end Go.Proofs.Ytbedknfapiadbaa
