/-
  A book: before, out, Answer, Cancel.
-/
import Derived.Test.YtbodnmcaipakcaaLiB
import Derived.Deep.RegionHeld3
namespace Go.Proofs.Ytbodnmcaipakcaa
open Go.RowKit Go.ChangeMaps Go.MapKept

/-- One comes out ahead of another one. -/
def bltB (a : Nat) (x : Int) (b : Nat) (y : Int) : Bool := decide (a < b ∨ (a = b ∧ x < y))
theorem drew_fr (w : World) (n : Nat) : Fr (fun _ => False) w (w.drewN n) := (Fr.refl _ w).drewN n
theorem field_ent (a b : Int) (w : World) : (Instr.field 68 (.agg #[.int .i64 a, .int .u64 b]) 1).run Try.prog w = .ok (.int .u64 b) w := by kernel_rfl
set_option maxHeartbeats 4000000 in
theorem bbefore_any (w : World) (p cost now : Nat) (g : Nat → Option Nat) (op : Int → Option Ent) (ids : Nat → Int) (us : Nat → Bool) (fs : List FateM) (n pw ab : Nat) (Fw : Nat → Prop) (fv : Value) (h : BRep w p cost now g op ids us fs n pw ab Fw fv)
    (x y : Int) (hx : kwf x) (hy : kwf y) (ex ey : Ent) (ox : op x = some ex) (oy : op y = some ey) (v : Bool) (hv : bltB ex.dead x ey.dead y = v) :
    Calls Try.prog 39 #[.pointer (some ⟨p, 0, none⟩), .int .i64 x, .int .i64 y] w fun e w' => e = .returned (.bool v) ∧ ∃ m, w' = w.drewN m := by
  have c := (cell_blk h.blk 2).trans bcells_open
  have hlx : ∀ n, (Instr.lookup 62 (.map (some ab)) (.int .i64 x) false).run Try.prog (w.drewN n) = .ok (.agg #[.int .i64 ex.tm, .int .u64 ex.dead]) (w.drewN n) := fun n => by
    have := (h.map.fr (drew_fr w n) (fun h => h)).look Try.underlying3 Try.underlying62 (Try.zeroEnt (w.drewN n)) hx
    rw [ox] at this
    exact this
  have hly : ∀ n, (Instr.lookup 62 (.map (some ab)) (.int .i64 y) false).run Try.prog (w.drewN n) = .ok (.agg #[.int .i64 ey.tm, .int .u64 ey.dead]) (w.drewN n) := fun n => by
    have := (h.map.fr (drew_fr w n) (fun h => h)).look Try.underlying3 Try.underlying62 (Try.zeroEnt (w.drewN n)) hy
    rw [oy] at this
    exact this
  have HV := Box.mk hv
  obtain ⟨xt, xd⟩ := ex
  obtain ⟨yt, yd⟩ := ey
  simp only at hlx hly HV
  have hfi := field_ent
  clear h ox oy hv
  go_enter Try.func39, Try.ntmps39
  go_wp2
  go_quiet (fail)
  clear hlx hly
  by_cases h1 : xd < yd
  · have h1i : (xd : Int) < yd := by omega
    have HE : Box (v = true) := ⟨by rw [← HV.out]; unfold bltB; exact decide_eq_true (.inl h1)⟩
    clear h1
    go_wp2
    go_ret
    exact ⟨by rw [HE.out]; rfl, _, rfl⟩
  · have h1i : ¬ (xd : Int) < yd := by omega
    by_cases h2 : xd = yd
    · have h2i : ((xd : Int) == (yd : Int)) = true := by simp [h2]
      by_cases h3 : x < y
      · have HE : Box (v = true) := ⟨by rw [← HV.out]; unfold bltB; exact decide_eq_true (.inr ⟨h2, h3⟩)⟩
        clear h1 h2
        go_wp2
        go_ret
        exact ⟨by rw [HE.out]; rfl, _, rfl⟩
      · have HE : Box (v = false) := ⟨by rw [← HV.out]; unfold bltB; exact decide_eq_false (by omega)⟩
        clear h1 h2
        go_wp2
        go_ret
        exact ⟨by rw [HE.out]; rfl, _, rfl⟩
    · have h2i : ((xd : Int) == (yd : Int)) = false := beq_eq_false_iff_ne.2 (by omega)
      have HE : Box (v = false) := ⟨by rw [← HV.out]; unfold bltB; exact decide_eq_false (by omega)⟩
      clear h1 h2
      go_wp2
      go_ret
      exact ⟨by rw [HE.out]; rfl, _, rfl⟩

section
variable {w : World} {p cost now : Nat} {g : Nat → Option Nat} {op : Int → Option Ent} {ids : Nat → Int} {us : Nat → Bool} {fs : List FateM} {n pw ab : Nat} {Fw : Nat → Prop} {fv : Value}
theorem BRep.drew (h : BRep w p cost now g op ids us fs n pw ab Fw fv) : BRep w.drew p cost now g op ids us fs n pw ab Fw fv := h.later ⟨rfl, rfl, rfl, Nat.le_refl _, fun _ _ => rfl⟩
theorem BRep.c0 (h : BRep w p cost now g op ids us fs n pw ab Fw fv) : w.cell? ⟨p, 0, none⟩ = some (.int .u64 cost) := (cell_blk h.blk 0).trans bcells_cost
theorem BRep.c1 (h : BRep w p cost now g op ids us fs n pw ab Fw fv) : w.cell? ⟨p, 1, none⟩ = some (.pointer (some ⟨pw, 0, none⟩)) := (cell_blk h.blk 1).trans bcells_w
theorem BRep.c2 (h : BRep w p cost now g op ids us fs n pw ab Fw fv) : w.cell? ⟨p, 2, none⟩ = some (.map (some ab)) := (cell_blk h.blk 2).trans bcells_open
theorem BRep.c131 (h : BRep w p cost now g op ids us fs n pw ab Fw fv) : w.cell? ⟨p, 131, none⟩ = some fv := (cell_blk h.blk 131).trans bcells_fs
theorem BRep.cIds (h : BRep w p cost now g op ids us fs n pw ab Fw fv) {t : Nat} (ht : t < 64) : w.cell? ⟨p, 3 + t, none⟩ = some (.int .i64 (ids t)) := (cell_blk h.blk _).trans (bcells_ids ht)
theorem BRep.cUsed (h : BRep w p cost now g op ids us fs n pw ab Fw fv) {t : Nat} (ht : t < 64) : w.cell? ⟨p, 67 + t, none⟩ = some (.bool (us t)) := (cell_blk h.blk _).trans (bcells_used ht)
theorem BRep.free (h : BRep w p cost now g op ids us fs n pw ab Fw fv) (i : Nat) : w.frozen? ⟨p, i, none⟩ = false := free_blk h.blk i
end
/-- A request has come out. -/
def BM.outM (M : BM) (id : Int) (e : Ent) (f : FateM) : BM := ⟨M.cost, M.now, at1 M.op id none, M.ids, fun i => if i = e.tm then false else M.us i, M.fs ++ [f]⟩
theorem BInv.outM {M : BM} (h : BInv M) {id : Int} {e : Ent} (he : M.op id = some e) (f : FateM) : BInv (M.outM id e f) ∧ canT M.g (e.tm : Int) = (M.outM id e f).g := by
  obtain ⟨e1, e2, e3, e4, e5, e6⟩ := h.opn id e he
  refine ⟨⟨h.cost, fun t ht => ?_, fun x y hx => ?_⟩, ?_⟩
  · simp only [BM.outM] at ht ⊢
    by_cases ht2 : t = e.tm
    · rw [if_pos ht2] at ht; cases ht
    · rw [if_neg ht2] at ht
      obtain ⟨h1, d, h2⟩ := h.used t ht
      refine ⟨h1, d, ?_⟩
      rw [at1_ne]
      · exact h2
      · intro hc
        rw [hc, he] at h2
        simp only [Option.some.injEq] at h2
        exact ht2 (by rw [h2])
  · simp only [BM.outM] at hx ⊢
    by_cases hxi : x = id
    · rw [hxi, at1_same] at hx; cases hx
    · rw [at1_ne _ _ hxi] at hx
      obtain ⟨g1, g2, g3, g4, g5, g6⟩ := h.opn x y hx
      refine ⟨g1, g2, ?_, g4, g5, g6⟩
      rw [if_neg]
      · exact g3
      · intro hc
        rw [hc, e4] at g4
        exact hxi g4.symm
  · unfold canT
    rw [if_pos (by omega), Int.toNat_natCast]
    show updT (goneT M.g0 M.now) e.tm none = goneT (M.outM id e f).g0 M.now
    rw [updT_gone _ _ _ _ (fun a h => by cases h)]
    congr 1
    funext t
    unfold updT BM.g0 BM.outM
    simp only
    by_cases ht : t = e.tm
    · rw [if_pos ht, if_pos ht]; rfl
    · rw [if_neg ht, if_neg ht]
      cases hu : M.us t with
      | false => rfl
      | true =>
        simp only [if_true]
        obtain ⟨_, d, h2⟩ := h.used t hu
        rw [at1_ne]
        intro hc
        rw [hc, he] at h2
        simp only [Option.some.injEq] at h2
        exact ht (by rw [h2])
theorem cpost {w w' : World} {p cost now : Nat} {g : Nat → Option Nat} {op : Int → Option Ent} {ids : Nat → Int} {us : Nat → Bool} {fs : List FateM} {n pw ab now' : Nat} {g' : Nat → Option Nat} {Fw : Nat → Prop} {fv : Value} (hs : WTPost w pw now' g' Fw w') (h : BRep w p cost now g op ids us fs n pw ab Fw fv) : w'.cell? ⟨p, 1, none⟩ = some (.pointer (some ⟨pw, 0, none⟩)) := by
  obtain ⟨F', h1, h2, h3⟩ := hs
  exact (h.wheel h1 h2 h3).1.c1
theorem cpost0 {w w' : World} {p cost now : Nat} {g : Nat → Option Nat} {op : Int → Option Ent} {ids : Nat → Int} {us : Nat → Bool} {fs : List FateM} {n pw ab now' : Nat} {g' : Nat → Option Nat} {Fw : Nat → Prop} {fv : Value} (hs : WTPost w pw now' g' Fw w') (h : BRep w p cost now g op ids us fs n pw ab Fw fv) : w'.cell? ⟨p, 0, none⟩ = some (.int .u64 cost) := by
  obtain ⟨F', h1, h2, h3⟩ := hs
  exact (h.wheel h1 h2 h3).1.c0
theorem xpost {w0 w w' : World} {pw now now' Bx tm dead : Nat} {g g' : Nat → Option Nat} {Fw : Nat → Prop} {p ab : Nat} {fv : Value} (hs : WTPost w.drew pw now' g' Fw w') (_h : WT w.drew pw now g Fw) (hx : w.heap[Bx]? = some (.cells #[.int .i64 tm, .int .u64 dead] 68 (0, 0))) (hl : ∀ k, BF p ab Fw fv k → k < w0.heap.size) (hB : w0.heap.size = Bx) : w'.cell? ⟨Bx, 0, none⟩ = some (.int .i64 tm) := by
  obtain ⟨F', _, h2, _⟩ := hs
  have hx' : w.drew.heap[Bx]? = some (.cells #[.int .i64 tm, .int .u64 dead] 68 (0, 0)) := hx
  have := h2.blk hx' (fun hF => by have := hl Bx (.inr (.inr (.inl hF))); omega)
  exact (cell_blk this 0).trans rfl
set_option maxHeartbeats 4000000 in
theorem bout_none (p : Nat) (M : BM) (F : Nat → Prop) (w : World) (h : BAt w p M F) (id kind why : Int) (hk : kwf id) (ho : M.op id = none) :
    Calls Try.prog 27 #[.pointer (some ⟨p, 0, none⟩), .int .i64 id, .int .i64 kind, .int .i64 why] w fun e w' => e = .returned (.int .i64 6) ∧ Below w.heap.size w w' := by
  obtain ⟨pw, ab, Fw, fv, h, hi, -⟩ := h
  have c := h.c2
  have hl := h.map.look_ok Try.underlying3 Try.underlying62 (Try.zeroEnt w) hk
  rw [ho] at hl
  replace hl : (Instr.lookup 62 (.map (some ab)) (.int .i64 id) true).run Try.prog w = .ok (.tuple #[.agg #[.int .i64 0, .int .u64 0], .bool false]) w := hl
  have HB := Box.mk (fun o => (Below.refl w.heap.size w).alloc (Nat.le_refl _) o)
  clear h hi ho
  go_enter Try.func27, Try.ntmps27
  go_wp2
  go_ret
  exact ⟨rfl, HB.out _⟩
set_option maxHeartbeats 8000000 in
set_option maxRecDepth 100000 in
theorem bout_some (p : Nat) (M : BM) (F : Nat → Prop) (w : World) (h : BAt w p M F) (id kind why : Int) (hk : kwf id) (e : Ent) (ho : M.op id = some e) (hlen : M.fs.length ≤ 1000000) :
    Calls Try.prog 27 #[.pointer (some ⟨p, 0, none⟩), .int .i64 id, .int .i64 kind, .int .i64 why] w fun x w' => x = .returned (.int .i64 0) ∧ BPost w p (M.outM id e ⟨id, kind, why⟩) F w' := by
  obtain ⟨pw, ab, Fw, fv, h, hi, rfl⟩ := h
  obtain ⟨fo, fc, rfl⟩ := ownsRow_slice h.row
  have c := h.c2
  have hl := h.map.look_ok Try.underlying3 Try.underlying62 (Try.zeroEnt w) hk
  rw [ho] at hl
  obtain ⟨hi2, hg2⟩ := hi.outM ho ⟨id, kind, why⟩
  have ht64 : e.tm < 64 := (hi.used _ (hi.opn id e ho).2.2.1).1
  obtain ⟨tm, dead⟩ := e
  replace hl : (Instr.lookup 62 (.map (some ab)) (.int .i64 id) true).run Try.prog w = .ok (.tuple #[.agg #[.int .i64 tm, .int .u64 dead], .bool true]) w := hl
  simp only at ht64
  have h1 := h.later ((Below.refl w.heap.size w).alloc (Nat.le_refl _) (.cells #[.int .i64 tm, .int .u64 dead] 68))
  obtain ⟨Bx, hBx⟩ : ∃ Bx, w.heap.size = Bx := ⟨_, rfl⟩
  have HX1 : Box ((w.alloc (.cells #[.int .i64 tm, .int .u64 dead] 68)).heap[Bx]? = some (.cells #[.int .i64 tm, .int .u64 dead] 68 (0, 0))) := ⟨by rw [← hBx]; exact blk_new _ _⟩
  have HLT := Box.mk (fun k (hk : BF p ab Fw (.slice fo M.fs.length fc) k) => h.lt hk)
  have HF0 : Box (Fr (BF p ab Fw (.slice fo M.fs.length fc)) w (w.alloc (.cells #[.int .i64 tm, .int .u64 dead] 68))) := ⟨(Fr.refl _ w).alloc _⟩
  have HI := Box.mk (And.intro hi2 hg2)
  have HO := Box.mk (And.intro hi ho)
  have H1 := Box.mk h1
  have HBX := Box.mk hBx
  clear h hi ho hi2 hg2 h1
  go_enter Try.func27, Try.ntmps27
  go_upto_region 4 with fail
  generalize w.alloc (.cells #[.int .i64 tm, .int .u64 dead] 68) = w1 at H1 HX1 HF0 ⊢
  clear c hl
  try rw [hBx]
  clear hBx
  have c1 := H1.out.c1
  have x0 := cell_blk HX1.out 0
  simp only [List.getElem?_toArray, List.getElem?_cons_zero] at x0
  have HCA := Box.mk (wt_cancel pw M.now M.g Fw _ H1.out.drew.wh tm (kwf_of (by omega) (by omega)))
  go_cut [] (fun wx => Box (WTPost w1.drew pw M.now (canT M.g (tm : Int)) Fw wx))
  case first =>
    go_region_held3 (fun w' => w'.cell? ⟨p, 1, none⟩ = some (.pointer (some ⟨pw, 0, none⟩)) ∧ w'.cell? ⟨Bx, 0, none⟩ = some (.int .i64 tm)) (simp [*])
      ((go_at_call 34; refine HCA.out.mono ?_; rintro e w4 ⟨rfl, hs⟩; have y1 := cpost hs H1.out.drew; have y2 := xpost hs H1.out.drew.wh HX1.out HLT.out HBX.out; have HS := Box.mk hs; clear hs))
    all_goals
      go_wp2
      go_meet
      exact HS
  case rest =>
    have HS := hcut
    rename World => w4
    obtain ⟨Fw', hw4, hf4, hg4⟩ := HS.out
    obtain ⟨h4, hgr4⟩ := H1.out.drew.wheel hw4 hf4 hg4
    have hx4 : w4.heap[Bx]? = some (.cells #[.int .i64 tm, .int .u64 dead] 68 (0, 0)) := hf4.blk (w := w1.drew) HX1.out (fun hF => by have := HLT.out Bx (.inr (.inr (.inl hF))); have := HBX.out; omega)
    have HX4 := Box.mk hx4
    have H4 := Box.mk h4
    have HF4 : Box (Fr (BF p ab Fw (.slice fo M.fs.length fc)) w w4) := ⟨HF0.out.drew.trans (hf4.mono (fun k _ h => .inr (.inr (.inl h))))⟩
    have HG4 : Box (Gro (BF p ab Fw (.slice fo M.fs.length fc)) (BF p ab Fw' (.slice fo M.fs.length fc)) w) := ⟨fun k hk => by
      rcases hgr4 k hk with e | e
      · exact .inl e
      · have := HF0.out.size; exact .inr (by simp at e; omega)⟩
    clear hw4 hf4 hg4 h4 hgr4 hx4 HS c1 x0 HCA HX1 H1
    have x0 := cell_blk HX4.out 0
    simp only [List.getElem?_toArray, List.getElem?_cons_zero] at x0
    have f67 := H4.out.free (67 + tm)
    have c67 := H4.out.cUsed ht64
    have hti : (tm : Int) < 64 := by omega
    have hti0 : (0 : Int) ≤ tm := by omega
    go_upto_region 5 with fail
    go_region
    all_goals
      have h5 := (H4.out.setUsed ht64 false).drew
      have hf5 := (fr_cell w4 p (67 + tm) (.bool false)).drew
      generalize (w4.setCell ⟨p, 67 + tm, none⟩ (.bool false)).drew = w5 at h5 hf5 ⊢
      have c2 := h5.c2
      obtain ⟨w6, hrun, hm6, hf6⟩ := h5.map.drop Try.underlying3 Try.underlying62 hk 0
      have H6 := Box.mk (h5.setMap hm6 hf6)
      have HF6 : Box (Fr (BF p ab Fw (.slice fo M.fs.length fc)) w w6) := ⟨(HF4.out.trans (hf5.mono (fun k _ e => .inl e))).trans (hf6.mono (fun k _ e => .inr (.inl e)))⟩
      clear h5 hf5 hm6 hf6 x0 f67 c67
      have c131 := H6.out.c131
      have HOWN := Box.mk H6.out.row
      obtain ⟨i0, hi0, hz0, hz1, hz2⟩ := info_parts Try.infoFate
      obtain ⟨N, hN⟩ : ∃ N, M.fs.length = N := ⟨_, rfl⟩
      have HN := Box.mk hN
      rw [hN] at hlen c131 HOWN
      clear hN
      go_upto_region 7 with fail
      clear hrun c2
      go_wp2_with (at_builtin; refine wpList_append_lies _ rfl (.tmp 44) (.tmp 49) 31 rfl 0 35 i0 (.agg #[.int .i64 0, .int .i64 0, .int .i64 0]) 3 24 Try.underlying31 hi0 hz0 hz1 hz2 rfl (by decide) (.slice fo N fc) N (fcells M.fs) rfl (HOWN.out.alloc _) ⟨w6.heap.size, 0, none⟩ 1 1 [.int .i64 id, .int .i64 kind, .int .i64 why] rfl rfl (World.news_of_block (cs := #[.int .i64 id, .int .i64 kind, .int .i64 why]) (blk_new _ _)) ?h1 (by omega) ?b1 ?b2 (Nat.zero_le _) _ rfl ?next)
      case h1 => simp [Value.oneCell']
      case b1 => unfold maxLen; omega
      case b2 => omega
      case next =>
        intro g3 c3 w7 ho7 hg7 hat7 _
        have hf7 : Fr (fun k => (Value.slice fo N fc).ownBlock = some k) w6 w7 := ((Fr.refl _ w6).alloc _).grown hg7 (fun k e => .inl e)
        rw [← HN.out] at hf7
        have HS7 := Box.mk (H6.out.setFs (fs' := M.fs ++ [⟨id, kind, why⟩]) (fv' := .slice (some ⟨g3, 0, none⟩) (N + 1) c3) hf7 (by rw [List.length_append, fcells_append, HN.out]; exact ho7) (fun k hk => by
          have hk' : g3 = k := by simpa [Value.ownBlock] using hk
          subst hk'
          rcases hat7 with e | e
          · left; rw [HN.out]; exact e
          · right; have h1 : (w6.alloc (.cells #[.int .i64 id, .int .i64 kind, .int .i64 why] 35)).heap.size = w6.heap.size + 1 := by simp
            omega))
        have hb7 := hf7.blk H6.out.blk (fun e => (H6.out.s4 p e).1 rfl)
        have c7 := (cell_blk hb7 131).trans bcells_fs
        have f7 := free_blk hb7 131
        clear ho7 hg7 hat7 hf7 hb7 c131 HOWN
        go_wp2
        go_ret
        obtain ⟨hr, hfr, hgr⟩ := HS7.out
        have hinv := HI.out.1
        refine ⟨rfl, BF p ab Fw' (.slice (some ⟨g3, 0, none⟩) (N + 1) c3), ⟨pw, ab, Fw', .slice (some ⟨g3, 0, none⟩) (N + 1) c3, ?_, hinv, rfl⟩, ?_, ?_⟩
        · have hm := (hr.map.tight Try.underlying3 hinv.keys_nodup hinv.keys_mem).mono (BM.keys_len _)
          rw [HI.out.2] at hr
          exact { hr with map := hm }
        · exact HF6.out.trans' hfr (fun k hk h => (HG4.out k (by
            rcases h with h | h | h | h
            · exact .inl h
            · exact .inr (.inl h)
            · exact .inr (.inr (.inl h))
            · exact .inr (.inr (.inr h)))).resolve_right (by omega))
        · exact fun k hk => by
            rcases hgr k hk with h | h
            · exact HG4.out k h
            · have := HF6.out.size; exact .inr (by omega)

end Go.Proofs.Ytbodnmcaipakcaa
