/-
  The walk of 'Parse'.
-/
import Derived.Test.YtanlodaimbocoaaDoorStI
import Derived.Deep.RegionLawGrows
import Derived.Laws.ResultCell
namespace Go.Proofs.YtanlodaimbocoaaDoor
open Go.RowKit

theorem Tryd.infoAny : (Tryd.prog.info? 20).map (fun i => (i.zero, i.size, i.bytes)) = some (some .nilIface, 1, 16) := by kernel_rfl
theorem Tryd.infoI : (Tryd.prog.info? 3).map (fun i => (i.zero, i.size, i.bytes)) = some (some (.int .i64 0), 1, 8) := by kernel_rfl
/-- A row of values, one cell each. -/
def VRow (w : World) (ao : Option Addr) (V : List Value) : Prop := 0 < V.length → ∃ b off, ao = some ⟨b, off, none⟩ ∧ b < w.heap.size ∧ ∀ i (hi : i < V.length), w.cell? ⟨b, off + i, none⟩ = some V[i]
theorem VRow.later {w w' : World} {ao : Option Addr} {V : List Value} (h : VRow w ao V) (hb : Below w.heap.size w w') : VRow w' ao V := fun h0 => by
  obtain ⟨b, off, e, hl, hc⟩ := h h0
  exact ⟨b, off, e, Nat.lt_of_lt_of_le hl hb.size, fun i hi => (hb.cell (p := ⟨b, off + i, none⟩) hl).trans (hc i hi)⟩
theorem VRow.own {w : World} {B : Nat} {T : TypeId} {ao : Option Addr} {n c : Nat} {V : List Value} (h : w.ownsRow B T 1 (.slice ao n c) n V) : VRow w ao V := fun h0 => by
  have hr := RowAt.of_owns h
  have hl := hr.1
  rcases hr.2 with ⟨_, e⟩ | ⟨b, off, cap, e, _, _, _, hb, hc⟩
  · omega
  · injection e with e _ _
    exact ⟨b, off, e, hb, fun i hi => hc _ _ (List.getElem?_eq_getElem hi)⟩
theorem own_bound {w : World} {B : Nat} {T : TypeId} {ao : Option Addr} {n c : Nat} {V : List Value} (h : w.ownsRow B T 1 (.slice ao n c) n V) : n ≤ c ∧ c ≤ 9223372036854775807 ∧ (0 < n → ∃ g, ao = some ⟨g, 0, none⟩) := by
  rcases h.2 with ⟨e, e2⟩ | ⟨g, cap, cur, e, _, _, h1, h2, _⟩
  · injection e with _ e3 e4
    exact ⟨by omega, by omega, fun h => by omega⟩
  · injection e with e1 _ e3
    subst e3
    exact ⟨h1, by unfold maxLen at h2; omega, fun _ => ⟨g, e1⟩⟩
theorem anyV_form (x : Bs) : ∃ ty u, anyV x = .iface ty u := by unfold anyV; split <;> exact ⟨_, _, rfl⟩
theorem tail_any {g n lc : Nat} (hn : 1 ≤ n) (hlc : n ≤ lc) : ∃ a2, (∀ w, (Instr.slice 43 (.slice (some ⟨g, 0, none⟩) n lc) (some (.int .i64 1)) none none).run Tryd.prog w = .ok (.slice a2 (n - 1) (lc - 1)) w) ∧ (1 < n → a2 = some ⟨g, 1, none⟩) := by
  obtain ⟨ia, ha, _, hy1, _⟩ := info_parts Tryd.infoAny
  have he : Tryd.prog.elem 43 = 20 := by unfold Program.elem; rw [Tryd.underlying43]
  have ht' : Tryd.prog.underlying 43 = some (.slice (Tryd.prog.elem 43)) := by rw [he]; exact Tryd.underlying43
  have hs : ∀ w, (sizeOf (Tryd.prog.elem 43)).run Tryd.prog w = .ok 1 w := fun w => by rw [he]; simp [sizeOf, typeInfo, ha, hy1]
  have r2 : ∀ w, (Instr.slice 43 (.slice (some ⟨g, 0, none⟩) n lc) (some (.int .i64 1)) none none).run Tryd.prog w = .ok (sliced (some ⟨g, 0, none⟩) 1 n lc 1) w := fun w => by
    rw [run_slice_l w _ _ n lc ht' .i64 1 (by omega) (by omega), hs]
    simp [Result.andThen]
  refine ⟨_, r2, fun h => ?_⟩
  rw [if_neg (by omega)]
  rfl
/-- What Parse answers. -/
def ParseOut (B : Nat) (w : World) (e : Ending) : Option (Bs × List Int) → Prop
  | none => e = .returned (.tuple #[.agg #[.string ⟨#[]⟩, .slice none 0 0], .int .i64 9])
  | some p => ∃ ao c, e = .returned (.tuple #[.agg #[strv p.1, .slice ao p.2.length c], .int .i64 0]) ∧ w.ownsRow B 3 1 (.slice ao p.2.length c) p.2.length (ints p.2)

theorem res_world {w w2 : World} {R0 : Nat} {a0 b0 a b : Value} (h : w2.heap[R0]? = some (.cells #[a0, b0] 25 (0, 0))) (hb : Below R0 w w2) :
    ((w2.setCell ⟨R0, 0, none⟩ a).setCell ⟨R0, 1, none⟩ b).cell? ⟨R0, 0, none⟩ = some a ∧ ((w2.setCell ⟨R0, 0, none⟩ a).setCell ⟨R0, 1, none⟩ b).cell? ⟨R0, 1, none⟩ = some b ∧ Below R0 w ((w2.setCell ⟨R0, 0, none⟩ a).setCell ⟨R0, 1, none⟩ b) := by
  have h1 := blk_set (i := 0) h a
  have h2 := blk_set (i := 1) h1 b
  have hf : Fr (fun k => k = R0) w2 ((w2.setCell ⟨R0, 0, none⟩ a).setCell ⟨R0, 1, none⟩ b) := ((Fr.refl (fun k => k = R0) w2).setCell (p := ⟨R0, 0, none⟩) (.inl rfl) a).setCell (p := ⟨R0, 1, none⟩) (.inl rfl) b
  exact ⟨(cell_blk h2 0).trans (by simp), (cell_blk h2 1).trans (by simp), hb.trans (hf.below (Nat.le_of_lt (lt_blk h)) (fun k _ e => by omega))⟩
theorem ta_str_int (v : Value) (w : World) : (Instr.typeAssert (.iface 3 v) 20 9 true).run Tryd.prog w = .ok (.tuple #[.string ⟨#[]⟩, .bool false]) w := by kernel_rfl
theorem ta_str_str (v : Value) (w : World) : (Instr.typeAssert (.iface 9 v) 20 9 true).run Tryd.prog w = .ok (.tuple #[v, .bool true]) w := by kernel_rfl
theorem ta_int_str (v : Value) (w : World) : (Instr.typeAssert (.iface 9 v) 20 3 true).run Tryd.prog w = .ok (.tuple #[.int .i64 0, .bool false]) w := by kernel_rfl
theorem ta_int_int (v : Value) (w : World) : (Instr.typeAssert (.iface 3 v) 20 3 true).run Tryd.prog w = .ok (.tuple #[v, .bool true]) w := by kernel_rfl
theorem ta_int (v : Value) (w : World) : (Instr.typeAssert (.iface 3 v) 20 3 false).run Tryd.prog w = .ok v w := by kernel_rfl
set_option maxHeartbeats 16000000 in
set_option maxRecDepth 100000 in
theorem parse_any (s : ByteArray) (hs : s.size ≤ 100000) (w : World) : Calls Tryd.prog 9 #[.string s] w fun e w' => ParseOut w.heap.size w' e (parseV s.data.toList) ∧ Below w.heap.size w w' := by
  obtain ⟨ia, ha, hy0, hy1, hy2⟩ := info_parts Tryd.infoAny
  obtain ⟨ii, hi, hz0, hz1, hz2⟩ := info_parts Tryd.infoI
  have HWD := Box.mk (fun w => words_any s (by omega) w)
  have HWM : Box (∀ x ∈ words s.data.toList, x.length ≤ 100000) := ⟨fun x hx => by have := (words_mem hx).2.2; rw [← bts_size] at this; omega⟩
  have HWL : Box ((words s.data.toList).length ≤ 100000) := ⟨by have := words_len s.data.toList; rw [← bts_size] at this; omega⟩
  have HPV : Box (parseV s.data.toList = match words s.data.toList with
    | [] => none
    | x :: r => match numsV r with
      | some z => if mayB x z = true then some (x, z) else none
      | none => none) := ⟨rfl⟩
  generalize parseV s.data.toList = pv at HPV ⊢
  generalize words s.data.toList = W at HWD HWM HWL HPV
  obtain ⟨R0, hR0⟩ : ∃ R0, w.heap.size = R0 := ⟨_, rfl⟩
  have HR0 := Box.mk hR0
  have HB0 : Box (Below R0 w (w.alloc (.cells #[.string ⟨#[]⟩, .slice none 0 0] 25))) := ⟨(Below.refl _ _).alloc (by omega) _⟩
  have HX0 : Box ((w.alloc (.cells #[.string ⟨#[]⟩, .slice none 0 0] 25)).heap[R0]? = some (.cells #[.string ⟨#[]⟩, .slice none 0 0] 25 (0, 0))) := ⟨by rw [← hR0]; exact blk_new _ _⟩
  rw [hR0]
  clear hR0
  go_enter Tryd.func9, Tryd.ntmps9
  go_upto_region 1 with fail
  generalize w.alloc (.cells #[.string ⟨#[]⟩, .slice none 0 0] 25) = V0 at HB0 HX0 ⊢
  rw [HR0.out]
  have HRL : Box (R0 < V0.heap.size) := ⟨lt_blk HX0.out⟩
  go_upto_block 0 with (go_at_call 16; (with_reducible refine (HWD.out _).mono ?_); rintro e w1 ⟨v, rfl, hso, hb⟩; obtain ⟨wa, wc, rfl, hown⟩ := hso; have HVW := Box.mk (VRow.own hown); have HB1 := Box.mk hb; clear hown hb)
  have HBa : Box (Below R0 w w1) := ⟨HB0.out.trans (HB1.out.mono (by have := HRL.out; omega))⟩
  have HXa : Box (w1.heap[R0]? = some (.cells #[.string ⟨#[]⟩, .slice none 0 0] 25 (0, 0))) := ⟨by rw [HB1.out.block R0 HRL.out]; exact HX0.out⟩
  clear HWD HB0 HX0 HB1 HRL
  have hWn := HWL.out
  go_cut [4, 6] (fun s4 _ wx => ∃ lo lc N, s4 = .slice lo N lc ∧ Box (N = W.length) ∧ Box (wx.ownsRow w1.heap.size 20 1 (.slice lo N lc) N (W.map anyV)) ∧ Box (Below w1.heap.size w1 wx))
  case first =>
    go_wp2
    go_loopw [4, 6, 17] (fun s4 _ s17 wr => ∃ (i : Nat) (lo : Option Addr) (lc : Nat), i ≤ W.length ∧ s17 = .int .i64 i ∧ s4 = .slice lo i lc ∧ Box (wr.ownsRow w1.heap.size 20 1 (.slice lo i lc) i ((W.take i).map anyV)) ∧ Box (Below w1.heap.size w1 wr)) (fun _ _ s17 _ => W.length - (intOf s17).toNat)
    case atStart => exact ⟨0, none, 0, by omega, rfl, rfl, ⟨World.ownsRow_nil _ _ _ _⟩, ⟨Below.refl _ _⟩⟩
    case round =>
      obtain ⟨i, lo, lc, hiW, rfl, rfl, HOW, HB⟩ := hrel
      by_cases hlt : i < W.length
      · have hii : (i : Int) < W.length := by omega
        obtain ⟨b, off, rfl, hbl, hc⟩ := HVW.out (by simpa [strV] using (by omega : 0 < W.length))
        have cx := (HB.out.cell (p := ⟨b, off + i, none⟩) hbl).trans (hc i (by simpa [strV] using hlt))
        have hge : (strV W)[i]'(by simpa [strV] using hlt) = strv W[i] := by simp [strV]
        rw [hge] at cx
        have HV := Box.mk (fun w => value_any W[i] (by have := HWM.out _ (List.getElem_mem hlt); omega) w)
        have HTK : Box ((W.take (i + 1)).map anyV = (W.take i).map anyV ++ [anyV W[i]]) := ⟨by rw [List.take_succ_eq_append_getElem hlt, List.map_append]; rfl⟩
        have HONE : Box (∀ u ∈ [anyV W[i]], u.oneCell' = true) := ⟨fun u hu => by
          rw [List.mem_singleton] at hu; subst hu
          unfold anyV; split <;> rfl⟩
        obtain ⟨ty, u, hyu⟩ : ∃ ty u, anyV W[i] = .iface ty u := anyV_form _
        rw [hyu] at HV HTK HONE
        clear hc hge hyu
        generalize W[i] = x at cx HV
        have hsw := HB.out.size
        go_wp2_with (first
          | (go_at_call 24; (with_reducible refine (HV.out _).mono ?_); rintro e w2 ⟨rfl, hb⟩; have HBv := Box.mk hb; have HOW2 := Box.mk (ownsRow_fr HOW.out (fun g hg => hb.block g (ownsRow_lt HOW.out hg).2)); clear hb)
          | (at_builtin; refine wpList_append_lies _ rfl (.tmp 21) (.tmp 24) 43 rfl w1.heap.size 20 ia .nilIface 1 16 Tryd.underlying43 ha hy0 hy1 hy2 rfl (by decide) (.slice lo i lc) i ((W.take i).map anyV) rfl (HOW2.out.alloc _) ⟨w2.heap.size, 0, none⟩ 1 1 [.iface ty u] rfl rfl (World.news_of_block (cs := #[.iface ty u]) (blk_new _ _)) HONE.out (by omega) ?b1 ?b2 ?b3 _ rfl ?next))
        case b1 => unfold maxLen; omega
        case b2 => omega
        case b3 => exact Nat.le_trans (Nat.le_trans hsw HBv.out.size) (by simp)
        case next =>
          intro g3 c3 w3 ho3 hg3 _ _
          have hne : ∀ k, (Value.slice lo i lc).ownBlock = some k → w1.heap.size ≤ k := fun k hk => (ownsRow_lt HOW.out hk).1
          have HB3 : Box (Below w1.heap.size w1 w3) := ⟨((HB.out.trans (HBv.out.mono hsw)).alloc (Nat.le_trans hsw HBv.out.size) _).grown hg3 (Nat.le_trans (Nat.le_trans hsw HBv.out.size) (by simp)) (fun k hk => hne k hk)⟩
          have HO3 : Box (w3.ownsRow w1.heap.size 20 1 (.slice (some ⟨g3, 0, none⟩) (i + 1) c3) (i + 1) ((W.take (i + 1)).map anyV)) := ⟨by rw [HTK.out, List.map_take]; exact ho3⟩
          clear ho3 hg3 hne
          go_wp2
          go_roundw
          case rel => exact ⟨i + 1, some ⟨g3, 0, none⟩, c3, by omega, by go_num, rfl, HO3, HB3⟩
          case measure => simp [intOf] <;> omega
      · have hii : ¬ (i : Int) < W.length := by omega
        obtain rfl : i = W.length := by omega
        have HOE : Box (wr.ownsRow w1.heap.size 20 1 (.slice lo W.length lc) W.length (W.map anyV)) := ⟨by have := HOW.out; rwa [List.take_of_length_le (Nat.le_refl _)] at this⟩
        go_wp2
        go_meet
        exact ⟨lo, lc, _, rfl, ⟨rfl⟩, HOE, HB⟩
  case rest =>
    obtain ⟨lo, lc, N, rfl, HNW, HOL, HBL⟩ := hcut
    rename World => w2
    have HBb : Box (Below R0 w w2) := ⟨HBa.out.trans (HBL.out.mono (by have := lt_blk HXa.out; omega))⟩
    have HXb : Box (w2.heap[R0]? = some (.cells #[.string ⟨#[]⟩, .slice none 0 0] 25 (0, 0))) := ⟨by rw [HBL.out.block R0 (lt_blk HXa.out)]; exact HXa.out⟩
    have HVL := Box.mk (VRow.own HOL.out)
    have HBD := Box.mk (own_bound HOL.out)
    clear HBa HXa HVW HBL HOL
    have r0 : World.cell? w2 ⟨R0, 0, none⟩ = some (.string ⟨#[]⟩) := (cell_blk HXb.out 0).trans rfl
    have r1 : World.cell? w2 ⟨R0, 1, none⟩ = some (.slice none 0 0) := (cell_blk HXb.out 1).trans rfl
    have f0 : World.frozen? w2 ⟨R0, 0, none⟩ = false := free_blk HXb.out 0
    have f1 : World.frozen? w2 ⟨R0, 1, none⟩ = false := free_blk HXb.out 1
    cases W with
    | nil =>
      have HE : Box (pv = none) := ⟨HPV.out⟩
      obtain rfl : N = 0 := HNW.out
      clear HPV HWM HWL HVL HBD hWn
      go_wp2
      obtain ⟨q0, q1, hbw⟩ := res_world HXb.out HBb.out (a := .string ⟨#[]⟩) (b := .slice none 0 0)
      have HBW := Box.mk hbw
      clear hbw r0 r1 f0 f1
      refine bodyPost_ret (v := .tuple #[.agg #[.string ⟨#[]⟩, .slice none 0 0], .int .i64 9]) (by simp [results, Tryd.results9, go_sem, q0, q1]) rfl ⟨by rw [HE.out]; rfl, HBW.out⟩
    | cons x r =>
      have hNr : N = r.length + 1 := HNW.out
      obtain ⟨hlc1, hlc2, hlo⟩ := HBD.out
      obtain ⟨g, rfl⟩ := hlo (by omega)
      obtain ⟨b, off, hbo, hgl, hcl⟩ := HVL.out (by simp)
      obtain ⟨rfl, rfl⟩ : g = b ∧ 0 = off := by injection hbo with h; injection h with h1 h2; exact ⟨h1, h2⟩
      have l0 : World.cell? w2 ⟨g, 0, none⟩ = some (anyV x) := hcl 0 (by simp)
      have HLC : Box (∀ j (hj : j < r.length), World.cell? w2 ⟨g, 1 + j, none⟩ = some (anyV r[j])) := ⟨fun j hj => by
        have := hcl (j + 1) (by simpa using hj)
        rw [Nat.zero_add] at this
        rw [Nat.add_comm 1 j]
        simpa using this⟩
      have HXL : Box (x.length ≤ 100000 ∧ ∀ y ∈ r, y.length ≤ 100000) := ⟨HWM.out x (List.mem_cons_self ..), fun y hy => HWM.out y (List.mem_cons_of_mem _ hy)⟩
      have hN6 : N ≤ 100000 := by rw [HNW.out]; exact HWL.out
      have hN1 : 1 ≤ N := by omega
      have hN1i : (0 : Int) < N := by omega
      have hN0b : ((N : Int) == 0) = false := beq_eq_false_iff_ne.2 (by omega)
      have HNR := Box.mk hNr
      clear hcl hbo HVL HBD HWM HWL hWn hNr HNW hlo
      cases hnx : numV x with
      | some n =>
        rw [anyV_some hnx] at l0
        have HE : Box (pv = none) := ⟨by
          rw [HPV.out]
          simp only
          cases numsV r with
          | none => rfl
          | some z => simp only; rw [may_no_name (number_no_name hnx)]; rfl⟩
        clear HPV hnx
        have hta := ta_str_int
        go_wp2
        obtain ⟨q0, q1, hbw⟩ := res_world HXb.out HBb.out (a := .string ⟨#[]⟩) (b := .slice none 0 0)
        have HBW := Box.mk hbw
        clear hbw r0 r1 f0 f1
        refine bodyPost_ret (v := .tuple #[.agg #[.string ⟨#[]⟩, .slice none 0 0], .int .i64 9]) (by simp [results, Tryd.results9, go_sem, q0, q1]) rfl ⟨by rw [HE.out]; rfl, HBW.out⟩
      | none =>
        rw [anyV_none hnx] at l0
        clear hnx
        have hta := ta_str_str
        obtain ⟨C0, hC0⟩ : ∃ C0, w2.heap.size = C0 := ⟨_, rfl⟩
        have HC0 := Box.mk hC0
        have HXc : Box ((w2.alloc (.cells #[strv x, .slice none 0 0] 25)).heap[C0]? = some (.cells #[strv x, .slice none 0 0] 25 (0, 0))) := ⟨by rw [← hC0]; exact blk_new _ _⟩
        have HBc : Box (Below C0 w2 (w2.alloc (.cells #[strv x, .slice none 0 0] 25))) := ⟨(Below.refl _ _).alloc (by omega) _⟩
        have hRC : R0 < C0 := by rw [← hC0]; exact lt_blk HXb.out
        have hgC : g < C0 := by omega
        obtain ⟨a2, hsl, ha2⟩ := tail_any (g := g) (n := N) (lc := lc) hN1 hlc1
        go_upto_region 13 with fail
        clear hC0 hta
        generalize w2.alloc (.cells #[strv x, .slice none 0 0] 25) = w4 at HXc HBc ⊢
        clear r0 r1 f0 f1 l0
        have hm : r.length = N - 1 := by have := HNR.out; omega
        obtain ⟨m, hm2⟩ : ∃ m, N - 1 = m := ⟨_, rfl⟩
        rw [hm2] at hm hsl
        have HMR := Box.mk hm
        have HA2 : Box (∀ j (hj : j < r.length), ∃ off, a2 = some ⟨g, off, none⟩ ∧ off = 1) := ⟨fun j hj => ⟨1, ha2 (by omega), rfl⟩⟩
        have hm6 : m ≤ 100000 := by omega
        clear hm ha2 hm2 HC0
        go_upto_block 2 with fail
        clear hsl
        go_wp2
        go_loopw [11, 12, 13, 46, 3] (fun _ _ _ s46 s3 wr => ∃ (j : Nat) (z : List Int) (no : Option Addr) (nc : Nat), j ≤ m ∧ s46 = .int .i64 j ∧ s3 = .int .i64 0 ∧ z.length = j ∧ Box (numsV (r.take j) = some z) ∧ Box (wr.heap[C0]? = some (.cells #[strv x, .slice no j nc] 25 (0, 0))) ∧ Box (wr.ownsRow (C0 + 1) 3 1 (.slice no j nc) j (ints z)) ∧ Box (Below C0 w2 wr)) (fun _ _ _ s46 _ _ => m - (intOf s46).toNat)
        case atStart => exact ⟨0, [], none, 0, by omega, rfl, rfl, rfl, ⟨by simp [numsV]⟩, HXc, ⟨World.ownsRow_nil _ _ _ _⟩, HBc⟩
        case round =>
          clear HXc HBc
          obtain ⟨j, z, no, nc, hjm, rfl, rfl, hzj, HNV, HXC, HOW, HBR⟩ := hrel
          have HXR : Box (wr.heap[R0]? = some (.cells #[.string ⟨#[]⟩, .slice none 0 0] 25 (0, 0))) := ⟨by rw [HBR.out.block R0 hRC]; exact HXb.out⟩
          have HBw : Box (Below R0 w wr) := ⟨HBb.out.trans (HBR.out.mono (by omega))⟩
          have hCl := lt_blk HXC.out
          by_cases hjl : j < m
          · have hji : (j : Int) < m := by omega
            have hjr : j < r.length := by rw [HMR.out]; exact hjl
            obtain ⟨off, rfl, rfl⟩ := HA2.out j hjr
            have l1 := (HBR.out.cell (p := ⟨g, 1 + j, none⟩) hgC).trans (HLC.out j hjr)
            cases hny : numV r[j] with
            | none =>
              rw [anyV_none hny] at l1
              have HE : Box (pv = none) := ⟨by
                rw [HPV.out]
                rw [numsV_bad (List.getElem_mem hjr) hny]⟩
              have r0 : World.cell? wr ⟨R0, 0, none⟩ = some (.string ⟨#[]⟩) := (cell_blk HXR.out 0).trans rfl
              have r1 : World.cell? wr ⟨R0, 1, none⟩ = some (.slice none 0 0) := (cell_blk HXR.out 1).trans rfl
              have f0 : World.frozen? wr ⟨R0, 0, none⟩ = false := free_blk HXR.out 0
              have f1 : World.frozen? wr ⟨R0, 1, none⟩ = false := free_blk HXR.out 1
              have hta := ta_int_str
              clear hny
              generalize r[j] = y at l1
              go_wp2
              obtain ⟨q0, q1, hbw⟩ := res_world HXR.out HBw.out (a := .string ⟨#[]⟩) (b := .slice none 0 0)
              have HBW := Box.mk hbw
              clear hbw r0 r1 f0 f1
              refine bodyPost_ret (v := .tuple #[.agg #[.string ⟨#[]⟩, .slice none 0 0], .int .i64 9]) (by simp [results, Tryd.results9, go_sem, q0, q1]) rfl ⟨by rw [HE.out]; rfl, HBW.out⟩
            | some k =>
              rw [anyV_some hny] at l1
              have HNV2 : Box (numsV (r.take (j + 1)) = some (z ++ [(k : Int)])) := ⟨by rw [List.take_succ_eq_append_getElem hjr]; exact numsV_snoc HNV.out hny⟩
              have hta := ta_int_int
              have hta2 := ta_int
              have c1 : World.cell? wr ⟨C0, 1, none⟩ = some (.slice no j nc) := (cell_blk HXC.out 1).trans rfl
              have HNO := Box.mk (fun g (hg : (Value.slice no j nc).ownBlock = some g) => ownsRow_lt HOW.out hg)
              clear hny
              go_upto_region 19 with fail
              go_region_law (refine step_append_lies _ rfl (.tmp 59) (.tmp 62) 23 rfl (C0 + 1) 3 ii (.int .i64 0) 1 8 Tryd.underlying23 hi hz0 hz1 hz2 rfl (by decide) (.slice no j nc) j (ints z) (by simp [Act.eval, Act.put]) (ownsRow_fr (HOW.out.alloc _) (fun _ _ => rfl)) ⟨wr.heap.size, 0, none⟩ 1 1 [.int .i64 k] (by simp [Act.eval, Act.put]) rfl (World.news_of_block (cs := #[.int .i64 k]) (blk_new _ _)) (by simp [Value.oneCell']) (by omega) (by unfold maxLen; omega) (by omega) (by simp; omega) _ rfl ?_; intro g3 c3 w3 ho3 hg3 _ _; have HO3 := Box.mk ho3; have hf3 : Fr (fun b => (Value.slice no j nc).ownBlock = some b) wr w3 := Fr.grown (((Fr.refl _ wr).alloc _).drew) hg3 (fun b e => .inl e); have hb3 := hf3.blk HXC.out (fun e => by have := (HNO.out _ e).1; omega); have q1 : World.cell? w3 ⟨C0, 1, none⟩ = some (.slice no j nc) := (cell_blk hb3 1).trans rfl; have q2 : World.frozen? w3 ⟨C0, 1, none⟩ = false := free_blk hb3 1; have HB3 := Box.mk hb3; have HF3 := Box.mk hf3; clear ho3 hg3 hf3 hb3)
              all_goals
                have HXC2 : Box ((w3.setCell ⟨C0, 1, none⟩ (.slice (some ⟨g3, 0, none⟩) (j + 1) c3)).heap[C0]? = some (.cells #[strv x, .slice (some ⟨g3, 0, none⟩) (j + 1) c3] 25 (0, 0))) := ⟨by
                  have := blk_set (i := 1) HB3.out (.slice (some ⟨g3, 0, none⟩) (j + 1) c3)
                  simpa using this⟩
                have hfs : Fr (fun b => b = C0) w3 (w3.setCell ⟨C0, 1, none⟩ (.slice (some ⟨g3, 0, none⟩) (j + 1) c3)) := Fr.setCell (F := fun b => b = C0) (Fr.refl _ w3) (p := ⟨C0, 1, none⟩) (.inl rfl) _
                have HO4 : Box ((w3.setCell ⟨C0, 1, none⟩ (.slice (some ⟨g3, 0, none⟩) (j + 1) c3)).ownsRow (C0 + 1) 3 1 (.slice (some ⟨g3, 0, none⟩) (j + 1) c3) (j + 1) (ints (z ++ [(k : Int)]))) := ⟨by
                  have e : ints (z ++ [(k : Int)]) = ints z ++ [.int .i64 (k : Int)] := by simp
                  rw [e]
                  exact ownsRow_fr HO3.out (fun b hb => hfs.block b (ownsRow_lt HO3.out hb).2 (fun e => by have := (ownsRow_lt HO3.out hb).1; omega))⟩
                have HB5 : Box (Below C0 w2 (w3.setCell ⟨C0, 1, none⟩ (.slice (some ⟨g3, 0, none⟩) (j + 1) c3))) := ⟨(HBR.out.trans (HF3.out.below (by omega) (fun b _ e => by have := (HNO.out b e).1; omega))).trans (hfs.below (by have := HF3.out.size; omega) (fun b _ e => by omega))⟩
                have hzj2 : (z ++ [(k : Int)]).length = j + 1 := by simp [hzj]
                clear hfs q1 q2 c1
                go_wp2
                go_roundw
                case rel => exact ⟨j + 1, z ++ [(k : Int)], some ⟨g3, 0, none⟩, c3, by omega, by go_num, rfl, hzj2, HNV2, HXC2, HO4, HB5⟩
                case measure => simp [intOf] <;> omega
          · have hji : ¬ (j : Int) < m := by omega
            obtain rfl : j = m := by omega
            have HNV2 : Box (numsV r = some z) := ⟨by have := HNV.out; rwa [List.take_of_length_le (by rw [HMR.out]; exact Nat.le_refl _)] at this⟩
            have HPE : Box (pv = if mayB x z = true then some (x, z) else none) := ⟨by rw [HPV.out]; rw [HNV2.out]⟩
            have HNA : Box (NumsAt wr no j z) := ⟨hzj, by omega, fun h0 => by
              obtain ⟨b, off, e, hb, hc⟩ := VRow.own HOW.out (by simpa [hzj] using h0)
              exact ⟨b, off, e, hb, fun i hi => by have := hc i (by simpa using hi); simpa using this⟩⟩
            have HMY := Box.mk (may_any x (by unfold sok maxLen; have := HXL.out.1; omega) no j nc z wr HNA.out)
            have c0 : World.cell? wr ⟨C0, 0, none⟩ = some (strv x) := (cell_blk HXC.out 0).trans rfl
            have c1 : World.cell? wr ⟨C0, 1, none⟩ = some (.slice no j nc) := (cell_blk HXC.out 1).trans rfl
            cases hmb : mayB x z with
            | false =>
              rw [hmb] at HMY HPE
              have HE : Box (pv = none) := ⟨HPE.out⟩
              clear HPE HNV2 HNA HPV hmb
              go_upto_region 22 with (go_at_call 21; (with_reducible refine HMY.out.mono ?_); rintro e w5 ⟨rfl, hb⟩; have HB5 := Box.mk hb; have HX5 := Box.mk (show w5.heap[R0]? = some (.cells #[.string ⟨#[]⟩, .slice none 0 0] 25 (0, 0)) by rw [hb.block R0 (lt_blk HXR.out)]; exact HXR.out); clear hb)
              have r0 : World.cell? w5 ⟨R0, 0, none⟩ = some (.string ⟨#[]⟩) := (cell_blk HX5.out 0).trans rfl
              have r1 : World.cell? w5 ⟨R0, 1, none⟩ = some (.slice none 0 0) := (cell_blk HX5.out 1).trans rfl
              have f0 : World.frozen? w5 ⟨R0, 0, none⟩ = false := free_blk HX5.out 0
              have f1 : World.frozen? w5 ⟨R0, 1, none⟩ = false := free_blk HX5.out 1
              go_wp2
              obtain ⟨q0, q1, hbw⟩ := res_world HX5.out (HBw.out.trans (HB5.out.mono (by have := lt_blk HXR.out; omega))) (a := .string ⟨#[]⟩) (b := .slice none 0 0)
              have HBW := Box.mk hbw
              clear hbw r0 r1 f0 f1
              refine bodyPost_ret (v := .tuple #[.agg #[.string ⟨#[]⟩, .slice none 0 0], .int .i64 9]) (by simp [results, Tryd.results9, go_sem, q0, q1]) rfl ⟨by rw [HE.out]; rfl, HBW.out⟩
            | true =>
              rw [hmb] at HMY HPE
              have HE : Box (pv = some (x, z)) := ⟨HPE.out⟩
              clear HPE HNV2 HNA HPV hmb
              go_upto_region 23 with (go_at_call 21; (with_reducible refine HMY.out.mono ?_); rintro e w5 ⟨rfl, hb⟩; have HB5 := Box.mk hb; have HX5 := Box.mk (show w5.heap[R0]? = some (.cells #[.string ⟨#[]⟩, .slice none 0 0] 25 (0, 0)) by rw [hb.block R0 (lt_blk HXR.out)]; exact HXR.out); have HXC5 := Box.mk (show w5.heap[C0]? = some (.cells #[strv x, .slice no j nc] 25 (0, 0)) by rw [hb.block C0 (lt_blk HXC.out)]; exact HXC.out); clear hb)
              have r0 : World.cell? w5 ⟨R0, 0, none⟩ = some (.string ⟨#[]⟩) := (cell_blk HX5.out 0).trans rfl
              have r1 : World.cell? w5 ⟨R0, 1, none⟩ = some (.slice none 0 0) := (cell_blk HX5.out 1).trans rfl
              have f0 : World.frozen? w5 ⟨R0, 0, none⟩ = false := free_blk HX5.out 0
              have f1 : World.frozen? w5 ⟨R0, 1, none⟩ = false := free_blk HX5.out 1
              have d0 : World.cell? w5 ⟨C0, 0, none⟩ = some (strv x) := (cell_blk HXC5.out 0).trans rfl
              have d1 : World.cell? w5 ⟨C0, 1, none⟩ = some (.slice no j nc) := (cell_blk HXC5.out 1).trans rfl
              go_wp2
              obtain ⟨q0, q1, hbw⟩ := res_world HX5.out (HBw.out.trans (HB5.out.mono (by have := lt_blk HXR.out; omega))) (a := strv x) (b := .slice no j nc)
              have HBW := Box.mk hbw
              have HOF : Box (((w5.setCell ⟨R0, 0, none⟩ (strv x)).setCell ⟨R0, 1, none⟩ (.slice no j nc)).ownsRow R0 3 1 (.slice no j nc) j (ints z)) := ⟨by
                refine ownsRow_mono (ownsRow_fr HOW.out (fun b hb => ?_)) (by omega : R0 ≤ C0 + 1)
                have hb1 := ownsRow_lt HOW.out hb
                have hne : b ≠ R0 := by omega
                rw [blk_set_ne _ hne, blk_set_ne _ hne, HB5.out.block b hb1.2]⟩
              clear hbw r0 r1 f0 f1 d0 d1
              refine bodyPost_ret (v := .tuple #[.agg #[strv x, .slice no j nc], .int .i64 0]) (by simp [results, Tryd.results9, go_sem, q0, q1]) rfl ⟨?_, HBW.out⟩
              rw [HE.out]
              exact ⟨no, nc, by simp only [hzj], by simp only [hzj]; exact HOF.out⟩

end Go.Proofs.YtanlodaimbocoaaDoor
