/-
  The walks of both functions 'Words'.
-/
import Derived.Test.YtimeodjfihpgeaaDoorProg
import Derived.Test.YtimeodjfihpgeaaDoorStA
import Derived.Lib.OthersKept
import Derived.Tactics
import Derived.Tactics2
import Derived.WalkKit
import Derived.KernelRfl
import Derived.IntWalk
import Derived.BigRegion
import Derived.Deep.QuietTactic
import Derived.Deep.DeepCutAuto
import Derived.Deep.CutBlock
namespace Go.Proofs.YtimeodjfihpgeaaDoor
open Go.RowKit

theorem Tryd.infoStr : (Tryd.prog.info? 9).map (fun i => (i.zero, i.size, i.bytes)) = some (some (.string ByteArray.empty), 1, 16) := by kernel_rfl
set_option maxHeartbeats 1000000 in
theorem blank_any (r : Nat) (w : World) : Calls Tryd.prog 42 #[.int .i32 r] w fun e w' => e = .returned (.bool (blankR r)) ∧ w = w' := by
  by_cases h1 : r = 32
  · subst h1
    go_enter Tryd.func42, Tryd.ntmps42
    go_wp2
    go_ret
    exact ⟨rfl, rfl⟩
  · by_cases h2 : r = 9
    · subst h2
      go_enter Tryd.func42, Tryd.ntmps42
      go_wp2
      go_ret
      exact ⟨rfl, rfl⟩
    · by_cases h3 : r = 10
      · subst h3
        go_enter Tryd.func42, Tryd.ntmps42
        go_wp2
        go_ret
        exact ⟨rfl, rfl⟩
      · by_cases h4 : r = 13
        · subst h4
          go_enter Tryd.func42, Tryd.ntmps42
          go_wp2
          go_ret
          exact ⟨rfl, rfl⟩
        · have e : blankR r = false := by unfold blankR; simp [h1, h2, h3, h4]
          rw [e]
          have e1 : ((r : Int) == 32) = false := beq_eq_false_iff_ne.2 (by omega)
          have e2 : ((r : Int) == 9) = false := beq_eq_false_iff_ne.2 (by omega)
          have e3 : ((r : Int) == 10) = false := beq_eq_false_iff_ne.2 (by omega)
          have e4 : ((r : Int) == 13) = false := beq_eq_false_iff_ne.2 (by omega)
          clear e h1 h2 h3 h4
          go_enter Tryd.func42, Tryd.ntmps42
          go_wp2
          go_ret
          exact ⟨rfl, rfl⟩

/-- Texts that a call has made. -/
def StrOut (B : Nat) (w : World) (v : Value) (W : List Bs) : Prop := ∃ (a : Option Addr) (c : Nat), v = .slice a W.length c ∧ w.ownsRow B 9 1 v W.length (strV W)

/-- A row that lies above the iterator. -/
theorem owns_iterAt {B k : Nat} {w : World} {e : TypeId} {v : Value} {n : Nat} {xs : List Value} (h : w.ownsRow B e 1 v n xs) (hk : k < B) (s : ByteArray) (pos : Nat) : (w.iterAt k s pos).ownsRow B e 1 v n xs :=
  ownsRow_fr h (fun g hg => Lib.iterAt_other w k g s pos (by have := (ownsRow_lt h hg).1; omega))
theorem slice_str (s : ByteArray) (a b : Nat) : Value.string (s.extract a b) = strv ((s.data.toList.drop a).take (b - a)) := by rw [Lib.extract_eq]
theorem slice_str_end (s : ByteArray) (a : Nat) : Value.string (s.extract a s.size) = strv (s.data.toList.drop a) := by
  rw [slice_str, List.take_of_length_le (by rw [List.length_drop, ← bts_size]; omega)]

set_option maxHeartbeats 8000000 in
set_option maxRecDepth 100000 in
theorem words_any (s : ByteArray) (hs : s.size ≤ 1000000) (w : World) :
    Calls Tryd.prog 32 #[.string s] w fun e w' => ∃ v, e = .returned v ∧ StrOut w.heap.size w' v (words s.data.toList) ∧ Below w.heap.size w w' := by
  obtain ⟨i0, hi, hz0, hz1, hz2⟩ := info_parts Tryd.infoStr
  have HL := Box.mk (bts_size s)
  go_enter Tryd.func32, Tryd.ntmps32
  go_upto_block 0 with fail
  go_wp2
  go_loopw [3, 4, 5, 6] (fun s3 s4 _ _ wr => ∃ (pos : Nat) (cur : Bs) (W : List Bs) (ao : Option Addr) (c : Nat), s3 = .slice ao W.length c ∧ Box (wr.ownsRow (w.heap.size + 1) 9 1 (.slice ao W.length c) W.length (strV W)) ∧ Box (wr.heap[w.heap.size]? = some (.stringIter s pos)) ∧ Box (Below w.heap.size w wr) ∧ Box (W ++ wgo cur (s.data.toList.drop pos) = words s.data.toList) ∧ pos ≤ s.size ∧ W.length ≤ pos ∧ ((s4 = .int .i64 (-1) ∧ cur = []) ∨ ∃ f : Nat, s4 = .int .i64 f ∧ f < pos ∧ Box (cur = (s.data.toList.drop f).take (pos - f)))) (fun _ _ _ _ wr => s.size - wr.iterPos w.heap.size)
  case atStart =>
    refine ⟨0, [], [], none, 0, rfl, ⟨by simp [strV], .inl ⟨rfl, rfl⟩⟩, ⟨World.iter_heap w s 0⟩, ⟨(Below.refl _ w).alloc (Nat.le_refl _) _⟩, ⟨rfl⟩, by omega, by simp, .inl ⟨rfl, rfl⟩⟩
  case round =>
    obtain ⟨pos, cur, W, ao, c, rfl, HOW, HIT, HB, HW, hps, hWp, hcur⟩ := hrel
    have hit := HIT.out
    have hwl : w.heap.size < wr.heap.size := lt_blk hit
    by_cases hp : pos < s.size
    · have hnx : ∀ ty, (Instr.next (.pointer (some ⟨w.heap.size, 0, none⟩)) true ty).run Tryd.prog wr = _ := fun ty => Lib.run_next_any_at wr w.heap.size s pos ty hit hp
      have hru := wgo_rune hp cur
      have hdl := decode_le s pos
      have HBL := Box.mk (fun w => blank_any (Utf8.decode s pos).1 w)
      have HIT2 := Box.mk (Lib.iterAt_heap wr w.heap.size s pos (pos + (Utf8.decode s pos).2) hit)
      have HOW2 := Box.mk (owns_iterAt HOW.out (Nat.lt_succ_self _) s (pos + (Utf8.decode s pos).2))
      have HB2 := Box.mk (Lib.below_iterAt HB.out (Nat.le_refl _) s (pos + (Utf8.decode s pos).2))
      have hV2 : wr.heap.size = (wr.iterAt w.heap.size s (pos + (Utf8.decode s pos).2)).heap.size := (Lib.iterAt_size _ _ _ _).symm
      generalize hd : Utf8.decode s pos = d at hnx hru hdl HBL HIT2 HOW2 HB2 hV2
      obtain ⟨r, m⟩ := d
      simp only at hnx hru hdl HBL HIT2 HOW2 HB2 hV2
      have HIP := Box.mk (show wr.iterPos w.heap.size = pos by simp [World.iterPos, hit])
      clear hit hd HB HIT HOW
      go_upto_region 6 with fail
      generalize wr.iterAt w.heap.size s (pos + m) = V at HIT2 HOW2 HB2 hV2 ⊢
      have HVB : Box (w.heap.size + 1 ≤ V.heap.size) := ⟨by omega⟩
      clear hnx hV2 hwl
      have HIP2 := Box.mk (show V.iterPos w.heap.size = pos + m by simp [World.iterPos, HIT2.out])
      rcases hru with ⟨hb, hm, hw⟩ | ⟨hb, hm1, hm2, hw⟩
      · obtain rfl : m = 1 := hm
        rw [hb] at HBL
        have HWD : Box (W ++ (if cur = [] then wgo [] (s.data.toList.drop (pos + 1)) else cur :: wgo [] (s.data.toList.drop (pos + 1))) = words s.data.toList) := ⟨by rw [← hw]; exact HW.out⟩
        clear hb hw HW
        rcases hcur with ⟨rfl, hc⟩ | ⟨f, rfl, hf, hc⟩
        · have HWE : Box (W ++ wgo [] (s.data.toList.drop (pos + 1)) = words s.data.toList) := ⟨by rw [← HWD.out, if_pos hc]⟩
          go_wp2_with (go_at_call 42; (with_reducible refine (HBL.out _).mono ?_); rintro e w1 ⟨rfl, rfl⟩)
          go_roundw
          case rel => exact ⟨pos + 1, [], W, ao, c, rfl, HOW2, HIT2, HB2, HWE, by omega, by omega, .inl ⟨rfl, rfl⟩⟩
          case measure => simp only [HIP.out, HIP2.out] <;> omega
        · have hcn : Box (cur ≠ []) := ⟨fun e => by
            have := congrArg List.length (hc.out.symm.trans e)
            rw [List.length_take, List.length_drop, ← bts_size] at this
            simp at this; omega⟩
          have HX : Box (s.extract f pos = ⟨cur.toArray⟩) := ⟨by rw [Lib.extract_eq, hc.out]⟩
          have HWE : Box ((W ++ [cur]) ++ wgo [] (s.data.toList.drop (pos + 1)) = words s.data.toList) := ⟨by rw [← HWD.out, if_neg hcn.out]; simp⟩
          have hfi : (0 : Int) ≤ f := by omega
          have hfp : (f : Int) ≤ pos := by omega
          have hps2 : (pos : Int) ≤ s.size := by omega
          clear HWD
          go_wp2_with (first
            | (go_at_call 42; (with_reducible refine (HBL.out _).mono ?_); rintro e w1 ⟨rfl, rfl⟩)
            | (at_builtin; refine wpList_append_lies _ rfl (.tmp 20) (.tmp 25) 64 rfl (w.heap.size + 1) 9 i0 (.string ByteArray.empty) 1 16 Tryd.underlying64 hi hz0 hz1 hz2 rfl (by decide) (.slice ao W.length c) W.length (strV W) rfl (HOW2.out.alloc _) ⟨V.heap.size, 0, none⟩ 1 1 [.string (s.extract f pos)] rfl rfl (World.news_of_block (cs := #[.string (s.extract f pos)]) (blk_new _ _)) ?h1 (by omega) ?b1 ?b2 ?b3 _ rfl ?next))
          case h1 => simp [Value.oneCell']
          case b1 => unfold maxLen; omega
          case b2 => omega
          case b3 => have := HVB.out; simp; omega
          case next =>
            intro g3 c3 w3 ho3 hg3 _ _
            have HO3 : Box (w3.ownsRow (w.heap.size + 1) 9 1 (.slice (some ⟨g3, 0, none⟩) (W ++ [cur]).length c3) (W ++ [cur]).length (strV (W ++ [cur]))) := ⟨by
              rw [strV_append, List.length_append]
              have e : strV [cur] = [.string (s.extract f pos)] := by rw [HX.out]; rfl
              rw [e]; exact ho3⟩
            have hne : ∀ k, (Value.slice ao W.length c).ownBlock = some k → w.heap.size + 1 ≤ k := fun k hk => (ownsRow_lt HOW2.out hk).1
            have HIT3 : Box (w3.heap[w.heap.size]? = some (.stringIter s (pos + 1))) := ⟨by
              rw [hg3.block w.heap.size (by have := HVB.out; simp; omega) (fun e => by have := hne _ e.symm; omega)]
              exact blk_alloc HIT2.out⟩
            have HB3 : Box (Below w.heap.size w w3) := ⟨(HB2.out.alloc (by have := HVB.out; omega) _).grown hg3 (by have := HVB.out; simp; omega) (fun k hk => by have := hne k hk; omega)⟩
            have HIP3 := Box.mk (show w3.iterPos w.heap.size = pos + 1 by simp [World.iterPos, HIT3.out])
            have hWl : (W ++ [cur]).length = W.length + 1 := by simp
            clear ho3 hg3 hne
            go_wp2
            go_roundw
            case rel => exact ⟨pos + 1, [], W ++ [cur], some ⟨g3, 0, none⟩, c3, by rw [hWl], HO3, HIT3, HB3, HWE, by omega, by omega, .inl ⟨rfl, rfl⟩⟩
            case measure => simp only [HIP.out, HIP3.out] <;> omega
      · rw [hb] at HBL
        have HWD : Box (W ++ wgo (cur ++ (s.data.toList.drop pos).take m) (s.data.toList.drop (pos + m)) = words s.data.toList) := ⟨by rw [← hw]; exact HW.out⟩
        clear hb hw HW
        rcases hcur with ⟨rfl, hc⟩ | ⟨f, rfl, hf, hc⟩
        · have HC2 : Box (cur ++ (s.data.toList.drop pos).take m = (s.data.toList.drop pos).take (pos + m - pos)) := ⟨by rw [hc, List.nil_append, Nat.add_sub_cancel_left]⟩
          clear hc
          go_wp2_with (go_at_call 42; (with_reducible refine (HBL.out _).mono ?_); rintro e w1 ⟨rfl, rfl⟩)
          go_roundw
          case rel => exact ⟨pos + m, _, W, ao, c, rfl, HOW2, HIT2, HB2, HWD, by omega, by omega, .inr ⟨pos, rfl, by omega, HC2⟩⟩
          case measure => simp only [HIP.out, HIP2.out] <;> omega
        · have HC2 : Box (cur ++ (s.data.toList.drop pos).take m = (s.data.toList.drop f).take (pos + m - f)) := ⟨by
            rw [hc.out]
            have e : pos + m - f = (pos - f) + m := by omega
            rw [e, List.take_add, List.drop_drop]
            congr 3
            omega⟩
          have hfi : (0 : Int) ≤ f := by omega
          clear hc
          go_wp2_with (go_at_call 42; (with_reducible refine (HBL.out _).mono ?_); rintro e w1 ⟨rfl, rfl⟩)
          go_roundw
          case rel => exact ⟨pos + m, _, W, ao, c, rfl, HOW2, HIT2, HB2, HWD, by omega, by omega, .inr ⟨f, rfl, by omega, HC2⟩⟩
          case measure => simp only [HIP.out, HIP2.out] <;> omega
    · have hnx : ∀ ty, (Instr.next (.pointer (some ⟨w.heap.size, 0, none⟩)) true ty).run Tryd.prog wr = _ := fun ty => Lib.run_next_end_at wr w.heap.size s pos ty hit hp
      have hpe : pos = s.size := by omega
      have HWD : Box (W ++ wgo cur [] = words s.data.toList) := ⟨by rw [← HW.out, List.drop_eq_nil_of_le (by rw [← bts_size]; omega)]⟩
      clear hit HW HIT
      rcases hcur with ⟨rfl, hc⟩ | ⟨f, rfl, hf, hc⟩
      · have HWE : Box (W = words s.data.toList) := ⟨by rw [← HWD.out, hc]; simp [wgo]⟩
        clear HWD hc
        go_wp2
        go_ret
        exact ⟨_, rfl, by rw [← HWE.out]; exact ⟨ao, c, rfl, ownsRow_mono HOW.out (Nat.le_succ _)⟩, HB.out⟩
      · have hcn : Box (cur ≠ []) := ⟨fun e => by
          have := congrArg List.length (hc.out.symm.trans e)
          rw [List.length_take, List.length_drop, ← bts_size] at this
          simp at this; omega⟩
        have HX : Box (s.extract f s.size = ⟨cur.toArray⟩) := ⟨by rw [Lib.extract_eq, hc.out, hpe]⟩
        have HWE : Box (W ++ [cur] = words s.data.toList) := ⟨by rw [← HWD.out]; simp [wgo, hcn.out]⟩
        have hfi : (0 : Int) ≤ f := by omega
        have hfp : (f : Int) ≤ s.size := by omega
        clear HWD
        go_wp2_with (at_builtin; refine wpList_append_lies _ rfl (.tmp 38) (.tmp 42) 64 rfl (w.heap.size + 1) 9 i0 (.string ByteArray.empty) 1 16 Tryd.underlying64 hi hz0 hz1 hz2 rfl (by decide) (.slice ao W.length c) W.length (strV W) rfl (HOW.out.alloc _) ⟨wr.heap.size, 0, none⟩ 1 1 [.string (s.extract f s.size)] rfl rfl (World.news_of_block (cs := #[.string (s.extract f s.size)]) (blk_new _ _)) ?h1 (by omega) ?b1 ?b2 ?b3 _ rfl ?next)
        case h1 => simp [Value.oneCell']
        case b1 => unfold maxLen; omega
        case b2 => omega
        case b3 => simp; omega
        case next =>
          intro g3 c3 w3 ho3 hg3 _ _
          have HO3 : Box (w3.ownsRow w.heap.size 9 1 (.slice (some ⟨g3, 0, none⟩) (W ++ [cur]).length c3) (W ++ [cur]).length (strV (W ++ [cur]))) := ⟨by
            rw [strV_append, List.length_append]
            have e : strV [cur] = [.string (s.extract f s.size)] := by rw [HX.out]; rfl
            rw [e]; exact ownsRow_mono ho3 (Nat.le_succ _)⟩
          have hne : ∀ k, (Value.slice ao W.length c).ownBlock = some k → w.heap.size + 1 ≤ k := fun k hk => (ownsRow_lt HOW.out hk).1
          have HB3 : Box (Below w.heap.size w w3) := ⟨(HB.out.alloc (by omega) _).grown hg3 (by simp; omega) (fun k hk => by have := hne k hk; omega)⟩
          have hWl : (W ++ [cur]).length = W.length + 1 := by simp
          clear ho3 hg3 hne
          go_wp2
          go_ret
          exact ⟨.slice (some ⟨g3, 0, none⟩) (W.length + 1) c3, rfl, by rw [← HWE.out]; exact ⟨some ⟨g3, 0, none⟩, c3, by rw [hWl], by rw [← hWl]; exact HO3.out⟩, HB3.out⟩

end Go.Proofs.YtimeodjfihpgeaaDoor
