/-
  The walk of the document's 'Words'.
-/
import Derived.Test.YtanlodaimbocoaaDoorStB
namespace Go.Proofs.YtanlodaimbocoaaDoor
open Go.RowKit

theorem str_app (a b : Bs) : strv (a ++ b) = .string ((⟨a.toArray⟩ : ByteArray) ++ ⟨b.toArray⟩) := by
  congr 1

theorem strb_app (a b : Bs) : (⟨(a ++ b).toArray⟩ : ByteArray) = ⟨a.toArray⟩ ++ ⟨b.toArray⟩ := by
  have := str_app a b
  injection this

set_option maxHeartbeats 8000000 in
set_option maxRecDepth 100000 in
theorem rwords_any (s : ByteArray) (hs : s.size ≤ 1000000) (w : World) :
    Calls Tryd.prog 17 #[.string s] w fun e w' => ∃ v, e = .returned v ∧ StrOut w.heap.size w' v (words s.data.toList) ∧ Below w.heap.size w w' := by
  obtain ⟨i0, hi, hz0, hz1, hz2⟩ := info_parts Tryd.infoStr
  have HL := Box.mk (bts_size s)
  go_enter Tryd.func17, Tryd.ntmps17
  go_upto_block 0 with fail
  go_wp2
  go_loopw [3, 4, 5, 6] (fun s3 s4 s5 _ wr => ∃ (i : Nat) (cur : Bs) (W : List Bs) (ao : Option Addr) (c : Nat), s3 = .slice ao W.length c ∧ s4 = strv cur ∧ s5 = .int .i64 i ∧ Box (wr.ownsRow w.heap.size 9 1 (.slice ao W.length c) W.length (strV W)) ∧ Box (Below w.heap.size w wr) ∧ Box (W ++ wgo cur (s.data.toList.drop i) = words s.data.toList) ∧ i ≤ s.size ∧ W.length ≤ i ∧ cur.length ≤ i) (fun _ _ s5 _ _ => s.size - (intOf s5).toNat)
  case atStart =>
    exact ⟨0, [], [], none, 0, rfl, rfl, rfl, ⟨by simp [strV], .inl ⟨rfl, rfl⟩⟩, ⟨Below.refl _ _⟩, ⟨rfl⟩, by omega, by simp, by simp⟩
  case round =>
    obtain ⟨i, cur, W, ao, c, rfl, rfl, rfl, HOW, HB, HW, hps, hWp, hcl⟩ := hrel
    by_cases hp : i < s.size
    · have hpi : (i : Int) < s.size := by omega
      go_upto_region 7 with fail
      have hl : i < s.data.toList.length := by rw [← bts_size]; exact hp
      have hdr : s.data.toList.drop i = s[i] :: s.data.toList.drop (i + 1) := by rw [List.drop_eq_getElem_cons hl, bts_get hp]
      have hex : s.extract i (i + 1) = ⟨[s[i]].toArray⟩ := by
        rw [Lib.extract_eq, hdr, Nat.add_sub_cancel_left]; rfl
      have HEX := Box.mk hex
      rw [hdr] at HW
      generalize s[i] = x at HW HEX ⊢
      clear hl hdr hex
      have hx256 : x.toNat < 256 := x.toNat_lt
      by_cases hb : blankB x = true
      · have HWD : Box (W ++ (if cur = [] then wgo [] (s.data.toList.drop (i + 1)) else cur :: wgo [] (s.data.toList.drop (i + 1))) = words s.data.toList) := ⟨by rw [← wgo_blank hb]; exact HW.out⟩
        have hr : x.toNat = 32 ∨ x.toNat = 9 ∨ x.toNat = 10 ∨ x.toNat = 13 := by
          rw [← blankR_of] at hb; unfold blankR at hb; simpa [or_assoc] using hb
        clear hb HW
        generalize x.toNat = r at hr hx256 ⊢
        by_cases hc : cur = []
        · have HWE : Box (W ++ wgo [] (s.data.toList.drop (i + 1)) = words s.data.toList) := ⟨by rw [← HWD.out, if_pos hc]⟩
          clear HWD
          subst hc
          rcases hr with rfl | rfl | rfl | rfl
          all_goals
            go_wp2
            go_round
            case rel => exact ⟨i + 1, [], W, ao, c, rfl, rfl, by go_num, HOW, HB, HWE, by omega, by omega, by simp⟩
            case measure => simp [intOf] <;> omega
        · obtain ⟨y, ys, rfl⟩ : ∃ y ys, cur = y :: ys := by cases cur with
            | nil => exact absurd rfl hc
            | cons y ys => exact ⟨y, ys, rfl⟩
          have HWE : Box ((W ++ [y :: ys]) ++ wgo [] (s.data.toList.drop (i + 1)) = words s.data.toList) := ⟨by rw [← HWD.out, if_neg hc]; simp⟩
          have hsw := HB.out.size
          clear HWD hc
          rcases hr with rfl | rfl | rfl | rfl
          all_goals
            go_wp2_with (at_builtin; refine wpList_append_lies _ rfl (.tmp 32) (.tmp 34) 32 rfl w.heap.size 9 i0 (.string ByteArray.empty) 1 16 Tryd.underlying32 hi hz0 hz1 hz2 rfl (by decide) (.slice ao W.length c) W.length (strV W) rfl (HOW.out.alloc _) ⟨wr.heap.size, 0, none⟩ 1 1 [strv (y :: ys)] rfl rfl (World.news_of_block (cs := #[strv (y :: ys)]) (blk_new _ _)) ?h1 (by omega) ?b1 ?b2 ?b3 _ rfl ?next)
            case h1 => simp [Value.oneCell']
            case b1 => unfold maxLen; omega
            case b2 => omega
            case b3 => simp; omega
            case next =>
              intro g3 c3 w3 ho3 hg3 _ _
              have hne : ∀ k, (Value.slice ao W.length c).ownBlock = some k → w.heap.size ≤ k := fun k hk => (ownsRow_lt HOW.out hk).1
              have HB3 : Box (Below w.heap.size w w3) := ⟨(HB.out.alloc hsw _).grown hg3 (by simp; omega) (fun k hk => hne k hk)⟩
              have hWl : (W ++ [y :: ys]).length = W.length + 1 := by simp
              have HO3 : Box (w3.ownsRow w.heap.size 9 1 (.slice (some ⟨g3, 0, none⟩) (W ++ [y :: ys]).length c3) (W ++ [y :: ys]).length (strV (W ++ [y :: ys]))) := ⟨by
                rw [strV_append, hWl]; exact ho3⟩
              clear ho3 hg3 hne
              go_wp2
              go_roundw
              case rel => exact ⟨i + 1, [], W ++ [y :: ys], some ⟨g3, 0, none⟩, c3, by rw [hWl], rfl, by go_num, HO3, HB3, HWE, by omega, by omega, by simp⟩
              case measure => simp [intOf] <;> omega
      · have hb' : blankB x = false := by simpa using hb
        have HWE : Box (W ++ wgo (cur ++ [x]) (s.data.toList.drop (i + 1)) = words s.data.toList) := ⟨by rw [← wgo_letter hb']; exact HW.out⟩
        have hr : ¬ x.toNat = 32 ∧ ¬ x.toNat = 9 ∧ ¬ x.toNat = 10 ∧ ¬ x.toNat = 13 := by
          rw [← blankR_of] at hb'; unfold blankR at hb'; simpa [and_assoc] using hb'
        obtain ⟨r1, r2, r3, r4⟩ := hr
        have e1 : ((x.toNat : Int) == 32) = false := beq_eq_false_iff_ne.2 (by omega)
        have e2 : ((x.toNat : Int) == 9) = false := beq_eq_false_iff_ne.2 (by omega)
        have e3 : ((x.toNat : Int) == 10) = false := beq_eq_false_iff_ne.2 (by omega)
        have e4 : ((x.toNat : Int) == 13) = false := beq_eq_false_iff_ne.2 (by omega)
        have hex := HEX.out
        clear hb hb' HW r1 r2 r3 r4
        go_wp2
        go_roundw
        case rel => exact ⟨i + 1, cur ++ [x], W, ao, c, rfl, by rw [← str_app cur [x]], by go_num, HOW, HB, HWE, by omega, by omega, by simp; omega⟩
        case measure => simp [intOf] <;> omega
    · have hpi : ¬ (i : Int) < s.size := by omega
      have HWD : Box (W ++ wgo cur [] = words s.data.toList) := ⟨by rw [← HW.out, List.drop_eq_nil_of_le (by rw [← bts_size]; omega)]⟩
      clear HW
      by_cases hc : cur = []
      · have HWE : Box (W = words s.data.toList) := ⟨by rw [← HWD.out, hc]; simp [wgo]⟩
        subst hc
        clear HWD
        go_wp2
        go_ret
        exact ⟨.slice ao W.length c, rfl, by rw [← HWE.out]; exact ⟨ao, c, rfl, HOW.out⟩, HB.out⟩
      · obtain ⟨y, ys, rfl⟩ : ∃ y ys, cur = y :: ys := by cases cur with
          | nil => exact absurd rfl hc
          | cons y ys => exact ⟨y, ys, rfl⟩
        have HWE : Box (W ++ [y :: ys] = words s.data.toList) := ⟨by rw [← HWD.out]; simp [wgo]⟩
        have hsw := HB.out.size
        clear HWD hc
        go_wp2_with (at_builtin; refine wpList_append_lies _ rfl (.tmp 45) (.tmp 47) 32 rfl w.heap.size 9 i0 (.string ByteArray.empty) 1 16 Tryd.underlying32 hi hz0 hz1 hz2 rfl (by decide) (.slice ao W.length c) W.length (strV W) rfl (HOW.out.alloc _) ⟨wr.heap.size, 0, none⟩ 1 1 [strv (y :: ys)] rfl rfl (World.news_of_block (cs := #[strv (y :: ys)]) (blk_new _ _)) ?h1 (by omega) ?b1 ?b2 ?b3 _ rfl ?next)
        case h1 => simp [Value.oneCell']
        case b1 => unfold maxLen; omega
        case b2 => omega
        case b3 => exact Nat.le_trans hsw (by simp)
        case next =>
          intro g3 c3 w3 ho3 hg3 _ _
          have hne : ∀ k, (Value.slice ao W.length c).ownBlock = some k → w.heap.size ≤ k := fun k hk => (ownsRow_lt HOW.out hk).1
          have HB3 : Box (Below w.heap.size w w3) := ⟨(HB.out.alloc hsw _).grown hg3 (by simp; omega) (fun k hk => hne k hk)⟩
          have hWl : (W ++ [y :: ys]).length = W.length + 1 := by simp
          have HO3 : Box (w3.ownsRow w.heap.size 9 1 (.slice (some ⟨g3, 0, none⟩) (W ++ [y :: ys]).length c3) (W ++ [y :: ys]).length (strV (W ++ [y :: ys]))) := ⟨by
            rw [strV_append, hWl]; exact ho3⟩
          clear ho3 hg3 hne
          go_wp2
          go_ret
          exact ⟨.slice (some ⟨g3, 0, none⟩) (W.length + 1) c3, rfl, by rw [← HWE.out]; exact ⟨some ⟨g3, 0, none⟩, c3, by rw [hWl], by rw [← hWl]; exact HO3.out⟩, HB3.out⟩

end Go.Proofs.YtanlodaimbocoaaDoor
