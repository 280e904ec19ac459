/-
  Commands as lines: the walks of 'Digits', and of both functions 'Text'.
-/
import Derived.Test.YtanlodaimbocoaaDoorStL
import Derived.Test.YtanlodaimbocoaaDoorSh
import Derived.Lib.AppendIntMem
import Derived.Lib.Join
namespace Go.Proofs.YtanlodaimbocoaaDoor
open Go.RowKit

/-- The library's table reads as it is laid. -/
def Tab (w : World) : Prop := Lib.TabIs Tryd.prog w "internal/strconv.uint64pow10" .u64 Lib.pow10Tab
theorem Tab.on {w w' : World} (h : Tab w) (hb : Below w.heap.size w w') : Tab w' := Lib.tabBelow_of_tabIs h w' hb
theorem itoa_any (n : Int) (h0 : -9223372036854775808 ≤ n) (h1 : n ≤ 9223372036854775807) (w : World) (ht : Tab w) : Calls Tryd.prog 27 #[.int .i64 n] w fun e w' => e = .returned (strv (Lib.itoa n)) ∧ Below w.heap.size w w' :=
  (Tryd.strconv_Itoa n h0 h1 w ht).mono fun e w' hx => by
    obtain ⟨e1, k, os, rfl⟩ := hx
    exact ⟨e1, Lib.below_grow _ w (Nat.le_refl _) k os⟩
set_option maxHeartbeats 4000000 in
theorem digits_any (n : Int) (h0 : -9223372036854775807 ≤ n) (h1 : n ≤ 9223372036854775807) (w : World) : Calls Tryd.prog 23 #[.int .i64 n] w fun e w' => e = .returned (strv (Lib.itoa n)) ∧ Below w.heap.size w w' := by
  by_cases hn : n < 0
  · have HD := digitsN_any n.natAbs (by omega) w
    have e1 : ((n.natAbs : Nat) : Int) = -n := by omega
    rw [e1] at HD
    have HD := Box.mk HD
    have HE : Box (strv (Lib.itoa n) = .string ((⟨#[45]⟩ : ByteArray) ++ ⟨(Lib.decDigits n.natAbs).toArray⟩)) := ⟨by
      unfold Lib.itoa; rw [if_pos hn]; exact str_app [45] (Lib.decDigits n.natAbs)⟩
    have hl : (Lib.decDigits n.natAbs).length ≤ 20 := by rw [Lib.decDigits_length]; exact Lib.nDigits_le20 _ (by omega)
    clear e1
    generalize Lib.decDigits n.natAbs = l at HD HE hl
    go_enter Tryd.func23, Tryd.ntmps23
    go_wp2_with (go_at_call 23; (with_reducible refine HD.out.mono ?_); rintro e w1 ⟨rfl, hb⟩; have HB := Box.mk hb; clear hb)
    go_ret
    exact ⟨by rw [HE.out]; rfl, HB.out⟩
  · obtain ⟨k, rfl⟩ : ∃ k : Nat, n = k := ⟨n.toNat, by omega⟩
    refine (digitsN_any k (by omega) w).mono fun e w' hx => ⟨?_, hx.2⟩
    rw [hx.1]
    unfold Lib.itoa
    rw [if_neg hn, Int.toNat_natCast]

/-- A command as a line. -/
def textV (name : Bs) (z : List Int) : Bs := if mayB name z = true then Lib.join (name :: z.map Lib.itoa) [32] else []
theorem may_bounds {name : Bs} {z : List Int} (h : mayB name z = true) : ∀ v ∈ z, 0 ≤ v ∧ v ≤ 2147483647 := by
  intro v hv
  unfold mayB at h
  simp only [Bool.and_eq_true, Bool.not_eq_true', List.any_eq_false] at h
  have := h.2 v hv
  unfold badN at this
  simp at this
  omega
theorem itoa_len {v : Int} (h0 : 0 ≤ v) (h1 : v ≤ 2147483647) : (Lib.itoa v).length ≤ 21 := Lib.itoa_length_le v (by omega) (by omega)
theorem tail_len {z : List Int} (h : ∀ v ∈ z, 0 ≤ v ∧ v ≤ 2147483647) : (Lib.joinTail [32] (z.map Lib.itoa)).length ≤ 22 * z.length := by
  induction z with
  | nil => simp [Lib.joinTail]
  | cons v z ih =>
    have h1 := h v (List.mem_cons_self ..)
    have h2 := itoa_len h1.1 h1.2
    have h3 := ih (fun u hu => h u (List.mem_cons_of_mem _ hu))
    simp only [Lib.joinTail, List.map_cons, List.flatten_cons, List.length_append, List.length_cons, List.length_nil] at h3 ⊢
    omega
theorem own_one (w : World) (v : Value) (T : TypeId) : (w.alloc (.cells #[v] T)).ownsRow w.heap.size T 1 (.slice (some ⟨w.heap.size, 0, none⟩) 1 1) 1 [v] :=
  ⟨by simp, .inr ⟨w.heap.size, 1, #[v], rfl, Nat.le_refl _, heap_alloc_new w _, Nat.le_refl _, by unfold maxLen; decide, by simp, by simp⟩⟩

set_option maxHeartbeats 16000000 in
set_option maxRecDepth 100000 in
theorem text_any (name : Bs) (ao : Option Addr) (n cap : Nat) (z : List Int) (w : World) (h : NumsAt w ao n z) (ht : Tab w) (hx : name.length ≤ 100000) (hz : n ≤ 10000) : Calls Tryd.prog 19 #[.agg #[strv name, .slice ao n cap]] w fun e w' => e = .returned (strv (textV name z)) ∧ Below w.heap.size w w' := by
  obtain ⟨i0, hi, hz0, hz1, hz2⟩ := info_parts Tryd.infoStr
  have HB := Box.mk ((Below.refl w.heap.size w).alloc (Nat.le_refl _) (.cells #[strv name, .slice ao n cap] 25))
  have HZ := Box.mk (h.later HB.out)
  have HT := Box.mk (ht.on HB.out)
  have HZN := Box.mk h.1
  have HX1 : Box ((w.alloc (.cells #[strv name, .slice ao n cap] 25)).heap[w.heap.size]? = some (.cells #[strv name, .slice ao n cap] 25 (0, 0))) := ⟨blk_new _ _⟩
  have HM : Box (∀ w', NumsAt w' ao n z → Calls Tryd.prog 21 #[.agg #[strv name, .slice ao n cap]] w' fun e w'' => e = .returned (.bool (mayB name z)) ∧ Below w'.heap.size w' w'') := ⟨fun w' h => may_any name (by unfold sok maxLen; omega) ao n cap z w' h⟩
  clear h ht
  go_enter Tryd.func19, Tryd.ntmps19
  go_upto_region 1 with fail
  generalize hV : w.alloc (.cells #[strv name, .slice ao n cap] 25) = V at HB HX1 HZ HT ⊢
  have HVS : Box (w.heap.size < V.heap.size) := ⟨lt_blk HX1.out⟩
  clear hV
  have c0 : V.cell? ⟨w.heap.size, 0, none⟩ = some (strv name) := (cell_blk HX1.out 0).trans rfl
  have c1 : V.cell? ⟨w.heap.size, 1, none⟩ = some (.slice ao n cap) := (cell_blk HX1.out 1).trans rfl
  have HM := Box.mk (HM.out V HZ.out)
  cases hmb : mayB name z with
  | false =>
    rw [hmb] at HM
    have HE : Box (textV name z = []) := ⟨by unfold textV; rw [hmb]; rfl⟩
    clear hmb
    go_wp2_with (go_at_call 21; (with_reducible refine HM.out.mono ?_); rintro e w1 ⟨rfl, hb⟩; have HB1 := Box.mk hb; clear hb)
    go_ret
    exact ⟨by rw [HE.out]; rfl, HB.out.trans (HB1.out.mono (by have := HVS.out; omega))⟩
  | true =>
    rw [hmb] at HM
    have HE : Box (textV name z = Lib.join (name :: z.map Lib.itoa) [32]) := ⟨by unfold textV; rw [hmb]; rfl⟩
    have HBN := Box.mk (may_bounds hmb)
    clear hmb
    go_upto_region 3 with (go_at_call 21; (with_reducible refine HM.out.mono ?_); rintro e w1 ⟨rfl, hb⟩; have HB1 := Box.mk hb; clear hb)
    have HX2 : Box (w1.heap[w.heap.size]? = some (.cells #[strv name, .slice ao n cap] 25 (0, 0))) := ⟨by rw [HB1.out.block _ HVS.out]; exact HX1.out⟩
    have HBa : Box (Below w.heap.size w w1) := ⟨HB.out.trans (HB1.out.mono (by have := HVS.out; omega))⟩
    have HZ1 := Box.mk (HZ.out.later HB1.out)
    have HT1 := Box.mk (HT.out.on HB1.out)
    clear HB HB1 HZ HT HX1 HVS c0 c1
    have c0 : World.cell? w1 ⟨w.heap.size, 0, none⟩ = some (strv name) := (cell_blk HX2.out 0).trans rfl
    have HO1 := Box.mk (own_one w1 (strv name) 9)
    have HB2 : Box (Below w1.heap.size w1 (w1.alloc (.cells #[strv name] 9))) := ⟨(Below.refl _ _).alloc (Nat.le_refl _) _⟩
    go_upto_region 4 with fail
    generalize w1.alloc (.cells #[strv name] 9) = w2 at HO1 HB2 ⊢
    have HX3 : Box (w2.heap[w.heap.size]? = some (.cells #[strv name, .slice ao n cap] 25 (0, 0))) := ⟨by rw [HB2.out.block _ (lt_blk HX2.out)]; exact HX2.out⟩
    clear c0
    have c1 : World.cell? w2 ⟨w.heap.size, 1, none⟩ = some (.slice ao n cap) := (cell_blk HX3.out 1).trans rfl
    have HS0 : Box (strV (name :: (z.take 0).map Lib.itoa) = [strv name]) := ⟨by simp [strV]⟩
    go_upto_block 0 with fail
    clear c1
    go_wp2
    go_loopw [3, 5, 15] (fun s3 _ s15 wr => ∃ (i : Nat) (g c : Nat), i ≤ n ∧ s15 = .int .i64 i ∧ s3 = .slice (some ⟨g, 0, none⟩) (i + 1) c ∧ Box (wr.ownsRow w1.heap.size 9 1 (.slice (some ⟨g, 0, none⟩) (i + 1) c) (i + 1) (strV (name :: (z.take i).map Lib.itoa))) ∧ Box (Below w1.heap.size w1 wr)) (fun _ _ s15 _ => n - (intOf s15).toNat)
    case atStart => exact ⟨0, w1.heap.size, 1, by omega, rfl, rfl, ⟨by rw [HS0.out]; exact HO1.out⟩, HB2⟩
    case round =>
      clear HO1 HB2
      obtain ⟨i, g, c, hin, rfl, rfl, HOW, HB⟩ := hrel
      have hsw := HB.out.size
      by_cases hlt : i < n
      · have hii : (i : Int) < n := by omega
        have hiz : i < z.length := by rw [HZN.out]; exact hlt
        obtain ⟨b, off, rfl, hbl, hc⟩ := HZ1.out.2.2 (by omega)
        have cx := (HB.out.cell (p := ⟨b, off + i, none⟩) hbl).trans (hc i hiz)
        have hvb := HBN.out _ (List.getElem_mem hiz)
        have HI := Box.mk (itoa_any z[i] (by omega) (by omega) wr (HT1.out.on HB.out))
        have HTK : Box (strV (name :: (z.take (i + 1)).map Lib.itoa) = strV (name :: (z.take i).map Lib.itoa) ++ [strv (Lib.itoa z[i])]) := ⟨by rw [List.take_succ_eq_append_getElem hiz, List.map_append, ← List.cons_append, strV_append]; rfl⟩
        generalize z[i] = v at cx HI HTK
        generalize Lib.itoa v = l at HI HTK
        generalize strV (name :: (z.take i).map Lib.itoa) = X at HOW HTK
        clear hc hvb
        go_wp2_with (first
          | (go_at_call 27; (with_reducible refine HI.out.mono ?_); rintro e w3 ⟨rfl, hb⟩; have HBv := Box.mk hb; have HOW2 := Box.mk (ownsRow_fr HOW.out (fun g hg => hb.block g (ownsRow_lt HOW.out hg).2)); clear hb)
          | (at_builtin; refine wpList_append_lies _ rfl (.tmp 19) (.tmp 22) 32 rfl w1.heap.size 9 i0 (.string ByteArray.empty) 1 16 Tryd.underlying32 hi hz0 hz1 hz2 rfl (by decide) (.slice (some ⟨g, 0, none⟩) (i + 1) c) (i + 1) X rfl (HOW2.out.alloc _) ⟨w3.heap.size, 0, none⟩ 1 1 [strv l] rfl rfl (World.news_of_block (cs := #[strv l]) (blk_new _ _)) ?h1 (by omega) ?b1 ?b2 ?b3 _ rfl ?next))
        case h1 => simp [Value.oneCell']
        case b1 => unfold maxLen; omega
        case b2 => omega
        case b3 => exact Nat.le_trans (Nat.le_trans hsw HBv.out.size) (by simp)
        case next =>
          intro g3 c3 w4 ho3 hg3 _ _
          have hne : ∀ k, (Value.slice (some ⟨g, 0, none⟩) (i + 1) c).ownBlock = some k → w1.heap.size ≤ k := fun k hk => (ownsRow_lt HOW.out hk).1
          have HB4 : Box (Below w1.heap.size w1 w4) := ⟨((HB.out.trans (HBv.out.mono hsw)).alloc (Nat.le_trans hsw HBv.out.size) _).grown hg3 (Nat.le_trans (Nat.le_trans hsw HBv.out.size) (by simp)) (fun k hk => hne k hk)⟩
          have HO4 : Box (w4.ownsRow w1.heap.size 9 1 (.slice (some ⟨g3, 0, none⟩) (i + 1 + 1) c3) (i + 1 + 1) (strV (name :: (z.take (i + 1)).map Lib.itoa))) := ⟨by rw [HTK.out]; exact ho3⟩
          clear ho3 hg3 hne
          go_wp2
          go_roundw
          case rel => exact ⟨i + 1, g3, c3, by omega, by go_num, rfl, HO4, HB4⟩
          case measure => simp [intOf] <;> omega
      · have hii : ¬ (i : Int) < n := by omega
        obtain rfl : i = n := by omega
        have HOE : Box (wr.ownsRow w1.heap.size 9 1 (.slice (some ⟨g, 0, none⟩) (i + 1) c) (i + 1) (strV (name :: z.map Lib.itoa))) := ⟨by have := HOW.out; rwa [List.take_of_length_le (by rw [HZN.out]; exact Nat.le_refl _)] at this⟩
        have hob := own_bound HOE.out
        have hgl := (ownsRow_lt HOE.out (g := g) (by simp [Value.ownBlock])).2
        have hxl : ((name :: z.map Lib.itoa).map (fun x : Bs => (⟨x.toArray⟩ : ByteArray))).length = i + 1 := by simp [HZN.out]
        have hxm : ((name :: z.map Lib.itoa).map (fun x : Bs => (⟨x.toArray⟩ : ByteArray))).map (·.data.toList) = name :: z.map Lib.itoa := by rw [List.map_map]; exact List.map_id'' (fun _ => rfl) _
        have HJ := Tryd.strings_Join g 0 c ((name :: z.map Lib.itoa).map (fun x : Bs => (⟨x.toArray⟩ : ByteArray))) ⟨#[32]⟩ wr (fun j x hx => by
          have hv := VRow.own HOE.out (by simp [strV])
          obtain ⟨b, off, e, _, hc⟩ := hv
          injection e with e
          injection e with e1 e2
          subst e1
          subst e2
          have hj := (List.getElem?_eq_some_iff.1 hx)
          obtain ⟨hj1, hj2⟩ := hj
          rw [hc j (by simpa [strV] using hj1)]
          rw [← hj2]
          simp only [strV, List.getElem_map]) hgl (by rw [hxl]; omega) (by rw [hxl]; exact hob.1) (by
            rw [hxm]
            show (Lib.join _ [32]).length ≤ _
            rw [Lib.join_cons, List.length_append]
            have := tail_len HBN.out
            rw [HZN.out] at this
            omega)
        rw [hxl, hxm] at HJ
        have HJ := Box.mk HJ
        clear hob hgl hxl hxm
        go_wp2_with (go_at_call 28; (with_reducible refine HJ.out.mono ?_); rintro e w5 ⟨rfl, hb⟩; have HB5 := Box.mk hb; clear hb)
        go_ret
        exact ⟨by rw [HE.out]; rfl, (HBa.out.trans (HB.out.mono HBa.out.size)).trans (HB5.out.mono (by have := HBa.out.size; omega))⟩

end Go.Proofs.YtanlodaimbocoaaDoor
