/-
  Records of ticks: what a text is made of: the walk of 'parts'.
-/
import Derived.Test.YtimeodjfihpgeaaDoorTrK
import Derived.Laws.Runes
namespace Go.Proofs.YtimeodjfihpgeaaDoor
open Go.RowKit

/-- The runes of a text from a place on. -/
inductive Runes (s : ByteArray) : Nat → List Nat → Prop
  | done {pos : Nat} : s.size ≤ pos → Runes s pos []
  | next {pos : Nat} {rs : List Nat} : pos < s.size → Runes s (pos + (Utf8.decode s pos).2) rs → Runes s pos ((Utf8.decode s pos).1 :: rs)
theorem rune_step {s : ByteArray} {pos : Nat} (h : pos < s.size) : 1 ≤ (Utf8.decode s pos).2 ∧ pos + (Utf8.decode s pos).2 ≤ s.size := by
  rcases rune_at h with ⟨c, _, e, _⟩ | ⟨_, h1, k, hk, _, hd⟩
  · rw [e]; exact ⟨Nat.le_refl _, by show pos + 1 ≤ s.size; omega⟩
  · refine ⟨h1, ?_⟩
    have := congrArg List.length hd
    rw [List.length_append, List.length_drop, List.length_drop, hk, ← bts_size] at this
    omega
theorem runes_some (s : ByteArray) : ∀ (n pos : Nat), s.size - pos ≤ n → ∃ rs, Runes s pos rs ∧ ((∀ c ∈ s.data.toList.drop pos, c.toNat < 128) → rs = codes (s.data.toList.drop pos))
  | 0, pos, h => ⟨[], .done (by omega), fun _ => by rw [List.drop_eq_nil_of_le (by rw [← bts_size]; omega)]; rfl⟩
  | n + 1, pos, h => by
    by_cases hp : pos < s.size
    · obtain ⟨h1, h2⟩ := rune_step hp
      obtain ⟨rs, hr, ha⟩ := runes_some s n (pos + (Utf8.decode s pos).2) (by omega)
      refine ⟨_, .next hp hr, fun hc => ?_⟩
      rcases rune_at hp with ⟨c, hc1, e, hd⟩ | ⟨_, h1, k, hk, hk2, hd⟩
      · rw [e] at ha ⊢
        rw [hd]
        show c.toNat :: rs = codes (c :: s.data.toList.drop (pos + 1))
        rw [ha (fun x hx => hc x (by rw [hd]; exact List.mem_cons_of_mem _ hx))]
        rfl
      · cases k with
        | nil => simp at hk; omega
        | cons x k =>
          have := hc x (by rw [hd]; simp)
          have := hk2 x (List.mem_cons_self ..)
          omega
    · exact ⟨[], .done (by omega), fun _ => by rw [List.drop_eq_nil_of_le (by rw [← bts_size]; omega)]; rfl⟩
theorem encode_dig {r : Nat} (h0 : 48 ≤ r) (h1 : r ≤ 57) : Utf8.encode (r : Int) = ⟨#[UInt8.ofNat r]⟩ := by
  rcases (show r = 48 ∨ r = 49 ∨ r = 50 ∨ r = 51 ∨ r = 52 ∨ r = 53 ∨ r = 54 ∨ r = 55 ∨ r = 56 ∨ r = 57 by omega) with rfl | rfl | rfl | rfl | rfl | rfl | rfl | rfl | rfl | rfl <;> rfl
theorem parts_dig {r : Nat} {rs : List Nat} {ds : Bs} (h : digR r = true) : partsG (r :: rs) ds = partsG rs (ds ++ [UInt8.ofNat r]) := by rw [partsG, if_pos h]
theorem parts_mark {r : Nat} {rs : List Nat} {ds : Bs} (h : digR r = false) : partsG (r :: rs) ds = if ds = [] then (partsG rs []).map (Part.mk r :: ·) else match numV ds with
    | some n => (partsG rs []).map (fun p => Part.num n :: Part.mk r :: p)
    | none => none := by
  rw [partsG, if_neg (by rw [h]; simp)]
  cases numV ds <;> rfl
theorem parts_fin {ds : Bs} : partsG [] ds = if ds = [] then some [] else match numV ds with
    | some n => some [.num n]
    | none => none := by
  rw [partsG]
  cases numV ds <;> rfl
theorem map_app {o : Option (List Part)} {a b : List Part} : (o.map (b ++ ·)).map (a ++ ·) = o.map ((a ++ b) ++ ·) := by cases o <;> simp
/-- What 'parts' tells. -/
def PartsOut (w : World) (S : Nat) (R : Option (List Part)) (e : Ending) (w' : World) : Prop := ∃ (ao : Option Addr) (n c : Nat) (ok : Bool), e = .returned (.tuple #[.slice ao n c, .bool ok]) ∧ Below w.heap.size w w' ∧ match R with
  | some ps => ok = true ∧ n = ps.length ∧ n ≤ 2 * S + 1 ∧ n ≤ c ∧ VRow w' ao (ps.map partV)
  | none => ok = false
/-- Behind the digits that were pending. -/
theorem flush_on {RS R : Option (List Part)} {acc acc' : List Part} {ds : Bs} {ok : Bool} {X : Option (List Part)} (hX : RS = R.map (acc ++ ·)) (hR : R = if ds = [] then X else match numV ds with
    | some n => X.map (fun p => Part.num n :: p)
    | none => none) (hf : if ds = [] then ok = true ∧ acc' = acc else (ok = (numV ds).isSome ∧ acc' = acc ++ [.num (((numV ds).getD 0 : Nat) : Int)])) : (ok = true → RS = X.map (acc' ++ ·)) ∧ (ok = false → RS = none) := by
  subst hX
  subst hR
  by_cases hd : ds = []
  · rw [if_pos hd] at hf ⊢
    obtain ⟨rfl, rfl⟩ := hf
    exact ⟨fun _ => rfl, fun h => by cases h⟩
  · rw [if_neg hd] at hf ⊢
    obtain ⟨rfl, rfl⟩ := hf
    cases hn : numV ds with
    | none => exact ⟨fun h => (by cases h), fun _ => rfl⟩
    | some n => exact ⟨fun _ => (by cases X <;> simp), fun h => by cases h⟩

theorem pst_iter {w0 w : World} {BO BD B k : Nat} (h1 : BO < BD) (h2 : BD < k) (h3 : k < B) (h0 : w0.heap.size ≤ BO) {acc : List Part} {ds : Bs} (h : PSt w0 w BO BD B acc ds) (s : ByteArray) (pos : Nat) : PSt w0 (w.iterAt k s pos) BO BD B acc ds := by
  obtain ⟨⟨ao, c, hbo, ho⟩, hbd, hb⟩ := h
  exact ⟨⟨ao, c, (Lib.iterAt_other w k BO s pos (by omega)).trans hbo, owns_iterAt ho h3 s pos⟩, (Lib.iterAt_other w k BD s pos (by omega)).trans hbd, Lib.below_iterAt hb (by omega) s pos⟩
theorem pst_start (w : World) (s : ByteArray) {V : World} (hV : V = ((w.alloc (.cells #[.slice none 0 0] 51)).alloc (.cells #[.string ⟨#[]⟩] 9)).iter s 0) :
    V.heap[w.heap.size + 1 + 1]? = some (.stringIter s 0) ∧ PSt w V w.heap.size (w.heap.size + 1) (w.heap.size + 3) [] [] := by
  subst hV
  have e1 : (w.alloc (.cells #[.slice none 0 0] 51)).heap.size = w.heap.size + 1 := by simp
  have e2 : ((w.alloc (.cells #[.slice none 0 0] 51)).alloc (.cells #[.string ⟨#[]⟩] 9)).heap.size = w.heap.size + 1 + 1 := by simp
  have h1 := blk_new ((w.alloc (.cells #[.slice none 0 0] 51)).alloc (.cells #[.string ⟨#[]⟩] 9)) (.stringIter s 0)
  have h2 := blk_alloc (o := .stringIter s 0) (blk_new (w.alloc (.cells #[.slice none 0 0] 51)) (.cells #[.string ⟨#[]⟩] 9))
  have h3 := blk_alloc (o := .stringIter s 0) (blk_alloc (o := .cells #[.string ⟨#[]⟩] 9) (blk_new w (.cells #[.slice none 0 0] 51)))
  rw [e2] at h1
  rw [e1] at h2
  exact ⟨h1, ⟨none, 0, h3, World.ownsRow_nil _ _ _ _⟩, h2, (((Below.refl w.heap.size w).alloc (Nat.le_refl _) _).alloc (by simp) _).alloc (by simp; omega) _⟩

set_option maxHeartbeats 16000000 in
set_option maxRecDepth 100000 in
theorem parts_any (s : ByteArray) (hs : s.size ≤ 100000) (RS : List Nat) (hrs : Runes s 0 RS) (w : World) :
    Calls Tryd.prog 25 #[.string s] w fun e w' => PartsOut w s.size (partsG RS []) e w' := by
  obtain ⟨ia, ha, hy0, hy1, hy2⟩ := info_parts Tryd.infoAny
  have HRS := Box.mk hrs
  obtain ⟨R, HR⟩ : ∃ R, Box (R = partsG RS []) := ⟨_, ⟨rfl⟩⟩
  rw [← HR.out]
  clear hrs
  have HL := Box.mk (bts_size s)
  go_enter Tryd.func25, Tryd.ntmps25
  go_upto_block 0 with fail
  go_wp2
  go_loopw [8] (fun _ wr => ∃ (pos : Nat) (rs : List Nat) (acc : List Part) (ds : Bs), pos ≤ s.size ∧ acc.length ≤ 2 * pos ∧ ds.length ≤ pos ∧ Box (Runes s pos rs) ∧ Box (wr.heap[w.heap.size + 1 + 1]? = some (.stringIter s pos)) ∧ Box (PSt w wr w.heap.size (w.heap.size + 1) (w.heap.size + 3) acc ds) ∧ Box (R = (partsG rs ds).map (acc ++ ·))) (fun _ wr => s.size - wr.iterPos (w.heap.size + 1 + 1))
  case atStart =>
    obtain ⟨q1, q2⟩ := pst_start w s rfl
    exact ⟨0, RS, [], [], by omega, by simp, by simp, HRS, ⟨q1⟩, ⟨q2⟩, ⟨by rw [HR.out]; simp⟩⟩
  case round =>
    obtain ⟨pos, rs, acc, ds, hps, hal, hdl, HRU, HIT, HPS, HX⟩ := hrel
    have hit := HIT.out
    have hsz : w.heap.size + 1 + 1 < wr.heap.size := lt_blk hit
    clear HRS HR
    by_cases hp : pos < s.size
    · have hnx : ∀ ty, (Instr.next (.pointer (some ⟨w.heap.size + 1 + 1, 0, none⟩)) true ty).run Tryd.prog wr = _ := fun ty => Lib.run_next_any_at wr (w.heap.size + 1 + 1) s pos ty hit hp
      obtain ⟨rs', rfl, hru⟩ : ∃ rs', rs = (Utf8.decode s pos).1 :: rs' ∧ Runes s (pos + (Utf8.decode s pos).2) rs' := by
        cases HRU.out with
        | done h => omega
        | next _ h => exact ⟨_, rfl, h⟩
      obtain ⟨hst1, hst2⟩ := rune_step hp
      have hdc := decode_le s pos
      have HIT2 := Box.mk (Lib.iterAt_heap wr (w.heap.size + 1 + 1) s pos (pos + (Utf8.decode s pos).2) hit)
      have HPS2 := Box.mk (pst_iter (k := w.heap.size + 1 + 1) (by omega) (by omega) (by omega) (Nat.le_refl _) HPS.out s (pos + (Utf8.decode s pos).2))
      have hV2 : wr.heap.size = (wr.iterAt (w.heap.size + 1 + 1) s (pos + (Utf8.decode s pos).2)).heap.size := (Lib.iterAt_size _ _ _ _).symm
      generalize hd : Utf8.decode s pos = d at hnx hru hst1 hst2 hdc HIT2 HPS2 hV2 HX
      obtain ⟨r, m⟩ := d
      simp only at hnx hru hst1 hst2 hdc HIT2 HPS2 hV2 HX
      have HIP := Box.mk (show wr.iterPos (w.heap.size + 1 + 1) = pos by simp [World.iterPos, hit])
      have HRU2 := Box.mk hru
      clear hit hd HPS HIT HRU hru
      go_upto_region 7 with fail
      generalize wr.iterAt (w.heap.size + 1 + 1) s (pos + m) = V at HIT2 HPS2 hV2 ⊢
      have hvs : w.heap.size + 3 ≤ V.heap.size := by omega
      clear hnx hV2 hsz
      have HIP2 := Box.mk (show V.iterPos (w.heap.size + 1 + 1) = pos + m by simp [World.iterPos, HIT2.out])
      cases hdg : digR r with
      | true =>
        have hr : 48 ≤ r ∧ r ≤ 57 := by unfold digR at hdg; simpa using hdg
        have hr0 : (48 : Int) ≤ r := by omega
        have hr1 : (r : Int) ≤ 57 := by omega
        have henc := encode_dig hr.1 hr.2
        have HX2 : Box (R = (partsG rs' (ds ++ [UInt8.ofNat r])).map (acc ++ ·)) := ⟨by rw [HX.out, parts_dig hdg]⟩
        have d0 : V.cell? ⟨w.heap.size + 1, 0, none⟩ = some (strv ds) := (cell_blk HPS2.out.dg 0).trans rfl
        have d1 := free_blk HPS2.out.dg 0
        have hs1 : (⟨ds.toArray⟩ : ByteArray).size ≤ 100000 := by rw [bts_size]; simp; omega
        have HPS3 := Box.mk (pst_digits (Nat.le_refl _) (by omega) (by omega) HPS2.out (ds ++ [UInt8.ofNat r]))
        have HIT3 : Box ((V.setCell ⟨w.heap.size + 1, 0, none⟩ (strv (ds ++ [UInt8.ofNat r]))).heap[w.heap.size + 1 + 1]? = some (.stringIter s (pos + m))) := ⟨by rw [blk_set_ne _ (by omega)]; exact HIT2.out⟩
        have HIP3 := Box.mk (show (V.setCell ⟨w.heap.size + 1, 0, none⟩ (strv (ds ++ [UInt8.ofNat r]))).iterPos (w.heap.size + 1 + 1) = pos + m by simp only [World.iterPos, HIT3.out])
        rw [str_app] at HPS3 HIT3 HIP3
        clear HX HIT2 HPS2
        go_wp2
        go_roundw
        case rel => exact ⟨pos + m, rs', acc, ds ++ [UInt8.ofNat r], by omega, by omega, by simp; omega, HRU2, HIT3, HPS3, HX2⟩
        case measure => rw [HIP.out, HIP3.out]; omega
      | false =>
        have hpm : partsG (r :: rs') ds = if ds = [] then (partsG rs' []).map (Part.mk r :: ·) else match numV ds with
            | some n => ((partsG rs' []).map (Part.mk r :: ·)).map (fun p => Part.num n :: p)
            | none => none := by
          rw [parts_mark hdg]
          split
          · rfl
          · cases numV ds with
            | none => rfl
            | some n => cases partsG rs' [] <;> rfl
        have HPM := Box.mk hpm
        have hr31 : r ≤ 2147483647 := hdc
        rcases (show (¬ (48 : Int) ≤ r) ∨ ((48 : Int) ≤ r ∧ ¬ (r : Int) ≤ 57) by unfold digR at hdg; simp at hdg; omega) with i1 | ⟨i1, i2⟩
        all_goals
          clear hpm
          go_upto_if 28 with (go_at_call 36; (with_reducible refine (flush_any w _ w.heap.size (w.heap.size + 1) (w.heap.size + 3) (Nat.le_refl _) (by omega) (by omega) hvs acc ds (by omega) (by omega) HPS2.out).mono ?_); rintro e w2 ⟨ok, acc', rfl, HF, HP2, HK2, hl2⟩)
          have hfo := flush_on HX.out HPM.out HF.out
          cases ok with
          | false =>
            have HRN := Box.mk (hfo.2 rfl)
            clear hfo
            go_wp2
            go_ret2
            exact ⟨none, 0, 0, false, rfl, HP2.out.bel, by rw [HRN.out]⟩
          | true =>
            have HRN : Box (R = (partsG rs' []).map ((acc' ++ [Part.mk r]) ++ ·)) := ⟨by rw [hfo.1 rfl]; cases partsG rs' [] <;> simp⟩
            obtain ⟨ao, c, hbo, hown⟩ := HP2.out.out
            have HBO := Box.mk hbo
            have HOW := Box.mk hown
            have HBD := Box.mk HP2.out.dg
            have HIT3 := Box.mk ((HK2.out.2 (w.heap.size + 1 + 1) (by omega) (by omega) (by omega)).trans HIT2.out)
            have c0 : World.cell? w2 ⟨w.heap.size, 0, none⟩ = some (.slice ao acc'.length c) := (cell_blk hbo 0).trans rfl
            have hs2 := HK2.out.1
            have HBL := Box.mk HP2.out.bel
            clear hfo hbo hown HF HK2 HP2 HPS2 HX HIT2 HPM
            go_wp2_with (at_builtin; refine wpList_append_lies _ rfl (.tmp 29) (.tmp 32) 51 rfl (w.heap.size + 3) 20 ia .nilIface 1 16 Tryd.underlying51 ha hy0 hy1 hy2 rfl (by decide) (.slice ao acc'.length c) acc'.length (acc'.map partV) rfl (HOW.out.alloc _) ⟨w2.heap.size, 0, none⟩ 1 1 [.iface 21 (.int .i32 r)] rfl rfl (World.news_of_block (cs := #[.iface 21 (.int .i32 r)]) (blk_new _ _)) ?h1 (by omega) ?b1 ?b2 ?b3 _ rfl ?nxt)
            case h1 => simp [Value.oneCell']
            case b1 => unfold maxLen; omega
            case b2 => omega
            case b3 => simp; omega
            case nxt =>
              intro g3 c3 w3 ho3 hg3 _ _
              have hne : ∀ k, (Value.slice ao acc'.length c).ownBlock = some k → w.heap.size + 3 ≤ k := fun k hk => (ownsRow_lt HOW.out hk).1
              have hf3 : ∀ k, k < w.heap.size + 3 → w3.heap[k]? = (World.heap w2)[k]? := fun k hk => by
                rw [hg3.block k (by simp; omega) (fun e => by have := hne k e.symm; omega), Below.heap_alloc _ _ _ (by omega)]
              have hbel3 : Below w.heap.size w w3 := (HBL.out.alloc HBL.out.size _).grown hg3 (Nat.le_trans HBL.out.size (by simp)) (fun k hk => by have := hne k hk; omega)
              have HBO3 := Box.mk ((hf3 w.heap.size (by omega)).trans HBO.out)
              have HBD3 := Box.mk ((hf3 (w.heap.size + 1) (by omega)).trans HBD.out)
              have q0 : World.cell? w3 ⟨w.heap.size, 0, none⟩ = some (.slice ao acc'.length c) := (cell_blk HBO3.out 0).trans rfl
              have q1 := free_blk HBO3.out 0
              have HP := Box.mk (pst_push (w0 := w) (acc := acc') (ds := []) (g := g3) (c := c3) (v := .mk r) (Nat.le_refl _) (by omega) (by omega) HBO3.out HBD3.out ho3 hbel3)
              have HIT4 : Box ((World.setCell w3 ⟨w.heap.size, 0, none⟩ (.slice (some ⟨g3, 0, none⟩) (acc'.length + 1) c3)).heap[w.heap.size + 1 + 1]? = some (.stringIter s (pos + m))) := ⟨by rw [blk_set_ne _ (by omega), hf3 _ (by omega)]; exact HIT3.out⟩
              have HIP4 := Box.mk (show (World.setCell w3 ⟨w.heap.size, 0, none⟩ (.slice (some ⟨g3, 0, none⟩) (acc'.length + 1) c3)).iterPos (w.heap.size + 1 + 1) = pos + m by simp only [World.iterPos, HIT4.out])
              clear ho3 hg3 hne hf3 hbel3
              go_wp2
              go_roundw
              case rel => exact ⟨pos + m, rs', acc' ++ [.mk r], [], by omega, by simp; omega, by simp, HRU2, HIT4, HP, HRN⟩
              case measure => rw [HIP.out, HIP4.out]; omega
    · have hnx : ∀ ty, (Instr.next (.pointer (some ⟨w.heap.size + 1 + 1, 0, none⟩)) true ty).run Tryd.prog wr = _ := fun ty => Lib.run_next_end_at wr (w.heap.size + 1 + 1) s pos ty hit hp
      obtain rfl : rs = [] := by
        cases HRU.out with
        | done h => rfl
        | next h _ => omega
      have hvs : w.heap.size + 3 ≤ wr.heap.size := by omega
      have hpf : partsG [] ds = if ds = [] then some [] else match numV ds with
          | some n => (some []).map (fun p => Part.num n :: p)
          | none => none := by
        rw [parts_fin]
        cases numV ds <;> rfl
      have HPF := Box.mk hpf
      clear hpf hit
      go_upto_region 13 with (go_at_call 36; (with_reducible refine (flush_any w _ w.heap.size (w.heap.size + 1) (w.heap.size + 3) (Nat.le_refl _) (by omega) (by omega) hvs acc ds (by omega) (by omega) HPS.out).mono ?_); rintro e w2 ⟨ok, acc', rfl, HF, HP2, HK2, hl2⟩)
      have hfo := flush_on HX.out HPF.out HF.out
      obtain ⟨ao, c, hbo, hown⟩ := HP2.out.out
      have c0 : World.cell? w2 ⟨w.heap.size, 0, none⟩ = some (.slice ao acc'.length c) := (cell_blk hbo 0).trans rfl
      have HOW := Box.mk (VRow.own hown)
      have hnc := (own_bound hown).1
      have HFO := Box.mk hfo
      clear hfo hbo hown HF HX
      go_wp2
      go_ret2
      refine ⟨ao, acc'.length, c, ok, rfl, HP2.out.bel, ?_⟩
      cases ok with
      | true => rw [HFO.out.1 rfl]; simp only [Option.map_some, List.append_nil]; exact ⟨by first | rfl | trivial, by first | rfl | trivial, by omega, hnc, HOW.out⟩
      | false => rw [HFO.out.2 rfl]

end Go.Proofs.YtimeodjfihpgeaaDoor
