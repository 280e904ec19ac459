/-
  Records of ticks: what a text is made of: the walk of 'parts'.
-/
import Derived.Test.YtimeodjfihpgeaaDoorTrA
import Derived.Test.YtimeodjfihpgeaaDoorStV
namespace Go.Proofs.YtimeodjfihpgeaaDoor
open Go.RowKit

theorem Tryd.infoAny : (Tryd.prog.info? 20).map (fun i => (i.zero, i.size, i.bytes)) = some (some .nilIface, 1, 16) := by kernel_rfl
def partV : Part → Value
  | .mk r => .iface 21 (.int .i32 r)
  | .num n => .iface 3 (.int .i64 n)
theorem partV_form (p : Part) : ∃ ty u, partV p = .iface ty u := by cases p <;> exact ⟨_, _, rfl⟩
/-- The state of 'parts': what was put out, and the digits that are pending. -/
structure PSt (w0 w : World) (BO BD B : Nat) (acc : List Part) (ds : Bs) : Prop where
  out : ∃ ao c, w.heap[BO]? = some (.cells #[.slice ao acc.length c] 51 (0, 0)) ∧ w.ownsRow B 20 1 (.slice ao acc.length c) acc.length (acc.map partV)
  dg : w.heap[BD]? = some (.cells #[strv ds] 9 (0, 0))
  bel : Below w0.heap.size w0 w
/-- What stands below B, but for the two boxes, is as it was. -/
def KeepB (BO BD B : Nat) (w w' : World) : Prop := w.heap.size ≤ w'.heap.size ∧ ∀ k, k < B → k ≠ BO → k ≠ BD → w'.heap[k]? = w.heap[k]?
theorem KeepB.refl (BO BD B : Nat) (w : World) : KeepB BO BD B w w := ⟨Nat.le_refl _, fun _ _ _ _ => rfl⟩

theorem setCell_size (w : World) (p : Addr) (v : Value) : (w.setCell p v).heap.size = w.heap.size := by simp [World.setCell]
theorem pst_push {w0 w : World} {BO BD B : Nat} (h0 : w0.heap.size ≤ BO) (h1 : BO < BD) (h2 : BD < B) {acc : List Part} {ds : Bs} {v : Part} {old : Value} {g c : Nat}
    (hbo : w.heap[BO]? = some (.cells #[old] 51 (0, 0))) (hbd : w.heap[BD]? = some (.cells #[strv ds] 9 (0, 0))) (ho : w.ownsRow B 20 1 (.slice (some ⟨g, 0, none⟩) (acc.length + 1) c) (acc.length + 1) (acc.map partV ++ [partV v])) (hb : Below w0.heap.size w0 w) :
    PSt w0 (w.setCell ⟨BO, 0, none⟩ (.slice (some ⟨g, 0, none⟩) (acc.length + 1) c)) BO BD B (acc ++ [v]) ds := by
  refine ⟨⟨some ⟨g, 0, none⟩, c, ?_, ?_⟩, ?_, hb.setCell h0 _⟩
  · rw [blk_set hbo]; simp
  · have := ownsRow_fr (w' := w.setCell ⟨BO, 0, none⟩ (.slice (some ⟨g, 0, none⟩) (acc.length + 1) c)) ho (fun k hk => blk_set_ne _ (by have := (ownsRow_lt ho hk).1; omega))
    simpa using this
  · rw [blk_set_ne _ (by omega)]; exact hbd
theorem pst_digits {w0 w : World} {BO BD B : Nat} (h0 : w0.heap.size ≤ BO) (h1 : BO < BD) (h2 : BD < B) {acc : List Part} {ds : Bs} (h : PSt w0 w BO BD B acc ds) (ds' : Bs) : PSt w0 (w.setCell ⟨BD, 0, none⟩ (strv ds')) BO BD B acc ds' := by
  obtain ⟨⟨ao, c, hbo, ho⟩, hbd, hb⟩ := h
  refine ⟨⟨ao, c, ?_, ?_⟩, ?_, hb.setCell (by show w0.heap.size ≤ BD; omega) _⟩
  · rw [blk_set_ne _ (by omega)]; exact hbo
  · exact ownsRow_fr ho (fun k hk => blk_set_ne _ (by have := (ownsRow_lt ho hk).1; omega))
  · rw [blk_set hbd]; simp
def FlushOut (w0 w : World) (BO BD B : Nat) (acc : List Part) (ds : Bs) (e : Ending) (w' : World) : Prop := ∃ (ok : Bool) (acc' : List Part), e = .returned (.bool ok) ∧ Box (if ds = [] then ok = true ∧ acc' = acc else (ok = (numV ds).isSome ∧ acc' = acc ++ [.num (((numV ds).getD 0 : Nat) : Int)])) ∧ Box (PSt w0 w' BO BD B acc' []) ∧ Box (KeepB BO BD B w w') ∧ acc'.length ≤ acc.length + 1
set_option maxHeartbeats 8000000 in
theorem flush_any (w0 w : World) (BO BD B : Nat) (h0 : w0.heap.size ≤ BO) (h1 : BO < BD) (h2 : BD < B) (hB : B ≤ w.heap.size) (acc : List Part) (ds : Bs) (hl : acc.length ≤ 1000000) (hd : ds.length ≤ 100000) (h : PSt w0 w BO BD B acc ds) :
    Calls Tryd.prog 36 #[.pointer (some ⟨BD, 0, none⟩), .pointer (some ⟨BO, 0, none⟩)] w fun e w' => FlushOut w0 w BO BD B acc ds e w' := by
  obtain ⟨ia, ha, hy0, hy1, hy2⟩ := info_parts Tryd.infoAny
  obtain ⟨⟨ao, c, hbo, hown⟩, hbd, hbel⟩ := h
  have HBO := Box.mk hbo
  have HBD := Box.mk hbd
  have HOW := Box.mk hown
  have HBL := Box.mk hbel
  have c0 : w.cell? ⟨BO, 0, none⟩ = some (.slice ao acc.length c) := (cell_blk hbo 0).trans rfl
  have d0 : w.cell? ⟨BD, 0, none⟩ = some (strv ds) := (cell_blk hbd 0).trans rfl
  clear hown hbel
  by_cases hds : ds = []
  · subst hds
    clear hbo hbd
    go_enter Tryd.func36, Tryd.ntmps36
    go_wp2
    go_ret
    exact ⟨true, acc, rfl, ⟨by simp⟩, ⟨⟨⟨_, _, HBO.out, HOW.out⟩, HBD.out, HBL.out⟩⟩, ⟨KeepB.refl _ _ _ _⟩, by omega⟩
  · have hdb : (ds == []) = false := by cases ds with | nil => exact absurd rfl hds | cons _ _ => rfl
    have HN := Box.mk (fun w => number_any ⟨ds.toArray⟩ (by rw [bts_size]; simp; omega) w)
    obtain ⟨n, ok, hT, hnk⟩ : ∃ (n : Nat) (ok : Bool), numT (numV ds) = .tuple #[.int .i64 n, .bool ok] ∧ (ok = (numV ds).isSome ∧ n = (numV ds).getD 0) := by
      cases hv : numV ds with
      | none => exact ⟨0, false, rfl, rfl, rfl⟩
      | some k => exact ⟨k, true, rfl, rfl, rfl⟩
    have e0 : (⟨ds.toArray⟩ : ByteArray).data.toList = ds := by simp
    rw [e0, hT] at HN
    have HNK := Box.mk hnk
    clear hnk hT e0 hbo hbd
    go_enter Tryd.func36, Tryd.ntmps36
    go_upto_region 4 with (go_at_call 37; (with_reducible refine (HN.out _).mono ?_); rintro e w1 ⟨rfl, hb⟩; have HB1 := Box.mk hb; clear hb)
    have hbo1 := (HB1.out.block BO (lt_blk HBO.out)).trans HBO.out
    have hbd1 := (HB1.out.block BD (lt_blk HBD.out)).trans HBD.out
    have hs1 := HB1.out.size
    have HOW1 := Box.mk (ownsRow_fr HOW.out (fun g hg => HB1.out.block g (ownsRow_lt HOW.out hg).2))
    have e0 : World.cell? w1 ⟨BO, 0, none⟩ = some (.slice ao acc.length c) := (cell_blk hbo1 0).trans rfl
    have HBO1 := Box.mk hbo1
    have HBD1 := Box.mk hbd1
    have hBs : BO < w1.heap.size := lt_blk hbo1
    have HTK : Box ((acc ++ [Part.num n]).map partV = acc.map partV ++ [.iface 3 (.int .i64 n)]) := ⟨by rw [List.map_append]; rfl⟩
    clear c0 d0 hbo1 hbd1
    go_wp2_with (at_builtin; refine wpList_append_lies _ rfl (.tmp 12) (.tmp 15) 51 rfl B 20 ia .nilIface 1 16 Tryd.underlying51 ha hy0 hy1 hy2 rfl (by decide) (.slice ao acc.length c) acc.length (acc.map partV) rfl (HOW1.out.alloc _) ⟨w1.heap.size, 0, none⟩ 1 1 [.iface 3 (.int .i64 n)] rfl rfl (World.news_of_block (cs := #[.iface 3 (.int .i64 n)]) (blk_new _ _)) ?h1 (by omega) ?b1 ?b2 ?b3 _ rfl ?next)
    case h1 => simp [Value.oneCell']
    case b1 => unfold maxLen; omega
    case b2 => omega
    case b3 => simp; omega
    case next =>
      intro g3 c3 w3 ho3 hg3 _ _
      have hne : ∀ k, (Value.slice ao acc.length c).ownBlock = some k → B ≤ k := fun k hk => (ownsRow_lt HOW.out hk).1
      have hf3 : ∀ k, k < B → w3.heap[k]? = w1.heap[k]? := fun k hk => by
        rw [hg3.block k (by simp; omega) (fun e => by have := hne k e.symm; omega), Below.heap_alloc _ _ _ (by omega)]
      have hs3 : w1.heap.size ≤ w3.heap.size := Nat.le_trans (by simp) hg3.size
      have HBO3 := Box.mk ((hf3 BO (by omega)).trans HBO1.out)
      have HBD3 := Box.mk ((hf3 BD (by omega)).trans HBD1.out)
      have q0 : World.cell? w3 ⟨BO, 0, none⟩ = some (.slice ao acc.length c) := (cell_blk HBO3.out 0).trans rfl
      have q1 := free_blk HBO3.out 0
      have q2 : World.cell? w3 ⟨BD, 0, none⟩ = some (strv ds) := (cell_blk HBD3.out 0).trans rfl
      have q3 := free_blk HBD3.out 0
      have hbb : ¬ BD = BO := by omega
      have hbb2 : ¬ BO = BD := by omega
      have hbel3 : Below w0.heap.size w0 w3 := ((HBL.out.trans (HB1.out.mono HBL.out.size)).alloc (Nat.le_trans HBL.out.size hs1) _).grown hg3 (Nat.le_trans (Nat.le_trans HBL.out.size hs1) (by simp)) (fun k hk => by have := hne k hk; omega)
      have HP := Box.mk (pst_push (w0 := w0) (acc := acc) (ds := ds) (g := g3) (c := c3) (v := .num n) h0 h1 h2 HBO3.out HBD3.out ho3 hbel3)
      have HS3 := Box.mk hf3
      clear ho3 hg3 hne hf3
      go_wp2
      go_ret
      have hp2 := pst_digits h0 h1 h2 HP.out []
      refine ⟨ok, acc ++ [.num n], rfl, ⟨by rw [if_neg hds]; exact ⟨HNK.out.1, by rw [HNK.out.2]⟩⟩, ⟨hp2⟩, ⟨⟨?_, fun k hk hko hkd => ?_⟩⟩, by simp⟩
      · rw [setCell_size, setCell_size]; exact Nat.le_trans hs1 hs3
      · rw [blk_set_ne _ hkd, blk_set_ne _ hko, HS3.out k hk, HB1.out.block k (by omega)]

end Go.Proofs.YtimeodjfihpgeaaDoor
