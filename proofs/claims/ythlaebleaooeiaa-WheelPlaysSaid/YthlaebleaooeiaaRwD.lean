/-
  The document's wheel: the walk of 'Go', and of 'Set' where it refuses.
-/
import Derived.Test.YthlaebleaooeiaaRwC
namespace Go.Proofs.Ythlaebleaooeiaa
open Go.RowKit

/-- The row without its first. -/
theorem TRow.tail {w : World} {G : Nat → Prop} {p : Nat} {a : Option Addr} {c : Nat} {m : Tm} {L : List Tm} (h : TRow w G p a c (m :: L)) {P : Program} {t e : TypeId} {i : TypeInfo} (ht : P.underlying t = some (.slice e)) (hi : P.info? e = some i) (hz : i.size = 2) {n : Nat} (hn : (m :: L).length = n) :
    ∃ a2, (∀ w, (Instr.slice t (.slice a n c) (some (.int .i64 1)) none none).run P w = .ok (.slice a2 (n - 1) (c - 1)) w) ∧ TRow w G p a2 (c - 1) L ∧
      ∃ g off, a = some ⟨g, off, none⟩ ∧ w.cell? ⟨g, off, none⟩ = some (.int .i64 m.id) ∧ w.cell? ⟨g, off + 1, none⟩ = some (.int .u64 m.at') := by
  have he : P.elem t = e := by unfold Program.elem; rw [ht]
  have ht' : P.underlying t = some (.slice (P.elem t)) := by rw [he]; exact ht
  have hs : ∀ w, (sizeOf (P.elem t)).run P w = .ok 2 w := fun w => by rw [he]; simp [sizeOf, typeInfo, hi, hz]
  have h1n : 1 ≤ n := by rw [← hn]; simp
  have r2 : ∀ w, (Instr.slice t (.slice a n c) (some (.int .i64 1)) none none).run P w = .ok (sliced a 1 n c 2) w := fun w => by
    rw [run_slice_l w t a n c ht' .i64 1 (by omega) (by omega), hs]
    simp [Result.andThen]
  refine ⟨_, r2, ?_⟩
  rcases h with ⟨_, e0, _⟩ | ⟨g, off, rfl, hg, hgp, hlc, hcm, hc⟩
  · cases e0
  · have hd := tcells_get (L := m :: L) (i := 0) (by simp)
    refine ⟨?_, g, off, rfl, by simpa using hc 0 _ (by simpa using hd.1), by simpa using hc 1 _ (by simpa using hd.2)⟩
    have hL : L.length ≤ c - 1 := by simp only [List.length_cons] at hlc; omega
    by_cases ec : c = 1
    · have hL0 : L = [] := by
        apply List.eq_nil_of_length_eq_zero; omega
      refine .inr ⟨g, off, by rw [if_pos ec], hg, hgp, hL, by omega, fun j u hu => ?_⟩
      subst hL0
      simp [tcells] at hu
    · refine .inr ⟨g, off + 2, ?_, hg, hgp, hL, by omega, fun j u hu => ?_⟩
      · rw [if_neg ec]
        show some ((⟨g, off, none⟩ : Addr).add (1 * 2)) = _
        rw [addr_add]
      · have e1 : tcells (m :: L) = [.int .i64 m.id, .int .u64 m.at'] ++ tcells L := rfl
        have := hc (2 + j) u (by
          rw [e1, List.getElem?_append_right (by simp)]
          simpa using hu)
        rwa [← Nat.add_assoc] at this
def lenOf (v : Value) : Nat := match v with | .slice _ n _ => n | _ => 0
def idV (L : List Tm) : List Value := L.map (fun m => Value.int .i64 m.id)
/-- What Go leaves. -/
def RGo (w : World) (p : Nat) (L : List Tm) (t : Nat) (G : Nat → Prop) (e : Ending) (w' : World) : Prop := ∃ ao k co, e = .returned (.tuple #[.slice ao k co, .int .i64 0]) ∧ k ≤ L.length ∧ (∀ j (hj : j < L.length), j < k → L[j].at' ≤ t) ∧ (∀ hk : k < L.length, t < L[k].at') ∧
  w'.ownsRow w.heap.size 3 1 (.slice ao k co) k (idV (L.take k)) ∧ RW w' p (L.drop k) t G ∧ Fr (fun b => b = p) w w'
theorem rgo_end {w wr : World} {p t k : Nat} {L : List Tm} {now : Nat} {G : Nat → Prop} {a ao : Option Addr} {c co : Nat} (hG : ∀ b, G b → b < w.heap.size) (hp : G p) (hk : k ≤ L.length) (h1 : ∀ j (hj : j < L.length), j < k → L[j].at' ≤ t) (h2 : ∀ hk : k < L.length, t < L[k].at')
    (ho : wr.ownsRow w.heap.size 3 1 (.slice ao k co) k (idV (L.take k))) (hb : wr.heap[p]? = some (.cells #[.slice a (L.length - k) c, .int .u64 now] 48 (0, 0))) (hr : TRow wr G p a c (L.drop k)) (hf : Fr (fun b => b = p) w wr) :
    RGo w p L t G (.returned (.tuple #[.slice ao k co, .int .i64 0])) (wr.setCell ⟨p, 1, none⟩ (.int .u64 t)) := by
  have hf2 : Fr (fun b => b = p) wr (wr.setCell ⟨p, 1, none⟩ (.int .u64 t)) := Fr.setCell (F := fun b => b = p) (Fr.refl _ wr) (p := ⟨p, 1, none⟩) (.inl rfl) _
  have hGr : ∀ b, G b → b < wr.heap.size := fun b hb => Nat.lt_of_lt_of_le (hG b hb) hf.size
  have hb2 := blk_set (i := 1) hb (.int .u64 t)
  refine ⟨ao, k, co, rfl, hk, h1, h2, ownsRow_fr ho (fun g hg => hf2.block g (ownsRow_lt ho hg).2 (fun e => ?_)), ⟨hp, fun b hb => Nat.lt_of_lt_of_le (hGr b hb) hf2.size, a, c, ?_, hr.fr hGr hf2 (fun b _ hne e => hne e)⟩, hf.trans hf2⟩
  · have := (ownsRow_lt ho hg).1
    have := hG p hp
    omega
  · rw [List.length_drop]
    simpa using hb2

set_option maxHeartbeats 8000000 in
set_option maxRecDepth 100000 in
theorem rwgo_any (p : Nat) (L : List Tm) (now t : Nat) (G : Nat → Prop) (w : World) (h : RW w p L now G) (hlen : L.length ≤ 1000000) (h1 : now ≤ t) (h2 : t < 4611686018427387904) :
    Calls Try.prog 18 #[.pointer (some ⟨p, 0, none⟩), .int .u64 t] w (RGo w p L t G) := by
  obtain ⟨a, c, hb, hr⟩ := h.at'
  have HG := Box.mk h.lt
  have HGP := Box.mk h.gp
  have hpw := lt_blk hb
  have c1 := cell_blk hb 1
  simp only [List.getElem?_toArray, List.getElem?_cons_succ, List.getElem?_cons_zero] at c1
  have hlt : ¬ (t : Int) < (now : Int) := by omega
  have hltB : decide (t < now) = false := decide_eq_false (by omega)
  have eB : ((4611686018427387904 : Int) ≤ (t : Int)) = False := eq_false (by omega)
  have HB0 : Box (w.heap[p]? = some (.cells #[.slice a (L.length - 0) c, .int .u64 now] 48 (0, 0))) := ⟨by rw [Nat.sub_zero]; exact hb⟩
  have HR0 : Box (TRow w G p a c (L.drop 0)) := ⟨by rw [List.drop_zero]; exact hr⟩
  have HCC : Box (c ≤ 9223372036854775807) := ⟨by
    rcases hr with ⟨_, _, e⟩ | ⟨_, _, _, _, _, _, e, _⟩
    · rw [e]; decide
    · exact e⟩
  obtain ⟨i0, hi, hz0, hz1, hz2⟩ := info_parts Try.infoTm
  obtain ⟨i1, hj, hy0, hy1, hy2⟩ := info_parts Try.infoInt
  clear h hb hr
  go_enter Try.func18, Try.ntmps18
  go_upto_block 0 with fail
  clear c1 hlt hltB eB
  go_wp2
  go_loopw [6] (fun s6 wr => ∃ (k : Nat) (a : Option Addr) (c : Nat) (ao : Option Addr) (co : Nat), k ≤ L.length ∧ s6 = .slice ao k co ∧ Box (∀ j (hj : j < L.length), j < k → L[j].at' ≤ t) ∧ Box (wr.ownsRow w.heap.size 3 1 (.slice ao k co) k (idV (L.take k))) ∧ Box (wr.heap[p]? = some (.cells #[.slice a (L.length - k) c, .int .u64 now] 48 (0, 0))) ∧ Box (TRow wr G p a c (L.drop k)) ∧ Box (Fr (fun b => b = p) w wr)) (fun s6 _ => L.length - lenOf s6)
  case atStart => exact ⟨0, a, c, none, 0, by omega, rfl, ⟨fun j _ h => by omega⟩, ⟨World.ownsRow_nil _ _ _ _⟩, HB0, HR0, ⟨Fr.refl _ _⟩⟩
  case round =>
    clear HB0 HR0 HCC
    obtain ⟨k, a, c, ao, co, hk, rfl, HX, HOW, HB, HR, HF⟩ := hrel
    have hpl := lt_blk HB.out
    have c0 := cell_blk HB.out 0
    have f0 := free_blk HB.out 0
    have f1 := free_blk HB.out 1
    have c1 := cell_blk HB.out 1
    simp only [List.getElem?_toArray, List.getElem?_cons_zero, List.getElem?_cons_succ] at c0 c1
    obtain ⟨N, hN⟩ : ∃ N, L.length - k = N := ⟨_, rfl⟩
    have HNN := Box.mk hN
    rw [hN] at c0
    by_cases hlt : k < L.length
    · have hdr : L.drop k = L[k] :: L.drop (k + 1) := List.drop_eq_getElem_cons hlt
      have hR := HR.out
      rw [hdr] at hR
      obtain ⟨a2, hsl, hR2, g, off, rfl, d0, d1⟩ := hR.tail Try.underlying46 hi hz1 (n := N) (by rw [← hdr, List.length_drop]; exact hN)
      have HR2 := Box.mk hR2
      have hNp : (0 : Int) < (N : Int) := by omega
      have hN63 : (N : Int) ≤ 1000000 := by omega
      have hkm : k ≤ 1000000 := by omega
      clear hR hR2 hdr
      by_cases ht : L[k].at' ≤ t
      · have HX2 : Box (∀ j (hj : j < L.length), j < k + 1 → L[j].at' ≤ t) := ⟨fun j hj hjk => by
          by_cases e : j = k
          · subst e; exact ht
          · exact HX.out j hj (by omega)⟩
        have hti : ((L[k].at' : Nat) : Int) ≤ (t : Int) := by omega
        have HTK : Box (idV (L.take (k + 1)) = idV (L.take k) ++ [.int .i64 L[k].id]) := ⟨by unfold idV; rw [List.take_succ_eq_append_getElem hlt, List.map_append]; rfl⟩
        have HKL : Box (k + 1 ≤ L.length ∧ N - 1 = L.length - (k + 1)) := ⟨by omega⟩
        have HBS : Box (w.heap.size ≤ wr.heap.size) := ⟨HF.out.size⟩
        have HOWN := Box.mk (fun k' hk' => ownsRow_lt HOW.out (g := k') hk')
        generalize L[k].at' = y at d1 hti
        generalize L[k].id = z at d0 HTK
        clear ht hN hlt
        go_wp2_with (at_builtin; refine wpList_append_lies _ rfl (.tmp 32) (.tmp 40) 28 rfl w.heap.size 3 i1 (.int .i64 0) 1 8 Try.underlying28 hj hy0 hy1 hy2 rfl (by decide) (.slice ao k co) k (idV (L.take k)) rfl (HOW.out.alloc _) ⟨wr.heap.size, 0, none⟩ 1 1 [.int .i64 z] rfl rfl (World.news_of_block (cs := #[.int .i64 z]) (blk_new _ _)) ?h1 (by omega) ?b1 ?b2 ?b3 _ rfl ?next)
        case h1 => simp [Value.oneCell']
        case b1 => unfold maxLen; omega
        case b2 => omega
        case b3 => exact Nat.le_trans HBS.out (by simp)
        case next =>
          intro g3 c3 w3 ho3 hg3 _ _
          have hf3 : Fr (fun b => (Value.slice ao k co).ownBlock = some b) wr w3 := ((Fr.refl _ wr).alloc _).grown hg3 (fun b e => .inl e)
          have hpn : ¬ (Value.slice ao k co).ownBlock = some p := fun e => by have := (HOWN.out p e).1; omega
          have hb3 := hf3.blk HB.out hpn
          have c03 := cell_blk hb3 0
          have f03 := free_blk hb3 0
          have hpl3 := lt_blk hb3
          simp only [List.getElem?_toArray, List.getElem?_cons_zero] at c03
          rw [HNN.out] at c03
          have HR3 := Box.mk (HR2.out.fr (fun b hb => Nat.lt_of_lt_of_le (HG.out b hb) HBS.out) hf3 (fun b hb _ e => by have := (HOWN.out b e).1; have := HG.out b hb; omega))
          have HO3 := Box.mk ho3
          have HB3 := Box.mk hb3
          have HF3 := Box.mk (HF.out.trans' hf3 (fun b hb e => by have := (HOWN.out b e).1; omega))
          clear ho3 hg3 hf3 hpn hb3 c0 c1 f0 f1 d0 d1
          go_wp2
          have hf4 : Fr (fun b => b = p) w3 (w3.setCell ⟨p, 0, none⟩ (.slice a2 (N - 1) (c - 1))) := Fr.setCell (F := fun b => b = p) (Fr.refl _ w3) (p := ⟨p, 0, none⟩) (.inl rfl) _
          have HO4 : Box ((w3.setCell ⟨p, 0, none⟩ (.slice a2 (N - 1) (c - 1))).ownsRow w.heap.size 3 1 (.slice (some ⟨g3, 0, none⟩) (k + 1) c3) (k + 1) (idV (L.take (k + 1)))) := ⟨by
            rw [HTK.out]
            exact ownsRow_fr HO3.out (fun b hb => hf4.block b (ownsRow_lt HO3.out hb).2 (fun e => by have := (ownsRow_lt HO3.out hb).1; omega))⟩
          have HB4 : Box ((w3.setCell ⟨p, 0, none⟩ (.slice a2 (N - 1) (c - 1))).heap[p]? = some (.cells #[.slice a2 (L.length - (k + 1)) (c - 1), .int .u64 now] 48 (0, 0))) := ⟨by
            have := blk_set (i := 0) HB3.out (.slice a2 (N - 1) (c - 1))
            rw [← HKL.out.2]
            simpa using this⟩
          have HR4 := Box.mk (HR3.out.fr (fun b hb => Nat.lt_of_lt_of_le (HG.out b hb) HF3.out.size) hf4 (fun b _ hne e => hne e))
          have HF4 := Box.mk (HF3.out.trans hf4)
          clear hf4
          go_roundw
          case rel => exact ⟨k + 1, a2, c - 1, _, c3, HKL.out.1, rfl, HX2, HO4, HB4, HR4, HF4⟩
          case measure => simp [lenOf]; have := HKL.out; omega
      · have HX2 : Box (∀ hk : k < L.length, t < L[k].at') := ⟨fun _ => by omega⟩
        have hti : ¬ ((L[k].at' : Nat) : Int) ≤ (t : Int) := by omega
        generalize L[k].at' = y at d1 hti
        clear ht hN hlt d0
        go_wp2
        go_ret2
        exact rgo_end HG.out HGP.out hk HX.out HX2.out HOW.out HB.out HR.out HF.out
    · have hNz : ¬ (0 : Int) < (N : Int) := by omega
      clear hN
      go_wp2
      go_ret2
      exact rgo_end HG.out HGP.out hk HX.out (fun h => absurd h hlt) HOW.out HB.out HR.out HF.out

end Go.Proofs.Ythlaebleaooeiaa
