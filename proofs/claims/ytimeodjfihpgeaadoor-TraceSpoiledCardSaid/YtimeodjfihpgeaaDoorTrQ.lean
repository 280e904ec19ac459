/-
  Records of ticks: the walks of 'All', and of the answers that the document fixes.
-/
import Derived.Test.YtimeodjfihpgeaaDoorTrP
namespace Go.Proofs.YtimeodjfihpgeaaDoor
open Go.RowKit

/-- What 'Parse' tells of a record's text. -/
def TYes (t : Tk) (w : World) (e : Ending) (w' : World) : Prop := ∃ (a1 : Option Addr) (n1 c1 : Nat) (a2 : Option Addr) (n2 c2 : Nat) (a3 : Option Addr) (n3 c3 : Nat) (a4 : Option Addr) (n4 c4 : Nat), e = .returned (.tuple #[.agg #[.int .i64 t.who, .slice a1 n1 c1, .slice a2 n2 c2, .slice a3 n3 c3, .slice a4 n4 c4], .int .i64 0]) ∧ TkAt w' t a1 n1 a2 n2 a3 n3 a4 n4 ∧ Below w.heap.size w w'
theorem tparse_yes {s : Bs} (hs : s.length ≤ 4990) {t : Tk} (hm : mayT t = true) (he : textU t = s) (w : World) (ht : Tab w) : Calls Tryd.prog 12 #[strv s] w fun e w' => TYes t w e w' := by
  have h := tparse_any ⟨s.toArray⟩ (by rw [bts_size]; simpa using hs) w ht
  rw [show (⟨s.toArray⟩ : ByteArray).data.toList = s from by simp] at h
  refine h.mono fun e w' hx => ?_
  obtain ⟨hb, ⟨t', a1, n1, c1, a2, n2, c2, a3, n3, c3, a4, n4, c4, h1, h2, h3, h4⟩ | ⟨h1, _⟩⟩ := hx
  · obtain rfl : t' = t := text_inj h1 hm (h2.trans he.symm)
    exact ⟨a1, n1, c1, a2, n2, c2, a3, n3, c3, a4, n4, c4, h3, h4, hb⟩
  · exact absurd he (h1 t hm)
theorem tparse_no {s : Bs} (hs : s.length ≤ 4990) (hn : ∀ t, mayT t = true → textU t ≠ s) (w : World) (ht : Tab w) : Calls Tryd.prog 12 #[strv s] w fun e w' => e = .returned (.tuple #[.agg #[.int .i64 0, .slice none 0 0, .slice none 0 0, .slice none 0 0, .slice none 0 0], .int .i64 9]) ∧ Below w.heap.size w w' := by
  have h := tparse_any ⟨s.toArray⟩ (by rw [bts_size]; simpa using hs) w ht
  rw [show (⟨s.toArray⟩ : ByteArray).data.toList = s from by simp] at h
  refine h.mono fun e w' hx => ?_
  obtain ⟨hb, ⟨t', a1, n1, c1, a2, n2, c2, a3, n3, c3, a4, n4, c4, h1, h2, h3, h4⟩ | ⟨_, h1⟩⟩ := hx
  · exact absurd h2 (hn t' h1)
  · exact ⟨h1, hb⟩
theorem Tryd.infoTock : (Tryd.prog.info? 27).map (fun i => (i.zero, i.size, i.bytes)) = some (some (.agg #[.int .i64 0, .slice none 0 0, .slice none 0 0, .slice none 0 0, .slice none 0 0]), 5, 104) := by kernel_rfl
/-- Cells of which each fifth tells who ran. -/
def Whos (ts : List Tk) (n : Nat) (cs : List Value) : Prop := cs.length = n * 5 ∧ ∀ j (hj : j < ts.length), j < n → cs[j * 5]? = some (.int .i64 ts[j].who)
theorem Whos.snoc {ts : List Tk} {n : Nat} {cs : List Value} (h : Whos ts n cs) (hn : n < ts.length) (a b c d : Value) : Whos ts (n + 1) (cs ++ [.int .i64 ts[n].who, a, b, c, d]) := by
  refine ⟨by rw [List.length_append, h.1]; simp; omega, fun j hj hjn => ?_⟩
  by_cases e : j < n
  · rw [List.getElem?_append_left (by rw [h.1]; omega)]
    exact h.2 j hj e
  · obtain rfl : j = n := by omega
    rw [List.getElem?_append_right (by rw [h.1]; exact Nat.le_refl _), h.1]
    simp
def AllOut (w : World) (ts : List Tk) (e : Ending) (w' : World) : Prop := ∃ (ao : Option Addr) (n c : Nat), e = .returned (.tuple #[.slice ao n c, .int .i64 0]) ∧ n = ts.length ∧ Below w.heap.size w w' ∧ (0 < n → ∃ b off, ao = some ⟨b, off, none⟩ ∧ b < w'.heap.size ∧ ∀ i (hi : i < ts.length), w'.cell? ⟨b, off + i * 5, none⟩ = some (.int .i64 ts[i].who))
theorem whos_out {w : World} {B : Nat} {ao : Option Addr} {n c : Nat} {cs : List Value} {ts : List Tk} (h : w.ownsRow B 27 5 (.slice ao n c) n cs) (hw : Whos ts n cs) (hn : n = ts.length) : 0 < n → ∃ b off, ao = some ⟨b, off, none⟩ ∧ b < w.heap.size ∧ ∀ i (hi : i < ts.length), w.cell? ⟨b, off + i * 5, none⟩ = some (.int .i64 ts[i].who) := by
  intro h0
  have hr := RowAt.of_owns h
  rcases hr.2 with ⟨_, e⟩ | ⟨b, off, cap, e, _, _, _, hb, hc⟩
  · omega
  · injection e with e _ _
    exact ⟨b, off, e, hb, fun i hi => hc _ _ (hw.2 i hi (by omega))⟩
set_option maxHeartbeats 8000000 in
theorem tall_any (s : Bs) (hs : s.length ≤ 4990) (ts : List Tk) (hts : (words s).length = ts.length) (hok : ∀ i (hi : i < ts.length) (hj : i < (words s).length), mayT ts[i] = true ∧ textU ts[i] = (words s)[i]) (w : World) (ht : Tab w) :
    Calls Tryd.prog 15 #[strv s] w fun e w' => AllOut w ts e w' := by
  obtain ⟨i0, hi, hz0, hz1, hz2⟩ := info_parts Tryd.infoTock
  have HWD : Box (∀ w, Calls Tryd.prog 32 #[strv s] w fun e w' => ∃ v, e = .returned v ∧ StrOut w.heap.size w' v (words s) ∧ Below w.heap.size w w') := ⟨fun w => by
    have := words_any ⟨s.toArray⟩ (by rw [bts_size]; simp; omega) w
    rw [show (⟨s.toArray⟩ : ByteArray).data.toList = s from by simp] at this
    exact this⟩
  have HOK := Box.mk hok
  have HT := Box.mk ht
  have HWL : Box (∀ x ∈ words s, x.length ≤ 4990) := ⟨fun x hx => by have := (words_mem hx).2.2; omega⟩
  obtain ⟨N, hN⟩ : ∃ N, N = ts.length := ⟨_, rfl⟩
  have HN := Box.mk hN
  have hN6 : N ≤ 4990 := by have := words_len s; omega
  have HWN : Box ((words s).length = N) := ⟨by rw [hts, hN]⟩
  generalize words s = WS at HWD HOK HWL HWN
  clear hok ht hts hN
  go_enter Tryd.func15, Tryd.ntmps15
  go_upto_block 0 with (go_at_call 32; (with_reducible refine (HWD.out _).mono ?_); rintro e w1 ⟨v, rfl, hso, hb⟩; obtain ⟨wa, wc, rfl, hown⟩ := hso; rw [HWN.out]; have HVW := Box.mk (VRow.own hown); have HB1 := Box.mk hb; clear hown hb)
  clear HWD
  go_wp2
  go_loopw [4, 6, 7, 8, 12] (fun s4 _ _ _ s12 wr => ∃ (i : Nat) (ao : Option Addr) (c : Nat) (cs : List Value), i ≤ N ∧ s12 = .int .i64 i ∧ s4 = .slice ao i c ∧ Box (Whos ts i cs) ∧ Box (wr.ownsRow w1.heap.size 27 5 (.slice ao i c) i cs) ∧ Box (Below w1.heap.size w1 wr)) (fun _ _ _ _ s12 _ => N - (intOf s12).toNat)
  case atStart => exact ⟨0, none, 0, [], by omega, rfl, rfl, ⟨rfl, fun j _ h => by omega⟩, ⟨World.ownsRow_nil _ _ _ _⟩, ⟨Below.refl _ _⟩⟩
  case round =>
    obtain ⟨i, ao, c, cs, hiN, rfl, rfl, HW, HOW, HB⟩ := hrel
    by_cases hlt : i < N
    · have hii : (i : Int) < N := by omega
      have hi0 : (0 : Int) ≤ i := by omega
      have hiw : i < WS.length := by rw [HWN.out]; exact hlt
      have hit : i < ts.length := by rw [← HN.out]; exact hlt
      obtain ⟨b, off, rfl, hbl, hc⟩ := HVW.out (by simp [strV]; omega)
      have cx := (HB.out.cell (p := ⟨b, off + i, none⟩) hbl).trans (hc i (by simpa [strV] using hiw))
      have hge : (strV WS)[i]'(by simpa [strV] using hiw) = strv WS[i] := by simp [strV]
      rw [hge] at cx
      obtain ⟨ho1, ho2⟩ := HOK.out i hit hiw
      have HP := Box.mk (tparse_yes (HWL.out _ (List.getElem_mem hiw)) ho1 ho2 wr (HT.out.on (below_step HB1.out HB.out)))
      have HW2 : Box (∀ a b c d, Whos ts (i + 1) (cs ++ [.int .i64 ts[i].who, a, b, c, d])) := ⟨fun a b c d => HW.out.snoc hit a b c d⟩
      obtain ⟨t, ht⟩ : ∃ t, t = ts[i] := ⟨_, rfl⟩
      rw [← ht] at HP HW2
      generalize WS[i] = x at cx HP
      have hsz := HB.out.size
      clear hc hge ho1 ho2 ht hiw hit HW
      go_upto_region 6 with (go_at_call 12; (with_reducible refine HP.out.mono ?_); rintro e w2 ⟨a1, n1, c1, a2, n2, c2, a3, n3, c3, a4, n4, c4, rfl, hk, hb⟩; have HB2 := Box.mk hb; clear hb hk)
      have HOW2 := Box.mk (ownsRow_fr HOW.out (fun g hg => HB2.out.block g (ownsRow_lt HOW.out hg).2))
      have hb3 : Below (World.heap w2).size w2 (World.alloc w2 (.cells #[.int .i64 t.who, .slice a1 n1 c1, .slice a2 n2 c2, .slice a3 n3 c3, .slice a4 n4 c4] 27)) := (Below.refl _ _).alloc (Nat.le_refl _) _
      have HX3 : Box ((World.alloc w2 (.cells #[.int .i64 t.who, .slice a1 n1 c1, .slice a2 n2 c2, .slice a3 n3 c3, .slice a4 n4 c4] 27)).heap[(World.heap w2).size]? = some (.cells #[.int .i64 t.who, .slice a1 n1 c1, .slice a2 n2 c2, .slice a3 n3 c3, .slice a4 n4 c4] 27 (0, 0))) := ⟨blk_new _ _⟩
      have HOW3 := Box.mk (ownsRow_fr HOW2.out (fun g hg => hb3.block g (ownsRow_lt HOW2.out hg).2))
      have hs2 := HB2.out.size
      have HB3 := Box.mk (below_step (below_step HB.out HB2.out) hb3)
      have hs3 := HB3.out.size
      clear HOW HOW2 hb3 HP
      generalize World.alloc w2 (.cells #[.int .i64 t.who, .slice a1 n1 c1, .slice a2 n2 c2, .slice a3 n3 c3, .slice a4 n4 c4] 27) = V3 at HX3 HOW3 HB3 hs3 ⊢
      generalize (World.heap w2).size = TB at HX3 ⊢
      generalize t.who = who at HX3 HW2 ⊢
      have q0 : V3.cell? ⟨TB, 0, none⟩ = some (.int .i64 who) := (cell_blk HX3.out 0).trans rfl
      have q1 : V3.cell? ⟨TB, 1, none⟩ = some (.slice a1 n1 c1) := (cell_blk HX3.out 1).trans rfl
      have q2 : V3.cell? ⟨TB, 2, none⟩ = some (.slice a2 n2 c2) := (cell_blk HX3.out 2).trans rfl
      have q3 : V3.cell? ⟨TB, 3, none⟩ = some (.slice a3 n3 c3) := (cell_blk HX3.out 3).trans rfl
      have q4 : V3.cell? ⟨TB, 4, none⟩ = some (.slice a4 n4 c4) := (cell_blk HX3.out 4).trans rfl
      go_wp2_with (at_builtin; refine wpList_append_lies _ rfl (.tmp 24) (.tmp 26) 40 rfl w1.heap.size 27 i0 (.agg #[.int .i64 0, .slice none 0 0, .slice none 0 0, .slice none 0 0, .slice none 0 0]) 5 104 Tryd.underlying40 hi hz0 hz1 hz2 rfl (by decide) (.slice ao i c) i cs rfl (HOW3.out.alloc _) ⟨V3.heap.size, 0, none⟩ 1 1 [.int .i64 who, .slice a1 n1 c1, .slice a2 n2 c2, .slice a3 n3 c3, .slice a4 n4 c4] rfl rfl (World.news_of_block (cs := #[.int .i64 who, .slice a1 n1 c1, .slice a2 n2 c2, .slice a3 n3 c3, .slice a4 n4 c4]) (blk_new _ _)) ?h1 (by omega) ?b1 ?b2 ?b3 _ rfl ?nxt)
      case h1 => simp [Value.oneCell']
      case b1 => unfold maxLen; omega
      case b2 => omega
      case b3 => simp; omega
      case nxt =>
        intro g3 c3' w3 ho3 hg3 _ _
        have hne : ∀ k, (Value.slice ao i c).ownBlock = some k → w1.heap.size ≤ k := fun k hk => (ownsRow_lt HOW3.out hk).1
        have HB4 : Box (Below w1.heap.size w1 w3) := ⟨(HB3.out.alloc hs3 _).grown hg3 (Nat.le_trans hs3 (by simp)) (fun k hk => hne k hk)⟩
        have HO4 := Box.mk ho3
        have HW4 := Box.mk (HW2.out (.slice a1 n1 c1) (.slice a2 n2 c2) (.slice a3 n3 c3) (.slice a4 n4 c4))
        clear ho3 hg3 hne
        go_wp2
        go_roundw
        case rel => exact ⟨i + 1, some ⟨g3, 0, none⟩, c3', _, by omega, by go_num, rfl, HW4, HO4, HB4⟩
        case measure => simp [intOf] <;> omega
    · obtain rfl : N = i := by omega
      have hii : ¬ (N : Int) < N := by omega
      go_wp2
      go_ret2
      exact ⟨ao, N, c, rfl, HN.out, below_step HB1.out HB.out, whos_out HOW.out HW.out HN.out⟩

end Go.Proofs.YtimeodjfihpgeaaDoor
