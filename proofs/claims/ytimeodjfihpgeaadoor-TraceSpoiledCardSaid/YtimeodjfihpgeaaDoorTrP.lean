/-
  Records of ticks: the walk of the program's 'Parse'.
-/
import Derived.Test.YtimeodjfihpgeaaDoorTrO
import Derived.Test.YtimeodjfihpgeaaDoorTrG
import Derived.Laws.ResultCell
namespace Go.Proofs.YtimeodjfihpgeaaDoor
open Go.RowKit

theorem numV_le {l : Bs} {n : Nat} (h : numV l = some n) : n ≤ 2147483647 := by
  unfold numV at h
  split at h
  · rename_i hk
    injection h with h
    subst h
    exact hk.2.2.2.2
  · cases h
theorem parts_ok : ∀ {rs : List Nat} {ds : Bs} {ps : List Part}, partsG rs ds = some ps → PsOk ps
  | [], ds, ps, h => by
    rw [parts_fin] at h
    split at h
    · injection h with h; subst h; exact fun n hn => by cases hn
    · split at h
      · rename_i n hn
        injection h with h; subst h
        intro m hm
        have := numV_le hn
        rw [List.mem_singleton] at hm
        injection hm with hm
        omega
      · cases h
  | r :: rs, ds, ps, h => by
    cases hd : digR r with
    | true => rw [parts_dig hd] at h; exact parts_ok h
    | false =>
      rw [parts_mark hd] at h
      cases hq : partsG rs [] with
      | none =>
        rw [hq] at h
        split at h
        · cases h
        · split at h <;> cases h
      | some q =>
        have ih := parts_ok hq
        rw [hq] at h
        split at h
        · injection h with h; subst h
          intro m hm
          rcases List.mem_cons.1 hm with hm | hm
          · cases hm
          · exact ih m hm
        · split at h
          · rename_i n hn
            injection h with h; subst h
            intro m hm
            have := numV_le hn
            rcases List.mem_cons.1 hm with hm | hm
            · injection hm with hm; omega
            · rcases List.mem_cons.1 hm with hm | hm
              · cases hm
              · exact ih m hm
          · cases h
/-! Texts are ASCII. -/
theorem itoa_ascii {v : Int} (h0 : 0 ≤ v) : ∀ c ∈ Lib.itoa v, c.toNat < 128 := fun c hc => by have := itoa_digits h0 c hc; unfold digB at this; omega
theorem pairs_ascii : ∀ {P : List (Nat × Int)}, (∀ p ∈ P, p.1 < 128 ∧ 0 ≤ p.2) → ∀ c ∈ pairsB P, c.toNat < 128
  | [], _ => fun c hc => by cases hc
  | p :: P, h => by
    intro c hc
    obtain ⟨h1, h2⟩ := h p (List.mem_cons_self ..)
    rw [show pairsB (p :: P) = (UInt8.ofNat p.1 :: Lib.itoa p.2) ++ pairsB P from by simp [pairsB]] at hc
    rcases List.mem_append.1 hc with hc | hc
    · rcases List.mem_cons.1 hc with rfl | hc
      · simp; omega
      · exact itoa_ascii h2 c hc
    · exact pairs_ascii (fun q hq => h q (List.mem_cons_of_mem _ hq)) c hc
theorem tail_ascii {t : Tk} (h : mayT t = true) : ∀ p ∈ tailPairs t, p.1 < 128 ∧ 0 ≤ p.2 := by
  intro p hp
  refine ⟨?_, (tail_ok h p hp).2.2.1⟩
  unfold tailPairs at hp
  rcases List.mem_append.1 hp with hp | hp
  · obtain ⟨n, _, rfl⟩ := List.mem_map.1 hp; simp
  rcases List.mem_append.1 hp with hp | hp
  · obtain ⟨n, _, rfl⟩ := List.mem_map.1 hp; simp
  rcases List.mem_append.1 hp with hp | hp
  · obtain ⟨n, _, rfl⟩ := List.mem_map.1 hp; simp
  obtain ⟨l, hl, hp⟩ := List.mem_flatten.1 hp
  obtain ⟨f, hf, rfl⟩ := List.mem_map.1 hl
  simp only [fatePairs, List.mem_cons, List.not_mem_nil, or_false] at hp
  rcases hp with rfl | rfl
  · show (61 : Nat) < 128; decide
  · simp only; split <;> decide
theorem text_ascii {t : Tk} (h : mayT t = true) : ∀ c ∈ textU t, c.toNat < 128 := by
  intro c hc
  rw [text_pairs] at hc
  have hw := who_three (may_parts h).1
  rcases List.mem_append.1 hc with hc | hc
  · unfold whoT at hc
    split at hc
    · rcases List.mem_cons.1 hc with rfl | hc
      · decide
      · exact itoa_ascii (by omega) c hc
    · split at hc
      · rcases List.mem_cons.1 hc with rfl | hc
        · decide
        · exact itoa_ascii (by omega) c hc
      · rw [List.mem_singleton] at hc; subst hc; decide
  · exact pairs_ascii (tail_ascii h) c hc
theorem text_ne {t : Tk} : textU t ≠ [] := by
  rw [text_pairs]
  intro e
  have := (List.append_eq_nil_iff.1 e).1
  unfold whoT at this
  split at this
  · cases this
  · split at this <;> cases this
/-- The law of reading: what is read, if its text is the text, is the record; no other text is one's. -/
theorem parse_law {s : ByteArray} {RS : List Nat} (ha : (∀ c ∈ s.data.toList.drop 0, c.toNat < 128) → RS = codes (s.data.toList.drop 0)) :
    (partsG RS [] = none → ∀ t, mayT t = true → textU t ≠ s.data.toList) ∧ (∀ ps, partsG RS [] = some ps → ∀ t, mayT t = true → textU t = s.data.toList → readP ps = t) := by
  have key : ∀ t, mayT t = true → textU t = s.data.toList → RS = codes (textU t) := fun t ht e => by
    rw [e]
    exact ha (fun c hc => text_ascii ht c (by rw [e]; simpa using hc))
  refine ⟨fun hn t ht e => ?_, fun ps hp t ht e => ?_⟩
  · rw [key t ht e, parts_text ht] at hn; cases hn
  · obtain ⟨q, h1, h2⟩ := read_text ht
    rw [key t ht e, h1] at hp
    injection hp with hp
    rw [← hp, h2]
theorem numsP_sum (m : Nat) : ∀ (n : Nat) (ps : List Part), ps.length ≤ n → (numsP m ps).1.length + (numsP m ps).2.length ≤ ps.length
  | 0, ps, h => by
    cases h1 : markP m ps with
    | none => rw [numsP_none h1]; simp
    | some q => have := markP_len h1; omega
  | n + 1, ps, h => by
    cases h1 : markP m ps with
    | none => rw [numsP_none h1]; simp
    | some q =>
      have h2 := markP_len h1
      have h3 := numP_len q
      have ih := numsP_sum m n (numP q).2 (by omega)
      rw [numsP_some h1]
      simp only [List.length_cons]
      omega
theorem fatesP_sum : ∀ (n : Nat) (ps : List Part), ps.length ≤ n → (fatesP ps).1.length + (fatesP ps).2.length ≤ ps.length
  | 0, ps, h => by
    cases h1 : markP 61 ps with
    | none => rw [fatesP_none h1]; simp
    | some q => have := markP_len h1; omega
  | n + 1, ps, h => by
    cases h1 : markP 61 ps with
    | none => rw [fatesP_none h1]; simp
    | some q =>
      have h2 := markP_len h1
      have h3 := numP_len q
      have h4 := kindP_len (numP q).2
      have h5 := numP_len (kindP (numP q).2).2
      have ih := fatesP_sum n (numP (kindP (numP q).2).2).2 (by omega)
      rw [fatesP_some h1]
      simp only [List.length_cons]
      omega
theorem whoP_len (ps : List Part) : (whoP ps).2.length ≤ ps.length := by
  unfold whoP
  split
  · rename_i q h; have := markP_len h; have := numP_len q; omega
  · split
    · rename_i q h; have := markP_len h; have := numP_len q; simp only; omega
    · simp only
      cases h : markP 46 ps with
      | none => simp
      | some q => have := markP_len h; simp; omega
theorem res5 {w w2 : World} {R0 : Nat} {z0 z1 z2 z3 z4 a b c d e : Value} (h : w2.heap[R0]? = some (.cells #[z0, z1, z2, z3, z4] 27 (0, 0))) (hb : Below R0 w w2) :
    (((((w2.setCell ⟨R0, 0, none⟩ a).setCell ⟨R0, 1, none⟩ b).setCell ⟨R0, 2, none⟩ c).setCell ⟨R0, 3, none⟩ d).setCell ⟨R0, 4, none⟩ e).heap[R0]? = some (.cells #[a, b, c, d, e] 27 (0, 0)) ∧
    Fr (fun k => k = R0) w2 (((((w2.setCell ⟨R0, 0, none⟩ a).setCell ⟨R0, 1, none⟩ b).setCell ⟨R0, 2, none⟩ c).setCell ⟨R0, 3, none⟩ d).setCell ⟨R0, 4, none⟩ e) ∧
    Below R0 w (((((w2.setCell ⟨R0, 0, none⟩ a).setCell ⟨R0, 1, none⟩ b).setCell ⟨R0, 2, none⟩ c).setCell ⟨R0, 3, none⟩ d).setCell ⟨R0, 4, none⟩ e) := by
  have h1 := blk_set (i := 0) h a
  have h2 := blk_set (i := 1) h1 b
  have h3 := blk_set (i := 2) h2 c
  have h4 := blk_set (i := 3) h3 d
  have h5 := blk_set (i := 4) h4 e
  have hf : Fr (fun k => k = R0) w2 (((((w2.setCell ⟨R0, 0, none⟩ a).setCell ⟨R0, 1, none⟩ b).setCell ⟨R0, 2, none⟩ c).setCell ⟨R0, 3, none⟩ d).setCell ⟨R0, 4, none⟩ e) :=
    (((((Fr.refl (fun k => k = R0) w2).setCell (p := ⟨R0, 0, none⟩) (.inl rfl) a).setCell (p := ⟨R0, 1, none⟩) (.inl rfl) b).setCell (p := ⟨R0, 2, none⟩) (.inl rfl) c).setCell (p := ⟨R0, 3, none⟩) (.inl rfl) d).setCell (p := ⟨R0, 4, none⟩) (.inl rfl) e
  exact ⟨by rw [h5]; simp, hf, hb.trans (hf.below (Nat.le_of_lt (lt_blk h)) (fun k _ e => by omega))⟩
/-- What 'Parse' tells of a text. -/
def TOut (s : Bs) (w : World) (e : Ending) (w' : World) : Prop :=
  Below w.heap.size w w' ∧ ((∃ (t : Tk) (a1 : Option Addr) (n1 c1 : Nat) (a2 : Option Addr) (n2 c2 : Nat) (a3 : Option Addr) (n3 c3 : Nat) (a4 : Option Addr) (n4 c4 : Nat), mayT t = true ∧ textU t = s ∧ e = .returned (.tuple #[.agg #[.int .i64 t.who, .slice a1 n1 c1, .slice a2 n2 c2, .slice a3 n3 c3, .slice a4 n4 c4], .int .i64 0]) ∧ TkAt w' t a1 n1 a2 n2 a3 n3 a4 n4) ∨
    ((∀ t, mayT t = true → textU t ≠ s) ∧ e = .returned (.tuple #[.agg #[.int .i64 0, .slice none 0 0, .slice none 0 0, .slice none 0 0, .slice none 0 0], .int .i64 9])))

set_option maxHeartbeats 16000000 in
set_option maxRecDepth 100000 in
theorem tparse_any (s : ByteArray) (hs : s.size ≤ 4990) (w : World) (ht : Tab w) : Calls Tryd.prog 12 #[.string s] w fun e w' => TOut s.data.toList w e w' := by
  obtain ⟨RS, hrs, hasc⟩ := runes_some s s.size 0 (by omega)
  obtain ⟨hl1, hl2⟩ := parse_law hasc
  have HL1 := Box.mk hl1
  have HL2 := Box.mk hl2
  have HT := Box.mk ht
  have hpa : ∀ w, Calls Tryd.prog 25 #[strv s.data.toList] w fun e w' => PartsOut w s.size (partsG RS []) e w' := fun w => by rw [← str_strv s]; exact parts_any s (by omega) RS hrs w
  have HPA := Box.mk hpa
  have HOK : Box (∀ ps, partsG RS [] = some ps → PsOk ps) := ⟨fun ps h => parts_ok h⟩
  clear hl1 hl2 ht hrs hasc hpa
  generalize partsG RS [] = R at HPA HL1 HL2 HOK
  clear RS
  obtain ⟨R0, hR0⟩ : ∃ R0, w.heap.size = R0 := ⟨_, rfl⟩
  have HR0 := Box.mk hR0
  have HX0 : Box ((w.alloc (.cells #[.int .i64 0, .slice none 0 0, .slice none 0 0, .slice none 0 0, .slice none 0 0] 27)).heap[R0]? = some (.cells #[.int .i64 0, .slice none 0 0, .slice none 0 0, .slice none 0 0, .slice none 0 0] 27 (0, 0))) := ⟨by rw [← hR0]; exact blk_new _ _⟩
  have HB0 : Box (Below R0 w (w.alloc (.cells #[.int .i64 0, .slice none 0 0, .slice none 0 0, .slice none 0 0, .slice none 0 0] 27))) := ⟨(Below.refl _ _).alloc (by omega) _⟩
  unfold TOut
  rw [hR0]
  clear hR0
  rw [str_strv s]
  have hsz : s.size = s.data.toList.length := bts_size s
  have HSZ := Box.mk hsz
  generalize s.data.toList = bs at HPA HL1 HL2 HSZ hsz ⊢
  go_enter Tryd.func12, Tryd.ntmps12
  go_upto_region 1 with fail
  generalize hV0 : w.alloc (.cells #[.int .i64 0, .slice none 0 0, .slice none 0 0, .slice none 0 0, .slice none 0 0] 27) = V0 at HX0 HB0 ⊢
  clear hV0
  try rw [HR0.out]
  have hRL : R0 < V0.heap.size := lt_blk HX0.out
  go_upto_region 2 with (go_at_call 25; (with_reducible refine (HPA.out _).mono ?_); rintro e w2 ⟨ao, n, c, ok, rfl, hb, hm⟩; have HB2 := Box.mk hb; have HM2 := Box.mk hm; clear hb hm)
  have HX2 := Box.mk ((HB2.out.block R0 hRL).trans HX0.out)
  have HBa : Box (Below R0 w w2) := ⟨HB0.out.trans (HB2.out.mono (by omega))⟩
  have hR2 : R0 < (World.heap w2).size := lt_blk HX2.out
  clear HX0 HB0 HB2 HPA hRL
  cases R with
  | none =>
    have hok := HM2.out
    simp only at hok
    subst hok
    have HNO := Box.mk (HL1.out rfl)
    clear HL1 HL2 HM2 HOK
    have r0 : World.cell? w2 ⟨R0, 0, none⟩ = some (.int .i64 0) := (cell_blk HX2.out 0).trans rfl
    have r1 : World.cell? w2 ⟨R0, 1, none⟩ = some (.slice none 0 0) := (cell_blk HX2.out 1).trans rfl
    have r2 : World.cell? w2 ⟨R0, 2, none⟩ = some (.slice none 0 0) := (cell_blk HX2.out 2).trans rfl
    have r3 : World.cell? w2 ⟨R0, 3, none⟩ = some (.slice none 0 0) := (cell_blk HX2.out 3).trans rfl
    have r4 : World.cell? w2 ⟨R0, 4, none⟩ = some (.slice none 0 0) := (cell_blk HX2.out 4).trans rfl
    have f0 := free_blk HX2.out 0
    have f1 := free_blk HX2.out 1
    have f2 := free_blk HX2.out 2
    have f3 := free_blk HX2.out 3
    have f4 := free_blk HX2.out 4
    go_wp2
    obtain ⟨qb, _, hbw⟩ := res5 HX2.out HBa.out (a := .int .i64 0) (b := .slice none 0 0) (c := .slice none 0 0) (d := .slice none 0 0) (e := .slice none 0 0)
    have q0 := cell_blk qb 0
    have q1 := cell_blk qb 1
    have q2 := cell_blk qb 2
    have q3 := cell_blk qb 3
    have q4 := cell_blk qb 4
    simp only [List.getElem?_toArray, List.getElem?_cons_zero, List.getElem?_cons_succ] at q0 q1 q2 q3 q4
    have HBW := Box.mk hbw
    clear hbw qb r0 r1 r2 r3 r4 f0 f1 f2 f3 f4
    refine bodyPost_ret (v := .tuple #[.agg #[.int .i64 0, .slice none 0 0, .slice none 0 0, .slice none 0 0, .slice none 0 0], .int .i64 9]) (by simp [results, Tryd.results12, go_sem, q0, q1, q2, q3, q4]) rfl ⟨HBW.out, .inr ⟨HNO.out, rfl⟩⟩
  | some ps =>
    obtain ⟨rfl, hn, h2, hnc, hv⟩ := HM2.out
    have HLAW := Box.mk (HL2.out ps rfl)
    have hok := HOK.out ps rfl
    have HPO := Box.mk hok
    obtain ⟨PB, hPB⟩ : ∃ PB, PB = (World.heap w2).size := ⟨_, rfl⟩
    have hb3 : Below (World.heap w2).size w2 (World.alloc w2 (.cells #[.slice ao n c] 56)) := (Below.refl _ _).alloc (Nat.le_refl _) _
    have HX3 := Box.mk ((hb3.block R0 hR2).trans HX2.out)
    have HBb : Box (Below R0 w (World.alloc w2 (.cells #[.slice ao n c] 56))) := ⟨HBa.out.trans (hb3.mono (by omega))⟩
    have HRD : Box (RdAt (World.alloc w2 (.cells #[.slice ao n c] 56)) (World.heap w2).size ps) := ⟨⟨ao, n, c, hn, hnc, by omega, blk_new _ _, fun h0 => by
      obtain ⟨b, off, e, hbl, hc⟩ := hv (by simp; omega)
      exact ⟨b, off, e, hbl, fun i hi => (hb3.cell (p := ⟨b, off + i, none⟩) hbl).trans ((hc i (by simpa using hi)).trans (by simp))⟩⟩⟩
    have hRP : R0 < PB := by omega
    have hpl : ps.length ≤ 9981 := by omega
    clear hok hv HL1 HL2 HM2 HOK HX2 HBa hn hnc
    go_upto_region 5 with fail
    generalize World.alloc w2 (.cells #[.slice ao n c] 56) = V3 at hb3 HX3 HBb HRD ⊢
    rw [← hPB] at HRD ⊢
    clear hb3 hPB
    have hP3 := rd_lt HRD.out
    obtain ⟨p1, hp1⟩ : ∃ p, p = (whoP ps).2 := ⟨_, rfl⟩
    obtain ⟨p2, hp2⟩ : ∃ p, p = (numsP 43 p1).2 := ⟨_, rfl⟩
    obtain ⟨p3, hp3⟩ : ∃ p, p = (numsP 47 p2).2 := ⟨_, rfl⟩
    obtain ⟨p4, hp4⟩ : ∃ p, p = (numsP 33 p3).2 := ⟨_, rfl⟩
    have hl1 := whoP_len ps
    have hl2 := numsP_sum 43 _ p1 (Nat.le_refl _)
    have hl3 := numsP_sum 47 _ p2 (Nat.le_refl _)
    have hl4 := numsP_sum 33 _ p3 (Nat.le_refl _)
    have hl5 := fatesP_sum _ p4 (Nat.le_refl _)
    rw [← hp1] at hl1
    rw [← hp2] at hl2
    rw [← hp3] at hl3
    rw [← hp4] at hl4
    have HRP : Box (readP ps = ⟨(whoP ps).1, (numsP 43 p1).1, (numsP 47 p2).1, (numsP 33 p3).1, (fatesP p4).1⟩) := ⟨by subst hp4; subst hp3; subst hp2; subst hp1; rfl⟩
    have HPP := Box.mk (And.intro hp1 (And.intro hp2 (And.intro hp3 hp4)))
    clear hp1 hp2 hp3 hp4
    go_upto_region 6 with (first
      | (go_at_call 26; (with_reducible refine (who_any PB ps V3 HRD.out HPO.out).mono ?_); rintro e w4 ⟨rfl, hr, hf⟩; rw [← HPP.out.1] at hr; have HR4 := Box.mk hr; have HF4 := Box.mk hf; clear hr hf)
      | (go_at_call 27; (with_reducible refine (rnums_any PB 43 43 rfl p1 w4 HR4.out).mono ?_); rintro e w5 ⟨b1, n1, c1, rfl, hn1, ho, hr, hf⟩; rw [← HPP.out.2.1] at hr; have HR5 := Box.mk hr; have HF5 := Box.mk hf; have HO1 := Box.mk ho; have HN1 := Box.mk hn1; clear hr hf ho hn1)
      | (go_at_call 27; (with_reducible refine (rnums_any PB 47 47 rfl p2 w5 HR5.out).mono ?_); rintro e w6 ⟨b2, n2, c2, rfl, hn1, ho, hr, hf⟩; rw [← HPP.out.2.2.1] at hr; have HR6 := Box.mk hr; have HF6 := Box.mk hf; have HO2 := Box.mk ho; have HN2 := Box.mk hn1; clear hr hf ho hn1)
      | (go_at_call 27; (with_reducible refine (rnums_any PB 33 33 rfl p3 w6 HR6.out).mono ?_); rintro e w7 ⟨b3, n3, c3, rfl, hn1, ho, hr, hf⟩; rw [← HPP.out.2.2.2] at hr; have HR7 := Box.mk hr; have HF7 := Box.mk hf; have HO3 := Box.mk ho; have HN3 := Box.mk hn1; clear hr hf ho hn1)
      | (go_at_call 28; (with_reducible refine (rfates_any PB p4 w7 HR7.out).mono ?_); rintro e w8 ⟨b4, n4, c4, rfl, hn1, ho, hr, hf⟩; have HF8 := Box.mk hf; have HO4 := Box.mk ho; have HN4 := Box.mk hn1; clear hr hf ho hn1))
    have hs4 := HF4.out.size
    have hs5 := HF5.out.size
    have hs6 := HF6.out.size
    have hs7 := HF7.out.size
    have hs8 := HF8.out.size
    have hn1 := HN1.out
    have hn2 := HN2.out
    have hn3 := HN3.out
    have hn4 := HN4.out
    have HQ1 := Box.mk (ownsRow_fr (w' := w8) HO1.out (fun g hg => ((HF6.out.trans HF7.out).trans HF8.out).block g (ownsRow_lt HO1.out hg).2 (by have := (ownsRow_lt HO1.out hg).1; omega)))
    have HQ2 := Box.mk (ownsRow_fr (w' := w8) HO2.out (fun g hg => (HF7.out.trans HF8.out).block g (ownsRow_lt HO2.out hg).2 (by have := (ownsRow_lt HO2.out hg).1; omega)))
    have HQ3 := Box.mk (ownsRow_fr (w' := w8) HO3.out (fun g hg => HF8.out.block g (ownsRow_lt HO3.out hg).2 (by have := (ownsRow_lt HO3.out hg).1; omega)))
    have hfa : Fr (fun k => k = PB) V3 w8 := (((HF4.out.trans HF5.out).trans HF6.out).trans HF7.out).trans HF8.out
    have HBc : Box (Below R0 w w8) := ⟨HBb.out.trans (hfa.below (by omega) (fun k _ e => by omega))⟩
    have HX8 := Box.mk (hfa.blk HX3.out (by omega))
    clear hfa
    have hb9 : Below (World.heap w8).size w8 (World.alloc w8 (.cells #[.int .i64 (whoP ps).1, .slice b1 n1 c1, .slice b2 n2 c2, .slice b3 n3 c3, .slice b4 n4 c4] 27)) := (Below.refl _ _).alloc (Nat.le_refl _) _
    have HB9 := Box.mk hb9
    obtain ⟨t, hht⟩ : ∃ t, t = readP ps := ⟨_, rfl⟩
    have ht2 := hht.trans HRP.out
    have HTW : Box (t.who = (whoP ps).1 ∧ t.dn = (numsP 43 p1).1 ∧ t.ct = (numsP 47 p2).1 ∧ t.ms = (numsP 33 p3).1 ∧ t.fs = (fatesP p4).1) := ⟨by rw [ht2]; exact ⟨rfl, rfl, rfl, rfl, rfl⟩⟩
    have HTA : Box (∀ w', Fr (fun k => k = R0) w8 w' → TkAt w' t b1 n1 b2 n2 b3 n3 b4 n4) := ⟨fun w' hf => by
      obtain ⟨g1, g2, g3, g4, g5⟩ := HTW.out
      refine ⟨?_, ?_, ?_, ?_⟩
      · rw [g2]; exact nums_of (ownsRow_fr HQ1.out (fun g hg => hf.block g (ownsRow_lt HQ1.out hg).2 (by have := (ownsRow_lt HQ1.out hg).1; omega))) (by omega)
      · rw [g3]; exact nums_of (ownsRow_fr HQ2.out (fun g hg => hf.block g (ownsRow_lt HQ2.out hg).2 (by have := (ownsRow_lt HQ2.out hg).1; omega))) (by omega)
      · rw [g4]; exact nums_of (ownsRow_fr HQ3.out (fun g hg => hf.block g (ownsRow_lt HQ3.out hg).2 (by have := (ownsRow_lt HQ3.out hg).1; omega))) (by omega)
      · rw [g5]; exact fates_of (ownsRow_fr HO4.out (fun g hg => hf.block g (ownsRow_lt HO4.out hg).2 (by have := (ownsRow_lt HO4.out hg).1; omega))) (by omega)⟩
    have HTX := ttext_any t b1 n1 c1 b2 n2 c2 b3 n3 c3 b4 n4 c4 _ (HTA.out _ (Fr.of_below hb9)) (HT.out.on (by rw [HR0.out]; exact HBc.out.trans (hb9.mono (by omega)))) (by omega) (by omega) (by omega) (by omega)
    rw [HTW.out.1] at HTX
    have HTX := Box.mk HTX
    have HT9 : Box ((World.alloc w8 (.cells #[.int .i64 (whoP ps).1, .slice b1 n1 c1, .slice b2 n2 c2, .slice b3 n3 c3, .slice b4 n4 c4] 27)).heap[(World.heap w8).size]? = some (.cells #[.int .i64 (whoP ps).1, .slice b1 n1 c1, .slice b2 n2 c2, .slice b3 n3 c3, .slice b4 n4 c4] 27 (0, 0))) := ⟨blk_new _ _⟩
    have hR8 : R0 < (World.heap w8).size := by omega
    rw [← hht] at HLAW
    have HWHO := Box.mk HTW.out.1.symm
    clear HN1 HN2 HN3 HN4 hn1 hn2 hn3 hn4 HO1 HO2 HO3 HO4 HQ1 HQ2 HQ3 HF4 HF5 HF6 HF7 HF8 HR4 HR5 HR6 HR7 HRD HBb HX3 HPO hl1 hl2 hl3 hl4 hl5 hs4 hs5 hs6 hs7 hs8 hht ht2 HRP HPP hb9 HTW
    generalize World.alloc w8 (.cells #[.int .i64 (whoP ps).1, .slice b1 n1 c1, .slice b2 n2 c2, .slice b3 n3 c3, .slice b4 n4 c4] 27) = V9 at HB9 HTX HT9 ⊢
    obtain ⟨TB, hTB⟩ : ∃ TB, TB = (World.heap w8).size := ⟨_, rfl⟩
    rw [← hTB] at HT9 ⊢
    have hRT : R0 < TB := by omega
    have HX9 := Box.mk ((HB9.out.block R0 hR8).trans HX8.out)
    have HBd : Box (Below R0 w V9) := ⟨HBc.out.trans (HB9.out.mono (by omega))⟩
    have hT9 := lt_blk HT9.out
    clear hTB
    generalize (whoP ps).1 = who at HTX HT9 HWHO ⊢
    have t0 : V9.cell? ⟨TB, 0, none⟩ = some (.int .i64 who) := (cell_blk HT9.out 0).trans rfl
    have t1 : V9.cell? ⟨TB, 1, none⟩ = some (.slice b1 n1 c1) := (cell_blk HT9.out 1).trans rfl
    have t2 : V9.cell? ⟨TB, 2, none⟩ = some (.slice b2 n2 c2) := (cell_blk HT9.out 2).trans rfl
    have t3 : V9.cell? ⟨TB, 3, none⟩ = some (.slice b3 n3 c3) := (cell_blk HT9.out 3).trans rfl
    have t4 : V9.cell? ⟨TB, 4, none⟩ = some (.slice b4 n4 c4) := (cell_blk HT9.out 4).trans rfl
    by_cases hbs : bs = []
    · subst hbs
      have HNO : Box (∀ t, mayT t = true → textU t ≠ []) := ⟨fun t _ => text_ne⟩
      have r0 : World.cell? V9 ⟨R0, 0, none⟩ = some (.int .i64 0) := (cell_blk HX9.out 0).trans rfl
      have r1 : World.cell? V9 ⟨R0, 1, none⟩ = some (.slice none 0 0) := (cell_blk HX9.out 1).trans rfl
      have r2 : World.cell? V9 ⟨R0, 2, none⟩ = some (.slice none 0 0) := (cell_blk HX9.out 2).trans rfl
      have r3 : World.cell? V9 ⟨R0, 3, none⟩ = some (.slice none 0 0) := (cell_blk HX9.out 3).trans rfl
      have r4 : World.cell? V9 ⟨R0, 4, none⟩ = some (.slice none 0 0) := (cell_blk HX9.out 4).trans rfl
      have f0 := free_blk HX9.out 0
      have f1 := free_blk HX9.out 1
      have f2 := free_blk HX9.out 2
      have f3 := free_blk HX9.out 3
      have f4 := free_blk HX9.out 4
      go_wp2
      obtain ⟨qb, _, hbw⟩ := res5 HX9.out HBd.out (a := .int .i64 0) (b := .slice none 0 0) (c := .slice none 0 0) (d := .slice none 0 0) (e := .slice none 0 0)
      have q0 := cell_blk qb 0
      have q1 := cell_blk qb 1
      have q2 := cell_blk qb 2
      have q3 := cell_blk qb 3
      have q4 := cell_blk qb 4
      simp only [List.getElem?_toArray, List.getElem?_cons_zero, List.getElem?_cons_succ] at q0 q1 q2 q3 q4
      have HBW := Box.mk hbw
      clear hbw qb r0 r1 r2 r3 r4 f0 f1 f2 f3 f4
      refine bodyPost_ret (v := .tuple #[.agg #[.int .i64 0, .slice none 0 0, .slice none 0 0, .slice none 0 0, .slice none 0 0], .int .i64 9]) (by simp [results, Tryd.results12, go_sem, q0, q1, q2, q3, q4]) rfl ⟨HBW.out, .inr ⟨HNO.out, rfl⟩⟩
    · have hbb : (bs == []) = false := by cases bs with | nil => exact absurd rfl hbs | cons _ _ => rfl
      by_cases hte : textT t = bs
      · have hq : (textT t != bs) = false := by simp [hte]
        have hq2 : (textT t == bs) = true := by simp [hte]
        have hmay : mayT t = true := by
          cases hm : mayT t with
          | true => rfl
          | false => unfold textT at hte; rw [hm] at hte; exact absurd hte.symm hbs
        have HMT : Box (mayT t = true ∧ textU t = bs) := ⟨hmay, by unfold textT at hte; rw [if_pos hmay] at hte; exact hte⟩
        clear hte hmay HLAW
        go_upto_region 8 with (go_at_call 8; (with_reducible refine HTX.out.mono ?_); rintro e w10 ⟨rfl, hb⟩; have HB10 := Box.mk hb; clear hb)
        have HT10 := Box.mk ((HB10.out.block TB hT9).trans HT9.out)
        have HX10 := Box.mk ((HB10.out.block R0 (by omega)).trans HX9.out)
        have HBe : Box (Below R0 w w10) := ⟨HBd.out.trans (HB10.out.mono (by omega))⟩
        have HF10 : Box (Fr (fun k => k = R0) w8 w10) := ⟨Fr.of_below (HB9.out.trans (HB10.out.mono HB9.out.size))⟩
        have t0 : World.cell? w10 ⟨TB, 0, none⟩ = some (.int .i64 who) := (cell_blk HT10.out 0).trans rfl
        have t1 : World.cell? w10 ⟨TB, 1, none⟩ = some (.slice b1 n1 c1) := (cell_blk HT10.out 1).trans rfl
        have t2 : World.cell? w10 ⟨TB, 2, none⟩ = some (.slice b2 n2 c2) := (cell_blk HT10.out 2).trans rfl
        have t3 : World.cell? w10 ⟨TB, 3, none⟩ = some (.slice b3 n3 c3) := (cell_blk HT10.out 3).trans rfl
        have t4 : World.cell? w10 ⟨TB, 4, none⟩ = some (.slice b4 n4 c4) := (cell_blk HT10.out 4).trans rfl
        have r0 : World.cell? w10 ⟨R0, 0, none⟩ = some (.int .i64 0) := (cell_blk HX10.out 0).trans rfl
        have r1 : World.cell? w10 ⟨R0, 1, none⟩ = some (.slice none 0 0) := (cell_blk HX10.out 1).trans rfl
        have r2 : World.cell? w10 ⟨R0, 2, none⟩ = some (.slice none 0 0) := (cell_blk HX10.out 2).trans rfl
        have r3 : World.cell? w10 ⟨R0, 3, none⟩ = some (.slice none 0 0) := (cell_blk HX10.out 3).trans rfl
        have r4 : World.cell? w10 ⟨R0, 4, none⟩ = some (.slice none 0 0) := (cell_blk HX10.out 4).trans rfl
        have f0 := free_blk HX10.out 0
        have f1 := free_blk HX10.out 1
        have f2 := free_blk HX10.out 2
        have f3 := free_blk HX10.out 3
        have f4 := free_blk HX10.out 4
        go_wp2
        obtain ⟨qb, hfin, hbw⟩ := res5 HX10.out HBe.out (a := .int .i64 who) (b := .slice b1 n1 c1) (c := .slice b2 n2 c2) (d := .slice b3 n3 c3) (e := .slice b4 n4 c4)
        have q0 := cell_blk qb 0
        have q1 := cell_blk qb 1
        have q2 := cell_blk qb 2
        have q3 := cell_blk qb 3
        have q4 := cell_blk qb 4
        simp only [List.getElem?_toArray, List.getElem?_cons_zero, List.getElem?_cons_succ] at q0 q1 q2 q3 q4
        have HBW := Box.mk hbw
        have HTF := Box.mk (HTA.out _ (HF10.out.trans hfin))
        clear hbw qb hfin r0 r1 r2 r3 r4 f0 f1 f2 f3 f4 t0 t1 t2 t3 t4
        refine bodyPost_ret (v := .tuple #[.agg #[.int .i64 who, .slice b1 n1 c1, .slice b2 n2 c2, .slice b3 n3 c3, .slice b4 n4 c4], .int .i64 0]) (by simp [results, Tryd.results12, go_sem, q0, q1, q2, q3, q4]) rfl ⟨HBW.out, .inl ⟨t, b1, n1, c1, b2, n2, c2, b3, n3, c3, b4, n4, c4, HMT.out.1, HMT.out.2, by rw [← HWHO.out], HTF.out⟩⟩
      · have hq : (textT t != bs) = true := by simp [hte]
        have hq2 : (textT t == bs) = false := by simp [hte]
        have HNO : Box (∀ t, mayT t = true → textU t ≠ bs) := ⟨fun t' h1 h2 => by
          have := HLAW.out t' h1 h2
          subst this
          exact hte (by unfold textT; rw [if_pos h1]; exact h2)⟩
        clear hte HLAW
        go_upto_region 7 with (go_at_call 8; (with_reducible refine HTX.out.mono ?_); rintro e w10 ⟨rfl, hb⟩; have HB10 := Box.mk hb; clear hb)
        have HX10 := Box.mk ((HB10.out.block R0 (by omega)).trans HX9.out)
        have HBe : Box (Below R0 w w10) := ⟨HBd.out.trans (HB10.out.mono (by omega))⟩
        have r0 : World.cell? w10 ⟨R0, 0, none⟩ = some (.int .i64 0) := (cell_blk HX10.out 0).trans rfl
        have r1 : World.cell? w10 ⟨R0, 1, none⟩ = some (.slice none 0 0) := (cell_blk HX10.out 1).trans rfl
        have r2 : World.cell? w10 ⟨R0, 2, none⟩ = some (.slice none 0 0) := (cell_blk HX10.out 2).trans rfl
        have r3 : World.cell? w10 ⟨R0, 3, none⟩ = some (.slice none 0 0) := (cell_blk HX10.out 3).trans rfl
        have r4 : World.cell? w10 ⟨R0, 4, none⟩ = some (.slice none 0 0) := (cell_blk HX10.out 4).trans rfl
        have f0 := free_blk HX10.out 0
        have f1 := free_blk HX10.out 1
        have f2 := free_blk HX10.out 2
        have f3 := free_blk HX10.out 3
        have f4 := free_blk HX10.out 4
        go_wp2
        obtain ⟨qb, _, hbw⟩ := res5 HX10.out HBe.out (a := .int .i64 0) (b := .slice none 0 0) (c := .slice none 0 0) (d := .slice none 0 0) (e := .slice none 0 0)
        have q0 := cell_blk qb 0
        have q1 := cell_blk qb 1
        have q2 := cell_blk qb 2
        have q3 := cell_blk qb 3
        have q4 := cell_blk qb 4
        simp only [List.getElem?_toArray, List.getElem?_cons_zero, List.getElem?_cons_succ] at q0 q1 q2 q3 q4
        have HBW := Box.mk hbw
        clear hbw qb r0 r1 r2 r3 r4 f0 f1 f2 f3 f4
        refine bodyPost_ret (v := .tuple #[.agg #[.int .i64 0, .slice none 0 0, .slice none 0 0, .slice none 0 0, .slice none 0 0], .int .i64 9]) (by simp [results, Tryd.results12, go_sem, q0, q1, q2, q3, q4]) rfl ⟨HBW.out, .inr ⟨HNO.out, rfl⟩⟩

end Go.Proofs.YtimeodjfihpgeaaDoor
