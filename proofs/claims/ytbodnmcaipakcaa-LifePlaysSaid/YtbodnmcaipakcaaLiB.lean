/-
  A book in memory; what each small step does to it.
-/
import Derived.Test.YtbodnmcaipakcaaLiA
import Derived.Deep.QuietTactic
import Derived.BigQuiet
namespace Go.Proofs.Ytbodnmcaipakcaa
open Go.RowKit Go.ChangeMaps Go.MapKept

/-- A book at p: its block, its wheel, its map, its outcomes' row. -/
structure BRep (w : World) (p cost now : Nat) (g : Nat → Option Nat) (op : Int → Option Ent) (ids : Nat → Int) (us : Nat → Bool) (fs : List FateM) (n pw ab : Nat) (Fw : Nat → Prop) (fv : Value) : Prop where
  blk : w.heap[p]? = some (.cells (bcells cost pw ab ids us fv) 66 (0, 0))
  wh : WT w pw now g Fw
  map : MapAt Try.prog 3 entE w ab n op
  row : w.ownsRow 0 35 3 fv fs.length (fcells fs)
  s1 : ab ≠ p
  s2 : ¬ Fw p
  s3 : ¬ Fw ab
  s4 : ∀ k, fv.ownBlock = some k → k ≠ p ∧ k ≠ ab ∧ ¬ Fw k
/-- A book's blocks. -/
def BF (p ab : Nat) (Fw : Nat → Prop) (fv : Value) : Nat → Prop := fun k => k = p ∨ k = ab ∨ Fw k ∨ fv.ownBlock = some k
section
variable {w : World} {p cost now : Nat} {g : Nat → Option Nat} {op : Int → Option Ent} {ids : Nat → Int} {us : Nat → Bool} {fs : List FateM} {n pw ab : Nat} {Fw : Nat → Prop} {fv : Value}
theorem BRep.lt (h : BRep w p cost now g op ids us fs n pw ab Fw fv) {k : Nat} (hk : BF p ab Fw fv k) : k < w.heap.size := by
  rcases hk with rfl | rfl | hk | hk
  · exact lt_blk h.blk
  · exact h.map.lt
  · exact h.wh.lt hk
  · exact (ownsRow_lt h.row hk).2
theorem BRep.fr {w' : World} {G : Nat → Prop} (h : BRep w p cost now g op ids us fs n pw ab Fw fv) (hf : Fr G w w') (hG : ∀ k, BF p ab Fw fv k → ¬ G k) : BRep w' p cost now g op ids us fs n pw ab Fw fv :=
  ⟨hf.blk h.blk (hG _ (.inl rfl)), h.wh.fr hf (fun k hk => hG k (.inr (.inr (.inl hk)))), h.map.fr hf (hG _ (.inr (.inl rfl))), ownsRow_fr h.row (fun k hk => hf.block k (ownsRow_lt h.row hk).2 (hG k (.inr (.inr (.inr hk))))), h.s1, h.s2, h.s3, h.s4⟩
theorem BRep.later {w' : World} (h : BRep w p cost now g op ids us fs n pw ab Fw fv) (hb : Below w.heap.size w w') : BRep w' p cost now g op ids us fs n pw ab Fw fv := h.fr (Fr.of_below (F := fun _ => False) hb) (fun _ _ h => h)
/-- The wheel has done something. -/
theorem BRep.wheel {w' : World} {now' : Nat} {g' : Nat → Option Nat} {Fw' : Nat → Prop} (h : BRep w p cost now g op ids us fs n pw ab Fw fv) (hw : WT w' pw now' g' Fw') (hf : Fr Fw w w') (hg : Gro Fw Fw' w) :
    BRep w' p cost now' g' op ids us fs n pw ab Fw' fv ∧ Gro (BF p ab Fw fv) (BF p ab Fw' fv) w := by
  have hn : ∀ k, k < w.heap.size → ¬ Fw k → ¬ Fw' k := fun k hk hn hF => by
    rcases hg k hF with e | e
    · exact hn e
    · omega
  refine ⟨⟨hf.blk h.blk h.s2, hw, h.map.fr hf h.s3, ownsRow_fr h.row (fun k hk => hf.block k (ownsRow_lt h.row hk).2 (h.s4 k hk).2.2), h.s1, hn _ (lt_blk h.blk) h.s2, hn _ h.map.lt h.s3, fun k hk => ⟨(h.s4 k hk).1, (h.s4 k hk).2.1, hn k (ownsRow_lt h.row hk).2 (h.s4 k hk).2.2⟩⟩, fun k hk => ?_⟩
  rcases hk with e | e | e | e
  · exact .inl (.inl e)
  · exact .inl (.inr (.inl e))
  · rcases hg k e with e | e
    · exact .inl (.inr (.inr (.inl e)))
    · exact .inr e
  · exact .inl (.inr (.inr (.inr e)))
theorem BRep.own {w' : World} {ids' : Nat → Int} {us' : Nat → Bool} (h : BRep w p cost now g op ids us fs n pw ab Fw fv) (hf : Fr (fun k => k = p) w w') (hb : w'.heap[p]? = some (.cells (bcells cost pw ab ids' us' fv) 66 (0, 0))) : BRep w' p cost now g op ids' us' fs n pw ab Fw fv :=
  ⟨hb, h.wh.fr hf (fun k hk e => h.s2 (e ▸ hk)), h.map.fr hf h.s1, ownsRow_fr h.row (fun k hk => hf.block k (ownsRow_lt h.row hk).2 (h.s4 k hk).1), h.s1, h.s2, h.s3, h.s4⟩
theorem fr_cell (w : World) (p i : Nat) (v : Value) : Fr (fun k => k = p) w (w.setCell ⟨p, i, none⟩ v) := Fr.setCell (F := fun k => k = p) (Fr.refl _ w) (p := ⟨p, i, none⟩) (.inl rfl) v
theorem BRep.setIds (h : BRep w p cost now g op ids us fs n pw ab Fw fv) {t : Nat} (ht : t < 64) (x : Int) : BRep (w.setCell ⟨p, 3 + t, none⟩ (.int .i64 x)) p cost now g op (fun i => if i = t then x else ids i) us fs n pw ab Fw fv :=
  h.own (fr_cell _ _ _ _) (by rw [blk_set h.blk, bcells_set_ids ht])
theorem BRep.setUsed (h : BRep w p cost now g op ids us fs n pw ab Fw fv) {t : Nat} (ht : t < 64) (x : Bool) : BRep (w.setCell ⟨p, 67 + t, none⟩ (.bool x)) p cost now g op ids (fun i => if i = t then x else us i) fs n pw ab Fw fv :=
  h.own (fr_cell _ _ _ _) (by rw [blk_set h.blk, bcells_set_used ht])
theorem BRep.setMap {w' : World} {op' : Int → Option Ent} {n' : Nat} (h : BRep w p cost now g op ids us fs n pw ab Fw fv) (hm : MapAt Try.prog 3 entE w' ab n' op') (hf : Fr (fun k => k = ab) w w') : BRep w' p cost now g op' ids us fs n' pw ab Fw fv :=
  ⟨hf.blk h.blk (fun e => h.s1 e.symm), h.wh.fr hf (fun k hk e => h.s3 (e ▸ hk)), hm, ownsRow_fr h.row (fun k hk => hf.block k (ownsRow_lt h.row hk).2 (h.s4 k hk).2.1), h.s1, h.s2, h.s3, h.s4⟩
/-- The outcomes' row is another one. -/
theorem BRep.setFs {w' : World} {fs' : List FateM} {fv' : Value} (h : BRep w p cost now g op ids us fs n pw ab Fw fv) (hf : Fr (fun k => fv.ownBlock = some k) w w') (hr : w'.ownsRow 0 35 3 fv' fs'.length (fcells fs')) (hat : ∀ k, fv'.ownBlock = some k → fv.ownBlock = some k ∨ w.heap.size ≤ k) :
    BRep (w'.setCell ⟨p, 131, none⟩ fv') p cost now g op ids us fs' n pw ab Fw fv' ∧ Fr (BF p ab Fw fv) w (w'.setCell ⟨p, 131, none⟩ fv') ∧ Gro (BF p ab Fw fv) (BF p ab Fw fv') w := by
  have hpn : ¬ fv.ownBlock = some p := fun e => (h.s4 p e).1 rfl
  have han : ¬ fv.ownBlock = some ab := fun e => (h.s4 ab e).2.1 rfl
  have hb := hf.blk h.blk hpn
  have hf2 := fr_cell w' p 131 fv'
  have h4' : ∀ k, fv'.ownBlock = some k → k ≠ p ∧ k ≠ ab ∧ ¬ Fw k := fun k hk => by
    rcases hat k hk with e | e
    · exact h.s4 k e
    · have h1 := lt_blk h.blk
      have h2 := h.map.lt
      exact ⟨by omega, by omega, fun hF => by have := h.wh.lt hF; omega⟩
  have hw1 := h.wh.fr hf (fun k hk e => (h.s4 k e).2.2 hk)
  refine ⟨⟨by rw [blk_set hb, bcells_set_fs], hw1.fr hf2 (fun k hk e => h.s2 (e ▸ hk)), (h.map.fr hf han).fr hf2 h.s1, ownsRow_fr hr (fun k hk => hf2.block k (ownsRow_lt hr hk).2 (h4' k hk).1), h.s1, h.s2, h.s3, h4'⟩, ?_, fun k hk => ?_⟩
  · exact (hf.mono (fun k _ e => .inr (.inr (.inr e)))).trans (hf2.mono (fun k _ e => .inl e))
  · rcases hk with e | e | e | e
    · exact .inl (.inl e)
    · exact .inl (.inr (.inl e))
    · exact .inl (.inr (.inr (.inl e)))
    · rcases hat k e with e | e
      · exact .inl (.inr (.inr (.inr e)))
      · exact .inr e
end
/-- A book: all that holds of it. -/
def BAt (w : World) (p : Nat) (M : BM) (F : Nat → Prop) : Prop := ∃ pw ab Fw fv, BRep w p M.cost M.now M.g M.op M.ids M.us M.fs 64 pw ab Fw fv ∧ BInv M ∧ F = BF p ab Fw fv
def BPost (w : World) (p : Nat) (M' : BM) (F : Nat → Prop) (w' : World) : Prop := ∃ F', BAt w' p M' F' ∧ Fr F w w' ∧ Gro F F' w
theorem BAt.fr {w w' : World} {p : Nat} {M : BM} {F G : Nat → Prop} (h : BAt w p M F) (hf : Fr G w w') (hG : ∀ k, F k → ¬ G k) : BAt w' p M F := by
  obtain ⟨pw, ab, Fw, fv, h1, h2, rfl⟩ := h
  exact ⟨pw, ab, Fw, fv, h1.fr hf hG, h2, rfl⟩
theorem BAt.lt {w : World} {p : Nat} {M : BM} {F : Nat → Prop} (h : BAt w p M F) {k : Nat} (hk : F k) : k < w.heap.size := by
  obtain ⟨pw, ab, Fw, fv, h1, h2, rfl⟩ := h
  exact h1.lt hk

theorem Try.zeroEnt (w : World) : (zeroValue 68).run Try.prog w = .ok (entE.val ⟨0, 0⟩) w := by kernel_rfl
theorem Try.infoFate : (Try.prog.info? 35).map (fun i => (i.zero, i.size, i.bytes)) = some (some (.agg #[.int .i64 0, .int .i64 0, .int .i64 0]), 3, 24) := by kernel_rfl

theorem bcount_any (p : Nat) (M : BM) (F : Nat → Prop) (w : World) (h : BAt w p M F) :
    Calls Try.prog 15 #[.pointer (some ⟨p, 0, none⟩)] w fun e w' => e = .returned (.int .i64 M.keys.length) ∧ w = w' := by
  obtain ⟨pw, ab, Fw, fv, h, hi, -⟩ := h
  have c := (cell_blk h.blk 2).trans bcells_open
  have hl := h.map.len Try.underlying3 Try.underlying62 3 hi.keys_nodup hi.keys_mem
  generalize M.keys.length = C at hl
  clear h hi
  go_enter Try.func15, Try.ntmps15
  go_wp2
  go_ret
  exact ⟨rfl, rfl⟩
/-- By when a request must have come out. -/
def BM.hasV (M : BM) (id : Int) : Value := match M.op id with
  | some e => .tuple #[.int .u64 e.dead, .bool true]
  | none => .tuple #[.int .u64 0, .bool false]
set_option maxHeartbeats 1000000 in
theorem bhas_any (p : Nat) (M : BM) (F : Nat → Prop) (id : Int) (hk : kwf id) (w : World) (h : BAt w p M F) :
    Calls Try.prog 16 #[.pointer (some ⟨p, 0, none⟩), .int .i64 id] w fun e w' => e = .returned (M.hasV id) ∧ Below w.heap.size w w' := by
  obtain ⟨pw, ab, Fw, fv, h, hi, -⟩ := h
  have c := (cell_blk h.blk 2).trans bcells_open
  have hl := h.map.look_ok Try.underlying3 Try.underlying62 (Try.zeroEnt w) hk
  have HV : Box (M.hasV id = match M.op id with | some e => .tuple #[.int .u64 e.dead, .bool true] | none => .tuple #[.int .u64 0, .bool false]) := ⟨rfl⟩
  generalize M.op id = o at hl HV
  have hb := (Below.refl w.heap.size w)
  have HB := Box.mk (fun o => hb.alloc (Nat.le_refl _) o)
  clear h hi hb
  cases o with
  | none =>
    replace hl : (Instr.lookup 62 (.map (some ab)) (.int .i64 id) true).run Try.prog w = .ok (.tuple #[.agg #[.int .i64 0, .int .u64 0], .bool false]) w := hl
    go_enter Try.func16, Try.ntmps16
    go_wp2
    go_ret2
    exact ⟨by rw [HV.out]; rfl, HB.out _⟩
  | some e =>
    obtain ⟨et, ed⟩ := e
    replace hl : (Instr.lookup 62 (.map (some ab)) (.int .i64 id) true).run Try.prog w = .ok (.tuple #[.agg #[.int .i64 et, .int .u64 ed], .bool true]) w := hl
    go_enter Try.func16, Try.ntmps16
    go_wp2
    go_ret2
    exact ⟨by rw [HV.out]; rfl, HB.out _⟩
/-- The first timer that is free, from a number on. -/
def freeFrom (us : Nat → Bool) : Nat → Nat
  | 0 => 64
  | k + 1 => if us (63 - k) then freeFrom us k else 63 - k
def freeT (us : Nat → Bool) : Nat := freeFrom us 64
theorem freeFrom_spec (us : Nat → Bool) : ∀ k, k ≤ 64 → (freeFrom us k = 64 ∧ ∀ t, 64 - k ≤ t → t < 64 → us t = true) ∨ (freeFrom us k < 64 ∧ 64 - k ≤ freeFrom us k ∧ us (freeFrom us k) = false) := by
  intro k
  induction k with
  | zero => intro _; exact .inl ⟨rfl, fun t h1 h2 => by omega⟩
  | succ k ih =>
    intro hk
    unfold freeFrom
    by_cases hu : us (63 - k) = true
    · rw [if_pos hu]
      rcases ih (by omega) with ⟨h1, h2⟩ | ⟨h1, h2, h3⟩
      · refine .inl ⟨h1, fun t h3 h4 => ?_⟩
        by_cases e : t = 63 - k
        · rw [e]; exact hu
        · exact h2 t (by omega) h4
      · exact .inr ⟨h1, by omega, h3⟩
    · rw [if_neg hu]
      exact .inr ⟨by omega, by omega, by simpa using hu⟩
theorem freeT_spec (us : Nat → Bool) : (freeT us = 64 ∧ ∀ t, t < 64 → us t = true) ∨ (freeT us < 64 ∧ us (freeT us) = false) := by
  rcases freeFrom_spec us 64 (by omega) with ⟨h1, h2⟩ | ⟨h1, _, h3⟩
  · exact .inl ⟨h1, fun t h => h2 t (by omega) h⟩
  · exact .inr ⟨h1, h3⟩
theorem Try.sz64 : (Try.prog.info? 64).map (·.size) = some 64 := by kernel_rfl
theorem Try.szBool (w : World) : (sizeOf 4).run Try.prog w = .ok 1 w := by kernel_rfl
theorem Try.agBool (w : World) : (isAgg 4).run Try.prog w = .ok false w := by kernel_rfl
set_option maxHeartbeats 4000000 in
set_option maxRecDepth 100000 in
theorem btimer_any (w : World) (p cost now : Nat) (g : Nat → Option Nat) (op : Int → Option Ent) (ids : Nat → Int) (us : Nat → Bool) (fs : List FateM) (n pw ab : Nat) (Fw : Nat → Prop) (fv : Value) (h : BRep w p cost now g op ids us fs n pw ab Fw fv) :
    Calls Try.prog 25 #[.pointer (some ⟨p, 0, none⟩)] w fun e w' => e = .returned (.int .i64 (freeT us)) ∧ w = w' := by
  obtain ⟨cs, hcs⟩ : ∃ cs : Array Value, cs = ((List.range 64).map (fun i => Value.bool (us i))).toArray := ⟨_, rfl⟩
  have hsz : (Try.prog.info? 64).map (·.size) = some cs.size := by
    rw [hcs]
    have : ((List.range 64).map (fun i => Value.bool (us i))).toArray.size = 64 := by simp
    rw [this]; exact Try.sz64
  have hget : ∀ i, i < 64 → cs[i]? = some (.bool (us i)) := fun i hi => by rw [hcs]; simp [hi]
  have hcl : ∀ j u, cs[j]? = some u → w.cell? ⟨p, 67 + j, none⟩ = some u := fun j u hu => by
    have hj : j < 64 := by
      have := (Array.getElem?_eq_some_iff.1 hu).1
      rw [hcs] at this
      simpa using this
    rw [hget j hj] at hu
    exact ((cell_blk h.blk _).trans (bcells_used hj)).trans hu
  have HSZ := Box.mk hsz
  have HCL := Box.mk hcl
  have HGET := Box.mk hget
  have HIX := Box.mk (fun i v (hi : i < 64) (hv : cs[i]? = some v) => fun w => run_index_in (P := Try.prog) w 64 4 64 cs i v Try.underlying64 Try.szBool Try.agBool hi hv)
  clear h hcs hsz hcl hget
  go_enter Try.func25, Try.ntmps25
  go_wp2_with (refine wpList_load_at rfl 64 (.tmp 7) rfl p 67 rfl cs _ HCL.out Try.underlying64 rfl HSZ.out ?_)
  go_loop [3, 4, 9] (fun _ _ s9 => ∃ k : Nat, k ≤ 64 ∧ s9 = .int .i64 k ∧ Box (freeT us = freeFrom us (64 - k))) (fun _ _ s9 => 64 - (intOf s9).toNat)
  case atStart => exact ⟨0, by omega, rfl, ⟨rfl⟩⟩
  case round =>
    obtain ⟨k, hk, rfl, HX⟩ := hrel
    by_cases hlt : k < 64
    · have hki : (k : Int) < 64 := by omega
      have hix := HIX.out k _ hlt (HGET.out k hlt)
      have HY : Box (freeT us = if us k then freeFrom us (64 - (k + 1)) else k) := ⟨by
        rw [HX.out, show 64 - k = (63 - k) + 1 from by omega]
        rw [freeFrom, show 63 - (63 - k) = k from by omega, show 64 - (k + 1) = 63 - k from by omega]⟩
      cases hu : us k with
      | true =>
        rw [hu] at hix HY
        have HZ : Box (freeT us = freeFrom us (64 - (k + 1))) := ⟨by rw [HY.out]; rfl⟩
        go_wp2
        go_round
        case rel => exact ⟨k + 1, by omega, by go_num, HZ⟩
        case measure => simp [intOf] <;> omega
      | false =>
        rw [hu] at hix HY
        have HZ : Box (freeT us = k) := ⟨by rw [HY.out]; rfl⟩
        go_wp2
        go_ret
        exact ⟨by rw [HZ.out]; rfl, rfl⟩
    · obtain rfl : k = 64 := by omega
      have HZ : Box (freeT us = 64) := ⟨HX.out⟩
      go_wp2
      go_ret
      exact ⟨by rw [HZ.out]; rfl, rfl⟩

end Go.Proofs.Ytbodnmcaipakcaa
