/-
  LifeAdmits: a request is let in just if its abort time is later than now: by one tick it is, and is aborted in the next one. No condition but the statement's.
-/
import Derived.Test.YtbodnmcaipakcaaLiM
import Derived.Test.YtbodnmcaipakcaaArgsS
import Derived.Test.YtbodnmcaipakcaaRows
namespace Go.Proofs.Ytbodnmcaipakcaa.lifeAdmits
open Go.ChangeShapes Go.WideShapes Go.ChangeAt Go.RowKit Go.Proofs.Ytbodnmcaipakcaa

theorem late_none {d : Int → Option Nat} {lim : Nat} {l : List Int} (h : LateL d lim l) (hd : ∀ x a, d x = some a → lim < a) : l = [] := late_eq h ⟨List.Pairwise.nil, fun x => ⟨fun h => (by cases h), fun ⟨a, h1, h2⟩ => by have := hd x a h1; omega⟩⟩
theorem lateD_same {d : Int → Option Nat} {lim : Nat} (hd : ∀ x a, d x = some a → lim < a) : lateD d lim = d := by
  funext x
  refine Option.ext fun a => ?_
  rw [lateD_some]
  exact ⟨fun h => h.1, fun h => ⟨h, hd x a h⟩⟩
def d7 (a : Nat) : Int → Option Nat := at1 dA0 7 (some a)
theorem d7_some (a : Nat) (x : Int) (b : Nat) : d7 a x = some b ↔ x = 7 ∧ b = a := by
  unfold d7 dA0 at1
  by_cases h : x = 7
  · subst h; simp; omega
  · simp [h]
theorem late_7 {a lim : Nat} {l : List Int} (h : LateL (d7 a) lim l) (hl : a ≤ lim) : l = [7] := late_eq h ⟨List.pairwise_singleton _ _, fun x => by
  rw [List.mem_singleton]
  constructor
  · rintro rfl; exact ⟨a, (d7_some a 7 a).2 ⟨rfl, rfl⟩, hl⟩
  · rintro ⟨b, h1, _⟩; exact ((d7_some a x b).1 h1).1⟩

set_option maxHeartbeats 16000000 in
set_option maxRecDepth 100000 in
theorem walkN (a n m : Nat) (w : World) (_ha : a ≤ 65535) (hn : n ≤ 4294967295) (_hm : m ≤ 255) :
    Calls Try.prog 7 #[.int .u16 a, .int .u32 n, .int .u8 m] w fun e w' => e = .returned (.bool true) ∧ Below w.heap.size w w' := by
  obtain ⟨r, hr⟩ : ∃ r : Nat, (a : Int) % 1000 = r := ⟨a % 1000, by omega⟩
  obtain ⟨k, hk⟩ : ∃ k : Nat, (m : Int) % 3 = k := ⟨m % 3, by omega⟩
  have hr1 : r < 1000 := by omega
  have hk1 : k < 3 := by omega
  have HNW := Box.mk (fun w1 (hb : Below w.heap.size w w1) => ls_new (1 + r) w1 (by omega) w hb [] (fun q hq => by cases hq))
  rw [show ((1 + r : Nat) : Int) = 1 + (r : Int) from by omega] at HNW
  go_enter Try.func7, Try.ntmps7
  go_upto_region 4 with (go_at_call 9; refine (awake19_any _).mono ?_; rintro e w1 ⟨rfl, hb1⟩; have HB1 := Box.mk hb1; clear hb1)
  go_upto_region 7 with (go_at_call 10; (with_reducible refine (HNW.out _ HB1.out).mono ?_); rintro e w2 ⟨p, rfl, hs⟩; have HS : Box (LS w w2 p (1 + r) 0 dA0 [] []) := Box.mk hs; clear hs)
  clear HNW
  have HR := Box.mk (ls_go w _ p (1 + r) 0 dA0 [] [] HS.out n (by omega) (by omega) (by simp))
  go_upto_region 8 with (go_at_call 13; (with_reducible refine HR.out.mono ?_); rintro e w3 ⟨fo, nn, c, l, Y, rfl, hl, hn2, hs, -, -, -⟩; rw [lateD_same (fun x a h => by cases h)] at hs; have HS := Box.mk (hs.sub (Y := []) (fun q hq => by cases hq)); clear hs hl hn2)
  clear HR
  obtain ⟨dd, hdd⟩ : ∃ dd : Nat, n + (1 + r) + k = dd := ⟨_, rfl⟩
  have hddi : ((dd : Nat) : Int) = (n : Int) + (1 + (r : Int)) + (k : Int) := by omega
  have HDD := Box.mk (And.intro hdd hddi)
  clear hdd hddi
  by_cases hk0 : k = 0
  · have hz : ((k : Int) == 0) = true := by simp [hk0]
    have HR := ls_open w _ p (1 + r) n dA0 [] [] HS.out 7 dd (kwf_of (by omega) (by omega)) (by have := HDD.out; omega) 11 (openD_den (by omega) (by omega) (by have := HDD.out; omega) rfl cA0 (by have := HDD.out; omega))
    rw [HDD.out.2] at HR
    have HR := Box.mk HR
    have HC := Box.mk (fun w' hs => ls_count w w' p (1 + r) n dA0 [] [] hs)
    rw [cntA0] at HC
    clear hk0
    go_wp2_with (first
      | (go_at_call 11; (with_reducible refine HR.out.mono ?_); rintro e w4 ⟨rfl, hs⟩; have HS : Box (LS w w4 p (1 + r) n dA0 [] []) := Box.mk hs; clear hs)
      | (go_at_call 15; (with_reducible refine (HC.out _ HS.out).mono ?_); rintro e w5 ⟨rfl, rfl⟩))
    go_ret
    exact ⟨rfl, HS.out.below⟩
  · have hz : ((k : Int) == 0) = false := beq_eq_false_iff_ne.2 (by omega)
    have HR := ls_open w _ p (1 + r) n dA0 [] [] HS.out 7 dd (kwf_of (by omega) (by omega)) (by have := HDD.out; omega) 0 (openD_ok (by omega) (by omega) (by have := HDD.out; omega) rfl cA0 (by have := HDD.out; omega))
    rw [HDD.out.2] at HR
    have HR := Box.mk HR
    go_upto_region 12 with (go_at_call 11; (with_reducible refine HR.out.mono ?_); rintro e w4 ⟨rfl, hs⟩; have HS : Box (LS w w4 p (1 + r) n (d7 dd) [] []) := Box.mk hs; clear hs)
    clear HR
    have e7 : hasV (d7 dd) 7 = .tuple #[.int .u64 dd, .bool true] := by
      unfold hasV
      rw [(d7_some dd 7 dd).2 ⟨rfl, rfl⟩]
    have HR := ls_has w _ p (1 + r) n (d7 dd) [] [] HS.out 7 (kwf_of (by omega) (by omega))
    rw [e7, HDD.out.2] at HR
    have HR := Box.mk HR
    clear e7
    go_upto_region 13 with (go_at_call 16; (with_reducible refine HR.out.mono ?_); rintro e w5 ⟨rfl, hs⟩; have HS := Box.mk hs; clear hs)
    clear HR
    have HR := ls_go w _ p (1 + r) n (d7 dd) [] [] HS.out (n + k - 1) (by omega) (by omega) (by simp)
    have hfar : ∀ x a, d7 dd x = some a → n + k - 1 + (1 + r) < a := fun x a h => by have := (d7_some dd x a).1 h; have := HDD.out; omega
    have HFAR := Box.mk hfar
    rw [show ((n + k - 1 : Nat) : Int) = (n : Int) + (1 + (r : Int)) + (k : Int) - (1 + (r : Int)) - 1 from by omega] at HR
    have HR := Box.mk HR
    clear hfar
    go_upto_region 14 with (go_at_call 13; (with_reducible refine HR.out.mono ?_); rintro e w6 ⟨fo, nn, c, l, Y, rfl, hl, hn2, hs, -, -, -⟩; rw [lateD_same HFAR.out] at hs; obtain rfl := late_none hl HFAR.out; obtain rfl : nn = 0 := hn2; have HS := Box.mk (hs.sub (Y := []) (fun q hq => by cases hq)); clear hs hl)
    clear HR HFAR
    have HR := ls_go w _ p (1 + r) (n + k - 1) (d7 dd) [] [] HS.out (n + k) (by omega) (by omega) (by simp)
    rw [show ((n + k : Nat) : Int) = (n : Int) + (1 + (r : Int)) + (k : Int) - (1 + (r : Int)) from by omega] at HR
    have HR := Box.mk HR
    go_upto_region 15 with (go_at_call 13; (with_reducible refine HR.out.mono ?_); rintro e w7 ⟨fo2, nn2, c2, l, Y, rfl, hl, hn2, hs, -, -, hrow⟩; obtain rfl := late_7 hl (by have := HDD.out; omega); obtain rfl : nn2 = 1 := hn2; have HS := Box.mk hs; have HROW := Box.mk hrow; clear hs hl hrow)
    clear HR
    obtain ⟨b, cur, rfl, hY, a0, a1, a2⟩ := HROW.out 0 (by simp [timeF])
    have q1 := HS.out.blk (q := (b, Obj.cells cur 35 (0, 0))) (by simpa using hY)
    have x0 : w7.cell? ⟨b, 0, none⟩ = some (.int .i64 7) := (cell_blk q1 0).trans a0
    have x1 : w7.cell? ⟨b, 1, none⟩ = some (.int .i64 2) := (cell_blk q1 1).trans a1
    have x2 : w7.cell? ⟨b, 2, none⟩ = some (.int .i64 1) := (cell_blk q1 2).trans a2
    clear q1 a0 a1 a2 hY HROW
    go_wp2
    go_ret
    exact ⟨rfl, HS.out.below⟩

theorem walk (x0 x1 x2 : Int) (w : World) (g0 : (Lit.int .u16 x0).wf = true) (g1 : (Lit.int .u32 x1).wf = true) (g2 : (Lit.int .u8 x2).wf = true) :
    Calls Try.prog 7 #[.int .u16 x0, .int .u32 x1, .int .u8 x2] w fun e w' => e = .returned (.bool true) ∧ Below w.heap.size w w' := by
  simp [Lit.wf, IntKind.min, IntKind.max, IntKind.signed, IntKind.bits] at g0 g1 g2
  obtain ⟨a, rfl⟩ : ∃ a : Nat, x0 = a := ⟨x0.toNat, by omega⟩
  obtain ⟨n, rfl⟩ : ∃ n : Nat, x1 = n := ⟨x1.toNat, by omega⟩
  obtain ⟨m, rfl⟩ : ∃ m : Nat, x2 = m := ⟨x2.toNat, by omega⟩
  exact walkN a n m w (by omega) (by omega) (by omega)

/-! The row's step. -/
theorem own : ownKnob Try.prog.godebug = none := by kernel_rfl
theorem laidOut : laidOutB Try.prog = true := by kernel_rfl

set_option maxRecDepth 100000 in
theorem lifted (os : Os) (started : os.Started) (H : Type) (enc : TypeId × Value → H) :
    ReturnsInHanded {} Try.checked os 7 .any (Rows.lifeAdmitsSpec.pre6 enc Try.prog Try.f7 Rows.lifeAdmitsRow.domain false) (Rows.lifeAdmitsSpec.post enc Try.prog Try.f7 false true false false) := by
  refine returnsInHanded_of_change (C := Try.checked) own started (by kernel_rfl) Try.func7
    (ChangeSpec.witness6 (enc := enc) (C := Try.checked) false ⟨#[], #[.int .u16 0, .int .u32 0, .int .u8 0], []⟩ 8 (by kernel_rfl) (by kernel_rfl) (by kernel_rfl) (by kernel_rfl)) ?_
  intro W base args ds gs before hval0 hW hcnd _
  have hval : ∀ (j : Nat) t v, Try.f7.params[j]? = some t → args[j]? = some v → Value.okWide Try.prog W .any base t v := hval0
  have hW' := hW
  obtain ⟨p, q, hA0, hV, rfl, hfz, hnd⟩ := hW
  have hA : DataW.TrodAll enc Try.prog W 0 (fun _ => true) true Try.f7.params.toList args.toList ds p := hA0
  rw [Try.params7] at hA hval
  obtain ⟨v0, vs0, d0, ds0, p0, q0, hargs, rfl, rfl, h0, r0⟩ := trodAll_cons hA
  obtain ⟨v1, vs1, d1, ds1, p1, q1, rfl, rfl, rfl, h1, r1⟩ := trodAll_cons r0
  obtain ⟨v2, vs2, d2, ds2, p2, q2, rfl, rfl, rfl, h2, r2⟩ := trodAll_cons r1
  obtain ⟨rfl, rfl, rfl⟩ := trodAll_nil r2
  obtain rfl : args = #[v0, v1, v2] := by cases args; simp_all
  obtain ⟨rfl, rfl⟩ := trodVars_none hV
  obtain ⟨x0, rfl, rfl, rfl, w0⟩ := open_int Try.underlying38 (hval 0 38 v0 rfl rfl) h0
  obtain ⟨x1, rfl, rfl, rfl, w1⟩ := open_int Try.underlying50 (hval 1 50 v1 rfl rfl) h1
  obtain ⟨x2, rfl, rfl, rfl, w2⟩ := open_int Try.underlying5 (hval 2 5 v2 rfl rfl) h2
  clear hA0 hval0
  refine (walk x0 x1 x2 W w0 w1 w2).mono fun e W' ⟨he, bel⟩ => ?_
  subst he
  exact ⟨_, rfl, _, _, _, [], _, [], hW', trodAll_mk1 (shut_bool Try.underlying4 _), (trodAll_cons_mk (shut_int Try.underlying38 w0) (trodAll_cons_mk (shut_int Try.underlying50 w1) (trodAll_cons_mk (shut_int Try.underlying5 w2) trodAll_mk0))), rfl, bel.frame _, fun h => by cases h⟩

theorem over : Rows.lifeAdmitsRow.holds Try.pinned (OpenSpec.ofChange Rows.lifeAdmitsSpec) :=
  OpenClaim.holds_of_wide 7 Try.f7 rfl rfl rfl rfl rfl rfl rfl ⟨rfl, rfl, rfl, rfl, rfl⟩ rfl rfl rfl rfl rfl (by kernel_rfl) Try.func7 (by kernel_rfl)
    (of_decide_eq_true (by kernel_rfl)) (by unfold Func.isWrapper; first | (rw [if_pos (by decide +kernel)]; kernel_rfl) | (rw [if_neg (by decide +kernel)]; exact ⟨rfl, rfl⟩))
    (fun os started H enc _ => lifted os started H enc)

/-- The statement. -/
theorem proved : Rows.LifeAdmitsSaid := over
#print axioms proved

end Go.Proofs.Ytbodnmcaipakcaa.lifeAdmits
