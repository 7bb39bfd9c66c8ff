/-
  Jobs (layer 10): bytes taken, by the program.
-/
import Derived.Test.YtbieiehfohldjaamJc
import Derived.Test.YtbieiehfohldjaamN01
namespace Go.Proofs.Ytbieiehfohldjaa
open Go
set_option linter.unusedVariables false
set_option linter.unusedSimpArgs false
set_option maxRecDepth 100000
set_option maxHeartbeats 8000000

noncomputable def inlJd : List IRow := [(29, Try.f29, 9, 4, 0), (35, Try.f35, 6, 3, 0), (48, Try.f48, 2, 2, 0), (52, Try.f52, 8, 4, 0), (30, Try.f30, 86, 7, 0)]
theorem inlJd_ok : IOk Try.prog (inlTab inlJd) := inl_ok (by
  unfold inlJd
  refine And.intro ⟨rfl, rfl, rfl, .inl rfl⟩ ?_
  refine And.intro ⟨rfl, rfl, rfl, .inl rfl⟩ ?_
  refine And.intro ⟨rfl, rfl, rfl, .inl rfl⟩ ?_
  refine And.intro ⟨rfl, rfl, rfl, .inl rfl⟩ ?_
  refine And.intro ⟨rfl, rfl, rfl, .inl rfl⟩ ?_
  exact trivial)
/-- the place of a block, and one behind all where there is none -/
def plc (pos d : Int) : Int := if (pos + d / 64) % 18446744073709551616 < pos then 18446744073709551615 else (pos + d / 64) % 18446744073709551616
theorem c_placeW (u : Unt) (j : Job) (d : Int) (hd : Side (0 ≤ d ∧ d ≤ 2 ^ 50)) : FnC Try.prog 31 [.ip (u.row ++ j.row), i64 d] [] (u64 (plc j.cmd.pos d)) [] := by
  have hd := hd.h
  have wd : IntKind.u64.wrap (IntKind.i64.wrap (d.tdiv 64)) = d / 64 := by
    rw [Int.tdiv_eq_ediv_of_nonneg hd.1, wrap64 (by omega) (by omega), wrapu64]
    omega
  obtain ⟨⟨⟨bs, ds⟩, pr, pt, la⟩, ca, atts, ls⟩ := u
  obtain ⟨⟨op, pos, n, pg, bits⟩, len, took, rest, b1, b2, b3⟩ := j
  show FnC Try.prog 31 [.ip [.sl 64 (bs.map Blk.row), .sl 65 (ds.map Dty.row), bV pr, bV pt, bV la, bV ca, .sl 3 (atts.map Sns.row), i64 ls.key, i64 ls.code, i64 ls.qual, i64 op, u64 pos, i64 n, i64 pg, i64 bits, i64 len, i64 took, bsV rest, i64 b1, i64 b2, i64 b3], i64 d] [] (u64 (plc pos d)) []
  refine fn_vcI (N := 25) (d := 5) tabOk mixed inlJa_ok 6 Try.func31 rfl rfl rfl ?_
  repeat'
    (conv => whnf
     first
      | (exact trivial)
      | (refine And.intro (by with_reducible rfl) ?_)
      | (refine And.intro (drawI (by kernel_rfl)) ?_)
      | (refine andI ?_ ?_)
      | (refine condT (by assumption) ?_)
      | (refine condF (by assumption) ?_)
      | (refine decT (by assumption) ?_)
      | (refine decF (by assumption) ?_)
      | (refine eqT (by assumption) ?_)
      | (refine eqF (by assumption) ?_)
      | (refine neT (by assumption) ?_)
      | (refine neF (by assumption) ?_)
      | (refine cEq (fun h => ?_) (fun h => ?_))
      | (refine cNe (fun h => ?_) (fun h => ?_))
      | (refine cNot (fun h => ?_) (fun h => ?_))
      | (refine cDec (fun h => ?_) (fun h => ?_))
      | (refine condN_split (fun h => ?_) (fun h => ?_))
      | (refine Or.inl (And.intro (by rfl : Nat.ble _ _ = true) ?_))
      | (refine Or.inl (And.intro Cl.lit ?_))
      | (refine Or.inr ?_)
      | (refine Exists.intro (1 : Nat) ?_)
      | (refine Exists.intro _ (And.intro rfl ?_))
      | (fail))
  all_goals try refine Side.mk ?_
  all_goals try dsimp only at *
  all_goals try refine eqI ?_
  all_goals first
    | decide
    | (rw [wd] at *
       refine congrArg (fun z => V.lit (Value.int .u64 z)) ?_
       unfold plc
       rw [wrapu64] at *
       first | (rw [if_pos (by assumption)]; done) | (rw [if_neg (by assumption)]; done) | (rw [if_pos (by assumption)]) | (rw [if_neg (by assumption)]))
theorem jbk0 {u : Unt} {c : Cmd} {bad : Sns} {p : Int} {x : Blk} (h : bad.good = false) : jBk u c bad p x = (u, bad) := by unfold jBk jBlk; rw [if_pos h]
theorem jbk1 {u : Unt} {c : Cmd} {bad : Sns} {p : Int} {x : Blk} (h : bad.good = true) (h2 : clsN c.op = 3) : jBk u c bad p x = (u, jBad u.slot p x) := by unfold jBk jBlk; rw [if_neg (by rw [h]; decide), if_pos h2]
theorem jbk2 {u : Unt} {c : Cmd} {bad : Sns} {p : Int} {x : Blk} (h : bad.good = true) (h2 : clsN c.op ≠ 3) {t : Bool} (ht : t = (decide (c.bits = 1) || !u.caching)) : jBk u c bad p x = (⟨(sPut u.slot p x t).1, u.caching, u.atts, u.last⟩, (sPut u.slot p x t).2) := by unfold jBk jBlk; rw [if_neg (by rw [h]; decide), if_neg h2, ht]
theorem bad1 {s : Slt} {p : Int} {x : Blk} (h : (sRead s p 1).2.good = false) : jBad s p x = (sRead s p 1).2 := by unfold jBad; rw [if_neg (by rw [h]; decide)]
theorem bad2 {s : Slt} {p : Int} {x : Blk} (h : (sRead s p 1).2.good = true) (h2 : (sRead s p 1).1 = x.bs) : jBad s p x = (sRead s p 1).2 := by unfold jBad; rw [if_pos h, if_pos h2, (good_iff _).1 h]
theorem bad3 {s : Slt} {p : Int} {x : Blk} (h : (sRead s p 1).2.good = true) (h2 : (sRead s p 1).1 ≠ x.bs) : jBad s p x = sDiff := by unfold jBad; rw [if_pos h, if_neg h2]
theorem c_take (u : Unt) (j : Job) (b : BS) (hb : Side (b.length ≤ 2 ^ 40)) (hp : Side (InU j.cmd.pos)) : FnC Try.prog 10 [u.v, j.v, bsV b] [] (.tup [(jTake u j b).1.v, (jTake u j b).2.v]) [] := by
  have hb := hb.h
  have hR := c_jRight j
  have t0 : jRight j = false → jTake u j b = (u, j) := fun h => by unfold jTake; rw [if_pos h]
  have t1 : jRight j = true → jSel j.cmd.op = true → jTake u j b = (u, ⟨j.cmd, j.len, jTook j b, jRest j b, j.bad⟩) := fun h h2 => by unfold jTake; rw [if_neg (by rw [h]; decide), if_pos h2]
  have t2 : jRight j = true → jSel j.cmd.op = false → jTake u j b = ((jSt u j.cmd j.bad (j.took / 64) (jRest j b) ((jRest j b).length / 64)).1, ⟨j.cmd, j.len, jTook j b, (jRest j b).drop (64 * ((jRest j b).length / 64)), (jSt u j.cmd j.bad (j.took / 64) (jRest j b) ((jRest j b).length / 64)).2⟩) := fun h h2 => by unfold jTake; rw [if_neg (by rw [h]; decide), if_neg (by rw [h2]; decide)]
  have rf := right_facts (j := j)
  generalize jTake u j b = res at *
  cases hr : jRight j
  · rw [hr] at hR
    rw [t0 hr]
    obtain ⟨⟨⟨bs, ds⟩, pr, pt, la⟩, ca, atts, ls⟩ := u
    obtain ⟨⟨op, pos, n, pg, bits⟩, len, took, rest, b1, b2, b3⟩ := j
    dsimp only [Unt.v, Slt.v, Med.v, Job.v, Cmd.v, Sns.v] at *
    refine fn_vcI (N := 91) (d := 7) tabOk mixed inlJd_ok 6 Try.func10 rfl rfl rfl ?_
    repeat'
      (conv => whnf
       first
        | (exact trivial)
        | (refine And.intro (by with_reducible rfl) ?_)
        | (refine And.intro (drawI (by kernel_rfl)) ?_)
        | (refine andI ?_ ?_)
        | (refine condT (by assumption) ?_)
        | (refine condF (by assumption) ?_)
        | (refine decT (by assumption) ?_)
        | (refine decF (by assumption) ?_)
        | (refine eqT (by assumption) ?_)
        | (refine eqF (by assumption) ?_)
        | (refine neT (by assumption) ?_)
        | (refine neF (by assumption) ?_)
        | (refine cEq (fun h => ?_) (fun h => ?_))
        | (refine cNe (fun h => ?_) (fun h => ?_))
        | (refine cNot (fun h => ?_) (fun h => ?_))
        | (refine cDec (fun h => ?_) (fun h => ?_))
        | (refine condN_split (fun h => ?_) (fun h => ?_))
        | (refine Exists.intro _ (And.intro (hR) ?_))
        | (refine Exists.intro _ (And.intro rfl ?_))
        | (refine Or.inl (And.intro (by rfl : Nat.ble _ _ = true) ?_))
        | (refine Or.inl (And.intro Cl.lit ?_))
        | (refine Or.inr ?_)
        | (refine Exists.intro (1 : Nat) ?_)
        | (refine Exists.intro _ (And.intro rfl ?_))
        | (fail))
    all_goals try refine Side.mk ?_
    all_goals try dsimp only
    all_goals try refine eqI ?_
    all_goals rfl
  rw [hr] at hR
  have t1 := t1 hr
  have t2 := t2 hr
  obtain ⟨r1, r2, r3, r4, r5, r6⟩ := rf hr
  clear t0 rf
  obtain ⟨rs, hrs⟩ : ∃ rs, rs = jRest j b := ⟨_, rfl⟩
  rw [← hrs] at t1 t2
  unfold jRest at hrs
  unfold jTook at t1 t2
  obtain ⟨⟨⟨bs, ds⟩, pr, pt, la⟩, ca, atts, ls⟩ := u
  obtain ⟨⟨op, pos, n, pg, bits⟩, len, took, rest, b1, b2, b3⟩ := j
  dsimp only [Unt.v, Slt.v, Med.v, Job.v, Cmd.v, Sns.v] at *
  have hJ : ∀ a c, Side (a ++ c = rs ∧ a.length ≤ 2 ^ 40 ∧ c.length ≤ 2 ^ 40) → FnC Try.prog 28 [.sl 1 [[bsV a], [bsV c]]] [] (bsV rs) [] := fun a c h => by
    rw [← h.h.1]
    have := c_concat (byteRows a) (byteRows c) ⟨by rw [len_b]; exact h.h.2.1⟩ ⟨by rw [len_b]; exact h.h.2.2⟩ ⟨by rw [rp_b]; trivial⟩ ⟨by rw [rp_b]; trivial⟩ ⟨by rw [or_b]; trivial⟩ ⟨by rw [or_b]; trivial⟩
    rw [app_b] at this
    exact this
  have hrl : rs.length ≤ 274877906944 := by rw [hrs, List.length_append, List.length_take]; omega
  have hn1 : ∀ z : Int, z = min (b.length : Int) (len - took) → rest ++ b.take z.toNat = rs := fun z h => by
    rw [hrs, h]
    rcases Int.le_total (b.length : Int) (len - took) with q | q
    · rw [Int.min_eq_left q, Int.toNat_natCast, List.take_of_length_le (Nat.le_refl _), List.take_of_length_le (by omega)]
    · rw [Int.min_eq_right q]
  have wt : IntKind.i64.wrap (len - took) = len - took := wrap64 (by omega) (by omega)
  refine fn_vcI (N := 91) (d := 7) tabOk mixed inlJd_ok 6 Try.func10 rfl rfl rfl ?_
  repeat'
    (conv => whnf
     first
      | (exact trivial)
      | (refine And.intro (by with_reducible rfl) ?_)
      | (refine And.intro (drawI (by kernel_rfl)) ?_)
      | (refine andI ?_ ?_)
      | (refine condT (by assumption) ?_)
      | (refine condF (by assumption) ?_)
      | (refine decT (by assumption) ?_)
      | (refine decF (by assumption) ?_)
      | (refine eqT (by assumption) ?_)
      | (refine eqF (by assumption) ?_)
      | (refine neT (by assumption) ?_)
      | (refine neF (by assumption) ?_)
      | (refine cEq (fun h => ?_) (fun h => ?_))
      | (refine cNe (fun h => ?_) (fun h => ?_))
      | (refine cNot (fun h => ?_) (fun h => ?_))
      | (refine cDec (fun h => ?_) (fun h => ?_))
      | (refine condN_split (fun h => ?_) (fun h => ?_))
      | (refine Exists.intro _ (And.intro (hR) ?_))
      | (refine Exists.intro _ (And.intro (fnC_args (hJ _ _ ?_) (by first | rfl | ((conv => lhs; simp only [rp_bls, or_bls, len_bls, snoc_bls, rp_nil, rp_app, rp_b, or_nil, or_app, or_b, len_b, take_b, drop_b, rep_b, app_b, List.length_append, List.length_take, List.length_drop, List.length_nil, List.drop_zero, List.take_length, List.nil_append, List.append_nil, Int.toNat_natCast, toNat_min, take_min, and_true, true_and, and_self]) <;> rfl) | ((conv => lhs; simp only [rp_bls, or_bls, len_bls, snoc_bls, rp_nil, rp_app, rp_b, or_nil, or_app, or_b, len_b, take_b, drop_b, rep_b, app_b, List.length_append, List.length_take, List.length_drop, List.length_nil, List.drop_zero, List.take_length, List.nil_append, List.append_nil, Int.toNat_natCast, toNat_min, take_min, and_true, true_and, and_self, sl1_nil]) <;> rfl))) ?_))
      | (refine Exists.intro _ (And.intro rfl ?_))
      | (refine Or.inl (And.intro (by rfl : Nat.ble _ _ = true) ?_))
      | (refine Or.inl (And.intro Cl.lit ?_))
      | (refine Or.inr ?_)
      | (refine Exists.intro (1 : Nat) ?_)
      | (refine Exists.intro _ (And.intro rfl ?_))
      | (fail))
  all_goals try refine Side.mk ?_
  all_goals try dsimp only
  all_goals try refine eqI ?_
  all_goals try simp only [wt, len_b, Int.toNat_natCast] at *
  all_goals first
    | omega
    | exact Nat.le_refl _
    | (refine rp_all ?_; rfl)
    | (refine ⟨hrs.symm, by omega, by rw [List.length_take]; omega⟩)
    | (rw [t1 (by unfold jSel; simp [*])]
       rw [wrap64 (by omega) (by omega)]
       first | done | rfl)
    | skip
  all_goals have t2 := t2 (by unfold jSel; simp [*])
  have r5 := r5 (by unfold jSel; simp [*])
  conv => whnf
  refine loop_w tabOk (ceN_sound tabOk mixed inlJd_ok 6) mixed 53 (X := Nat) 0 (fun k => [(9, i64 (64 * (took / 64 + (k : Int))))]) (fun k => [(5, false, ⟨21, [[.sl 64 ((jSt (Unt.mk ⟨⟨bs, ds⟩, pr, pt, la⟩ ca atts ls) (Cmd.mk op pos n pg bits) ⟨b1, b2, b3⟩ (took / 64) rs k).1.slot.med.blocks.map Blk.row), .sl 65 ((jSt (Unt.mk ⟨⟨bs, ds⟩, pr, pt, la⟩ ca atts ls) (Cmd.mk op pos n pg bits) ⟨b1, b2, b3⟩ (took / 64) rs k).1.slot.med.dirty.map Dty.row), bV (jSt (Unt.mk ⟨⟨bs, ds⟩, pr, pt, la⟩ ca atts ls) (Cmd.mk op pos n pg bits) ⟨b1, b2, b3⟩ (took / 64) rs k).1.slot.present, bV (jSt (Unt.mk ⟨⟨bs, ds⟩, pr, pt, la⟩ ca atts ls) (Cmd.mk op pos n pg bits) ⟨b1, b2, b3⟩ (took / 64) rs k).1.slot.prot, bV (jSt (Unt.mk ⟨⟨bs, ds⟩, pr, pt, la⟩ ca atts ls) (Cmd.mk op pos n pg bits) ⟨b1, b2, b3⟩ (took / 64) rs k).1.slot.latch, bV (jSt (Unt.mk ⟨⟨bs, ds⟩, pr, pt, la⟩ ca atts ls) (Cmd.mk op pos n pg bits) ⟨b1, b2, b3⟩ (took / 64) rs k).1.caching, .sl 3 ((jSt (Unt.mk ⟨⟨bs, ds⟩, pr, pt, la⟩ ca atts ls) (Cmd.mk op pos n pg bits) ⟨b1, b2, b3⟩ (took / 64) rs k).1.atts.map Sns.row), i64 (jSt (Unt.mk ⟨⟨bs, ds⟩, pr, pt, la⟩ ca atts ls) (Cmd.mk op pos n pg bits) ⟨b1, b2, b3⟩ (took / 64) rs k).1.last.key, i64 (jSt (Unt.mk ⟨⟨bs, ds⟩, pr, pt, la⟩ ca atts ls) (Cmd.mk op pos n pg bits) ⟨b1, b2, b3⟩ (took / 64) rs k).1.last.code, i64 (jSt (Unt.mk ⟨⟨bs, ds⟩, pr, pt, la⟩ ca atts ls) (Cmd.mk op pos n pg bits) ⟨b1, b2, b3⟩ (took / 64) rs k).1.last.qual, i64 op, u64 pos, i64 n, i64 pg, i64 bits, i64 len, i64 (took + min (b.length : Int) (len - took)), bsV (rs.drop (64 * k)), i64 (jSt (Unt.mk ⟨⟨bs, ds⟩, pr, pt, la⟩ ca atts ls) (Cmd.mk op pos n pg bits) ⟨b1, b2, b3⟩ (took / 64) rs k).2.key, i64 (jSt (Unt.mk ⟨⟨bs, ds⟩, pr, pt, la⟩ ca atts ls) (Cmd.mk op pos n pg bits) ⟨b1, b2, b3⟩ (took / 64) rs k).2.code, i64 (jSt (Unt.mk ⟨⟨bs, ds⟩, pr, pt, la⟩ ca atts ls) (Cmd.mk op pos n pg bits) ⟨b1, b2, b3⟩ (took / 64) rs k).2.qual]], false⟩), (2, false, ⟨10, [[.sls 64 [] false true, .sls 65 [] false true, bV false, bV false, bV false, bV false, .sls 3 [] false true, i64 0, i64 0, i64 0]], false⟩), (3, false, ⟨11, [[i64 0, u64 0, i64 0, i64 0, i64 0, i64 0, i64 0, .sls 1 [] false true, i64 0, i64 0, i64 0]], false⟩)]) 6 (fun k => 64 * k ≤ rs.length) (fun k => rs.length - 64 * k) (Nat.zero_le _) ?_ ?_
  · repeat'
      (conv => whnf
       first
        | (exact trivial)
        | (refine And.intro (by with_reducible rfl) ?_)
        | (refine And.intro (drawI (by kernel_rfl)) ?_)
        | (refine andI ?_ ?_)
        | (refine condT (by assumption) ?_)
        | (refine condF (by assumption) ?_)
        | (refine decT (by assumption) ?_)
        | (refine decF (by assumption) ?_)
        | (refine eqT (by assumption) ?_)
        | (refine eqF (by assumption) ?_)
        | (refine neT (by assumption) ?_)
        | (refine neF (by assumption) ?_)
        | (refine cEq (fun h => ?_) (fun h => ?_))
        | (refine cNe (fun h => ?_) (fun h => ?_))
        | (refine cNot (fun h => ?_) (fun h => ?_))
        | (refine cDec (fun h => ?_) (fun h => ?_))
        | (refine condN_split (fun h => ?_) (fun h => ?_))
        | (refine Or.inl (And.intro (by rfl : Nat.ble _ _ = true) ?_))
        | (refine Or.inl (And.intro Cl.lit ?_))
        | (refine Or.inr ?_)
        | (refine Exists.intro (1 : Nat) ?_)
        | (refine Exists.intro _ (And.intro rfl ?_))
        | (fail))
    all_goals try refine Side.mk ?_
    all_goals try dsimp only at *
    all_goals try refine eqI ?_
    all_goals first
      | rfl
      | (refine congrArg (Value.int IntKind.i64) ?_; rw [wrap64 (by omega) (by omega)]; first | done | omega)
  · rintro k hk
    have hk1 : jSt (Unt.mk ⟨⟨bs, ds⟩, pr, pt, la⟩ ca atts ls) (Cmd.mk op pos n pg bits) ⟨b1, b2, b3⟩ (took / 64) rs (k + 1) = jBk (jSt (Unt.mk ⟨⟨bs, ds⟩, pr, pt, la⟩ ca atts ls) (Cmd.mk op pos n pg bits) ⟨b1, b2, b3⟩ (took / 64) rs k).1 (Cmd.mk op pos n pg bits) (jSt (Unt.mk ⟨⟨bs, ds⟩, pr, pt, la⟩ ca atts ls) (Cmd.mk op pos n pg bits) ⟨b1, b2, b3⟩ (took / 64) rs k).2 (jPos (Cmd.mk op pos n pg bits) (took / 64 + k)) (Blk.of (rs.drop (64 * k))) := rfl
    generalize hk0 : jSt (Unt.mk ⟨⟨bs, ds⟩, pr, pt, la⟩ ca atts ls) (Cmd.mk op pos n pg bits) ⟨b1, b2, b3⟩ (took / 64) rs k = st at *
    by_cases hkl : 64 * k + 64 ≤ rs.length
    · have hq1 : ¬ (pos + (took / 64 + (k : Int)) ≥ 18446744073709551616) → pos + (took / 64 + (k : Int)) ≤ 1000 → jPos (Cmd.mk op pos n pg bits) (took / 64 + k) = pos + (took / 64 + (k : Int)) := fun h h2 => by unfold jPos jClamp; rw [if_neg h, if_neg (by dsimp only; omega)]
      have hq2 : ¬ (pos + (took / 64 + (k : Int)) ≥ 18446744073709551616) → ¬ pos + (took / 64 + (k : Int)) ≤ 1000 → jPos (Cmd.mk op pos n pg bits) (took / 64 + k) = 1000 := fun h h2 => by unfold jPos jClamp; rw [if_neg h, if_pos (by dsimp only; omega)]
      have hq3 : pos + (took / 64 + (k : Int)) ≥ 18446744073709551616 → jPos (Cmd.mk op pos n pg bits) (took / 64 + k) = 1000 := fun h => by unfold jPos; rw [if_pos h]
      generalize jPos (Cmd.mk op pos n pg bits) (took / 64 + k) = P at *
      have hx : (Blk.of (rs.drop (64 * k))).bs = (rs.drop (64 * k)).take 64 := bs_take (by rw [List.length_drop]; omega)
      have hxr : Blk.of ((rs.drop (64 * k)).take 64) = Blk.of (rs.drop (64 * k)) := of_take _
      generalize hX : Blk.of (rs.drop (64 * k)) = X at *
      have hC := c_class op
      have hRd : ∀ z, Side (InU z ∧ (z = P ∨ (64 ≤ z ∧ P = 1000))) → FnC Try.prog 46 [st.1.slot.v, u64 z, i64 1] [] (.tup [bsV (sRead st.1.slot P 1).1, (sRead st.1.slot P 1).2.v]) [] := fun z hz => by
        have hz := hz.h
        have e : sRead st.1.slot P 1 = sRead st.1.slot z 1 := by
          rcases hz.2 with e | ⟨e, e2⟩
          · rw [e]
          · rw [e2, ← read_far e]
        rw [e]
        exact c_sread st.1.slot z 1 ⟨hz.1⟩ ⟨by decide⟩
      have hPt : ∀ z t, Side (0 ≤ z ∧ z ≤ 2 ^ 40 ∧ (z = P ∨ (64 ≤ z ∧ P = 1000))) → FnC Try.prog 49 [st.1.slot.v, i64 z, .agg (Blk.of ((rs.drop (64 * k)).take 64)).row, bV t] [] (.tup [(sPut st.1.slot P X t).1.v, (sPut st.1.slot P X t).2.v]) [] := fun z t hz => by
        have hz := hz.h
        rw [hxr]
        have e : sPut st.1.slot P X t = sPut st.1.slot z X t := by
          rcases hz.2.2 with e | ⟨e, e2⟩
          · rw [e]
          · rw [e2, ← put_far e]
        rw [e]
        exact c_sput st.1.slot z X t ⟨by omega⟩
      have f0 := fun h => hk1.trans (jbk0 (u := st.1) (c := (Cmd.mk op pos n pg bits)) (bad := st.2) (p := P) (x := X) h)
      have f1 := fun h h2 => hk1.trans (jbk1 (u := st.1) (c := (Cmd.mk op pos n pg bits)) (bad := st.2) (p := P) (x := X) h h2)
      have f2 := fun h h2 t ht => hk1.trans (jbk2 (u := st.1) (c := (Cmd.mk op pos n pg bits)) (bad := st.2) (p := P) (x := X) h h2 (t := t) ht)
      have g1 := bad1 (s := st.1.slot) (p := P) (x := X)
      have g2 := bad2 (s := st.1.slot) (p := P) (x := X)
      have g3 := bad3 (s := st.1.slot) (p := P) (x := X)
      rw [hx] at g2 g3
      clear hk1
      generalize jBad st.1.slot P X = jb at *
      generalize sRead st.1.slot P 1 = rd at *
      generalize hsp : (fun t => sPut st.1.slot P X t) = sp at *
      have hsp2 : ∀ t, sPut st.1.slot P X t = sp t := fun t => by rw [← hsp]
      simp only [hsp2] at *
      clear hsp hsp2
      try dsimp only at hC
      generalize clsN op = cl at *
      obtain ⟨rb, w1, w2, w3⟩ := rd
      obtain ⟨⟨⟨⟨bs1, ds1⟩, pr1, pt1, la1⟩, ca1, at1, ls1⟩, c1, c2, c3⟩ := st
      dsimp only [Unt.v, Slt.v, Med.v, Job.v, Cmd.v, Sns.v] at *
      have hpl : FnC Try.prog 31 [.ip [.sl 64 (bs1.map Blk.row), .sl 65 (ds1.map Dty.row), bV pr1, bV pt1, bV la1, bV ca1, .sl 3 (at1.map Sns.row), i64 ls1.key, i64 ls1.code, i64 ls1.qual, i64 op, u64 pos, i64 n, i64 pg, i64 bits, i64 len, i64 (took + min (b.length : Int) (len - took)), bsV (rs.drop (64 * k)), i64 c1, i64 c2, i64 c3], i64 (64 * (took / 64 + (k : Int)))] [] (u64 (plc pos (64 * (took / 64 + (k : Int))))) [] := c_placeW (Unt.mk ⟨⟨bs1, ds1⟩, pr1, pt1, la1⟩ ca1 at1 ls1) (Job.mk (Cmd.mk op pos n pg bits) len (took + min (b.length : Int) (len - took)) (rs.drop (64 * k)) ⟨c1, c2, c3⟩) _ ⟨by omega⟩
      have hz : InU (plc pos (64 * (took / 64 + (k : Int)))) ∧ (plc pos (64 * (took / 64 + (k : Int))) = P ∨ (64 ≤ plc pos (64 * (took / 64 + (k : Int))) ∧ P = 1000)) := by
        have hp := hp.h
        dsimp only [InU] at hp ⊢
        have e1 : 64 * (took / 64 + (k : Int)) / 64 = took / 64 + (k : Int) := by omega
        unfold plc
        rw [e1]
        by_cases ov : pos + (took / 64 + (k : Int)) ≥ 18446744073709551616
        · have := hq3 ov
          rw [if_pos (by omega)]
          omega
        · rw [if_neg (by omega), show (pos + (took / 64 + (k : Int))) % 18446744073709551616 = pos + (took / 64 + (k : Int)) by omega]
          by_cases q : pos + (took / 64 + (k : Int)) ≤ 1000
          · have := hq1 ov q
            omega
          · have := hq2 ov q
            omega
      have hPb : 0 ≤ P ∧ P ≤ 1000 := by
        by_cases ov : pos + (took / 64 + (k : Int)) ≥ 18446744073709551616
        · rw [hq3 ov]; decide
        · have hp := hp.h
          dsimp only [InU] at hp
          by_cases q : pos + (took / 64 + (k : Int)) ≤ 1000
          · rw [hq1 ov q]; omega
          · rw [hq2 ov q]; decide
      clear hq1 hq2 hq3
      generalize plc pos (64 * (took / 64 + (k : Int))) = z at *
      have wz : IntKind.i64.wrap (min z 4294967296) = min z 4294967296 := by have := hz.1; dsimp only [InU] at this; exact wrap64 (by omega) (by omega)
      have hpos : ((byteRows (rs.drop (64 * k))).length : Int) ≥ 64 := by rw [len_b, List.length_drop]; omega
      repeat'
        (conv => whnf
         first
          | (exact trivial)
          | (refine And.intro (by with_reducible rfl) ?_)
          | (refine And.intro (drawI (by kernel_rfl)) ?_)
          | (refine andI ?_ ?_)
          | (refine condT (by assumption) ?_)
          | (refine condF (by assumption) ?_)
          | (refine decT (by assumption) ?_)
          | (refine decF (by assumption) ?_)
          | (refine eqT (by assumption) ?_)
          | (refine eqF (by assumption) ?_)
          | (refine neT (by assumption) ?_)
          | (refine neF (by assumption) ?_)
          | (refine cEq (fun h => ?_) (fun h => ?_))
          | (refine cNe (fun h => ?_) (fun h => ?_))
          | (refine cNot (fun h => ?_) (fun h => ?_))
          | (refine cDec (fun h => ?_) (fun h => ?_))
          | (refine condN_split (fun h => ?_) (fun h => ?_))
          | (refine Exists.intro _ (And.intro (hC) ?_))
          | (refine Exists.intro _ (And.intro (hpl) ?_))
          | (refine Exists.intro _ (And.intro (hRd _ ?_) ?_))
          | (refine Exists.intro _ (And.intro (hPt _ _ ?_) ?_))
          | (refine Exists.intro _ (And.intro (fnC_args (c_bytesEq _ _) (by first | rfl | ((conv => lhs; simp only [rp_bls, or_bls, len_bls, snoc_bls, rp_nil, rp_app, rp_b, or_nil, or_app, or_b, len_b, take_b, drop_b, rep_b, app_b, List.length_append, List.length_take, List.length_drop, List.length_nil, List.drop_zero, List.take_length, List.nil_append, List.append_nil, Int.toNat_natCast, toNat_min, take_min, and_true, true_and, and_self]) <;> rfl) | ((conv => lhs; simp only [rp_bls, or_bls, len_bls, snoc_bls, rp_nil, rp_app, rp_b, or_nil, or_app, or_b, len_b, take_b, drop_b, rep_b, app_b, List.length_append, List.length_take, List.length_drop, List.length_nil, List.drop_zero, List.take_length, List.nil_append, List.append_nil, Int.toNat_natCast, toNat_min, take_min, and_true, true_and, and_self, sl1_nil]) <;> rfl))) ?_))
          | (refine Exists.intro _ (And.intro eq_sns ?_))
          | (refine Exists.intro _ (And.intro (blk_ptr ((rs.drop (64 * k)).take 64) ?_ ?_) ?_))
          | (refine @Exists.intro Nat _ (k + 1) (andI ?_ (andI ?_ ?_)))
          | (refine Exists.intro _ (And.intro rfl ?_))
          | (refine Or.inl (And.intro (by rfl : Nat.ble _ _ = true) ?_))
          | (refine Or.inl (And.intro Cl.lit ?_))
          | (refine Or.inr ?_)
          | (refine Exists.intro (1 : Nat) ?_)
          | (refine Exists.intro _ (And.intro rfl ?_))
          | (fail))
      all_goals try refine Side.mk ?_
      all_goals try dsimp only
      all_goals try refine eqI ?_
      all_goals first
        | exact Nat.le_refl _
        | (rw [f0 (by assumption)]; first | done | rfl)
        | (rw [f1 (by assumption) (by assumption)]; first | done | rfl)
        | (rw [f1 (by assumption) (by assumption), g1 (by assumption)]; first | done | rfl)
        | (rw [f1 (by assumption) (by assumption), g2 (by assumption) (of_decide_eq_true (by assumption))]; first | done | rfl)
        | (rw [f1 (by assumption) (by assumption), g3 (by assumption) (of_decide_eq_false (by assumption))]; first | done | rfl)
        | (rw [f2 (by assumption) (by assumption) true (by rw [decide_eq_true (by assumption)]; rfl)]; first | done | rfl)
        | (rw [f2 (by assumption) (by assumption) (!ca1) (by rw [decide_eq_false (by assumption)]; rfl)]; first | done | rfl)
        | exact hz
        | (rw [wz]; have hz1 := hz.1; have hz2 := hz.2; dsimp only [InU] at hz1; omega)
        | (rw [len_b, List.length_drop]; omega)
        | (rw [List.length_take, List.length_drop]; omega)
        | (rw [List.drop_zero, List.length_take, len_b, List.length_drop]; omega)
        | (rw [List.drop_zero, take_b]; first | done | rfl)
        | (refine congrArg (Value.int IntKind.i64) ?_; rw [wrap64 (by omega) (by omega)]; omega)
        | (rw [List.take_of_length_le (Nat.le_refl _), drop_b, List.drop_drop]; refine congrArg (fun n => byteRows (List.drop n rs)) ?_; omega)
        | omega
    · have hk3 : rs.length / 64 = k := by omega
      rw [hk3, hk0] at t2
      clear hk1
      obtain ⟨⟨⟨⟨bs1, ds1⟩, pr1, pt1, la1⟩, ca1, at1, ls1⟩, c1, c2, c3⟩ := st
      have hneg : ¬ ((byteRows (rs.drop (64 * k))).length : Int) ≥ 64 := by rw [len_b, List.length_drop]; omega
      repeat'
        (conv => whnf
         first
          | (exact trivial)
          | (refine And.intro (by with_reducible rfl) ?_)
          | (refine And.intro (drawI (by kernel_rfl)) ?_)
          | (refine andI ?_ ?_)
          | (refine condT (by assumption) ?_)
          | (refine condF (by assumption) ?_)
          | (refine decT (by assumption) ?_)
          | (refine decF (by assumption) ?_)
          | (refine eqT (by assumption) ?_)
          | (refine eqF (by assumption) ?_)
          | (refine neT (by assumption) ?_)
          | (refine neF (by assumption) ?_)
          | (refine cEq (fun h => ?_) (fun h => ?_))
          | (refine cNe (fun h => ?_) (fun h => ?_))
          | (refine cNot (fun h => ?_) (fun h => ?_))
          | (refine cDec (fun h => ?_) (fun h => ?_))
          | (refine condN_split (fun h => ?_) (fun h => ?_))
          | (refine Exists.intro _ (And.intro rfl ?_))
          | (refine Or.inl (And.intro (by rfl : Nat.ble _ _ = true) ?_))
          | (refine Or.inl (And.intro Cl.lit ?_))
          | (refine Or.inr ?_)
          | (refine Exists.intro (1 : Nat) ?_)
          | (refine Exists.intro _ (And.intro rfl ?_))
          | (fail))
      all_goals try refine Side.mk ?_
      all_goals try dsimp only
      all_goals try refine eqI ?_
      all_goals first
        | (rw [t2]; first | done | rfl)
end Go.Proofs.Ytbieiehfohldjaa
