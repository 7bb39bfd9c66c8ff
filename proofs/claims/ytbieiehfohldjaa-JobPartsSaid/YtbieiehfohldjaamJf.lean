/-
  Jobs (layer 10): how they end; units and jobs copied and compared.
-/
import Derived.Test.YtbieiehfohldjaamJa
import Derived.Test.YtbieiehfohldjaamBs
import Derived.Test.YtbieiehfohldjaamK08
namespace Go.Proofs.Ytbieiehfohldjaa
open Go
set_option linter.unusedVariables false
set_option linter.unusedSimpArgs false
set_option maxRecDepth 100000
set_option maxHeartbeats 8000000

def jFin (u : Unt) (j : Job) : Unt × Sns :=
  if jRight j = false then (u, sShort) else if j.bad.good = false then (u, j.bad) else if j.took < j.len then (u, sShort) else if jSel j.cmd.op = false then (u, sOk)
  else (⟨u.slot, if (mSel j.rest (decide (j.cmd.op = 0x55)) u.caching).2.good = true then (mSel j.rest (decide (j.cmd.op = 0x55)) u.caching).1 else u.caching, u.atts, u.last⟩, (mSel j.rest (decide (j.cmd.op = 0x55)) u.caching).2)
section
variable {u : Unt} {j : Job}
theorem fin0 (h : jRight j = false) : jFin u j = (u, sShort) := by unfold jFin; rw [if_pos h]
theorem fin1 (h : jRight j = true) (h1 : j.bad.good = false) : jFin u j = (u, j.bad) := by unfold jFin; rw [if_neg (by rw [h]; decide), if_pos h1]
theorem fin2 (h : jRight j = true) (h1 : j.bad.good = true) (h2 : j.took < j.len) : jFin u j = (u, sShort) := by unfold jFin; rw [if_neg (by rw [h]; decide), if_neg (by rw [h1]; decide), if_pos h2]
theorem fin3 (h : jRight j = true) (h1 : j.bad.good = true) (h2 : ¬ j.took < j.len) (h3 : jSel j.cmd.op = false) : jFin u j = (u, sOk) := by unfold jFin; rw [if_neg (by rw [h]; decide), if_neg (by rw [h1]; decide), if_neg h2, if_pos h3]
theorem fin4 (h : jRight j = true) (h1 : j.bad.good = true) (h2 : ¬ j.took < j.len) (h3 : jSel j.cmd.op = true) {t : Bool} (ht : t = decide (j.cmd.op = 0x55)) (hs : (mSel j.rest t u.caching).2.good = true) : jFin u j = (⟨u.slot, (mSel j.rest t u.caching).1, u.atts, u.last⟩, (mSel j.rest t u.caching).2) := by
  subst ht
  unfold jFin; rw [if_neg (by rw [h]; decide), if_neg (by rw [h1]; decide), if_neg h2, if_neg (by rw [h3]; decide), if_pos hs]
theorem fin5 (h : jRight j = true) (h1 : j.bad.good = true) (h2 : ¬ j.took < j.len) (h3 : jSel j.cmd.op = true) {t : Bool} (ht : t = decide (j.cmd.op = 0x55)) (hs : (mSel j.rest t u.caching).2.good = false) : jFin u j = (u, (mSel j.rest t u.caching).2) := by
  subst ht
  unfold jFin; rw [if_neg (by rw [h]; decide), if_neg (by rw [h1]; decide), if_neg h2, if_neg (by rw [h3]; decide), if_neg (by rw [hs]; decide)]
end
theorem c_fin (u : Unt) (j : Job) (hr : Side (j.rest.length ≤ 2 ^ 20)) : FnC Try.prog 12 [u.v, j.v] [] (.tup [(jFin u j).1.v, (jFin u j).2.v]) [] := by
  have hR := c_jRight j
  have hS := fun t => c_select j.rest t u.caching hr
  have f0 := fin0 (u := u) (j := j)
  have f1 := fin1 (u := u) (j := j)
  have f2 := fin2 (u := u) (j := j)
  have f3 := fin3 (u := u) (j := j)
  have f4 := fun h h1 h2 h3 => @fin4 u j h h1 h2 h3
  have f5 := fun h h1 h2 h3 => @fin5 u j h h1 h2 h3
  generalize jFin u j = r at *
  generalize jRight j = g at *
  generalize hm : (fun t => mSel j.rest t u.caching) = ms at *
  have hm2 : ∀ t, mSel j.rest t u.caching = ms t := fun t => by rw [← hm]
  simp only [hm2] at *
  clear hm hm2
  obtain ⟨⟨⟨bs, ds⟩, pr, pt, la⟩, ca, atts, ls⟩ := u
  obtain ⟨⟨op, pos, n, pg, bits⟩, len, took, rest, b1, b2, b3⟩ := j
  dsimp only [Unt.v, Slt.v, Med.v, Job.v, Cmd.v, Sns.v] at *
  refine fn_vcI (N := 56) (d := 6) tabOk mixed inlJa_ok 6 Try.func12 rfl rfl rfl ?_
  repeat'
    (conv => whnf
     first
      | (exact trivial)
      | (refine And.intro (by with_reducible rfl) ?_)
      | (refine And.intro (drawI (by kernel_rfl)) ?_)
      | (refine andI ?_ ?_)
      | (refine condT (by assumption) ?_)
      | (refine condF (by assumption) ?_)
      | (refine decT (by assumption) ?_)
      | (refine decF (by assumption) ?_)
      | (refine eqT (by assumption) ?_)
      | (refine eqF (by assumption) ?_)
      | (refine neT (by assumption) ?_)
      | (refine neF (by assumption) ?_)
      | (refine cEq (fun h => ?_) (fun h => ?_))
      | (refine cNe (fun h => ?_) (fun h => ?_))
      | (refine cNot (fun h => ?_) (fun h => ?_))
      | (refine cDec (fun h => ?_) (fun h => ?_))
      | (refine condN_split (fun h => ?_) (fun h => ?_))
      | (refine Exists.intro _ (And.intro (hR) ?_))
      | (refine Exists.intro _ (And.intro (hS _) ?_))
      | (refine Exists.intro _ (And.intro eq_sns ?_))
      | (refine Exists.intro _ (And.intro rfl ?_))
      | (refine Or.inl (And.intro (by rfl : Nat.ble _ _ = true) ?_))
      | (refine Or.inl (And.intro Cl.lit ?_))
      | (refine Or.inr ?_)
      | (refine Exists.intro (1 : Nat) ?_)
      | (refine Exists.intro _ (And.intro rfl ?_))
      | (fail))
  all_goals try refine Side.mk ?_
  all_goals try dsimp only
  all_goals try refine eqI ?_
  all_goals first
    | (rw [f0 (by assumption)]; first | done | rfl)
    | (rw [f1 (by assumption) (by assumption)]; first | done | rfl)
    | (rw [f2 (by assumption) (by assumption) (by assumption)]; first | done | rfl)
    | (rw [f3 (by assumption) (by assumption) (by assumption) (by unfold jSel; simp [*])]; first | done | rfl)
    | (rw [f4 (by assumption) (by assumption) (by assumption) (by unfold jSel; simp [*]) (t := (op == 85)) rfl (by assumption)]; first | done | rfl)
    | (rw [f5 (by assumption) (by assumption) (by assumption) (by unfold jSel; simp [*]) (t := (op == 85)) rfl (by assumption)]; first | done | rfl)
    | (exfalso; simp [*] at *; done)
theorem c_refFin (u : Unt) (j : Job) (hr : Side (j.rest.length ≤ 2 ^ 20)) : FnC Try.prog 13 [u.v, j.v] [] (.tup [(jFin u j).1.v, (jFin u j).2.v]) [] := by
  have hR := c_refJright j
  have hS := fun t => c_refSelect j.rest t u.caching hr
  have f0 := fin0 (u := u) (j := j)
  have f1 := fin1 (u := u) (j := j)
  have f2 := fin2 (u := u) (j := j)
  have f3 := fin3 (u := u) (j := j)
  have f4 := fun h h1 h2 h3 => @fin4 u j h h1 h2 h3
  have f5 := fun h h1 h2 h3 => @fin5 u j h h1 h2 h3
  generalize jFin u j = r at *
  generalize jRight j = g at *
  generalize hm : (fun t => mSel j.rest t u.caching) = ms at *
  have hm2 : ∀ t, mSel j.rest t u.caching = ms t := fun t => by rw [← hm]
  simp only [hm2] at *
  clear hm hm2
  obtain ⟨⟨⟨bs, ds⟩, pr, pt, la⟩, ca, atts, ls⟩ := u
  obtain ⟨⟨op, pos, n, pg, bits⟩, len, took, rest, b1, b2, b3⟩ := j
  dsimp only [Unt.v, Slt.v, Med.v, Job.v, Cmd.v, Sns.v] at *
  refine fn_vcI (N := 58) (d := 6) tabOk mixed inlJa_ok 6 Try.func13 rfl rfl rfl ?_
  repeat'
    (conv => whnf
     first
      | (exact trivial)
      | (refine And.intro (by with_reducible rfl) ?_)
      | (refine And.intro (drawI (by kernel_rfl)) ?_)
      | (refine andI ?_ ?_)
      | (refine condT (by assumption) ?_)
      | (refine condF (by assumption) ?_)
      | (refine decT (by assumption) ?_)
      | (refine decF (by assumption) ?_)
      | (refine eqT (by assumption) ?_)
      | (refine eqF (by assumption) ?_)
      | (refine neT (by assumption) ?_)
      | (refine neF (by assumption) ?_)
      | (refine cEq (fun h => ?_) (fun h => ?_))
      | (refine cNe (fun h => ?_) (fun h => ?_))
      | (refine cNot (fun h => ?_) (fun h => ?_))
      | (refine cDec (fun h => ?_) (fun h => ?_))
      | (refine condN_split (fun h => ?_) (fun h => ?_))
      | (refine Exists.intro _ (And.intro (hR) ?_))
      | (refine Exists.intro _ (And.intro (hS _) ?_))
      | (refine Exists.intro _ (And.intro eq_sns ?_))
      | (refine Exists.intro _ (And.intro rfl ?_))
      | (refine Or.inl (And.intro (by rfl : Nat.ble _ _ = true) ?_))
      | (refine Or.inl (And.intro Cl.lit ?_))
      | (refine Or.inr ?_)
      | (refine Exists.intro (1 : Nat) ?_)
      | (refine Exists.intro _ (And.intro rfl ?_))
      | (fail))
  all_goals try refine Side.mk ?_
  all_goals try dsimp only
  all_goals try refine eqI ?_
  all_goals first
    | (rw [f0 (by assumption)]; first | done | rfl)
    | (rw [f1 (by assumption) (by assumption)]; first | done | rfl)
    | (rw [f2 (by assumption) (by assumption) (by assumption)]; first | done | rfl)
    | (rw [f3 (by assumption) (by assumption) (by assumption) (by unfold jSel; simp [*])]; first | done | rfl)
    | (rw [f4 (by assumption) (by assumption) (by assumption) (by unfold jSel; simp [*]) (t := (op == 85)) rfl (by assumption)]; first | done | rfl)
    | (rw [f5 (by assumption) (by assumption) (by assumption) (by unfold jSel; simp [*]) (t := (op == 85)) rfl (by assumption)]; first | done | rfl)
    | (exfalso; simp [*] at *; done)
theorem c_slSame (a b : Slt) (h1 : Side (a.med.blocks.length ≤ 2 ^ 40)) (h2 : Side (a.med.dirty.length ≤ 2 ^ 40)) : FnC Try.prog 38 [a.v, b.v] [] (bV (decide (a = b))) [] := by
  have hM := c_mSame a.med b.med h1 h2
  obtain ⟨m, a1, a2, a3⟩ := a
  obtain ⟨m', b1, b2, b3⟩ := b
  obtain ⟨bs, ds⟩ := m
  obtain ⟨bs', ds'⟩ := m'
  dsimp only [Slt.v, Med.v] at *
  refine fn_vcI (N := 31) (d := 5) tabOk mixed inlJa_ok 6 Try.func38 rfl rfl rfl ?_
  repeat'
    (conv => whnf
     first
      | (exact trivial)
      | (refine And.intro (by with_reducible rfl) ?_)
      | (refine And.intro (drawI (by kernel_rfl)) ?_)
      | (refine andI ?_ ?_)
      | (refine condT (by assumption) ?_)
      | (refine condF (by assumption) ?_)
      | (refine decT (by assumption) ?_)
      | (refine decF (by assumption) ?_)
      | (refine eqT (by assumption) ?_)
      | (refine eqF (by assumption) ?_)
      | (refine neT (by assumption) ?_)
      | (refine neF (by assumption) ?_)
      | (refine cEq (fun h => ?_) (fun h => ?_))
      | (refine cNe (fun h => ?_) (fun h => ?_))
      | (refine cNot (fun h => ?_) (fun h => ?_))
      | (refine cDec (fun h => ?_) (fun h => ?_))
      | (refine condN_split (fun h => ?_) (fun h => ?_))
      | (refine Exists.intro _ (And.intro (hM) ?_))
      | (refine Exists.intro _ (And.intro rfl ?_))
      | (refine Or.inl (And.intro (by rfl : Nat.ble _ _ = true) ?_))
      | (refine Or.inl (And.intro Cl.lit ?_))
      | (refine Or.inr ?_)
      | (refine Exists.intro (1 : Nat) ?_)
      | (refine Exists.intro _ (And.intro rfl ?_))
      | (fail))
  all_goals try refine Side.mk ?_
  all_goals try dsimp only at *
  all_goals try refine eqI ?_
  all_goals (refine congrArg (fun q => V.lit (Value.bool q)) ?_; rw [Bool.eq_iff_iff]; simp [*])
theorem c_uSame (a b : Unt) (h1 : Side (a.slot.med.blocks.length ≤ 2 ^ 40)) (h2 : Side (a.slot.med.dirty.length ≤ 2 ^ 40)) (h3 : Side (a.atts.length ≤ 2 ^ 40)) : FnC Try.prog 16 [a.v, b.v] [] (bV (decide (a = b))) [] := by
  have hM := c_slSame a.slot b.slot h1 h2
  have hS := c_sSame a.atts b.atts h3
  have key : ∀ q, eqS a.last b.last = q → decide (a.last = b.last) = q := fun q hq => by rw [← eqS_eq]; exact hq
  obtain ⟨⟨⟨bs, ds⟩, a1, a2, a3⟩, ca, at1, ls⟩ := a
  obtain ⟨⟨⟨bs', ds'⟩, b1, b2, b3⟩, ca', at1', ls'⟩ := b
  obtain ⟨x1, x2, x3⟩ := ls
  obtain ⟨y1, y2, y3⟩ := ls'
  dsimp only [Unt.v, Slt.v, Med.v] at *
  refine fn_vcI (N := 31) (d := 5) tabOk mixed inlJa_ok 6 Try.func16 rfl rfl rfl ?_
  repeat'
    (conv => whnf
     first
      | (exact trivial)
      | (refine And.intro (by with_reducible rfl) ?_)
      | (refine And.intro (drawI (by kernel_rfl)) ?_)
      | (refine andI ?_ ?_)
      | (refine condT (by assumption) ?_)
      | (refine condF (by assumption) ?_)
      | (refine decT (by assumption) ?_)
      | (refine decF (by assumption) ?_)
      | (refine eqT (by assumption) ?_)
      | (refine eqF (by assumption) ?_)
      | (refine neT (by assumption) ?_)
      | (refine neF (by assumption) ?_)
      | (refine cEq (fun h => ?_) (fun h => ?_))
      | (refine cNe (fun h => ?_) (fun h => ?_))
      | (refine cNot (fun h => ?_) (fun h => ?_))
      | (refine cDec (fun h => ?_) (fun h => ?_))
      | (refine condN_split (fun h => ?_) (fun h => ?_))
      | (refine Exists.intro _ (And.intro (hM) ?_))
      | (refine Exists.intro _ (And.intro (hS) ?_))
      | (refine Exists.intro _ (And.intro eq_sns ?_))
      | (refine Exists.intro _ (And.intro rfl ?_))
      | (refine Or.inl (And.intro (by rfl : Nat.ble _ _ = true) ?_))
      | (refine Or.inl (And.intro Cl.lit ?_))
      | (refine Or.inr ?_)
      | (refine Exists.intro (1 : Nat) ?_)
      | (refine Exists.intro _ (And.intro rfl ?_))
      | (fail))
  all_goals try refine Side.mk ?_
  all_goals try dsimp only
  all_goals try refine eqI ?_
  all_goals clear hM hS
  all_goals first
    | (have hk := of_decide_eq_true (key true (by assumption))
       clear key
       refine congrArg (fun q => V.lit (Value.bool q)) ?_
       rw [Bool.eq_iff_iff]
       simp only [decide_eq_true_eq, Unt.mk.injEq]
       simp [*]; done)
    | (have hk := of_decide_eq_false (key false (by assumption))
       clear key
       refine bool_close ?_
       simp only [decide_eq_true_eq, Unt.mk.injEq, Bool.false_eq_true, false_iff, not_and]
       intros
       first | assumption | contradiction)
    | (clear key
       refine bool_close ?_
       simp only [decide_eq_true_eq, Unt.mk.injEq, Bool.false_eq_true, false_iff, not_and]
       intros
       first | assumption | contradiction)
theorem c_jSame (a b : Job) : FnC Try.prog 17 [a.v, b.v] [] (bV (decide (a = b))) [] := by
  have k1 : ∀ q, eqS a.bad b.bad = q → decide (a.bad = b.bad) = q := fun q hq => by rw [← eqS_eq]; exact hq
  have k2 : ∀ q, eqC a.cmd b.cmd = q → decide (a.cmd = b.cmd) = q := fun q hq => by rw [← eqC_eq]; exact hq
  obtain ⟨⟨op, pos, n, pg, bits⟩, len, took, rest, b1, b2, b3⟩ := a
  obtain ⟨⟨op', pos', n', pg', bits'⟩, len', took', rest', b1', b2', b3'⟩ := b
  dsimp only [Job.v, Cmd.v, Sns.v] at *
  refine fn_vcI (N := 40) (d := 6) tabOk mixed inlJa_ok 6 Try.func17 rfl rfl rfl ?_
  repeat'
    (conv => whnf
     first
      | (exact trivial)
      | (refine And.intro (by with_reducible rfl) ?_)
      | (refine And.intro (drawI (by kernel_rfl)) ?_)
      | (refine andI ?_ ?_)
      | (refine condT (by assumption) ?_)
      | (refine condF (by assumption) ?_)
      | (refine decT (by assumption) ?_)
      | (refine decF (by assumption) ?_)
      | (refine eqT (by assumption) ?_)
      | (refine eqF (by assumption) ?_)
      | (refine neT (by assumption) ?_)
      | (refine neF (by assumption) ?_)
      | (refine cEq (fun h => ?_) (fun h => ?_))
      | (refine cNe (fun h => ?_) (fun h => ?_))
      | (refine cNot (fun h => ?_) (fun h => ?_))
      | (refine cDec (fun h => ?_) (fun h => ?_))
      | (refine condN_split (fun h => ?_) (fun h => ?_))
      | (refine Exists.intro _ (And.intro (by first | rfl | ((conv => lhs; simp only [nil_b, rp_bls, or_bls, len_bls, snoc_bls, rp_nil, rp_app, rp_b, or_nil, or_app, or_b, len_b, take_b, drop_b, rep_b, app_b, List.length_append, List.length_take, List.length_drop, List.length_nil, List.drop_zero, List.take_length, List.nil_append, List.append_nil, Int.toNat_natCast, toNat_min, take_min, and_true, true_and, and_self]) <;> rfl)) ?_))
      | (refine Exists.intro _ (And.intro eq_sns ?_))
      | (refine Exists.intro _ (And.intro eq_cmd ?_))
      | (refine Exists.intro _ (And.intro rfl ?_))
      | (refine Or.inl (And.intro (by rfl : Nat.ble _ _ = true) ?_))
      | (refine Or.inl (And.intro Cl.lit ?_))
      | (refine Or.inr ?_)
      | (refine Exists.intro (1 : Nat) ?_)
      | (refine Exists.intro _ (And.intro rfl ?_))
      | (fail))
  all_goals try refine Side.mk ?_
  all_goals try dsimp only
  all_goals try refine eqI ?_
  all_goals try simp only [eq_str, beq_iff_eq, beq_eq_false_iff_ne, ne_eq] at *
  all_goals first
    | (have hk := of_decide_eq_true (k2 true (by assumption))
       clear k2
       refine congrArg (fun q => V.lit (Value.bool q)) ((k1 _ rfl).symm.trans ?_)
       rw [Bool.eq_iff_iff]
       simp only [decide_eq_true_eq, Job.mk.injEq]
       simp [*]; done)
    | (have hk := of_decide_eq_false (k2 false (by assumption))
       refine bool_close ?_
       simp only [decide_eq_true_eq, Job.mk.injEq, Bool.false_eq_true, false_iff, not_and]
       intros
       first | assumption | contradiction)
    | (refine bool_close ?_
       simp only [decide_eq_true_eq, Job.mk.injEq, Bool.false_eq_true, false_iff, not_and]
       intros
       first | assumption | contradiction)
end Go.Proofs.Ytbieiehfohldjaa
