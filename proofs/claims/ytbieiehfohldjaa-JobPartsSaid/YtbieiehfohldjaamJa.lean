/-
  Jobs (layer 10): how they start, whether they may be.
-/
import Derived.Test.YtbieiehfohldjaamSl
namespace Go.Proofs.Ytbieiehfohldjaa
open Go
set_option linter.unusedVariables false
set_option linter.unusedSimpArgs false
set_option maxRecDepth 100000
set_option maxHeartbeats 8000000

def clsN (op : Int) : Int := if op = 8 ∨ op = 0x28 ∨ op = 0xa8 ∨ op = 0x88 then 1 else if op = 0xa ∨ op = 0x2a ∨ op = 0xaa ∨ op = 0x8a then 2 else if op = 0x2f ∨ op = 0xaf ∨ op = 0x8f then 3 else if op = 0x35 ∨ op = 0x91 then 4 else 0
theorem c_class (op : Int) : FnC Try.prog 40 [i64 op] [] (i64 (clsN op)) [] := by
  refine fn_vcI (N := 21) (d := 5) tabOk mixed inlSl_ok 6 Try.func40 rfl rfl rfl ?_
  repeat'
    (conv => whnf
     first
      | (exact trivial)
      | (refine And.intro (by with_reducible rfl) ?_)
      | (refine And.intro (drawI (by kernel_rfl)) ?_)
      | (refine andI ?_ ?_)
      | (refine condT (by assumption) ?_)
      | (refine condF (by assumption) ?_)
      | (refine decT (by assumption) ?_)
      | (refine decF (by assumption) ?_)
      | (refine eqT (by assumption) ?_)
      | (refine eqF (by assumption) ?_)
      | (refine neT (by assumption) ?_)
      | (refine neF (by assumption) ?_)
      | (refine cEq (fun h => ?_) (fun h => ?_))
      | (refine cNe (fun h => ?_) (fun h => ?_))
      | (refine cNot (fun h => ?_) (fun h => ?_))
      | (refine cDec (fun h => ?_) (fun h => ?_))
      | (refine condN_split (fun h => ?_) (fun h => ?_))
      | (refine Or.inl (And.intro (by rfl : Nat.ble _ _ = true) ?_))
      | (refine Or.inl (And.intro Cl.lit ?_))
      | (refine Or.inr ?_)
      | (refine Exists.intro (1 : Nat) ?_)
      | (refine Exists.intro _ (And.intro rfl ?_))
      | (fail))
  all_goals try refine Side.mk ?_
  all_goals try dsimp only at *
  all_goals try refine eqI ?_
  all_goals (refine congrArg (fun n => V.lit (Value.int .i64 n)) ?_; unfold clsN; (repeat' split) <;> omega)
theorem c_refClass (op : Int) : FnC Try.prog 41 [i64 op] [] (i64 (clsN op)) [] := by
  refine fn_vcI (N := 21) (d := 5) tabOk mixed inlSl_ok 6 Try.func41 rfl rfl rfl ?_
  repeat'
    (conv => whnf
     first
      | (exact trivial)
      | (refine And.intro (by with_reducible rfl) ?_)
      | (refine And.intro (drawI (by kernel_rfl)) ?_)
      | (refine andI ?_ ?_)
      | (refine condT (by assumption) ?_)
      | (refine condF (by assumption) ?_)
      | (refine decT (by assumption) ?_)
      | (refine decF (by assumption) ?_)
      | (refine eqT (by assumption) ?_)
      | (refine eqF (by assumption) ?_)
      | (refine neT (by assumption) ?_)
      | (refine neF (by assumption) ?_)
      | (refine cEq (fun h => ?_) (fun h => ?_))
      | (refine cNe (fun h => ?_) (fun h => ?_))
      | (refine cNot (fun h => ?_) (fun h => ?_))
      | (refine cDec (fun h => ?_) (fun h => ?_))
      | (refine condN_split (fun h => ?_) (fun h => ?_))
      | (refine Or.inl (And.intro (by rfl : Nat.ble _ _ = true) ?_))
      | (refine Or.inl (And.intro Cl.lit ?_))
      | (refine Or.inr ?_)
      | (refine Exists.intro (1 : Nat) ?_)
      | (refine Exists.intro _ (And.intro rfl ?_))
      | (fail))
  all_goals try refine Side.mk ?_
  all_goals try dsimp only at *
  all_goals try refine eqI ?_
  all_goals (refine congrArg (fun n => V.lit (Value.int .i64 n)) ?_; unfold clsN; (repeat' split) <;> omega)
def jSel (op : Int) : Bool := decide (op = 0x15 ∨ op = 0x55)
def jSize (c : Cmd) : Int := if jSel c.op = true then 1 else if clsN c.op = 2 ∨ clsN c.op = 3 ∧ c.bits = 1 then 64 else 0
def jStart (c : Cmd) : Job × Bool := if jSize c = 0 ∨ c.n < 1 ∨ c.n > 4294967296 then (Job.dflt, false) else (⟨c, jSize c * c.n, 0, [], sOk⟩, true)
noncomputable def inlJa : List IRow := [(29, Try.f29, 9, 4, 0), (35, Try.f35, 6, 3, 0), (34, Try.f34, 2, 2, 0), (48, Try.f48, 2, 2, 0), (52, Try.f52, 8, 4, 0), (25, Try.f25, 11, 4, 0)]
theorem inlJa_ok : IOk Try.prog (inlTab inlJa) := inl_ok (by
  unfold inlJa
  refine And.intro ⟨rfl, rfl, rfl, .inl rfl⟩ ?_
  refine And.intro ⟨rfl, rfl, rfl, .inl rfl⟩ ?_
  refine And.intro ⟨rfl, rfl, rfl, .inl rfl⟩ ?_
  refine And.intro ⟨rfl, rfl, rfl, .inl rfl⟩ ?_
  refine And.intro ⟨rfl, rfl, rfl, .inl rfl⟩ ?_
  refine And.intro ⟨rfl, rfl, rfl, .inl rfl⟩ ?_
  exact trivial)
theorem cls_no {op : Int} (h : op = 0x15 ∨ op = 0x55) : clsN op = 0 := by rcases h with rfl | rfl <;> decide
theorem c_start (c : Cmd) : FnC Try.prog 18 [c.v] [] (.tup [(jStart c).1.v, bV (jStart c).2]) [] := by
  obtain ⟨op, pos, n, pg, bits⟩ := c
  have hc := c_class op
  have hn := cls_no (op := op)
  have sNo : ∀ {c : Cmd}, (jSize c = 0 ∨ c.n < 1 ∨ c.n > 4294967296) → jStart c = (Job.dflt, false) := fun h => by unfold jStart; rw [if_pos h]
  have sYes : ∀ {c : Cmd} {z : Int}, jSize c = z → z ≠ 0 → ¬ c.n < 1 → ¬ c.n > 4294967296 → jStart c = (⟨c, z * c.n, 0, [], sOk⟩, true) := fun h h1 h2 h3 => by unfold jStart; rw [if_neg (by omega), h]
  have z1 : (op = 21 ∨ op = 85) → jSize ⟨op, pos, n, pg, bits⟩ = 1 := fun h => by unfold jSize jSel; rw [if_pos (by rw [decide_eq_true h])]
  have z64 : ¬ (op = 21 ∨ op = 85) → (clsN op = 2 ∨ clsN op = 3 ∧ bits = 1) → jSize ⟨op, pos, n, pg, bits⟩ = 64 := fun h h2 => by unfold jSize jSel; rw [if_neg (by rw [decide_eq_false h]; decide), if_pos h2]
  have z0 : ¬ (op = 21 ∨ op = 85) → ¬ (clsN op = 2 ∨ clsN op = 3 ∧ bits = 1) → jSize ⟨op, pos, n, pg, bits⟩ = 0 := fun h h2 => by unfold jSize jSel; rw [if_neg (by rw [decide_eq_false h]; decide), if_neg h2]
  generalize clsN op = k at *
  dsimp only [Cmd.v] at *
  refine fn_vcI (N := 44) (d := 6) tabOk mixed inlJa_ok 6 Try.func18 rfl rfl rfl ?_
  repeat'
    (conv => whnf
     first
      | (exact trivial)
      | (refine And.intro (by with_reducible rfl) ?_)
      | (refine And.intro (drawI (by kernel_rfl)) ?_)
      | (refine andI ?_ ?_)
      | (refine condT (by assumption) ?_)
      | (refine condF (by assumption) ?_)
      | (refine decT (by assumption) ?_)
      | (refine decF (by assumption) ?_)
      | (refine eqT (by assumption) ?_)
      | (refine eqF (by assumption) ?_)
      | (refine neT (by assumption) ?_)
      | (refine neF (by assumption) ?_)
      | (refine cEq (fun h => ?_) (fun h => ?_))
      | (refine cNe (fun h => ?_) (fun h => ?_))
      | (refine cNot (fun h => ?_) (fun h => ?_))
      | (refine cDec (fun h => ?_) (fun h => ?_))
      | (refine condN_split (fun h => ?_) (fun h => ?_))
      | (refine Exists.intro _ (And.intro (hc) ?_))
      | (refine Exists.intro _ (And.intro rfl ?_))
      | (refine Or.inl (And.intro (by rfl : Nat.ble _ _ = true) ?_))
      | (refine Or.inl (And.intro Cl.lit ?_))
      | (refine Or.inr ?_)
      | (refine Exists.intro (1 : Nat) ?_)
      | (refine Exists.intro _ (And.intro rfl ?_))
      | (fail))
  all_goals try refine Side.mk ?_
  all_goals try dsimp only
  all_goals try refine eqI ?_
  all_goals first
    | (rw [sNo (.inr (by dsimp only; omega))]; rfl)
    | (rw [sNo (.inl (z0 (by omega) (by omega)))]; rfl)
    | (rw [sYes (z1 (by omega)) (by decide) (by dsimp only; omega) (by dsimp only; omega), wrap64 (by omega) (by omega)]; rfl)
    | (rw [sYes (z64 (by omega) (by omega)) (by decide) (by dsimp only; omega) (by dsimp only; omega), wrap64 (by omega) (by omega)]; rfl)
    | (rw [sYes (z1 (by omega)) (by decide) (by dsimp only; omega) (by dsimp only; omega), Int.one_mul]; rfl)
    | (rw [sYes (z64 (by omega) (by omega)) (by decide) (by dsimp only; omega) (by dsimp only; omega), wrap64 (by omega) (by omega), Int.mul_comm]; rfl)
    | (exfalso; omega)
theorem c_refStart (c : Cmd) : FnC Try.prog 19 [c.v] [] (.tup [(jStart c).1.v, bV (jStart c).2]) [] := by
  obtain ⟨op, pos, n, pg, bits⟩ := c
  have hc := c_refClass op
  have hn := cls_no (op := op)
  have sNo : ∀ {c : Cmd}, (jSize c = 0 ∨ c.n < 1 ∨ c.n > 4294967296) → jStart c = (Job.dflt, false) := fun h => by unfold jStart; rw [if_pos h]
  have sYes : ∀ {c : Cmd} {z : Int}, jSize c = z → z ≠ 0 → ¬ c.n < 1 → ¬ c.n > 4294967296 → jStart c = (⟨c, z * c.n, 0, [], sOk⟩, true) := fun h h1 h2 h3 => by unfold jStart; rw [if_neg (by omega), h]
  have z1 : (op = 21 ∨ op = 85) → jSize ⟨op, pos, n, pg, bits⟩ = 1 := fun h => by unfold jSize jSel; rw [if_pos (by rw [decide_eq_true h])]
  have z64 : ¬ (op = 21 ∨ op = 85) → (clsN op = 2 ∨ clsN op = 3 ∧ bits = 1) → jSize ⟨op, pos, n, pg, bits⟩ = 64 := fun h h2 => by unfold jSize jSel; rw [if_neg (by rw [decide_eq_false h]; decide), if_pos h2]
  have z0 : ¬ (op = 21 ∨ op = 85) → ¬ (clsN op = 2 ∨ clsN op = 3 ∧ bits = 1) → jSize ⟨op, pos, n, pg, bits⟩ = 0 := fun h h2 => by unfold jSize jSel; rw [if_neg (by rw [decide_eq_false h]; decide), if_neg h2]
  generalize clsN op = k at *
  dsimp only [Cmd.v] at *
  refine fn_vcI (N := 46) (d := 6) tabOk mixed inlJa_ok 6 Try.func19 rfl rfl rfl ?_
  repeat'
    (conv => whnf
     first
      | (exact trivial)
      | (refine And.intro (by with_reducible rfl) ?_)
      | (refine And.intro (drawI (by kernel_rfl)) ?_)
      | (refine andI ?_ ?_)
      | (refine condT (by assumption) ?_)
      | (refine condF (by assumption) ?_)
      | (refine decT (by assumption) ?_)
      | (refine decF (by assumption) ?_)
      | (refine eqT (by assumption) ?_)
      | (refine eqF (by assumption) ?_)
      | (refine neT (by assumption) ?_)
      | (refine neF (by assumption) ?_)
      | (refine cEq (fun h => ?_) (fun h => ?_))
      | (refine cNe (fun h => ?_) (fun h => ?_))
      | (refine cNot (fun h => ?_) (fun h => ?_))
      | (refine cDec (fun h => ?_) (fun h => ?_))
      | (refine condN_split (fun h => ?_) (fun h => ?_))
      | (refine Exists.intro _ (And.intro (hc) ?_))
      | (refine Exists.intro _ (And.intro rfl ?_))
      | (refine Or.inl (And.intro (by rfl : Nat.ble _ _ = true) ?_))
      | (refine Or.inl (And.intro Cl.lit ?_))
      | (refine Or.inr ?_)
      | (refine Exists.intro (1 : Nat) ?_)
      | (refine Exists.intro _ (And.intro rfl ?_))
      | (fail))
  all_goals try refine Side.mk ?_
  all_goals try dsimp only
  all_goals try refine eqI ?_
  all_goals first
    | (rw [sNo (.inr (by dsimp only; omega))]; rfl)
    | (rw [sNo (.inl (z0 (by omega) (by omega)))]; rfl)
    | (rw [sYes (z1 (by omega)) (by decide) (by dsimp only; omega) (by dsimp only; omega), wrap64 (by omega) (by omega)]; rfl)
    | (rw [sYes (z64 (by omega) (by omega)) (by decide) (by dsimp only; omega) (by dsimp only; omega), wrap64 (by omega) (by omega)]; rfl)
    | (rw [sYes (z1 (by omega)) (by decide) (by dsimp only; omega) (by dsimp only; omega), Int.one_mul]; rfl)
    | (rw [sYes (z64 (by omega) (by omega)) (by decide) (by dsimp only; omega) (by dsimp only; omega), wrap64 (by omega) (by omega), Int.mul_comm]; rfl)
    | (exfalso; omega)
def jRight (j : Job) : Bool := (jStart j.cmd).2 && (decide (j.len = (jStart j.cmd).1.len ∧ 0 ≤ j.took ∧ j.took ≤ j.len) && decide ((j.rest.length : Int) = if jSel j.cmd.op = true then j.took else j.took % 64))
theorem c_jRight (j : Job) : FnC Try.prog 14 [j.v] [] (bV (jRight j)) [] := by
  have hS := c_start j.cmd
  unfold jRight
  obtain ⟨c, len, took, rest, bad⟩ := j
  dsimp only at *
  generalize jStart c = st at *
  obtain ⟨⟨c2, len2, took2, rest2, bad2⟩, ok⟩ := st
  obtain ⟨op, pos, n, pg, bits⟩ := c
  dsimp only [Job.v, Cmd.v] at *
  have ht : 0 ≤ took → took.tmod 64 = took % 64 := fun h => Int.tmod_eq_emod_of_nonneg h
  cases ok
  all_goals refine fn_vcI (N := 47) (d := 6) tabOk mixed inlJa_ok 6 Try.func14 rfl rfl rfl ?_
  repeat'
    (conv => whnf
     first
      | (exact trivial)
      | (refine And.intro (by with_reducible rfl) ?_)
      | (refine And.intro (drawI (by kernel_rfl)) ?_)
      | (refine andI ?_ ?_)
      | (refine condT (by assumption) ?_)
      | (refine condF (by assumption) ?_)
      | (refine decT (by assumption) ?_)
      | (refine decF (by assumption) ?_)
      | (refine eqT (by assumption) ?_)
      | (refine eqF (by assumption) ?_)
      | (refine neT (by assumption) ?_)
      | (refine neF (by assumption) ?_)
      | (refine cEq (fun h => ?_) (fun h => ?_))
      | (refine cNe (fun h => ?_) (fun h => ?_))
      | (refine cNot (fun h => ?_) (fun h => ?_))
      | (refine cDec (fun h => ?_) (fun h => ?_))
      | (refine condN_split (fun h => ?_) (fun h => ?_))
      | (refine Exists.intro _ (And.intro (hS) ?_))
      | (refine Exists.intro _ (And.intro rfl ?_))
      | (refine Or.inl (And.intro (by rfl : Nat.ble _ _ = true) ?_))
      | (refine Or.inl (And.intro Cl.lit ?_))
      | (refine Or.inr ?_)
      | (refine Exists.intro (1 : Nat) ?_)
      | (refine Exists.intro _ (And.intro rfl ?_))
      | (fail))
  all_goals try refine Side.mk ?_
  all_goals try dsimp only
  all_goals try refine eqI ?_
  all_goals clear hS
  all_goals try rw [ht (by omega)]
  all_goals first
    | rfl
    | decide
    | (refine bool_close ?_
       simp only [len_b, jSel, Bool.and_eq_true, decide_eq_true_eq, beq_iff_eq, Bool.false_eq_true, false_iff, true_and]
       first
         | omega
         | (rw [if_pos (by omega)]; omega)
         | (rw [if_neg (by omega)]; omega)
         | (rw [if_pos (by assumption)]; omega)
         | (rw [if_neg (by assumption)]; omega))
theorem c_refJright (j : Job) : FnC Try.prog 15 [j.v] [] (bV (jRight j)) [] := by
  have hS := c_refStart j.cmd
  unfold jRight
  obtain ⟨c, len, took, rest, bad⟩ := j
  dsimp only at *
  generalize jStart c = st at *
  obtain ⟨⟨c2, len2, took2, rest2, bad2⟩, ok⟩ := st
  obtain ⟨op, pos, n, pg, bits⟩ := c
  dsimp only [Job.v, Cmd.v] at *
  have ht : 0 ≤ took → took.tmod 64 = took % 64 := fun h => Int.tmod_eq_emod_of_nonneg h
  cases ok
  all_goals refine fn_vcI (N := 55) (d := 6) tabOk mixed inlJa_ok 6 Try.func15 rfl rfl rfl ?_
  repeat'
    (conv => whnf
     first
      | (exact trivial)
      | (refine And.intro (by with_reducible rfl) ?_)
      | (refine And.intro (drawI (by kernel_rfl)) ?_)
      | (refine andI ?_ ?_)
      | (refine condT (by assumption) ?_)
      | (refine condF (by assumption) ?_)
      | (refine decT (by assumption) ?_)
      | (refine decF (by assumption) ?_)
      | (refine eqT (by assumption) ?_)
      | (refine eqF (by assumption) ?_)
      | (refine neT (by assumption) ?_)
      | (refine neF (by assumption) ?_)
      | (refine cEq (fun h => ?_) (fun h => ?_))
      | (refine cNe (fun h => ?_) (fun h => ?_))
      | (refine cNot (fun h => ?_) (fun h => ?_))
      | (refine cDec (fun h => ?_) (fun h => ?_))
      | (refine condN_split (fun h => ?_) (fun h => ?_))
      | (refine Exists.intro _ (And.intro (hS) ?_))
      | (refine Exists.intro _ (And.intro rfl ?_))
      | (refine Or.inl (And.intro (by rfl : Nat.ble _ _ = true) ?_))
      | (refine Or.inl (And.intro Cl.lit ?_))
      | (refine Or.inr ?_)
      | (refine Exists.intro (1 : Nat) ?_)
      | (refine Exists.intro _ (And.intro rfl ?_))
      | (fail))
  all_goals try refine Side.mk ?_
  all_goals try dsimp only
  all_goals try refine eqI ?_
  all_goals clear hS
  all_goals try rw [ht (by omega)]
  all_goals first
    | rfl
    | decide
    | (refine bool_close ?_
       simp only [len_b, jSel, Bool.and_eq_true, decide_eq_true_eq, beq_iff_eq, Bool.false_eq_true, false_iff, true_and]
       first
         | omega
         | (rw [if_pos (by omega)]; omega)
         | (rw [if_neg (by omega)]; omega)
         | (rw [if_pos (by assumption)]; omega)
         | (rw [if_neg (by assumption)]; omega))
end Go.Proofs.Ytbieiehfohldjaa
