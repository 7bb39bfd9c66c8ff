/-
  Layer 11: slots that are put in, taken out, kept in; intents.
-/
import Derived.Test.YtijinkikmglpcaamIe
import Derived.Test.YtijinkikmglpcaamJa
namespace Go.Proofs.Ytijinkikmglpcaa
open Go
set_option linter.unusedVariables false
set_option linter.unusedSimpArgs false
set_option maxRecDepth 100000
set_option maxHeartbeats 8000000

def sIns (s : Slt) : Slt × Bool := (⟨s.med, true, s.prot, s.latch⟩, !s.present)
noncomputable def inlId : List IRow := [(84, Try.f84, 12, 4, 0), (83, Try.f83, 7, 3, 0), (31, Try.f31, 8, 4, 0), (30, Try.f30, 6, 3, 0), (45, Try.f45, 2, 2, 0), (69, Try.f69, 8, 4, 0), (82, Try.f82, 2, 2, 0), (21, Try.f21, 11, 4, 0), (18, Try.f18, 5, 3, 0), (19, Try.f19, 5, 3, 0)]
theorem inlId_ok : IOk Try.prog (inlTab inlId) := inl_ok (by
  unfold inlId
  refine And.intro ⟨rfl, rfl, rfl, .inl rfl⟩ ?_
  refine And.intro ⟨rfl, rfl, rfl, .inl rfl⟩ ?_
  refine And.intro ⟨rfl, rfl, rfl, .inl rfl⟩ ?_
  refine And.intro ⟨rfl, rfl, rfl, .inl rfl⟩ ?_
  refine And.intro ⟨rfl, rfl, rfl, .inl rfl⟩ ?_
  refine And.intro ⟨rfl, rfl, rfl, .inl rfl⟩ ?_
  refine And.intro ⟨rfl, rfl, rfl, .inl rfl⟩ ?_
  refine And.intro ⟨rfl, rfl, rfl, .inl rfl⟩ ?_
  refine And.intro ⟨rfl, rfl, rfl, .inl rfl⟩ ?_
  refine And.intro ⟨rfl, rfl, rfl, .inl rfl⟩ ?_
  exact trivial)
theorem c_ready (s : Slt) : FnC Try.prog 31 [s.v] [] (sReady s).v [] := by
  obtain ⟨⟨bs, ds⟩, pr, pt, la⟩ := s
  unfold sReady
  dsimp only [Slt.v, Med.v]
  cases pr
  all_goals refine fn_vcI (N := 8) (d := 4) tabOk mixed inlId_ok 6 Try.func31 rfl rfl rfl ?_
  repeat'
    (conv => whnf
     first
      | (exact trivial)
      | (refine And.intro (by with_reducible rfl) ?_)
      | (refine And.intro (drawI (by kernel_rfl)) ?_)
      | (refine andI ?_ ?_)
      | (refine condT (by assumption) ?_)
      | (refine condF (by assumption) ?_)
      | (refine decT (by assumption) ?_)
      | (refine decF (by assumption) ?_)
      | (refine eqT (by assumption) ?_)
      | (refine eqF (by assumption) ?_)
      | (refine neT (by assumption) ?_)
      | (refine neF (by assumption) ?_)
      | (refine cEq (fun h => ?_) (fun h => ?_))
      | (refine cNe (fun h => ?_) (fun h => ?_))
      | (refine cNot (fun h => ?_) (fun h => ?_))
      | (refine cDec (fun h => ?_) (fun h => ?_))
      | (refine condN_split (fun h => ?_) (fun h => ?_))
      | (refine Exists.intro _ (And.intro rfl ?_))
      | (refine Or.inl (And.intro (by rfl : Nat.ble _ _ = true) ?_))
      | (refine Or.inl (And.intro Cl.lit ?_))
      | (refine Or.inr ?_)
      | (refine Exists.intro (1 : Nat) ?_)
      | (refine Exists.intro _ (And.intro rfl ?_))
      | (fail))
  all_goals try refine Side.mk ?_
  all_goals try dsimp only at *
  all_goals try refine eqI ?_
  all_goals rfl
theorem c_sins (s : Slt) : FnC Try.prog 57 [s.v] [] (.tup [(sIns s).1.v, bV (sIns s).2]) [] := by
  obtain ⟨⟨bs, ds⟩, pr, pt, la⟩ := s
  dsimp only [Slt.v, Med.v, sIns]
  refine fn_vcI (N := 11) (d := 4) tabOk mixed inlId_ok 6 Try.func57 rfl rfl rfl ?_
  repeat'
    (conv => whnf
     first
      | (exact trivial)
      | (refine And.intro (by with_reducible rfl) ?_)
      | (refine And.intro (drawI (by kernel_rfl)) ?_)
      | (refine andI ?_ ?_)
      | (refine condT (by assumption) ?_)
      | (refine condF (by assumption) ?_)
      | (refine decT (by assumption) ?_)
      | (refine decF (by assumption) ?_)
      | (refine eqT (by assumption) ?_)
      | (refine eqF (by assumption) ?_)
      | (refine neT (by assumption) ?_)
      | (refine neF (by assumption) ?_)
      | (refine cEq (fun h => ?_) (fun h => ?_))
      | (refine cNe (fun h => ?_) (fun h => ?_))
      | (refine cNot (fun h => ?_) (fun h => ?_))
      | (refine cDec (fun h => ?_) (fun h => ?_))
      | (refine condN_split (fun h => ?_) (fun h => ?_))
      | (refine Exists.intro _ (And.intro rfl ?_))
      | (refine Or.inl (And.intro (by rfl : Nat.ble _ _ = true) ?_))
      | (refine Or.inl (And.intro Cl.lit ?_))
      | (refine Or.inr ?_)
      | (refine Exists.intro (1 : Nat) ?_)
      | (refine Exists.intro _ (And.intro rfl ?_))
      | (fail))
  all_goals try refine Side.mk ?_
  all_goals try dsimp only at *
  all_goals try refine eqI ?_
  all_goals rfl
theorem c_sunload (s : Slt) : FnC Try.prog 60 [s.v] [] (.tup [(sUnload s).1.v, (sUnload s).2.v]) [] := by
  have hS := c_ssync s
  unfold sUnload
  have e1 : (sSync s).present = s.present ∧ (sSync s).prot = s.prot ∧ (sSync s).latch = s.latch := by unfold sSync; split <;> exact ⟨rfl, rfl, rfl⟩
  generalize sSync s = r at *
  obtain ⟨⟨bs, ds⟩, pr, pt, la⟩ := s
  obtain ⟨⟨bs2, ds2⟩, pr2, pt2, la2⟩ := r
  obtain ⟨q1, q2, q3⟩ := e1
  dsimp only [Slt.v, Med.v] at *
  subst q1 q2 q3
  cases pr2 <;> cases la2
  all_goals refine fn_vcI (N := 21) (d := 5) tabOk mixed inlId_ok 6 Try.func60 rfl rfl rfl ?_
  repeat'
    (conv => whnf
     first
      | (exact trivial)
      | (refine And.intro (by with_reducible rfl) ?_)
      | (refine And.intro (drawI (by kernel_rfl)) ?_)
      | (refine andI ?_ ?_)
      | (refine condT (by assumption) ?_)
      | (refine condF (by assumption) ?_)
      | (refine decT (by assumption) ?_)
      | (refine decF (by assumption) ?_)
      | (refine eqT (by assumption) ?_)
      | (refine eqF (by assumption) ?_)
      | (refine neT (by assumption) ?_)
      | (refine neF (by assumption) ?_)
      | (refine cEq (fun h => ?_) (fun h => ?_))
      | (refine cNe (fun h => ?_) (fun h => ?_))
      | (refine cNot (fun h => ?_) (fun h => ?_))
      | (refine cDec (fun h => ?_) (fun h => ?_))
      | (refine condN_split (fun h => ?_) (fun h => ?_))
      | (refine Exists.intro _ (And.intro (hS) ?_))
      | (refine Exists.intro _ (And.intro eq_sns ?_))
      | (refine Exists.intro _ (And.intro rfl ?_))
      | (refine Or.inl (And.intro (by rfl : Nat.ble _ _ = true) ?_))
      | (refine Or.inl (And.intro Cl.lit ?_))
      | (refine Or.inr ?_)
      | (refine Exists.intro (1 : Nat) ?_)
      | (refine Exists.intro _ (And.intro rfl ?_))
      | (fail))
  all_goals try refine Side.mk ?_
  all_goals try dsimp only at *
  all_goals try refine eqI ?_
  all_goals rfl
theorem c_skeep (s : Slt) (b : Bool) : FnC Try.prog 38 [s.v, bV b] [] (.tup [(sKeep s b).1.v, (sKeep s b).2.v]) [] := by
  unfold sKeep
  obtain ⟨⟨bs, ds⟩, pr, pt, la⟩ := s
  dsimp only [Slt.v, Med.v]
  cases pr
  all_goals refine fn_vcI (N := 15) (d := 4) tabOk mixed inlId_ok 6 Try.func38 rfl rfl rfl ?_
  repeat'
    (conv => whnf
     first
      | (exact trivial)
      | (refine And.intro (by with_reducible rfl) ?_)
      | (refine And.intro (drawI (by kernel_rfl)) ?_)
      | (refine andI ?_ ?_)
      | (refine condT (by assumption) ?_)
      | (refine condF (by assumption) ?_)
      | (refine decT (by assumption) ?_)
      | (refine decF (by assumption) ?_)
      | (refine eqT (by assumption) ?_)
      | (refine eqF (by assumption) ?_)
      | (refine neT (by assumption) ?_)
      | (refine neF (by assumption) ?_)
      | (refine cEq (fun h => ?_) (fun h => ?_))
      | (refine cNe (fun h => ?_) (fun h => ?_))
      | (refine cNot (fun h => ?_) (fun h => ?_))
      | (refine cDec (fun h => ?_) (fun h => ?_))
      | (refine condN_split (fun h => ?_) (fun h => ?_))
      | (refine Exists.intro _ (And.intro eq_sns ?_))
      | (refine Exists.intro _ (And.intro rfl ?_))
      | (refine Or.inl (And.intro (by rfl : Nat.ble _ _ = true) ?_))
      | (refine Or.inl (And.intro Cl.lit ?_))
      | (refine Or.inr ?_)
      | (refine Exists.intro (1 : Nat) ?_)
      | (refine Exists.intro _ (And.intro rfl ?_))
      | (fail))
  all_goals try refine Side.mk ?_
  all_goals try dsimp only at *
  all_goals try refine eqI ?_
  all_goals rfl
def iNone (s : Sns) : Itt := ⟨0, 0, [], Job.dflt, s⟩
def iIn (b : BS) (s : Sns) : Itt := if s.good = true ∧ b ≠ [] then ⟨1, b.length, b, Job.dflt, sOk⟩ else iNone s
def iOut (c : Cmd) (s : Sns) : Itt := if (jStart c).2 = true ∧ s.good = true then ⟨2, (jStart c).1.len, [], (jStart c).1, sOk⟩ else iNone s
theorem good_eq {s : Sns} {q : Bool} (h : ((s.key == 0) && ((s.code == 0) && ((s.qual == 0) && true))) = q) : s.good = q := h
theorem c_iIn (b : BS) (s : Sns) : FnC Try.prog 16 [bsV b, s.v] [] (iIn b s).v [] := by
  have f1 : s.good = false → iIn b s = iNone s := fun h => by unfold iIn; rw [if_neg (by rw [h]; simp)]
  have f2 : b.length = 0 → iIn b s = iNone s := fun h => by unfold iIn; rw [if_neg (by simp [List.eq_nil_of_length_eq_zero h])]
  have f3 : s.good = true → b.length ≠ 0 → iIn b s = ⟨1, b.length, b, Job.dflt, sOk⟩ := fun h h2 => by unfold iIn; rw [if_pos ⟨h, fun e => h2 (by rw [e]; rfl)⟩]
  generalize iIn b s = r at *
  obtain ⟨a1, a2, a3⟩ := s
  dsimp only [Sns.v] at *
  refine fn_vcI (N := 19) (d := 5) tabOk mixed inlId_ok 6 Try.func16 rfl rfl rfl ?_
  repeat'
    (conv => whnf
     first
      | (exact trivial)
      | (refine And.intro (by with_reducible rfl) ?_)
      | (refine And.intro (drawI (by kernel_rfl)) ?_)
      | (refine andI ?_ ?_)
      | (refine condT (by assumption) ?_)
      | (refine condF (by assumption) ?_)
      | (refine decT (by assumption) ?_)
      | (refine decF (by assumption) ?_)
      | (refine eqT (by assumption) ?_)
      | (refine eqF (by assumption) ?_)
      | (refine neT (by assumption) ?_)
      | (refine neF (by assumption) ?_)
      | (refine cEq (fun h => ?_) (fun h => ?_))
      | (refine cNe (fun h => ?_) (fun h => ?_))
      | (refine cNot (fun h => ?_) (fun h => ?_))
      | (refine cDec (fun h => ?_) (fun h => ?_))
      | (refine condN_split (fun h => ?_) (fun h => ?_))
      | (refine Exists.intro _ (And.intro eq_sns ?_))
      | (refine Exists.intro _ (And.intro rfl ?_))
      | (refine Or.inl (And.intro (by rfl : Nat.ble _ _ = true) ?_))
      | (refine Or.inl (And.intro Cl.lit ?_))
      | (refine Or.inr ?_)
      | (refine Exists.intro (1 : Nat) ?_)
      | (refine Exists.intro _ (And.intro rfl ?_))
      | (fail))
  all_goals try refine Side.mk ?_
  all_goals try dsimp only at *
  all_goals try refine eqI ?_
  all_goals try simp only [len_b] at *
  all_goals first
    | (rw [f1 (by assumption)]; first | done | rfl)
    | (rw [f2 (by omega)]; first | done | rfl)
    | (rw [f3 (by assumption) (by omega)]; first | done | rfl)
    | (set_option pp.maxSteps 600 in trace_state; sorry)
theorem c_refIn11 (b : BS) (s : Sns) : FnC Try.prog 17 [bsV b, s.v] [] (iIn b s).v [] := by
  have f1 : s.good = false → iIn b s = iNone s := fun h => by unfold iIn; rw [if_neg (by rw [h]; simp)]
  have f2 : b.length = 0 → iIn b s = iNone s := fun h => by unfold iIn; rw [if_neg (by simp [List.eq_nil_of_length_eq_zero h])]
  have f3 : s.good = true → b.length ≠ 0 → iIn b s = ⟨1, b.length, b, Job.dflt, sOk⟩ := fun h h2 => by unfold iIn; rw [if_pos ⟨h, fun e => h2 (by rw [e]; rfl)⟩]
  generalize iIn b s = r at *
  obtain ⟨a1, a2, a3⟩ := s
  dsimp only [Sns.v] at *
  refine fn_vcI (N := 19) (d := 5) tabOk mixed inlId_ok 6 Try.func17 rfl rfl rfl ?_
  repeat'
    (conv => whnf
     first
      | (exact trivial)
      | (refine And.intro (by with_reducible rfl) ?_)
      | (refine And.intro (drawI (by kernel_rfl)) ?_)
      | (refine andI ?_ ?_)
      | (refine condT (by assumption) ?_)
      | (refine condF (by assumption) ?_)
      | (refine decT (by assumption) ?_)
      | (refine decF (by assumption) ?_)
      | (refine eqT (by assumption) ?_)
      | (refine eqF (by assumption) ?_)
      | (refine neT (by assumption) ?_)
      | (refine neF (by assumption) ?_)
      | (refine cEq (fun h => ?_) (fun h => ?_))
      | (refine cNe (fun h => ?_) (fun h => ?_))
      | (refine cNot (fun h => ?_) (fun h => ?_))
      | (refine cDec (fun h => ?_) (fun h => ?_))
      | (refine condN_split (fun h => ?_) (fun h => ?_))
      | (refine Exists.intro _ (And.intro eq_sns ?_))
      | (refine Exists.intro _ (And.intro rfl ?_))
      | (refine Or.inl (And.intro (by rfl : Nat.ble _ _ = true) ?_))
      | (refine Or.inl (And.intro Cl.lit ?_))
      | (refine Or.inr ?_)
      | (refine Exists.intro (1 : Nat) ?_)
      | (refine Exists.intro _ (And.intro rfl ?_))
      | (fail))
  all_goals try refine Side.mk ?_
  all_goals try dsimp only at *
  all_goals try refine eqI ?_
  all_goals try simp only [len_b] at *
  all_goals first
    | (rw [f1 (by assumption)]; first | done | rfl)
    | (rw [f2 (by omega)]; first | done | rfl)
    | (rw [f3 (by assumption) (by omega)]; first | done | rfl)
    | (set_option pp.maxSteps 600 in trace_state; sorry)
theorem c_iout (c : Cmd) (s : Sns) : FnC Try.prog 35 [c.v, s.v] [] (iOut c s).v [] := by
  have hS := c_start c
  have f1 : (jStart c).2 = false → iOut c s = iNone s := fun h => by unfold iOut; rw [if_neg (by rw [h]; simp)]
  have f2 : s.good = false → iOut c s = iNone s := fun h => by unfold iOut; rw [if_neg (by rw [h]; simp)]
  have f3 : (jStart c).2 = true → s.good = true → iOut c s = ⟨2, (jStart c).1.len, [], (jStart c).1, sOk⟩ := fun h h2 => by unfold iOut; rw [if_pos ⟨h, h2⟩]
  generalize iOut c s = r at *
  generalize jStart c = st at *
  obtain ⟨⟨⟨o1, o2, o3, o4, o5⟩, len, took, rest, b1, b2, b3⟩, ok⟩ := st
  obtain ⟨a1, a2, a3⟩ := s
  obtain ⟨op, pos, n, pg, bits⟩ := c
  dsimp only [Sns.v, Cmd.v, Job.v] at *
  cases ok
  all_goals refine fn_vcI (N := 25) (d := 5) tabOk mixed inlId_ok 6 Try.func35 rfl rfl rfl ?_
  repeat'
    (conv => whnf
     first
      | (exact trivial)
      | (refine And.intro (by with_reducible rfl) ?_)
      | (refine And.intro (drawI (by kernel_rfl)) ?_)
      | (refine andI ?_ ?_)
      | (refine condT (by assumption) ?_)
      | (refine condF (by assumption) ?_)
      | (refine decT (by assumption) ?_)
      | (refine decF (by assumption) ?_)
      | (refine eqT (by assumption) ?_)
      | (refine eqF (by assumption) ?_)
      | (refine neT (by assumption) ?_)
      | (refine neF (by assumption) ?_)
      | (refine cEq (fun h => ?_) (fun h => ?_))
      | (refine cNe (fun h => ?_) (fun h => ?_))
      | (refine cNot (fun h => ?_) (fun h => ?_))
      | (refine cDec (fun h => ?_) (fun h => ?_))
      | (refine condN_split (fun h => ?_) (fun h => ?_))
      | (refine Exists.intro _ (And.intro (hS) ?_))
      | (refine Exists.intro _ (And.intro eq_sns ?_))
      | (refine Exists.intro _ (And.intro rfl ?_))
      | (refine Or.inl (And.intro (by rfl : Nat.ble _ _ = true) ?_))
      | (refine Or.inl (And.intro Cl.lit ?_))
      | (refine Or.inr ?_)
      | (refine Exists.intro (1 : Nat) ?_)
      | (refine Exists.intro _ (And.intro rfl ?_))
      | (fail))
  all_goals try refine Side.mk ?_
  all_goals try dsimp only at *
  all_goals try refine eqI ?_
  all_goals first
    | (rw [f1 rfl]; first | done | rfl)
    | (rw [f2 (by assumption)]; first | done | rfl)
    | (rw [f3 rfl (by assumption)]; first | done | rfl)
    | (set_option pp.maxSteps 600 in trace_state; sorry)
end Go.Proofs.Ytijinkikmglpcaa
