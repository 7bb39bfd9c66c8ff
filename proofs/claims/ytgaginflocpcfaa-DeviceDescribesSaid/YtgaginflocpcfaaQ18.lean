/-
  What every device answers (layer 18): the document's functions.
-/
import Derived.Test.YtgaginflocpcfaaP18
namespace Go.Proofs.Ytgaginflocpcfaa
open Go
set_option linter.unusedVariables false
set_option linter.unusedSimpArgs false
set_option maxRecDepth 100000
set_option maxHeartbeats 4000000

noncomputable def inl18r : List IRow := [(37, Try.f37, 25, 5), (36, Try.f36, 7, 3), (33, Try.f33, 50, 6), (34, Try.f34, 38, 6), (35, Try.f35, 35, 6), (22, Try.f22, 269, 9)]
theorem inl18r_ok : IOk Try.prog (inlTab inl18r) := inl_ok (by
  unfold inl18r
  repeat' (first | exact trivial | refine And.intro (And.intro rfl (And.intro rfl rfl)) ?_))
attribute [local irreducible] askOf dGet dHas dOwn dPlace mayOk dataK haltE
theorem c_halted (h n : Int) (hn : Side (n = 0 ∨ n = 1 ∨ n = 2 ∨ n = 3 ∨ n = 4)) : FnC Try.prog 45 [i64 h, i64 n] [] (bV (decide (n ≠ 0 ∧ dBit (h % 18446744073709551616) n = 1))) [] := by
  have hn := hn.h
  rcases hn with rfl | rfl | rfl | rfl | rfl
  all_goals refine fn_vcI (N := 20) (d := 5) tabOk mixed inl18r_ok 3 Try.func45 rfl rfl rfl ?_
  repeat'
    (conv => whnf
     first
      | (exact trivial)
      | (refine And.intro (by with_reducible rfl) ?_)
      | (refine And.intro (drawI (by kernel_rfl)) ?_)
      | (refine andI ?_ ?_)
      | (refine condT (by assumption) ?_)
      | (refine condF (by assumption) ?_)
      | (refine decT (by assumption) ?_)
      | (refine decF (by assumption) ?_)
      | (refine eqT (by assumption) ?_)
      | (refine eqF (by assumption) ?_)
      | (refine neT (by assumption) ?_)
      | (refine neF (by assumption) ?_)
      | (refine condT (by decide) ?_)
      | (refine condF (by decide) ?_)
      | (refine cEq (fun h => ?_) (fun h => ?_))
      | (refine cNe (fun h => ?_) (fun h => ?_))
      | (refine cNot (fun h => ?_) (fun h => ?_))
      | (refine cDec (fun h => ?_) (fun h => ?_))
      | (refine condN_split (fun h => ?_) (fun h => ?_))
      | (refine Exists.intro _ (And.intro rfl ?_))
      | (refine loop_unr tabOk (ceN_sound tabOk mixed inl18r_ok _) mixed 6 ?_)
      | (refine Or.inl (And.intro (by kernel_rfl : Nat.ble _ _ = true) ?_))
      | (refine Or.inl (And.intro Cl.lit ?_))
      | (refine Or.inr ?_)
      | (refine Exists.intro (1 : Nat) ?_)
      | (fail))
  all_goals try refine Side.mk ?_
  all_goals try dsimp only at *
  all_goals try refine eqI ?_
  all_goals first | decide | skip
  all_goals (refine bool_close ?_; rw [Bool.eq_iff_iff]; try simp (disch := decide) only [Int.fdiv_eq_ediv_of_nonneg])
  all_goals simp only [and1, dBit, beq_iff_eq, decide_eq_true_eq]
  all_goals try simp only [show (2:Int) ^ min (Int.toNat 1) IntKind.i64.bits = 2 from rfl, show (2:Int) ^ min (Int.toNat 2) IntKind.i64.bits = 4 from rfl, show (2:Int) ^ min (Int.toNat 3) IntKind.i64.bits = 8 from rfl, show (2:Int) ^ min (Int.toNat 4) IntKind.i64.bits = 16 from rfl]
  all_goals simp only [ne_eq, Int.reduceEq, not_false_eq_true, true_and, if_false, if_true, not_true_eq_false, false_and, Bool.false_eq_true]
  all_goals simp only [iff_true, decide_eq_true_eq]
  all_goals try omega
def anyAsk (t c : Int) : Prop := (t = 128 ∧ c = 0) ∨ (t = 129 ∧ c = 0) ∨ (t = 130 ∧ c = 0) ∨ (t = 2 ∧ c = 1) ∨ (t = 2 ∧ c = 3) ∨ (t = 0 ∧ c = 5) ∨ (t = 128 ∧ c = 6) ∨ (t = 128 ∧ c = 8) ∨ (t = 0 ∧ c = 9) ∨ (t = 129 ∧ c = 10) ∨ (t = 1 ∧ c = 11) ∨ (t = 161 ∧ c = 254) ∨ (t = 33 ∧ c = 255)
theorem askOf_none {t c : Int} (h : ¬ anyAsk t c) : askOf t c = 0 := by
  simp only [anyAsk, not_or] at h
  obtain ⟨h1, h2, h3, h4, h5, h6, h7, h8, h9, h10, h11, h12, h13⟩ := h
  unfold askOf
  rw [if_neg h1, if_neg h2, if_neg h3, if_neg h4, if_neg h5, if_neg h6, if_neg h7, if_neg h8, if_neg h9, if_neg h10, if_neg h11, if_neg h12, if_neg h13]
end Go.Proofs.Ytgaginflocpcfaa
