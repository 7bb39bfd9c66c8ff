/-
  Descriptors (layer 14): the laws' functions.
-/
import Derived.Test.YtgkcdahnmkbldaaD14
namespace Go.Proofs.Ytgkcdahnmkbldaa
open Go
set_option linter.unusedVariables false
set_option linter.unusedSimpArgs false
set_option maxRecDepth 100000
set_option maxHeartbeats 2000000

theorem c_partsA : FnC Try.prog 12 [.sl 1 [[V.lit (.int .u8 2)], [V.lit (.int .u8 9)], [V.lit (.int .u8 3)], [V.lit (.int .u8 8)], [V.lit (.int .u8 7)]]] [] (.tup [.sl 1 [[bsV [2, 9]], [bsV [3, 8, 7]]], bV true]) [] := by
  have h := c_parts [2, 9, 3, 8, 7] ⟨by decide⟩
  rw [show dParts [2, 9, 3, 8, 7] = ([[2, 9], [3, 8, 7]], true) from rfl] at h
  exact h
theorem c_get30 : FnC Try.prog 8 [i64 3, i64 0] [] (.tup [bsV [4, 3, 9, 4], bV true]) [] := c_get 3 0
theorem c_get31 : FnC Try.prog 8 [i64 3, i64 1] [] (.tup [bsV dText1, bV true]) [] := c_get 3 1
theorem c_get32 : FnC Try.prog 8 [i64 3, i64 2] [] (.tup [bsV dText2, bV true]) [] := c_get 3 2
theorem c_get33 : FnC Try.prog 8 [i64 3, i64 3] [] (.tup [bsV dText3, bV true]) [] := c_get 3 3
theorem c_get10 : FnC Try.prog 8 [i64 1, i64 0] [] (.tup [bsV [18, 1, 0x10, 2, 0, 0, 0, 64, 9, 0x12, 0x13, 0x71, 0, 1, 1, 2, 3, 1], bV true]) [] := c_get 1 0
theorem c_get60 : FnC Try.prog 8 [i64 6, i64 0] [] (.tup [bsV [], bV false]) [] := c_get 6 0
theorem c_uses1 : FnC Try.prog 10 [i64 1, i64 131] [] (bV true) [] := c_uses 1 131
theorem c_uses0 : FnC Try.prog 10 [i64 0, i64 131] [] (bV false) [] := c_uses 0 131
theorem c_alive14 : FnC Try.prog 7 [] [] (bV true) [] := by
  refine fn_vcI (N := 72) (d := 7) tabOk mixed inlP_ok 2 Try.func7 rfl rfl rfl ?_
  repeat'
    (conv => whnf
     first
      | (exact trivial)
      | (refine And.intro (by with_reducible rfl) ?_)
      | (refine And.intro (drawI (by kernel_rfl)) ?_)
      | (refine andI ?_ ?_)
      | (refine condT (by assumption) ?_)
      | (refine condF (by assumption) ?_)
      | (refine decT (by assumption) ?_)
      | (refine decF (by assumption) ?_)
      | (refine eqT (by assumption) ?_)
      | (refine eqF (by assumption) ?_)
      | (refine neT (by assumption) ?_)
      | (refine neF (by assumption) ?_)
      | (refine cEq (fun h => ?_) (fun h => ?_))
      | (refine cNe (fun h => ?_) (fun h => ?_))
      | (refine cNot (fun h => ?_) (fun h => ?_))
      | (refine cDec (fun h => ?_) (fun h => ?_))
      | (refine condN_split (fun h => ?_) (fun h => ?_))
      | (refine Exists.intro _ (And.intro (c_get33) ?_))
      | (refine Exists.intro _ (And.intro (c_get10) ?_))
      | (refine Exists.intro _ (And.intro (c_get60) ?_))
      | (refine Exists.intro _ (And.intro (c_partsA) ?_))
      | (refine Exists.intro _ (And.intro (c_uses1) ?_))
      | (refine Exists.intro _ (And.intro (c_uses0) ?_))
      | (refine Exists.intro _ (And.intro (by first | rfl | ((conv => lhs; simp only [nil_b, rp_bls, or_bls, len_bls, snoc_bls, rp_nil, rp_app, rp_b, or_nil, or_app, or_b, len_b, take_b, drop_b, rep_b, app_b, List.length_append, List.length_take, List.length_drop, List.length_nil, List.drop_zero, List.take_length, List.nil_append, List.append_nil, Int.toNat_natCast, toNat_min, take_min, and_true, true_and, and_self]) <;> rfl)) ?_))
      | (refine Exists.intro _ (And.intro rfl ?_))
      | (refine Or.inl (And.intro Cl.lit ?_))
      | (refine Or.inr ?_)
      | (refine Exists.intro 1 ?_))
  all_goals try refine Side.mk ?_
  all_goals try dsimp only at *
  all_goals try refine eqI ?_
  all_goals try rfl
  all_goals try decide
  all_goals try refine rn_plain ?_
  all_goals try simp (disch := omega) only [wrap64, Int.zero_add, Int.sub_zero, Int.add_zero, List.take_succ_cons, List.take_zero, List.take_nil, List.cons_append, List.length_cons, List.length_nil, rp_cons, or_cons, List.all_cons, List.all_nil, kfc, V.one, one_int, one_bool, one_str, Bool.and_true, Bool.and_self, List.append_assoc, nil_b, rp_bls, or_bls, len_bls, snoc_bls, rp_nil, rp_app, rp_b, or_nil, or_app, or_b, len_b, take_b, drop_b, rep_b, app_b, List.length_append, List.length_take, List.length_drop, List.length_nil, List.drop_zero, List.take_length, List.nil_append, List.append_nil, Int.toNat_natCast, toNat_min, take_min, and_true, true_and, and_self] at *
  all_goals try omega
  all_goals try rfl
  all_goals try (simp; done)
  all_goals try decide
  all_goals set_option pp.maxSteps 1500 in trace_state
attribute [local irreducible] dGet dUses dParts
theorem c_descGets (k i : Int) : FnC Try.prog 3 [i64 k, i64 i] [] (bV true) [] := by
  refine fn_vcI (N := 42) (d := 6) tabOk mixed inlP_ok 2 Try.func3 rfl rfl rfl ?_
  repeat'
    (conv => whnf
     first
      | (exact trivial)
      | (refine And.intro (by with_reducible rfl) ?_)
      | (refine And.intro (drawI (by kernel_rfl)) ?_)
      | (refine andI ?_ ?_)
      | (refine condT (by assumption) ?_)
      | (refine condF (by assumption) ?_)
      | (refine decT (by assumption) ?_)
      | (refine decF (by assumption) ?_)
      | (refine eqT (by assumption) ?_)
      | (refine eqF (by assumption) ?_)
      | (refine neT (by assumption) ?_)
      | (refine neF (by assumption) ?_)
      | (refine cEq (fun h => ?_) (fun h => ?_))
      | (refine cNe (fun h => ?_) (fun h => ?_))
      | (refine cNot (fun h => ?_) (fun h => ?_))
      | (refine cDec (fun h => ?_) (fun h => ?_))
      | (refine condN_split (fun h => ?_) (fun h => ?_))
      | (refine Exists.intro _ (And.intro (c_alive14) ?_))
      | (refine Exists.intro _ (And.intro (c_get _ _) ?_))
      | (refine Exists.intro _ (And.intro (c_refGet _ _) ?_))
      | (refine Exists.intro _ (And.intro (c_uses _ _) ?_))
      | (refine Exists.intro _ (And.intro (c_refUses _ _) ?_))
      | (refine Exists.intro _ (And.intro (by first | rfl | ((conv => lhs; simp only [nil_b, rp_bls, or_bls, len_bls, snoc_bls, rp_nil, rp_app, rp_b, or_nil, or_app, or_b, len_b, take_b, drop_b, rep_b, app_b, List.length_append, List.length_take, List.length_drop, List.length_nil, List.drop_zero, List.take_length, List.nil_append, List.append_nil, Int.toNat_natCast, toNat_min, take_min, and_true, true_and, and_self]) <;> rfl)) ?_))
      | (refine Or.inl (And.intro Cl.lit ?_))
      | (refine Or.inr ?_)
      | (refine Exists.intro 1 ?_))
  all_goals try refine Side.mk ?_
  all_goals try dsimp only at *
  all_goals try refine eqI ?_
  all_goals first
    | (exfalso; simp_all; done)
    | (simp only [beq_self_eq_true]; done)
    | (simp; done)
theorem c_descParts (b : BS) : FnC Try.prog 4 [bsV b] [] (bV true) [] := by
  have hl := dParts_len b
  have hf := dParts_flat b
  refine fn_vcI (N := 62) (d := 6) tabOk mixed inlP_ok 2 Try.func4 rfl rfl rfl ?_
  repeat'
    (conv => whnf
     first
      | (exact trivial)
      | (refine And.intro (by with_reducible rfl) ?_)
      | (refine And.intro (drawI (by kernel_rfl)) ?_)
      | (refine andI ?_ ?_)
      | (refine condT (by assumption) ?_)
      | (refine condF (by assumption) ?_)
      | (refine decT (by assumption) ?_)
      | (refine decF (by assumption) ?_)
      | (refine eqT (by assumption) ?_)
      | (refine eqF (by assumption) ?_)
      | (refine neT (by assumption) ?_)
      | (refine neF (by assumption) ?_)
      | (refine cEq (fun h => ?_) (fun h => ?_))
      | (refine cNe (fun h => ?_) (fun h => ?_))
      | (refine cNot (fun h => ?_) (fun h => ?_))
      | (refine cDec (fun h => ?_) (fun h => ?_))
      | (refine condN_split (fun h => ?_) (fun h => ?_))
      | (refine Exists.intro _ (And.intro (c_alive14) ?_))
      | (refine Exists.intro _ (And.intro (c_parts _ ?_) ?_))
      | (refine Exists.intro _ (And.intro (c_refParts _ ?_) ?_))
      | (refine Exists.intro _ (And.intro (c_same _ ?_) ?_))
      | (refine Exists.intro _ (And.intro (by first | rfl | ((conv => lhs; simp only [nil_b, rp_bls, or_bls, len_bls, snoc_bls, rp_nil, rp_app, rp_b, or_nil, or_app, or_b, len_b, take_b, drop_b, rep_b, app_b, List.length_append, List.length_take, List.length_drop, List.length_nil, List.drop_zero, List.take_length, List.nil_append, List.append_nil, Int.toNat_natCast, toNat_min, take_min, and_true, true_and, and_self]) <;> rfl)) ?_))
      | (refine Or.inl (And.intro Cl.lit ?_))
      | (refine Or.inr ?_)
      | (refine Exists.intro 1 ?_))
  all_goals try refine Side.mk ?_
  all_goals try dsimp only at *
  all_goals try refine eqI ?_
  all_goals try simp only [len_b] at *
  all_goals try omega
  all_goals try (exfalso; simp_all; done)
  all_goals conv => whnf
  all_goals refine loop_w tabOk (ceN_sound tabOk mixed inlP_ok 2) mixed 9 (X := Nat) 0 (fun k => [(8, i64 (k : Nat)), (7, .win 0 1 0 ((dParts b).1.take k).flatten.length ((dParts b).1.take k).flatten.length)]) (fun k => [(0, true, ⟨1, byteRows ((dParts b).1.take k).flatten, false⟩)]) 1 (fun k => k ≤ (dParts b).1.length) (fun k => (dParts b).1.length - k) (Nat.zero_le _) ?_ ?_
  · repeat'
      (conv => whnf
       first
        | (exact trivial)
        | (refine And.intro (by with_reducible rfl) ?_)
        | (refine And.intro (drawI (by kernel_rfl)) ?_)
        | (refine andI ?_ ?_)
        | (refine condT (by assumption) ?_)
        | (refine condF (by assumption) ?_)
        | (refine decT (by assumption) ?_)
        | (refine decF (by assumption) ?_)
        | (refine eqT (by assumption) ?_)
        | (refine eqF (by assumption) ?_)
        | (refine neT (by assumption) ?_)
        | (refine neF (by assumption) ?_)
        | (refine cEq (fun h => ?_) (fun h => ?_))
        | (refine cNe (fun h => ?_) (fun h => ?_))
        | (refine cNot (fun h => ?_) (fun h => ?_))
        | (refine cDec (fun h => ?_) (fun h => ?_))
        | (refine condN_split (fun h => ?_) (fun h => ?_))
        | (refine Or.inl (And.intro Cl.lit ?_))
        | (refine Or.inr ?_)
        | (refine Exists.intro 1 ?_))
    all_goals try refine Side.mk ?_
    all_goals try dsimp only at *
    all_goals try refine eqI ?_
    all_goals rfl
  · rintro k h1
    repeat'
      (conv => whnf
       first
        | (exact trivial)
        | (refine And.intro (by with_reducible rfl) ?_)
        | (refine And.intro (drawI (by kernel_rfl)) ?_)
        | (refine andI ?_ ?_)
        | (refine condT (by assumption) ?_)
        | (refine condF (by assumption) ?_)
        | (refine decT (by assumption) ?_)
        | (refine decF (by assumption) ?_)
        | (refine eqT (by assumption) ?_)
        | (refine eqF (by assumption) ?_)
        | (refine neT (by assumption) ?_)
        | (refine neF (by assumption) ?_)
        | (refine cEq (fun h => ?_) (fun h => ?_))
        | (refine cNe (fun h => ?_) (fun h => ?_))
        | (refine cNot (fun h => ?_) (fun h => ?_))
        | (refine cDec (fun h => ?_) (fun h => ?_))
        | (refine condN_split (fun h => ?_) (fun h => ?_))
        | (refine Exists.intro _ (And.intro (bls_get ?_) ?_))
        | (refine Exists.intro _ (And.intro (by first | rfl | ((conv => lhs; simp only [nil_b, rp_bls, or_bls, len_bls, snoc_bls, rp_nil, rp_app, rp_b, or_nil, or_app, or_b, len_b, take_b, drop_b, rep_b, app_b, List.length_append, List.length_take, List.length_drop, List.length_nil, List.drop_zero, List.take_length, List.nil_append, List.append_nil, Int.toNat_natCast, toNat_min, take_min, and_true, true_and, and_self]) <;> rfl)) ?_))
        | (refine Exists.intro (k + 1) (andI ?_ (andI ?_ ?_)))
        | (refine Or.inl (And.intro Cl.lit ?_))
        | (refine Or.inr ?_)
        | (refine Exists.intro 1 ?_))
    all_goals try refine Side.mk ?_
    all_goals try dsimp only at *
    all_goals try refine eqI ?_
    all_goals try rfl
    all_goals try decide
    all_goals try refine rn_plain ?_
    all_goals try simp (disch := omega) only [wrap64, Int.zero_add, Int.sub_zero, Int.add_zero, List.take_succ_cons, List.take_zero, List.take_nil, List.cons_append, List.length_cons, List.length_nil, rp_cons, or_cons, List.all_cons, List.all_nil, kfc, V.one, one_int, one_bool, one_str, Bool.and_true, Bool.and_self, List.append_assoc, nil_b, rp_bls, or_bls, len_bls, snoc_bls, rp_nil, rp_app, rp_b, or_nil, or_app, or_b, len_b, take_b, drop_b, rep_b, app_b, List.length_append, List.length_take, List.length_drop, List.length_nil, List.drop_zero, List.take_length, List.nil_append, List.append_nil, Int.toNat_natCast, toNat_min, take_min, and_true, true_and, and_self, Int.toNat_natCast, gt_iff_lt] at *
    all_goals try omega
    all_goals try rfl
    all_goals try (simp; done)
    all_goals try decide
    all_goals have hk := hf (k + 1)
    all_goals first
      | (rw [flat_take (by omega), List.length_append] at hk; omega)
      | (rw [flat_take (by omega), List.length_append]; done)
      | (rw [flat_take (by omega)]; done)
      | (exfalso; have := dParts_no (by assumption); rw [this] at h; simp at h; done)
      | (rw [List.take_of_length_le (by omega), (dParts_yes (by assumption)).1]; simp; done)
theorem c_getN (i : Int) (n0 : i ≠ 0) (n1 : i ≠ 1) (n2 : i ≠ 2) (n3 : i ≠ 3) : FnC Try.prog 8 [i64 3, i64 i] [] (.tup [bsV [], bV false]) [] := by
  have h := c_get 3 i
  rw [show dGet 3 i = ([], false) from by unfold dGet; rw [if_pos rfl, if_neg n0, if_neg n1, if_neg n2, if_neg n3]] at h
  exact h
theorem c_descStrings (i : Int) : FnC Try.prog 6 [i64 i] [] (bV true) [] := by
  have key : ∀ x : Int, (x = 0 ∨ x = 1 ∨ x = 2 ∨ x = 3 ∨ (x ≠ 0 ∧ x ≠ 1 ∧ x ≠ 2 ∧ x ≠ 3)) := fun x => by omega
  rcases key i with rfl | rfl | rfl | rfl | ⟨n0, n1, n2, n3⟩
  all_goals refine fn_vcI (N := 87) (d := 7) tabOk mixed inlP_ok 2 Try.func6 rfl rfl rfl ?_
  repeat'
    (conv => whnf
     first
      | (exact trivial)
      | (refine And.intro (by with_reducible rfl) ?_)
      | (refine And.intro (drawI (by kernel_rfl)) ?_)
      | (refine andI ?_ ?_)
      | (refine condT (by assumption) ?_)
      | (refine condF (by assumption) ?_)
      | (refine decT (by assumption) ?_)
      | (refine decF (by assumption) ?_)
      | (refine eqT (by assumption) ?_)
      | (refine eqF (by assumption) ?_)
      | (refine neT (by assumption) ?_)
      | (refine neF (by assumption) ?_)
      | (refine cEq (fun h => ?_) (fun h => ?_))
      | (refine cNe (fun h => ?_) (fun h => ?_))
      | (refine cNot (fun h => ?_) (fun h => ?_))
      | (refine cDec (fun h => ?_) (fun h => ?_))
      | (refine condN_split (fun h => ?_) (fun h => ?_))
      | (refine Exists.intro _ (And.intro (c_alive14) ?_))
      | (refine Exists.intro _ (And.intro (c_get30) ?_))
      | (refine Exists.intro _ (And.intro (c_get31) ?_))
      | (refine Exists.intro _ (And.intro (c_get32) ?_))
      | (refine Exists.intro _ (And.intro (c_get33) ?_))
      | (refine Exists.intro _ (And.intro (c_getN _ n0 n1 n2 n3) ?_))
      | (refine Exists.intro _ (And.intro (by first | rfl | ((conv => lhs; simp only [nil_b, rp_bls, or_bls, len_bls, snoc_bls, rp_nil, rp_app, rp_b, or_nil, or_app, or_b, len_b, take_b, drop_b, rep_b, app_b, List.length_append, List.length_take, List.length_drop, List.length_nil, List.drop_zero, List.take_length, List.nil_append, List.append_nil, Int.toNat_natCast, toNat_min, take_min, and_true, true_and, and_self]) <;> rfl)) ?_))
      | (refine Exists.intro _ (And.intro rfl ?_))
      | (refine loop_unr tabOk (ceN_sound tabOk mixed inlP_ok _) mixed 15 ?_)
      | (refine Or.inl (And.intro Cl.lit ?_))
      | (refine Or.inr ?_)
      | (refine Exists.intro 1 ?_))
  all_goals try refine Side.mk ?_
  all_goals try dsimp only at *
  all_goals try refine eqI ?_
  all_goals try rfl
  all_goals try decide
  all_goals try refine rn_plain ?_
  all_goals try simp (disch := omega) only [wrap64, Int.zero_add, Int.sub_zero, Int.add_zero, List.take_succ_cons, List.take_zero, List.take_nil, List.cons_append, List.length_cons, List.length_nil, rp_cons, or_cons, List.all_cons, List.all_nil, kfc, V.one, one_int, one_bool, one_str, Bool.and_true, Bool.and_self, List.append_assoc, nil_b, rp_bls, or_bls, len_bls, snoc_bls, rp_nil, rp_app, rp_b, or_nil, or_app, or_b, len_b, take_b, drop_b, rep_b, app_b, List.length_append, List.length_take, List.length_drop, List.length_nil, List.drop_zero, List.take_length, List.nil_append, List.append_nil, Int.toNat_natCast, toNat_min, take_min, and_true, true_and, and_self] at *
  all_goals try omega
  all_goals try rfl
  all_goals try (simp; done)
  all_goals try decide
  all_goals set_option pp.maxSteps 1500 in trace_state
end Go.Proofs.Ytgkcdahnmkbldaa
