/-
  Descriptors (layer 14): contracts.
-/
import Derived.Test.YtgaginflocpcfaaN01
namespace Go.Proofs.Ytgaginflocpcfaa
open Go
set_option linter.unusedVariables false
set_option linter.unusedSimpArgs false
set_option maxRecDepth 100000
set_option maxHeartbeats 2000000

noncomputable def inl14 : List IRow := [(48, Try.f48, 27, 5), (43, Try.f43, 36, 6), (40, Try.f40, 14, 4), (39, Try.f39, 4, 3)]
theorem inl14_ok : IOk Try.prog (inlTab inl14) := inl_ok (by
  unfold inl14
  repeat' (first | exact trivial | refine And.intro (And.intro rfl (And.intro rfl rfl)) ?_))
def set0 : BS := [9, 4, 0, 0, 2, 8, 6, 0x50, 0, 7, 5, 0x81, 2, 64, 0, 0, 7, 5, 2, 2, 64, 0, 0]
def set1 : BS := [9, 4, 0, 1, 4, 8, 6, 0x62, 0, 7, 5, 4, 2, 64, 0, 0, 4, 36, 1, 0, 7, 5, 0x83, 2, 64, 0, 0, 4, 36, 2, 0, 7, 5, 0x81, 2, 64, 0, 0, 4, 36, 3, 0, 7, 5, 2, 2, 64, 0, 0, 4, 36, 4, 0]

theorem c_settings : FnC Try.prog 39 [] [] (.agg [bsV [0x81, 2], bsV [4, 0x83, 0x81, 2]]) [] := by
  refine fn_vcI (N := 4) (d := 3) tabOk mixed inl14_ok 3 Try.func39 rfl rfl rfl ?_
  repeat'
    (conv => whnf
     first
      | (exact trivial)
      | (refine And.intro (by with_reducible rfl) ?_)
      | (refine And.intro (drawI (by kernel_rfl)) ?_)
      | (refine andI ?_ ?_)
      | (refine condT (by assumption) ?_)
      | (refine condF (by assumption) ?_)
      | (refine decT (by assumption) ?_)
      | (refine decF (by assumption) ?_)
      | (refine eqT (by assumption) ?_)
      | (refine eqF (by assumption) ?_)
      | (refine neT (by assumption) ?_)
      | (refine neF (by assumption) ?_)
      | (refine cEq (fun h => ?_) (fun h => ?_))
      | (refine cNe (fun h => ?_) (fun h => ?_))
      | (refine cNot (fun h => ?_) (fun h => ?_))
      | (refine cDec (fun h => ?_) (fun h => ?_))
      | (refine condN_split (fun h => ?_) (fun h => ?_))
      | (refine Exists.intro _ (And.intro rfl ?_))
      | (refine Or.inl (And.intro (by kernel_rfl : Nat.ble _ _ = true) ?_))
      | (refine Or.inl (And.intro Cl.lit ?_))
      | (refine Or.inr ?_)
      | (refine Exists.intro (1 : Nat) ?_)
      | (fail))
  all_goals try refine Side.mk ?_
  all_goals try dsimp only at *
  all_goals try refine eqI ?_
  all_goals try rfl
  all_goals try decide
  all_goals try refine rn_plain ?_
  all_goals try (first | (refine rp_all ?_; rfl) | (refine or_all ?_; rfl))
  all_goals try simp (disch := omega) only [wrap64, Int.zero_add, Int.sub_zero, Int.add_zero, List.take_succ_cons, List.take_zero, List.take_nil, List.cons_append, List.length_cons, List.length_nil, rp_cons, or_cons, List.all_cons, List.all_nil, kfc, V.one, one_int, one_bool, one_str, Bool.and_true, Bool.and_self, List.append_assoc, nil_b, rp_bls, or_bls, len_bls, snoc_bls, rp_nil, rp_app, rp_b, or_nil, or_app, or_b, len_b, take_b, drop_b, rep_b, app_b, List.length_append, List.length_take, List.length_drop, List.length_nil, List.drop_zero, List.take_length, List.nil_append, List.append_nil, Int.toNat_natCast, toNat_min, take_min, and_true, true_and, and_self] at *
  all_goals try omega
  all_goals try rfl
  all_goals try (simp; done)
  all_goals try decide
theorem c_of (k : Int) (l : List (List V)) (hl : Side (l.length ≤ 2 ^ 40)) (pl : Side (rowsPlain l)) (ol : Side (oneRows l)) : FnC Try.prog 40 [.lit (.int .u8 k), .sl 1 l] [] (.sl 1 ([V.lit (.int .u8 (IntKind.u8.wrap (2 + l.length)))] :: [V.lit (.int .u8 k)] :: l)) [] := by
  replace hl := hl.h; replace pl := pl.h; replace ol := ol.h
  refine fn_vcI (N := 14) (d := 4) tabOk mixed inl14_ok 3 Try.func40 rfl rfl rfl ?_
  repeat'
    (conv => whnf
     first
      | (exact trivial)
      | (refine And.intro (by with_reducible rfl) ?_)
      | (refine And.intro (drawI (by kernel_rfl)) ?_)
      | (refine andI ?_ ?_)
      | (refine condT (by assumption) ?_)
      | (refine condF (by assumption) ?_)
      | (refine decT (by assumption) ?_)
      | (refine decF (by assumption) ?_)
      | (refine eqT (by assumption) ?_)
      | (refine eqF (by assumption) ?_)
      | (refine neT (by assumption) ?_)
      | (refine neF (by assumption) ?_)
      | (refine cEq (fun h => ?_) (fun h => ?_))
      | (refine cNe (fun h => ?_) (fun h => ?_))
      | (refine cNot (fun h => ?_) (fun h => ?_))
      | (refine cDec (fun h => ?_) (fun h => ?_))
      | (refine condN_split (fun h => ?_) (fun h => ?_))
      | (refine Exists.intro _ (And.intro rfl ?_))
      | (refine loop_unr tabOk (ceN_sound tabOk mixed inl14_ok _) mixed 5 ?_)
      | (refine Or.inl (And.intro (by kernel_rfl : Nat.ble _ _ = true) ?_))
      | (refine Or.inl (And.intro Cl.lit ?_))
      | (refine Or.inr ?_)
      | (refine Exists.intro (1 : Nat) ?_)
      | (fail))
  all_goals try refine Side.mk ?_
  all_goals try dsimp only at *
  all_goals try refine eqI ?_
  all_goals try rfl
  all_goals try decide
  all_goals try refine rn_plain ?_
  all_goals try (first | (refine rp_all ?_; rfl) | (refine or_all ?_; rfl))
  all_goals try simp (disch := omega) only [wrap64, Int.zero_add, Int.sub_zero, Int.add_zero, List.take_succ_cons, List.take_zero, List.take_nil, List.cons_append, List.length_cons, List.length_nil, rp_cons, or_cons, List.all_cons, List.all_nil, kfc, V.one, one_int, one_bool, one_str, Bool.and_true, Bool.and_self, List.append_assoc, nil_b, rp_bls, or_bls, len_bls, snoc_bls, rp_nil, rp_app, rp_b, or_nil, or_app, or_b, len_b, take_b, drop_b, rep_b, app_b, List.length_append, List.length_take, List.length_drop, List.length_nil, List.drop_zero, List.take_length, List.nil_append, List.append_nil, Int.toNat_natCast, toNat_min, take_min, and_true, true_and, and_self] at *
  all_goals try omega
  all_goals try rfl
  all_goals try (simp; done)
  all_goals try decide
theorem c_set0 : FnC Try.prog 47 [i64 0] [] (bsV set0) [] := by
  refine fn_vcI (N := 45) (d := 6) tabOk mixed inl14_ok 4 Try.func47 rfl rfl rfl ?_
  repeat'
    (conv => whnf
     first
      | (exact trivial)
      | (refine And.intro (by with_reducible rfl) ?_)
      | (refine And.intro (drawI (by kernel_rfl)) ?_)
      | (refine andI ?_ ?_)
      | (refine condT (by assumption) ?_)
      | (refine condF (by assumption) ?_)
      | (refine decT (by assumption) ?_)
      | (refine decF (by assumption) ?_)
      | (refine eqT (by assumption) ?_)
      | (refine eqF (by assumption) ?_)
      | (refine neT (by assumption) ?_)
      | (refine neF (by assumption) ?_)
      | (refine cEq (fun h => ?_) (fun h => ?_))
      | (refine cNe (fun h => ?_) (fun h => ?_))
      | (refine cNot (fun h => ?_) (fun h => ?_))
      | (refine cDec (fun h => ?_) (fun h => ?_))
      | (refine condN_split (fun h => ?_) (fun h => ?_))
      | (refine Exists.intro _ (And.intro rfl ?_))
      | (refine loop_unr tabOk (ceN_sound tabOk mixed inl14_ok _) mixed 5 ?_)
      | (refine Or.inl (And.intro (by kernel_rfl : Nat.ble _ _ = true) ?_))
      | (refine Or.inl (And.intro Cl.lit ?_))
      | (refine Or.inr ?_)
      | (refine Exists.intro (1 : Nat) ?_)
      | (fail))
  all_goals try refine Side.mk ?_
  all_goals try dsimp only at *
  all_goals try refine eqI ?_
  all_goals try rfl
  all_goals try decide
  all_goals try refine rn_plain ?_
  all_goals try (first | (refine rp_all ?_; rfl) | (refine or_all ?_; rfl))
  all_goals try simp (disch := omega) only [wrap64, Int.zero_add, Int.sub_zero, Int.add_zero, List.take_succ_cons, List.take_zero, List.take_nil, List.cons_append, List.length_cons, List.length_nil, rp_cons, or_cons, List.all_cons, List.all_nil, kfc, V.one, one_int, one_bool, one_str, Bool.and_true, Bool.and_self, List.append_assoc, nil_b, rp_bls, or_bls, len_bls, snoc_bls, rp_nil, rp_app, rp_b, or_nil, or_app, or_b, len_b, take_b, drop_b, rep_b, app_b, List.length_append, List.length_take, List.length_drop, List.length_nil, List.drop_zero, List.take_length, List.nil_append, List.append_nil, Int.toNat_natCast, toNat_min, take_min, and_true, true_and, and_self] at *
  all_goals try omega
  all_goals try rfl
  all_goals try (simp; done)
  all_goals try decide
theorem c_set1 : FnC Try.prog 47 [i64 1] [] (bsV set1) [] := by
  refine fn_vcI (N := 45) (d := 6) tabOk mixed inl14_ok 4 Try.func47 rfl rfl rfl ?_
  repeat'
    (conv => whnf
     first
      | (exact trivial)
      | (refine And.intro (by with_reducible rfl) ?_)
      | (refine And.intro (drawI (by kernel_rfl)) ?_)
      | (refine andI ?_ ?_)
      | (refine condT (by assumption) ?_)
      | (refine condF (by assumption) ?_)
      | (refine decT (by assumption) ?_)
      | (refine decF (by assumption) ?_)
      | (refine eqT (by assumption) ?_)
      | (refine eqF (by assumption) ?_)
      | (refine neT (by assumption) ?_)
      | (refine neF (by assumption) ?_)
      | (refine cEq (fun h => ?_) (fun h => ?_))
      | (refine cNe (fun h => ?_) (fun h => ?_))
      | (refine cNot (fun h => ?_) (fun h => ?_))
      | (refine cDec (fun h => ?_) (fun h => ?_))
      | (refine condN_split (fun h => ?_) (fun h => ?_))
      | (refine Exists.intro _ (And.intro rfl ?_))
      | (refine loop_unr tabOk (ceN_sound tabOk mixed inl14_ok _) mixed 5 ?_)
      | (refine Or.inl (And.intro (by kernel_rfl : Nat.ble _ _ = true) ?_))
      | (refine Or.inl (And.intro Cl.lit ?_))
      | (refine Or.inr ?_)
      | (refine Exists.intro (1 : Nat) ?_)
      | (fail))
  all_goals try refine Side.mk ?_
  all_goals try dsimp only at *
  all_goals try refine eqI ?_
  all_goals try rfl
  all_goals try decide
  all_goals try refine rn_plain ?_
  all_goals try (first | (refine rp_all ?_; rfl) | (refine or_all ?_; rfl))
  all_goals try simp (disch := omega) only [wrap64, Int.zero_add, Int.sub_zero, Int.add_zero, List.take_succ_cons, List.take_zero, List.take_nil, List.cons_append, List.length_cons, List.length_nil, rp_cons, or_cons, List.all_cons, List.all_nil, kfc, V.one, one_int, one_bool, one_str, Bool.and_true, Bool.and_self, List.append_assoc, nil_b, rp_bls, or_bls, len_bls, snoc_bls, rp_nil, rp_app, rp_b, or_nil, or_app, or_b, len_b, take_b, drop_b, rep_b, app_b, List.length_append, List.length_take, List.length_drop, List.length_nil, List.drop_zero, List.take_length, List.nil_append, List.append_nil, Int.toNat_natCast, toNat_min, take_min, and_true, true_and, and_self] at *
  all_goals try omega
  all_goals try rfl
  all_goals try (simp; done)
  all_goals try decide
def dWhole : BS := [9, 2, 85, 0, 1, 1, 0, 0x80, 0x32] ++ set0 ++ set1
theorem c_whole : FnC Try.prog 42 [] [] (bsV dWhole) [] := by
  refine fn_vcI (N := 20) (d := 5) tabOk mixed inl14_ok 4 Try.func42 rfl rfl rfl ?_
  repeat'
    (conv => whnf
     first
      | (exact trivial)
      | (refine And.intro (by with_reducible rfl) ?_)
      | (refine And.intro (drawI (by kernel_rfl)) ?_)
      | (refine andI ?_ ?_)
      | (refine condT (by assumption) ?_)
      | (refine condF (by assumption) ?_)
      | (refine decT (by assumption) ?_)
      | (refine decF (by assumption) ?_)
      | (refine eqT (by assumption) ?_)
      | (refine eqF (by assumption) ?_)
      | (refine neT (by assumption) ?_)
      | (refine neF (by assumption) ?_)
      | (refine cEq (fun h => ?_) (fun h => ?_))
      | (refine cNe (fun h => ?_) (fun h => ?_))
      | (refine cNot (fun h => ?_) (fun h => ?_))
      | (refine cDec (fun h => ?_) (fun h => ?_))
      | (refine condN_split (fun h => ?_) (fun h => ?_))
      | (refine Exists.intro _ (And.intro (c_set0) ?_))
      | (refine Exists.intro _ (And.intro (c_set1) ?_))
      | (refine Exists.intro _ (And.intro rfl ?_))
      | (refine loop_unr tabOk (ceN_sound tabOk mixed inl14_ok _) mixed 5 ?_)
      | (refine Or.inl (And.intro (by kernel_rfl : Nat.ble _ _ = true) ?_))
      | (refine Or.inl (And.intro Cl.lit ?_))
      | (refine Or.inr ?_)
      | (refine Exists.intro (1 : Nat) ?_)
      | (fail))
  all_goals try refine Side.mk ?_
  all_goals try dsimp only at *
  all_goals try refine eqI ?_
  all_goals try rfl
  all_goals try decide
  all_goals try refine rn_plain ?_
  all_goals try (first | (refine rp_all ?_; rfl) | (refine or_all ?_; rfl))
  all_goals try simp (disch := omega) only [wrap64, Int.zero_add, Int.sub_zero, Int.add_zero, List.take_succ_cons, List.take_zero, List.take_nil, List.cons_append, List.length_cons, List.length_nil, rp_cons, or_cons, List.all_cons, List.all_nil, kfc, V.one, one_int, one_bool, one_str, Bool.and_true, Bool.and_self, List.append_assoc, nil_b, rp_bls, or_bls, len_bls, snoc_bls, rp_nil, rp_app, rp_b, or_nil, or_app, or_b, len_b, take_b, drop_b, rep_b, app_b, List.length_append, List.length_take, List.length_drop, List.length_nil, List.drop_zero, List.take_length, List.nil_append, List.append_nil, Int.toNat_natCast, toNat_min, take_min, and_true, true_and, and_self] at *
  all_goals try omega
  all_goals try rfl
  all_goals try (simp; done)
  all_goals try decide
theorem c_config : FnC Try.prog 27 [] [] (bsV dWhole) [] := by
  refine fn_vcI (N := 2) (d := 2) tabOk mixed inl14_ok 4 Try.func27 rfl rfl rfl ?_
  repeat'
    (conv => whnf
     first
      | (exact trivial)
      | (refine And.intro (by with_reducible rfl) ?_)
      | (refine And.intro (drawI (by kernel_rfl)) ?_)
      | (refine andI ?_ ?_)
      | (refine condT (by assumption) ?_)
      | (refine condF (by assumption) ?_)
      | (refine decT (by assumption) ?_)
      | (refine decF (by assumption) ?_)
      | (refine eqT (by assumption) ?_)
      | (refine eqF (by assumption) ?_)
      | (refine neT (by assumption) ?_)
      | (refine neF (by assumption) ?_)
      | (refine cEq (fun h => ?_) (fun h => ?_))
      | (refine cNe (fun h => ?_) (fun h => ?_))
      | (refine cNot (fun h => ?_) (fun h => ?_))
      | (refine cDec (fun h => ?_) (fun h => ?_))
      | (refine condN_split (fun h => ?_) (fun h => ?_))
      | (refine Exists.intro _ (And.intro rfl ?_))
      | (refine loop_unr tabOk (ceN_sound tabOk mixed inl14_ok _) mixed 5 ?_)
      | (refine Or.inl (And.intro (by kernel_rfl : Nat.ble _ _ = true) ?_))
      | (refine Or.inl (And.intro Cl.lit ?_))
      | (refine Or.inr ?_)
      | (refine Exists.intro (1 : Nat) ?_)
      | (fail))
  all_goals try refine Side.mk ?_
  all_goals try dsimp only at *
  all_goals try refine eqI ?_
  all_goals try rfl
  all_goals try decide
  all_goals try refine rn_plain ?_
  all_goals try (first | (refine rp_all ?_; rfl) | (refine or_all ?_; rfl))
  all_goals try simp (disch := omega) only [wrap64, Int.zero_add, Int.sub_zero, Int.add_zero, List.take_succ_cons, List.take_zero, List.take_nil, List.cons_append, List.length_cons, List.length_nil, rp_cons, or_cons, List.all_cons, List.all_nil, kfc, V.one, one_int, one_bool, one_str, Bool.and_true, Bool.and_self, List.append_assoc, nil_b, rp_bls, or_bls, len_bls, snoc_bls, rp_nil, rp_app, rp_b, or_nil, or_app, or_b, len_b, take_b, drop_b, rep_b, app_b, List.length_append, List.length_take, List.length_drop, List.length_nil, List.drop_zero, List.take_length, List.nil_append, List.append_nil, Int.toNat_natCast, toNat_min, take_min, and_true, true_and, and_self] at *
  all_goals try omega
  all_goals try rfl
  all_goals try (simp; done)
  all_goals try decide
def dText1 : BS := [18, 3, 82, 0, 101, 0, 116, 0, 105, 0, 99, 0, 117, 0, 108, 0, 101, 0]
theorem c_written1 : FnC Try.prog 41 [.lit (.string ⟨#[82, 101, 116, 105, 99, 117, 108, 101]⟩)] [] (bsV dText1) [] := by
  refine fn_vcI (N := 19) (d := 5) tabOk mixed inl14_ok 4 Try.func41 rfl rfl rfl ?_
  repeat'
    (conv => whnf
     first
      | (exact trivial)
      | (refine And.intro (by with_reducible rfl) ?_)
      | (refine And.intro (drawI (by kernel_rfl)) ?_)
      | (refine andI ?_ ?_)
      | (refine condT (by assumption) ?_)
      | (refine condF (by assumption) ?_)
      | (refine decT (by assumption) ?_)
      | (refine decF (by assumption) ?_)
      | (refine eqT (by assumption) ?_)
      | (refine eqF (by assumption) ?_)
      | (refine neT (by assumption) ?_)
      | (refine neF (by assumption) ?_)
      | (refine cEq (fun h => ?_) (fun h => ?_))
      | (refine cNe (fun h => ?_) (fun h => ?_))
      | (refine cNot (fun h => ?_) (fun h => ?_))
      | (refine cDec (fun h => ?_) (fun h => ?_))
      | (refine condN_split (fun h => ?_) (fun h => ?_))
      | (refine Exists.intro _ (And.intro rfl ?_))
      | (refine loop_unr tabOk (ceN_sound tabOk mixed inl14_ok _) mixed 15 ?_)
      | (refine Or.inl (And.intro (by kernel_rfl : Nat.ble _ _ = true) ?_))
      | (refine Or.inl (And.intro Cl.lit ?_))
      | (refine Or.inr ?_)
      | (refine Exists.intro (1 : Nat) ?_)
      | (fail))
  all_goals try refine Side.mk ?_
  all_goals try dsimp only at *
  all_goals try refine eqI ?_
  all_goals try rfl
  all_goals try decide
  all_goals try refine rn_plain ?_
  all_goals try (first | (refine rp_all ?_; rfl) | (refine or_all ?_; rfl))
  all_goals try simp (disch := omega) only [wrap64, Int.zero_add, Int.sub_zero, Int.add_zero, List.take_succ_cons, List.take_zero, List.take_nil, List.cons_append, List.length_cons, List.length_nil, rp_cons, or_cons, List.all_cons, List.all_nil, kfc, V.one, one_int, one_bool, one_str, Bool.and_true, Bool.and_self, List.append_assoc, nil_b, rp_bls, or_bls, len_bls, snoc_bls, rp_nil, rp_app, rp_b, or_nil, or_app, or_b, len_b, take_b, drop_b, rep_b, app_b, List.length_append, List.length_take, List.length_drop, List.length_nil, List.drop_zero, List.take_length, List.nil_append, List.append_nil, Int.toNat_natCast, toNat_min, take_min, and_true, true_and, and_self] at *
  all_goals try omega
  all_goals try rfl
  all_goals try (simp; done)
  all_goals try decide
theorem c_text1 : FnC Try.prog 28 [.lit (.string ⟨#[82, 101, 116, 105, 99, 117, 108, 101]⟩)] [] (bsV dText1) [] := by
  refine fn_vcI (N := 24) (d := 5) tabOk mixed inl14_ok 4 Try.func28 rfl rfl rfl ?_
  repeat'
    (conv => whnf
     first
      | (exact trivial)
      | (refine And.intro (by with_reducible rfl) ?_)
      | (refine And.intro (drawI (by kernel_rfl)) ?_)
      | (refine andI ?_ ?_)
      | (refine condT (by assumption) ?_)
      | (refine condF (by assumption) ?_)
      | (refine decT (by assumption) ?_)
      | (refine decF (by assumption) ?_)
      | (refine eqT (by assumption) ?_)
      | (refine eqF (by assumption) ?_)
      | (refine neT (by assumption) ?_)
      | (refine neF (by assumption) ?_)
      | (refine cEq (fun h => ?_) (fun h => ?_))
      | (refine cNe (fun h => ?_) (fun h => ?_))
      | (refine cNot (fun h => ?_) (fun h => ?_))
      | (refine cDec (fun h => ?_) (fun h => ?_))
      | (refine condN_split (fun h => ?_) (fun h => ?_))
      | (refine Exists.intro _ (And.intro rfl ?_))
      | (refine loop_unr tabOk (ceN_sound tabOk mixed inl14_ok _) mixed 15 ?_)
      | (refine Or.inl (And.intro (by kernel_rfl : Nat.ble _ _ = true) ?_))
      | (refine Or.inl (And.intro Cl.lit ?_))
      | (refine Or.inr ?_)
      | (refine Exists.intro (1 : Nat) ?_)
      | (fail))
  all_goals try refine Side.mk ?_
  all_goals try dsimp only at *
  all_goals try refine eqI ?_
  all_goals try rfl
  all_goals try decide
  all_goals try refine rn_plain ?_
  all_goals try (first | (refine rp_all ?_; rfl) | (refine or_all ?_; rfl))
  all_goals try simp (disch := omega) only [wrap64, Int.zero_add, Int.sub_zero, Int.add_zero, List.take_succ_cons, List.take_zero, List.take_nil, List.cons_append, List.length_cons, List.length_nil, rp_cons, or_cons, List.all_cons, List.all_nil, kfc, V.one, one_int, one_bool, one_str, Bool.and_true, Bool.and_self, List.append_assoc, nil_b, rp_bls, or_bls, len_bls, snoc_bls, rp_nil, rp_app, rp_b, or_nil, or_app, or_b, len_b, take_b, drop_b, rep_b, app_b, List.length_append, List.length_take, List.length_drop, List.length_nil, List.drop_zero, List.take_length, List.nil_append, List.append_nil, Int.toNat_natCast, toNat_min, take_min, and_true, true_and, and_self] at *
  all_goals try omega
  all_goals try rfl
  all_goals try (simp; done)
  all_goals try decide
def dText2 : BS := [24, 3, 71, 0, 97, 0, 100, 0, 103, 0, 101, 0, 116, 0, 32, 0, 68, 0, 105, 0, 115, 0, 107, 0]
theorem c_written2 : FnC Try.prog 41 [.lit (.string ⟨#[71, 97, 100, 103, 101, 116, 32, 68, 105, 115, 107]⟩)] [] (bsV dText2) [] := by
  refine fn_vcI (N := 19) (d := 5) tabOk mixed inl14_ok 4 Try.func41 rfl rfl rfl ?_
  repeat'
    (conv => whnf
     first
      | (exact trivial)
      | (refine And.intro (by with_reducible rfl) ?_)
      | (refine And.intro (drawI (by kernel_rfl)) ?_)
      | (refine andI ?_ ?_)
      | (refine condT (by assumption) ?_)
      | (refine condF (by assumption) ?_)
      | (refine decT (by assumption) ?_)
      | (refine decF (by assumption) ?_)
      | (refine eqT (by assumption) ?_)
      | (refine eqF (by assumption) ?_)
      | (refine neT (by assumption) ?_)
      | (refine neF (by assumption) ?_)
      | (refine cEq (fun h => ?_) (fun h => ?_))
      | (refine cNe (fun h => ?_) (fun h => ?_))
      | (refine cNot (fun h => ?_) (fun h => ?_))
      | (refine cDec (fun h => ?_) (fun h => ?_))
      | (refine condN_split (fun h => ?_) (fun h => ?_))
      | (refine Exists.intro _ (And.intro rfl ?_))
      | (refine loop_unr tabOk (ceN_sound tabOk mixed inl14_ok _) mixed 15 ?_)
      | (refine Or.inl (And.intro (by kernel_rfl : Nat.ble _ _ = true) ?_))
      | (refine Or.inl (And.intro Cl.lit ?_))
      | (refine Or.inr ?_)
      | (refine Exists.intro (1 : Nat) ?_)
      | (fail))
  all_goals try refine Side.mk ?_
  all_goals try dsimp only at *
  all_goals try refine eqI ?_
  all_goals try rfl
  all_goals try decide
  all_goals try refine rn_plain ?_
  all_goals try (first | (refine rp_all ?_; rfl) | (refine or_all ?_; rfl))
  all_goals try simp (disch := omega) only [wrap64, Int.zero_add, Int.sub_zero, Int.add_zero, List.take_succ_cons, List.take_zero, List.take_nil, List.cons_append, List.length_cons, List.length_nil, rp_cons, or_cons, List.all_cons, List.all_nil, kfc, V.one, one_int, one_bool, one_str, Bool.and_true, Bool.and_self, List.append_assoc, nil_b, rp_bls, or_bls, len_bls, snoc_bls, rp_nil, rp_app, rp_b, or_nil, or_app, or_b, len_b, take_b, drop_b, rep_b, app_b, List.length_append, List.length_take, List.length_drop, List.length_nil, List.drop_zero, List.take_length, List.nil_append, List.append_nil, Int.toNat_natCast, toNat_min, take_min, and_true, true_and, and_self] at *
  all_goals try omega
  all_goals try rfl
  all_goals try (simp; done)
  all_goals try decide
theorem c_text2 : FnC Try.prog 28 [.lit (.string ⟨#[71, 97, 100, 103, 101, 116, 32, 68, 105, 115, 107]⟩)] [] (bsV dText2) [] := by
  refine fn_vcI (N := 24) (d := 5) tabOk mixed inl14_ok 4 Try.func28 rfl rfl rfl ?_
  repeat'
    (conv => whnf
     first
      | (exact trivial)
      | (refine And.intro (by with_reducible rfl) ?_)
      | (refine And.intro (drawI (by kernel_rfl)) ?_)
      | (refine andI ?_ ?_)
      | (refine condT (by assumption) ?_)
      | (refine condF (by assumption) ?_)
      | (refine decT (by assumption) ?_)
      | (refine decF (by assumption) ?_)
      | (refine eqT (by assumption) ?_)
      | (refine eqF (by assumption) ?_)
      | (refine neT (by assumption) ?_)
      | (refine neF (by assumption) ?_)
      | (refine cEq (fun h => ?_) (fun h => ?_))
      | (refine cNe (fun h => ?_) (fun h => ?_))
      | (refine cNot (fun h => ?_) (fun h => ?_))
      | (refine cDec (fun h => ?_) (fun h => ?_))
      | (refine condN_split (fun h => ?_) (fun h => ?_))
      | (refine Exists.intro _ (And.intro rfl ?_))
      | (refine loop_unr tabOk (ceN_sound tabOk mixed inl14_ok _) mixed 15 ?_)
      | (refine Or.inl (And.intro (by kernel_rfl : Nat.ble _ _ = true) ?_))
      | (refine Or.inl (And.intro Cl.lit ?_))
      | (refine Or.inr ?_)
      | (refine Exists.intro (1 : Nat) ?_)
      | (fail))
  all_goals try refine Side.mk ?_
  all_goals try dsimp only at *
  all_goals try refine eqI ?_
  all_goals try rfl
  all_goals try decide
  all_goals try refine rn_plain ?_
  all_goals try (first | (refine rp_all ?_; rfl) | (refine or_all ?_; rfl))
  all_goals try simp (disch := omega) only [wrap64, Int.zero_add, Int.sub_zero, Int.add_zero, List.take_succ_cons, List.take_zero, List.take_nil, List.cons_append, List.length_cons, List.length_nil, rp_cons, or_cons, List.all_cons, List.all_nil, kfc, V.one, one_int, one_bool, one_str, Bool.and_true, Bool.and_self, List.append_assoc, nil_b, rp_bls, or_bls, len_bls, snoc_bls, rp_nil, rp_app, rp_b, or_nil, or_app, or_b, len_b, take_b, drop_b, rep_b, app_b, List.length_append, List.length_take, List.length_drop, List.length_nil, List.drop_zero, List.take_length, List.nil_append, List.append_nil, Int.toNat_natCast, toNat_min, take_min, and_true, true_and, and_self] at *
  all_goals try omega
  all_goals try rfl
  all_goals try (simp; done)
  all_goals try decide
def dText3 : BS := [18, 3, 82, 0, 84, 0, 48, 0, 48, 0, 48, 0, 48, 0, 48, 0, 48, 0]
theorem c_written3 : FnC Try.prog 41 [.lit (.string ⟨#[82, 84, 48, 48, 48, 48, 48, 48]⟩)] [] (bsV dText3) [] := by
  refine fn_vcI (N := 19) (d := 5) tabOk mixed inl14_ok 4 Try.func41 rfl rfl rfl ?_
  repeat'
    (conv => whnf
     first
      | (exact trivial)
      | (refine And.intro (by with_reducible rfl) ?_)
      | (refine And.intro (drawI (by kernel_rfl)) ?_)
      | (refine andI ?_ ?_)
      | (refine condT (by assumption) ?_)
      | (refine condF (by assumption) ?_)
      | (refine decT (by assumption) ?_)
      | (refine decF (by assumption) ?_)
      | (refine eqT (by assumption) ?_)
      | (refine eqF (by assumption) ?_)
      | (refine neT (by assumption) ?_)
      | (refine neF (by assumption) ?_)
      | (refine cEq (fun h => ?_) (fun h => ?_))
      | (refine cNe (fun h => ?_) (fun h => ?_))
      | (refine cNot (fun h => ?_) (fun h => ?_))
      | (refine cDec (fun h => ?_) (fun h => ?_))
      | (refine condN_split (fun h => ?_) (fun h => ?_))
      | (refine Exists.intro _ (And.intro rfl ?_))
      | (refine loop_unr tabOk (ceN_sound tabOk mixed inl14_ok _) mixed 15 ?_)
      | (refine Or.inl (And.intro (by kernel_rfl : Nat.ble _ _ = true) ?_))
      | (refine Or.inl (And.intro Cl.lit ?_))
      | (refine Or.inr ?_)
      | (refine Exists.intro (1 : Nat) ?_)
      | (fail))
  all_goals try refine Side.mk ?_
  all_goals try dsimp only at *
  all_goals try refine eqI ?_
  all_goals try rfl
  all_goals try decide
  all_goals try refine rn_plain ?_
  all_goals try (first | (refine rp_all ?_; rfl) | (refine or_all ?_; rfl))
  all_goals try simp (disch := omega) only [wrap64, Int.zero_add, Int.sub_zero, Int.add_zero, List.take_succ_cons, List.take_zero, List.take_nil, List.cons_append, List.length_cons, List.length_nil, rp_cons, or_cons, List.all_cons, List.all_nil, kfc, V.one, one_int, one_bool, one_str, Bool.and_true, Bool.and_self, List.append_assoc, nil_b, rp_bls, or_bls, len_bls, snoc_bls, rp_nil, rp_app, rp_b, or_nil, or_app, or_b, len_b, take_b, drop_b, rep_b, app_b, List.length_append, List.length_take, List.length_drop, List.length_nil, List.drop_zero, List.take_length, List.nil_append, List.append_nil, Int.toNat_natCast, toNat_min, take_min, and_true, true_and, and_self] at *
  all_goals try omega
  all_goals try rfl
  all_goals try (simp; done)
  all_goals try decide
theorem c_text3 : FnC Try.prog 28 [.lit (.string ⟨#[82, 84, 48, 48, 48, 48, 48, 48]⟩)] [] (bsV dText3) [] := by
  refine fn_vcI (N := 24) (d := 5) tabOk mixed inl14_ok 4 Try.func28 rfl rfl rfl ?_
  repeat'
    (conv => whnf
     first
      | (exact trivial)
      | (refine And.intro (by with_reducible rfl) ?_)
      | (refine And.intro (drawI (by kernel_rfl)) ?_)
      | (refine andI ?_ ?_)
      | (refine condT (by assumption) ?_)
      | (refine condF (by assumption) ?_)
      | (refine decT (by assumption) ?_)
      | (refine decF (by assumption) ?_)
      | (refine eqT (by assumption) ?_)
      | (refine eqF (by assumption) ?_)
      | (refine neT (by assumption) ?_)
      | (refine neF (by assumption) ?_)
      | (refine cEq (fun h => ?_) (fun h => ?_))
      | (refine cNe (fun h => ?_) (fun h => ?_))
      | (refine cNot (fun h => ?_) (fun h => ?_))
      | (refine cDec (fun h => ?_) (fun h => ?_))
      | (refine condN_split (fun h => ?_) (fun h => ?_))
      | (refine Exists.intro _ (And.intro rfl ?_))
      | (refine loop_unr tabOk (ceN_sound tabOk mixed inl14_ok _) mixed 15 ?_)
      | (refine Or.inl (And.intro (by kernel_rfl : Nat.ble _ _ = true) ?_))
      | (refine Or.inl (And.intro Cl.lit ?_))
      | (refine Or.inr ?_)
      | (refine Exists.intro (1 : Nat) ?_)
      | (fail))
  all_goals try refine Side.mk ?_
  all_goals try dsimp only at *
  all_goals try refine eqI ?_
  all_goals try rfl
  all_goals try decide
  all_goals try refine rn_plain ?_
  all_goals try (first | (refine rp_all ?_; rfl) | (refine or_all ?_; rfl))
  all_goals try simp (disch := omega) only [wrap64, Int.zero_add, Int.sub_zero, Int.add_zero, List.take_succ_cons, List.take_zero, List.take_nil, List.cons_append, List.length_cons, List.length_nil, rp_cons, or_cons, List.all_cons, List.all_nil, kfc, V.one, one_int, one_bool, one_str, Bool.and_true, Bool.and_self, List.append_assoc, nil_b, rp_bls, or_bls, len_bls, snoc_bls, rp_nil, rp_app, rp_b, or_nil, or_app, or_b, len_b, take_b, drop_b, rep_b, app_b, List.length_append, List.length_take, List.length_drop, List.length_nil, List.drop_zero, List.take_length, List.nil_append, List.append_nil, Int.toNat_natCast, toNat_min, take_min, and_true, true_and, and_self] at *
  all_goals try omega
  all_goals try rfl
  all_goals try (simp; done)
  all_goals try decide
end Go.Proofs.Ytgaginflocpcfaa
