/-
  Modes (layer 8): what is selected, by the document (ten bytes).
-/
import Derived.Test.YtbieiehfohldjaamD08
namespace Go.Proofs.Ytbieiehfohldjaa
open Go
set_option linter.unusedVariables false
set_option linter.unusedSimpArgs false
set_option maxRecDepth 100000
set_option maxHeartbeats 8000000

attribute [local irreducible] mHead mOne mTwo sel
theorem c_refSelect_true (b : BS) (c : Bool) (hb : Side (b.length ≤ 2 ^ 20)) : FnC Try.prog 37 [bsV b, bV true, bV c] [] (.tup [bV (mSel b true c).1, (mSel b true c).2.v]) [] := by
  have hb := hb.h
  have n0 : (b[3]?.getD 0).toNat < 256 := UInt8.toNat_lt _
  have n1 : (b[6]?.getD 0).toNat < 256 := UInt8.toNat_lt _
  have n2 : (b[7]?.getD 0).toNat < 256 := UInt8.toNat_lt _
  refine fn_vcI (N := 168) (d := 8) tabOk mixed inl08_ok 4 Try.func37 rfl rfl rfl ?_
  repeat'
    (conv => whnf
     first
      | (exact trivial)
      | (refine And.intro (by with_reducible rfl) ?_)
      | (refine And.intro (drawI (by kernel_rfl)) ?_)
      | (refine andI ?_ ?_)
      | (refine condT (by assumption) ?_)
      | (refine condF (by assumption) ?_)
      | (refine decT (by assumption) ?_)
      | (refine decF (by assumption) ?_)
      | (refine eqT (by assumption) ?_)
      | (refine eqF (by assumption) ?_)
      | (refine neT (by assumption) ?_)
      | (refine neF (by assumption) ?_)
      | (refine cEq (fun h => ?_) (fun h => ?_))
      | (refine cNe (fun h => ?_) (fun h => ?_))
      | (refine cNot (fun h => ?_) (fun h => ?_))
      | (refine cDec (fun h => ?_) (fun h => ?_))
      | (refine condN_split (fun h => ?_) (fun h => ?_))
      | (refine Exists.intro _ (And.intro (bytes_get ?_) ?_))
      | (refine Exists.intro _ (And.intro rfl ?_))
      | (refine Or.inl (And.intro (by rfl : Nat.ble _ _ = true) ?_))
      | (refine Or.inl (And.intro Cl.lit ?_))
      | (refine Or.inr ?_)
      | (refine Exists.intro (1 : Nat) ?_)
      | (refine Exists.intro _ (And.intro rfl ?_))
      | (fail))
  all_goals try refine Side.mk ?_
  all_goals try dsimp only at *
  all_goals try refine eqI ?_
  all_goals try rfl
  all_goals try decide
  all_goals try refine rn_plain ?_
  all_goals try (first | (refine rp_all ?_; rfl) | (refine or_all ?_; rfl))
  all_goals try simp (disch := omega) only [wrap64, Int.zero_add, Int.sub_zero, Int.add_zero, List.take_succ_cons, List.take_zero, List.take_nil, List.cons_append, List.length_cons, List.length_nil, rp_cons, or_cons, List.all_cons, List.all_nil, kfc, V.one, one_int, one_bool, one_str, Bool.and_true, Bool.and_self, List.append_assoc, nil_b, rp_bls, or_bls, len_bls, snoc_bls, rp_nil, rp_app, rp_b, or_nil, or_app, or_b, len_b, take_b, drop_b, rep_b, app_b, List.length_append, List.length_take, List.length_drop, List.length_nil, List.drop_zero, List.take_length, List.nil_append, List.append_nil, Int.toNat_natCast, toNat_min, take_min, and_true, true_and, and_self, wrapB, sl3, sl7, sl6] at *
  all_goals try omega
  all_goals try rfl
  all_goals try (simp; done)
  all_goals try decide
  all_goals first
    | (rw [mSel_nil (by omega)]; rfl)
    | (rw [mSel_s1 (by omega) (by first | rw [hSf] | rw [hSt]
                                  omega)]; rfl)
    | (rw [mSel_bad (by first | rw [hSf] | rw [hSt]
                        omega) (by first | rw [hNf] | rw [hNt]
                                   omega) (by first | rw [hNf] | rw [hNt]
                                              omega)]; rfl)
    | (rw [mSel_s2 (by first | rw [hSf] | rw [hSt]
                       omega) (by first | rw [hNf] | rw [hNt]
                                  omega) (by first | rw [hSf, hNf] | rw [hSt, hNt]
                                             omega)]; rfl)
    | (rw [mSel_go (by first | rw [hNf] | rw [hNt]
                       omega) (by first | rw [hSf, hNf] | rw [hSt, hNt]
                                  omega)])
  all_goals (generalize hk0 : hSz _ + hN b _ = k0; first | rw [hSf, hNf] at hk0 | rw [hSt, hNt] at hk0)
  all_goals generalize hz : sel (b.drop k0) c = z
  all_goals conv => whnf
  all_goals refine loop_k tabOk (ceN_sound tabOk mixed inl08_ok 4) mixed 59 (X := RS) ⟨k0, c⟩ (fun ⟨k, c⟩ => [(10, i64 (k : Nat)), (2, bV c)]) (fun x => x.k ≤ b.length ∧ z = sel (b.drop x.k) x.c) (fun x => b.length - x.k) ⟨by simp only; omega, hz.symm⟩ ?_ ?_
  all_goals clear hz
  all_goals try (rintro ⟨k, d⟩ ⟨h1, h2⟩; simp only at h1 h2)
  repeat'
    (conv => whnf
     first
      | (exact trivial)
      | (refine And.intro (by with_reducible rfl) ?_)
      | (refine And.intro (drawI (by kernel_rfl)) ?_)
      | (refine andI ?_ ?_)
      | (refine condT (by assumption) ?_)
      | (refine condF (by assumption) ?_)
      | (refine decT (by assumption) ?_)
      | (refine decF (by assumption) ?_)
      | (refine eqT (by assumption) ?_)
      | (refine eqF (by assumption) ?_)
      | (refine neT (by assumption) ?_)
      | (refine neF (by assumption) ?_)
      | (refine cEq (fun h => ?_) (fun h => ?_))
      | (refine cNe (fun h => ?_) (fun h => ?_))
      | (refine cNot (fun h => ?_) (fun h => ?_))
      | (refine cDec (fun h => ?_) (fun h => ?_))
      | (refine condN_split (fun h => ?_) (fun h => ?_))
      | (refine Exists.intro _ (And.intro (bytes_get ?_) ?_))
      | (refine Exists.intro _ (And.intro rfl ?_))
      | (refine Or.inl (And.intro (by rfl : Nat.ble _ _ = true) ?_))
      | (refine Or.inl (And.intro Cl.lit ?_))
      | (refine Or.inr ?_)
      | (refine Exists.intro (1 : Nat) ?_)
      | (refine Exists.intro _ (And.intro rfl ?_))
      | (fail))
  all_goals try refine Side.mk ?_
  all_goals try dsimp only at *
  all_goals try refine eqI ?_
  all_goals try rfl
  all_goals try (refine congrArg (Value.int IntKind.i64) ?_; omega)
  all_goals clear hk0 n0 n1 n2
  all_goals have hc : (b[k + 1]?.getD 0).toNat < 256 := UInt8.toNat_lt _
  all_goals try rfl
  all_goals try decide
  all_goals try refine rn_plain ?_
  all_goals try (first | (refine rp_all ?_; rfl) | (refine or_all ?_; rfl))
  all_goals try simp (disch := omega) only [wrap64, Int.zero_add, Int.sub_zero, Int.add_zero, List.take_succ_cons, List.take_zero, List.take_nil, List.cons_append, List.length_cons, List.length_nil, rp_cons, or_cons, List.all_cons, List.all_nil, kfc, V.one, one_int, one_bool, one_str, Bool.and_true, Bool.and_self, List.append_assoc, nil_b, rp_bls, or_bls, len_bls, snoc_bls, rp_nil, rp_app, rp_b, or_nil, or_app, or_b, len_b, take_b, drop_b, rep_b, app_b, List.length_append, List.length_take, List.length_drop, List.length_nil, List.drop_zero, List.take_length, List.nil_append, List.append_nil, Int.toNat_natCast, toNat_min, take_min, and_true, true_and, and_self, wrapB, toN1, toN2, toNN] at *
  all_goals try omega
  all_goals try rfl
  all_goals try (simp; done)
  all_goals try decide
  all_goals try (rw [h2, sel_step d (by simp; omega), if_pos (by unfold sNo; simp only [List.length_drop, List.getElem?_drop]; omega)]; rfl)
  all_goals try (rw [h2, List.drop_eq_nil_of_le (by omega), sel_nil]; rfl)
  all_goals have hs : ¬ sNo (b.drop k) := sNo_not (by assumption) (by assumption)
  all_goals conv => whnf
  all_goals refine loop_k tabOk (ceN_sound tabOk mixed inl08_ok 4) mixed 89 (X := Nat) 3 (fun j => [(14, i64 (j : Nat)), (13, bV (zf b k j))]) (fun j => 3 ≤ j ∧ j ≤ max 3 (2 + (b[k + 1]?.getD 0).toNat)) (fun j => 2 + (b[k + 1]?.getD 0).toNat - j) ⟨Nat.le_refl _, by omega⟩ ?_ ?_
  all_goals try rintro j ⟨j1, j2⟩
  repeat'
    (conv => whnf
     first
      | (exact trivial)
      | (refine And.intro (by with_reducible rfl) ?_)
      | (refine And.intro (drawI (by kernel_rfl)) ?_)
      | (refine andI ?_ ?_)
      | (refine condT (by assumption) ?_)
      | (refine condF (by assumption) ?_)
      | (refine decT (by assumption) ?_)
      | (refine decF (by assumption) ?_)
      | (refine eqT (by assumption) ?_)
      | (refine eqF (by assumption) ?_)
      | (refine neT (by assumption) ?_)
      | (refine neF (by assumption) ?_)
      | (refine condT (by omega) ?_)
      | (refine condF (by omega) ?_)
      | (refine eqT (by omega) ?_)
      | (refine eqF (by omega) ?_)
      | (refine neT (by omega) ?_)
      | (refine neF (by omega) ?_)
      | (refine cEq (fun h => ?_) (fun h => ?_))
      | (refine cNe (fun h => ?_) (fun h => ?_))
      | (refine cNot (fun h => ?_) (fun h => ?_))
      | (refine cDec (fun h => ?_) (fun h => ?_))
      | (refine condN_split (fun h => ?_) (fun h => ?_))
      | (refine Exists.intro _ (And.intro (bytes_get ?_) ?_))
      | (refine Exists.intro _ (And.intro rfl ?_))
      | (refine Exists.intro (j + 1 : Nat) (andI ?_ (andI ?_ ?_)))
      | (refine Exists.intro (RS.mk (k + (2 + (b[k + 1]?.getD 0).toNat)) (nextC (b.drop k) d)) (andI ?_ (andI ?_ ?_)))
      | (refine Or.inl (And.intro (by rfl : Nat.ble _ _ = true) ?_))
      | (refine Or.inl (And.intro Cl.lit ?_))
      | (refine Or.inr ?_)
      | (refine Exists.intro (1 : Nat) ?_)
      | (refine Exists.intro _ (And.intro rfl ?_))
      | (fail))
  all_goals try refine Side.mk ?_
  all_goals try dsimp only at *
  all_goals try refine eqI ?_
  all_goals try rfl
  all_goals try decide
  all_goals try refine rn_plain ?_
  all_goals try (first | (refine rp_all ?_; rfl) | (refine or_all ?_; rfl))
  all_goals try simp (disch := omega) only [wrap64, Int.zero_add, Int.sub_zero, Int.add_zero, List.take_succ_cons, List.take_zero, List.take_nil, List.cons_append, List.length_cons, List.length_nil, rp_cons, or_cons, List.all_cons, List.all_nil, kfc, V.one, one_int, one_bool, one_str, Bool.and_true, Bool.and_self, List.append_assoc, nil_b, rp_bls, or_bls, len_bls, snoc_bls, rp_nil, rp_app, rp_b, or_nil, or_app, or_b, len_b, take_b, drop_b, rep_b, app_b, List.length_append, List.length_take, List.length_drop, List.length_nil, List.drop_zero, List.take_length, List.nil_append, List.append_nil, Int.toNat_natCast, toNat_min, take_min, and_true, true_and, and_self, wrapB, toN1, toN2, toNN] at *
  all_goals try omega
  all_goals try rfl
  all_goals try (simp; done)
  all_goals try decide
  all_goals first
    | (rw [leaf_bad h2 hs j1 j2 (by assumption) (by assumption) (by rintro ⟨q1, q2, q3, q4⟩; unfold at0 at *; first | omega | (simp_all; done)) (by rintro ⟨q1, q2, q3, q4⟩; unfold at0 at *; first | omega | (simp_all; done))]; rfl)
    | (refine congrArg (Value.int IntKind.i64) ?_; omega)
    | (refine congrArg Value.bool ?_
       rw [zf_next j1 (by omega)]
       first
         | (rw [show zf b k j = false by assumption]; rfl)
         | (rw [show zf b k j = true by assumption, Bool.true_and]; exact (u8z _).symm))
    | exact ⟨by omega, leaf_on h2 hs (by assumption) (.inl (pgA hs j1 j2 (by assumption) (by assumption) (by assumption) (by assumption) (by assumption)))⟩
    | exact ⟨by omega, leaf_on h2 hs (by assumption) (.inr (.inl (pgA hs j1 j2 (by assumption) (by assumption) (by assumption) (by assumption) (by assumption))))⟩
    | exact ⟨by omega, leaf_on h2 hs (by assumption) (.inr (.inr (pgB hs j1 j2 (by assumption) (by assumption) (by assumption) (by assumption) (by assumption))))⟩
    | (refine congrArg Value.bool ?_
       first
         | (rw [next4 (pgA hs j1 j2 (by assumption) (by assumption) (by assumption) (by assumption) (by assumption))]; symm; simp only [beq_iff_eq]; omega)
         | (rw [next0 (pgA hs j1 j2 (by assumption) (by assumption) (by assumption) (by assumption) (by assumption))]; symm; simp only [beq_eq_false_iff_ne, ne_eq]; omega)
         | (rw [next2 (pgB hs j1 j2 (by assumption) (by assumption) (by assumption) (by assumption) (by assumption))]; done))
end Go.Proofs.Ytbieiehfohldjaa
