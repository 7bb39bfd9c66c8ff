/-
  Numbers in bytes, and slices held against each other.
-/
import Derived.Test.YtbieiehfohldjaaQi
import Derived.Laws.BitsAllLaws
namespace Go.Proofs.Ytbieiehfohldjaa
open Go
set_option linter.unusedVariables false
set_option linter.unusedSimpArgs false
set_option maxRecDepth 100000
set_option maxHeartbeats 2000000

theorem sl_congr {sz sz' : Nat} {l l' : List (List V)} (h : sz = sz') (e : l = l') : V.sl sz l = V.sl sz' l' := by rw [h, e]
/-- a number of bytes, the highest one first -/
def beN (l : BS) : Nat := l.foldl (fun x c => x * 256 + c.toNat) 0
theorem beN_snoc (l : BS) (c : UInt8) : beN (l ++ [c]) = beN l * 256 + c.toNat := by simp [beN]
theorem beN_lt : ∀ (n : Nat) (l : BS), l.length = n → beN l < 256 ^ n := by
  intro n
  induction n with
  | zero =>
    intro l h
    rw [List.length_eq_zero_iff.1 h]
    decide
  | succ n ih =>
    intro l h
    have hl : l ≠ [] := fun e => by rw [e] at h; cases h
    rw [← List.dropLast_concat_getLast hl, beN_snoc]
    have h1 := ih l.dropLast (by simp; omega)
    have h2 := UInt8.toNat_lt (l.getLast hl)
    rw [Nat.pow_succ]
    omega
theorem or_low {x : Nat} {c : Nat} (hc : c < 256) (hx : x < 2 ^ 56) : bits .or .u64 (IntKind.u64.wrap ((x : Int) * 2 ^ min (Int.toNat 8) IntKind.u64.bits)) (IntKind.u64.wrap (c : Int)) = ((x * 256 + c : Nat) : Int) := by
  have e1 : IntKind.u64.wrap ((x : Int) * 2 ^ min (Int.toNat 8) IntKind.u64.bits) = ((x * 2 ^ 8 : Nat) : Int) := by
    rw [show min (Int.toNat 8) IntKind.u64.bits = 8 from rfl, wrapu64]
    push_cast
    omega
  have e2 : IntKind.u64.wrap (c : Int) = ((c : Nat) : Int) := by
    rw [wrapu64]
    omega
  rw [e1, e2, u64_or_nat _ _ (by omega) (by omega), Nat.mul_comm x, Nat.two_pow_add_eq_or_of_lt (i := 8) hc x |>.symm]
noncomputable def inlN : List IRow := []
theorem inlN_ok : IOk Try.prog (inlTab inlN) := inl_ok (by
  unfold inlN
  exact trivial)
theorem c_equal (a b : BS) (ha : Side (a.length ≤ 2 ^ 40)) : FnC Try.prog 56 [bsV a, bsV b] [] (bV (a == b)) [] := by
  have ha := ha.h
  refine fn_vcI (N := 26) (d := 5) tabOk mixed inlN_ok 1 Try.func56 rfl rfl rfl ?_
  repeat'
    (conv => whnf
     first
      | (exact trivial)
      | (refine And.intro (by with_reducible rfl) ?_)
      | (refine And.intro (drawI (by kernel_rfl)) ?_)
      | (refine andI ?_ ?_)
      | (refine condT (by assumption) ?_)
      | (refine condF (by assumption) ?_)
      | (refine decT (by assumption) ?_)
      | (refine decF (by assumption) ?_)
      | (refine eqT (by assumption) ?_)
      | (refine eqF (by assumption) ?_)
      | (refine neT (by assumption) ?_)
      | (refine neF (by assumption) ?_)
      | (refine cEq (fun h => ?_) (fun h => ?_))
      | (refine cNe (fun h => ?_) (fun h => ?_))
      | (refine cNot (fun h => ?_) (fun h => ?_))
      | (refine cDec (fun h => ?_) (fun h => ?_))
      | (refine condN_split (fun h => ?_) (fun h => ?_))
      | (refine Exists.intro _ (And.intro rfl ?_))
      | (refine Or.inl (And.intro (by rfl : Nat.ble _ _ = true) ?_))
      | (refine Or.inl (And.intro Cl.lit ?_))
      | (refine Or.inr ?_)
      | (refine Exists.intro (1 : Nat) ?_)
      | (refine Exists.intro _ (And.intro rfl ?_))
      | (fail))
  all_goals try refine Side.mk ?_
  all_goals try dsimp only at *
  all_goals try refine eqI ?_
  · refine bool_close ?_
    simp only [len_b] at h
    simp only [Bool.false_eq_true, false_iff, beq_iff_eq]
    rintro rfl
    exact h rfl
  have hab : a.length = b.length := by simpa only [len_b, Int.natCast_inj] using h
  conv => whnf
  refine loop_w tabOk (ceN_sound tabOk mixed inlN_ok 1) mixed 14 (X := Nat) 0 (fun k => [(13, i64 (k : Nat))]) (fun _ => []) 0 (fun k => k ≤ a.length ∧ ∀ j < k, a[j]?.getD 0 = b[j]?.getD 0) (fun k => a.length - k) ⟨Nat.zero_le _, fun j h => by omega⟩ ?_ ?_
  · repeat'
      (conv => whnf
       first
        | (exact trivial)
        | (refine And.intro (by with_reducible rfl) ?_)
        | (refine And.intro (drawI (by kernel_rfl)) ?_)
        | (refine andI ?_ ?_)
        | (refine condT (by assumption) ?_)
        | (refine condF (by assumption) ?_)
        | (refine decT (by assumption) ?_)
        | (refine decF (by assumption) ?_)
        | (refine eqT (by assumption) ?_)
        | (refine eqF (by assumption) ?_)
        | (refine neT (by assumption) ?_)
        | (refine neF (by assumption) ?_)
        | (refine cEq (fun h => ?_) (fun h => ?_))
        | (refine cNe (fun h => ?_) (fun h => ?_))
        | (refine cNot (fun h => ?_) (fun h => ?_))
        | (refine cDec (fun h => ?_) (fun h => ?_))
        | (refine condN_split (fun h => ?_) (fun h => ?_))
        | (refine Or.inl (And.intro (by rfl : Nat.ble _ _ = true) ?_))
        | (refine Or.inl (And.intro Cl.lit ?_))
        | (refine Or.inr ?_)
        | (refine Exists.intro (1 : Nat) ?_)
        | (refine Exists.intro _ (And.intro rfl ?_))
        | (fail))
    all_goals try refine Side.mk ?_
    all_goals try dsimp only at *
    all_goals try refine eqI ?_
    all_goals rfl
  · rintro k ⟨h1, h2⟩
    repeat'
      (conv => whnf
       first
        | (exact trivial)
        | (refine And.intro (by with_reducible rfl) ?_)
        | (refine And.intro (drawI (by kernel_rfl)) ?_)
        | (refine andI ?_ ?_)
        | (refine condT (by assumption) ?_)
        | (refine condF (by assumption) ?_)
        | (refine decT (by assumption) ?_)
        | (refine decF (by assumption) ?_)
        | (refine eqT (by assumption) ?_)
        | (refine eqF (by assumption) ?_)
        | (refine neT (by assumption) ?_)
        | (refine neF (by assumption) ?_)
        | (refine cEq (fun h => ?_) (fun h => ?_))
        | (refine cNe (fun h => ?_) (fun h => ?_))
        | (refine cNot (fun h => ?_) (fun h => ?_))
        | (refine cDec (fun h => ?_) (fun h => ?_))
        | (refine condN_split (fun h => ?_) (fun h => ?_))
        | (refine Exists.intro _ (And.intro (bytes_get ?_) ?_))
        | (refine Exists.intro (k + 1) (andI ?_ (andI ?_ ?_)))
        | (refine Or.inl (And.intro (by rfl : Nat.ble _ _ = true) ?_))
        | (refine Or.inl (And.intro Cl.lit ?_))
        | (refine Or.inr ?_)
        | (refine Exists.intro (1 : Nat) ?_)
        | (refine Exists.intro _ (And.intro rfl ?_))
        | (fail))
    all_goals try refine Side.mk ?_
    all_goals try dsimp only at *
    all_goals try refine eqI ?_
    all_goals try rfl
    all_goals try decide
    all_goals try refine rn_plain ?_
    all_goals try (first | (refine rp_all ?_; rfl) | (refine or_all ?_; rfl))
    all_goals try simp (disch := omega) only [wrap64, Int.zero_add, Int.sub_zero, Int.add_zero, List.take_succ_cons, List.take_zero, List.take_nil, List.cons_append, List.length_cons, List.length_nil, rp_cons, or_cons, List.all_cons, List.all_nil, kfc, V.one, one_int, one_bool, one_str, Bool.and_true, Bool.and_self, List.append_assoc, nil_b, rp_bls, or_bls, len_bls, snoc_bls, rp_nil, rp_app, rp_b, or_nil, or_app, or_b, len_b, take_b, drop_b, rep_b, app_b, List.length_append, List.length_take, List.length_drop, List.length_nil, List.drop_zero, List.take_length, List.nil_append, List.append_nil, Int.toNat_natCast, toNat_min, take_min, and_true, true_and, and_self, Int.toNat_natCast, gt_iff_lt] at *
    all_goals try omega
    all_goals try rfl
    all_goals try (simp; done)
    all_goals try decide
    all_goals first
      | (refine bool_close ?_
         simp only [Bool.false_eq_true, false_iff, beq_iff_eq]
         rintro rfl
         exact absurd rfl (by assumption))
      | (refine ⟨by omega, fun j hj => ?_⟩
         rcases Nat.lt_or_ge j k with q | q
         · exact h2 j q
         · obtain rfl : j = k := by omega
           exact UInt8.toNat_inj.1 (Int.ofNat.inj (by assumption)))
      | (refine bool_close ?_
         simp only [true_iff, beq_iff_eq]
         refine List.ext_getElem hab fun j hj hj' => ?_
         have := h2 j (by omega)
         rwa [List.getElem?_eq_getElem hj, List.getElem?_eq_getElem hj'] at this)
/-- may so many bytes be got there? -/
def nBad (b : BS) (p w : Int) : Prop := w < 1 ∨ w > 8 ∨ p < 0 ∨ p > b.length - w
instance (b : BS) (p w : Int) : Decidable (nBad b p w) := by unfold nBad; infer_instance
def nCut (b : BS) (p w : Int) : BS := if nBad b p w then [] else (b.drop p.toNat).take w.toNat
theorem nCut_len {b : BS} {p w : Int} (h : ¬ nBad b p w) : (nCut b p w).length = w.toNat := by
  unfold nCut
  rw [if_neg h]
  unfold nBad at h
  simp
  omega
theorem nCut_le (b : BS) (p w : Int) : (nCut b p w).length ≤ 8 := by
  by_cases h : nBad b p w
  · simp [nCut, h]
  · rw [nCut_len h]
    unfold nBad at h
    omega
theorem c_ncut (b : BS) (p w : Int) (hb : Side (b.length ≤ 2 ^ 40)) : FnC Try.prog 84 [bsV b, i64 p, i64 w] [] (.tup [bsV (nCut b p w), bV (decide (¬ nBad b p w))]) [] := by
  have hb := hb.h
  refine fn_vcI (N := 32) (d := 6) tabOk mixed inlN_ok 1 Try.func84 rfl rfl rfl ?_
  repeat'
    (conv => whnf
     first
      | (exact trivial)
      | (refine And.intro (by with_reducible rfl) ?_)
      | (refine And.intro (drawI (by kernel_rfl)) ?_)
      | (refine andI ?_ ?_)
      | (refine condT (by assumption) ?_)
      | (refine condF (by assumption) ?_)
      | (refine decT (by assumption) ?_)
      | (refine decF (by assumption) ?_)
      | (refine eqT (by assumption) ?_)
      | (refine eqF (by assumption) ?_)
      | (refine neT (by assumption) ?_)
      | (refine neF (by assumption) ?_)
      | (refine cEq (fun h => ?_) (fun h => ?_))
      | (refine cNe (fun h => ?_) (fun h => ?_))
      | (refine cNot (fun h => ?_) (fun h => ?_))
      | (refine cDec (fun h => ?_) (fun h => ?_))
      | (refine condN_split (fun h => ?_) (fun h => ?_))
      | (refine Exists.intro _ (And.intro rfl ?_))
      | (refine Or.inl (And.intro (by rfl : Nat.ble _ _ = true) ?_))
      | (refine Or.inl (And.intro Cl.lit ?_))
      | (refine Or.inr ?_)
      | (refine Exists.intro (1 : Nat) ?_)
      | (refine Exists.intro _ (And.intro rfl ?_))
      | (fail))
  all_goals try refine Side.mk ?_
  all_goals try dsimp only at *
  all_goals try refine eqI ?_
  all_goals try rfl
  all_goals try decide
  all_goals try refine rn_plain ?_
  all_goals try (first | (refine rp_all ?_; rfl) | (refine or_all ?_; rfl))
  all_goals try simp (disch := omega) only [wrap64, Int.zero_add, Int.sub_zero, Int.add_zero, List.take_succ_cons, List.take_zero, List.take_nil, List.cons_append, List.length_cons, List.length_nil, rp_cons, or_cons, List.all_cons, List.all_nil, kfc, V.one, one_int, one_bool, one_str, Bool.and_true, Bool.and_self, List.append_assoc, nil_b, rp_bls, or_bls, len_bls, snoc_bls, rp_nil, rp_app, rp_b, or_nil, or_app, or_b, len_b, take_b, drop_b, rep_b, app_b, List.length_append, List.length_take, List.length_drop, List.length_nil, List.drop_zero, List.take_length, List.nil_append, List.append_nil, Int.toNat_natCast, toNat_min, take_min, and_true, true_and, and_self] at *
  all_goals try omega
  all_goals try rfl
  all_goals try (simp; done)
  all_goals try decide
  all_goals try (have hq : nBad b p w := by unfold nBad; omega
                 simp only [nCut, hq, if_true, not_true, decide_false]
                 rfl)
  all_goals rw [wrap64 (by omega) (by omega)] at *
  all_goals first
    | omega
    | (have hq : ¬ nBad b p w := by unfold nBad; omega
       simp only [nCut, hq, if_false, not_false_iff, decide_true]
       rw [List.drop_take, show (p + w).toNat - p.toNat = w.toNat by omega])
def nBig (b : BS) (p w : Int) : Nat := beN (nCut b p w)
attribute [local irreducible] nCut
theorem c_big (b : BS) (p w : Int) (hb : Side (b.length ≤ 2 ^ 40)) : FnC Try.prog 68 [bsV b, i64 p, i64 w] [] (.tup [.lit (.int .u64 (nBig b p w)), bV (decide (¬ nBad b p w))]) [] := by
  have hb := hb.h
  have hl := nCut_le b p w
  refine fn_vcI (N := 32) (d := 6) tabOk mixed inlN_ok 1 Try.func68 rfl rfl rfl ?_
  repeat'
    (conv => whnf
     first
      | (exact trivial)
      | (refine And.intro (by with_reducible rfl) ?_)
      | (refine And.intro (drawI (by kernel_rfl)) ?_)
      | (refine andI ?_ ?_)
      | (refine condT (by assumption) ?_)
      | (refine condF (by assumption) ?_)
      | (refine decT (by assumption) ?_)
      | (refine decF (by assumption) ?_)
      | (refine eqT (by assumption) ?_)
      | (refine eqF (by assumption) ?_)
      | (refine neT (by assumption) ?_)
      | (refine neF (by assumption) ?_)
      | (refine cEq (fun h => ?_) (fun h => ?_))
      | (refine cNe (fun h => ?_) (fun h => ?_))
      | (refine cNot (fun h => ?_) (fun h => ?_))
      | (refine cDec (fun h => ?_) (fun h => ?_))
      | (refine condN_split (fun h => ?_) (fun h => ?_))
      | (refine Exists.intro _ (And.intro (c_ncut _ _ _ ?_) ?_))
      | (refine Or.inl (And.intro (by rfl : Nat.ble _ _ = true) ?_))
      | (refine Or.inl (And.intro Cl.lit ?_))
      | (refine Or.inr ?_)
      | (refine Exists.intro (1 : Nat) ?_)
      | (refine Exists.intro _ (And.intro rfl ?_))
      | (fail))
  all_goals try refine Side.mk ?_
  all_goals try dsimp only at *
  all_goals try refine eqI ?_
  all_goals try omega
  conv => whnf
  refine loop_w tabOk (ceN_sound tabOk mixed inlN_ok 1) mixed 21 (X := Nat) 0 (fun k => [(20, i64 (k : Nat)), (6, .lit (.int .u64 ((beN ((nCut b p w).take k) : Nat) : Int)))]) (fun _ => []) 0 (fun k => k ≤ (nCut b p w).length) (fun k => (nCut b p w).length - k) (Nat.zero_le _) ?_ ?_
  · repeat'
      (conv => whnf
       first
        | (exact trivial)
        | (refine And.intro (by with_reducible rfl) ?_)
        | (refine And.intro (drawI (by kernel_rfl)) ?_)
        | (refine andI ?_ ?_)
        | (refine condT (by assumption) ?_)
        | (refine condF (by assumption) ?_)
        | (refine decT (by assumption) ?_)
        | (refine decF (by assumption) ?_)
        | (refine eqT (by assumption) ?_)
        | (refine eqF (by assumption) ?_)
        | (refine neT (by assumption) ?_)
        | (refine neF (by assumption) ?_)
        | (refine cEq (fun h => ?_) (fun h => ?_))
        | (refine cNe (fun h => ?_) (fun h => ?_))
        | (refine cNot (fun h => ?_) (fun h => ?_))
        | (refine cDec (fun h => ?_) (fun h => ?_))
        | (refine condN_split (fun h => ?_) (fun h => ?_))
        | (refine Or.inl (And.intro (by rfl : Nat.ble _ _ = true) ?_))
        | (refine Or.inl (And.intro Cl.lit ?_))
        | (refine Or.inr ?_)
        | (refine Exists.intro (1 : Nat) ?_)
        | (refine Exists.intro _ (And.intro rfl ?_))
        | (fail))
    all_goals try refine Side.mk ?_
    all_goals try dsimp only at *
    all_goals try refine eqI ?_
    all_goals rfl
  · rintro k h1
    repeat'
      (conv => whnf
       first
        | (exact trivial)
        | (refine And.intro (by with_reducible rfl) ?_)
        | (refine And.intro (drawI (by kernel_rfl)) ?_)
        | (refine andI ?_ ?_)
        | (refine condT (by assumption) ?_)
        | (refine condF (by assumption) ?_)
        | (refine decT (by assumption) ?_)
        | (refine decF (by assumption) ?_)
        | (refine eqT (by assumption) ?_)
        | (refine eqF (by assumption) ?_)
        | (refine neT (by assumption) ?_)
        | (refine neF (by assumption) ?_)
        | (refine cEq (fun h => ?_) (fun h => ?_))
        | (refine cNe (fun h => ?_) (fun h => ?_))
        | (refine cNot (fun h => ?_) (fun h => ?_))
        | (refine cDec (fun h => ?_) (fun h => ?_))
        | (refine condN_split (fun h => ?_) (fun h => ?_))
        | (refine Exists.intro _ (And.intro (bytes_get ?_) ?_))
        | (refine Exists.intro (k + 1) (andI ?_ (andI ?_ ?_)))
        | (refine Or.inl (And.intro (by rfl : Nat.ble _ _ = true) ?_))
        | (refine Or.inl (And.intro Cl.lit ?_))
        | (refine Or.inr ?_)
        | (refine Exists.intro (1 : Nat) ?_)
        | (refine Exists.intro _ (And.intro rfl ?_))
        | (fail))
    all_goals try refine Side.mk ?_
    all_goals try dsimp only at *
    all_goals try refine eqI ?_
    all_goals try rfl
    all_goals try decide
    all_goals try refine rn_plain ?_
    all_goals try (first | (refine rp_all ?_; rfl) | (refine or_all ?_; rfl))
    all_goals try simp (disch := omega) only [wrap64, Int.zero_add, Int.sub_zero, Int.add_zero, List.take_succ_cons, List.take_zero, List.take_nil, List.cons_append, List.length_cons, List.length_nil, rp_cons, or_cons, List.all_cons, List.all_nil, kfc, V.one, one_int, one_bool, one_str, Bool.and_true, Bool.and_self, List.append_assoc, nil_b, rp_bls, or_bls, len_bls, snoc_bls, rp_nil, rp_app, rp_b, or_nil, or_app, or_b, len_b, take_b, drop_b, rep_b, app_b, List.length_append, List.length_take, List.length_drop, List.length_nil, List.drop_zero, List.take_length, List.nil_append, List.append_nil, Int.toNat_natCast, toNat_min, take_min, and_true, true_and, and_self, Int.toNat_natCast, gt_iff_lt] at *
    all_goals try omega
    all_goals try rfl
    all_goals try (simp; done)
    all_goals try decide
    all_goals first
      | (rw [take_getD 0 (by omega), beN_snoc]
         have hc := UInt8.toNat_lt ((nCut b p w)[k]?.getD 0)
         have hx := beN_lt k ((nCut b p w).take k) (by simp; omega)
         have hx2 : beN ((nCut b p w).take k) < 2 ^ 56 := Nat.lt_of_lt_of_le hx (Nat.le_trans (Nat.pow_le_pow_right (by decide) (show k ≤ 7 by omega)) (by decide))
         rw [or_low hc hx2]; done)
      | (rw [List.take_of_length_le (by omega)]; rfl)
noncomputable def inlG : List IRow := [(45, Try.f45, 27, 5, 0)]
theorem inlG_ok : IOk Try.prog (inlTab inlG) := inl_ok (by
  unfold inlG
  refine And.intro ⟨rfl, rfl, rfl, .inl rfl⟩ ?_
  exact trivial)
theorem c_concat (a b : List (List V)) (ha : Side (a.length ≤ 2 ^ 40)) (hb : Side (b.length ≤ 2 ^ 40)) (pa : Side (rowsPlain a)) (pb : Side (rowsPlain b)) (oa : Side (oneRows a)) (ob : Side (oneRows b)) : FnC Try.prog 28 [.sl 1 [[.sl 1 a], [.sl 1 b]]] [] (.sl 1 (a ++ b)) [] := by
  replace ha := ha.h; replace hb := hb.h; replace pa := pa.h; replace pb := pb.h; replace oa := oa.h; replace ob := ob.h
  refine fn_vcI (N := 36) (d := 6) tabOk mixed inlG_ok 3 Try.func28 rfl rfl rfl ?_
  repeat'
    (conv => whnf
     first
      | (exact trivial)
      | (refine And.intro (by with_reducible rfl) ?_)
      | (refine And.intro (drawI (by kernel_rfl)) ?_)
      | (refine andI ?_ ?_)
      | (refine condT (by assumption) ?_)
      | (refine condF (by assumption) ?_)
      | (refine decT (by assumption) ?_)
      | (refine decF (by assumption) ?_)
      | (refine eqT (by assumption) ?_)
      | (refine eqF (by assumption) ?_)
      | (refine neT (by assumption) ?_)
      | (refine neF (by assumption) ?_)
      | (refine cEq (fun h => ?_) (fun h => ?_))
      | (refine cNe (fun h => ?_) (fun h => ?_))
      | (refine cNot (fun h => ?_) (fun h => ?_))
      | (refine cDec (fun h => ?_) (fun h => ?_))
      | (refine condN_split (fun h => ?_) (fun h => ?_))
      | (refine Exists.intro _ (And.intro rfl ?_))
      | (refine loop_unr tabOk (ceN_sound tabOk mixed inlG_ok _) mixed 5 ?_)
      | (refine Or.inl (And.intro (by rfl : Nat.ble _ _ = true) ?_))
      | (refine Or.inl (And.intro Cl.lit ?_))
      | (refine Or.inr ?_)
      | (refine Exists.intro (1 : Nat) ?_)
      | (refine Exists.intro _ (And.intro rfl ?_))
      | (fail))
  all_goals try refine Side.mk ?_
  all_goals try dsimp only at *
  all_goals try refine eqI ?_
  all_goals have w1 : IntKind.i64.wrap (0 + (a.length : Int)) = a.length := by rw [Int.zero_add]; exact wrap64 (by omega) (by omega)
  all_goals have w2 : IntKind.i64.wrap ((a.length : Int) + b.length) = (a.length : Int) + b.length := wrap64 (by omega) (by omega)
  all_goals have w3 : IntKind.i64.wrap ((a.length : Int) + b.length - IntKind.i64.wrap (0 - ((0 : Nat) : Int))) = (a.length : Int) + b.length := by rw [show IntKind.i64.wrap (0 - ((0 : Nat) : Int)) = 0 from rfl, Int.sub_zero]; exact w2
  all_goals try simp only [w1, w2, w3, List.length_cons, List.length_nil, List.nil_append, rp_app, or_app, pa, pb, oa, ob, and_self, List.length_append, List.drop_zero] at *
  all_goals first
    | rfl
    | omega
    | decide
    | (exfalso; omega)
    | (rw [List.take_of_length_le (by simp)])
theorem c_concat3 (a b c : List (List V)) (ha : Side (a.length ≤ 2 ^ 40)) (hb : Side (b.length ≤ 2 ^ 40)) (hc : Side (c.length ≤ 2 ^ 40)) (pa : Side (rowsPlain a)) (pb : Side (rowsPlain b)) (pc : Side (rowsPlain c)) (oa : Side (oneRows a)) (ob : Side (oneRows b)) (oc : Side (oneRows c)) : FnC Try.prog 28 [.sl 1 [[.sl 1 a], [.sl 1 b], [.sl 1 c]]] [] (.sl 1 (a ++ b ++ c)) [] := by
  replace ha := ha.h; replace hb := hb.h; replace pa := pa.h; replace pb := pb.h; replace oa := oa.h; replace ob := ob.h; replace hc := hc.h; replace pc := pc.h; replace oc := oc.h
  refine fn_vcI (N := 36) (d := 6) tabOk mixed inlG_ok 3 Try.func28 rfl rfl rfl ?_
  repeat'
    (conv => whnf
     first
      | (exact trivial)
      | (refine And.intro (by with_reducible rfl) ?_)
      | (refine And.intro (drawI (by kernel_rfl)) ?_)
      | (refine andI ?_ ?_)
      | (refine condT (by assumption) ?_)
      | (refine condF (by assumption) ?_)
      | (refine decT (by assumption) ?_)
      | (refine decF (by assumption) ?_)
      | (refine eqT (by assumption) ?_)
      | (refine eqF (by assumption) ?_)
      | (refine neT (by assumption) ?_)
      | (refine neF (by assumption) ?_)
      | (refine cEq (fun h => ?_) (fun h => ?_))
      | (refine cNe (fun h => ?_) (fun h => ?_))
      | (refine cNot (fun h => ?_) (fun h => ?_))
      | (refine cDec (fun h => ?_) (fun h => ?_))
      | (refine condN_split (fun h => ?_) (fun h => ?_))
      | (refine Exists.intro _ (And.intro rfl ?_))
      | (refine loop_unr tabOk (ceN_sound tabOk mixed inlG_ok _) mixed 6 ?_)
      | (refine Or.inl (And.intro (by rfl : Nat.ble _ _ = true) ?_))
      | (refine Or.inl (And.intro Cl.lit ?_))
      | (refine Or.inr ?_)
      | (refine Exists.intro (1 : Nat) ?_)
      | (refine Exists.intro _ (And.intro rfl ?_))
      | (fail))
  all_goals try refine Side.mk ?_
  all_goals try dsimp only at *
  all_goals try refine eqI ?_
  all_goals have w1 : IntKind.i64.wrap (0 + (a.length : Int)) = a.length := by rw [Int.zero_add]; exact wrap64 (by omega) (by omega)
  all_goals have w2 : IntKind.i64.wrap ((a.length : Int) + b.length) = (a.length : Int) + b.length := wrap64 (by omega) (by omega)
  all_goals have w4 : IntKind.i64.wrap ((a.length : Int) + b.length + c.length) = (a.length : Int) + b.length + c.length := wrap64 (by omega) (by omega)
  all_goals have w3 : IntKind.i64.wrap ((a.length : Int) + b.length + c.length - IntKind.i64.wrap (0 - ((0 : Nat) : Int))) = (a.length : Int) + b.length + c.length := by rw [show IntKind.i64.wrap (0 - ((0 : Nat) : Int)) = 0 from rfl, Int.sub_zero]; exact w4
  all_goals try simp only [w1, w2, w3, w4, List.length_cons, List.length_nil, List.nil_append, rp_app, or_app, pa, pb, pc, oa, ob, oc, and_self, List.length_append, List.drop_zero] at *
  all_goals first
    | rfl
    | omega
    | decide
    | (exfalso; omega)
    | (rw [List.take_of_length_le (by simp; omega)])
    | (rw [List.take_of_length_le (by simp)])
noncomputable def inlW : List IRow := []
theorem inlW_ok : IOk Try.prog (inlTab inlW) := inl_ok (by
  unfold inlW
  exact trivial)
end Go.Proofs.Ytbieiehfohldjaa
