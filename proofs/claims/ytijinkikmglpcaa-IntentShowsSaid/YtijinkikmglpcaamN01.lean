/-
  Numbers in bytes, and slices held against each other.
-/
import Derived.Test.YtijinkikmglpcaaQh
import Derived.Laws.BitsAllLaws
namespace Go.Proofs.Ytijinkikmglpcaa
open Go
set_option linter.unusedVariables false
set_option linter.unusedSimpArgs false
set_option maxRecDepth 100000
set_option maxHeartbeats 2000000

theorem sl_congr {sz sz' : Nat} {l l' : List (List V)} (h : sz = sz') (e : l = l') : V.sl sz l = V.sl sz' l' := by rw [h, e]
/-- a number of bytes, the highest one first -/
def beN (l : BS) : Nat := l.foldl (fun x c => x * 256 + c.toNat) 0
theorem beN_snoc (l : BS) (c : UInt8) : beN (l ++ [c]) = beN l * 256 + c.toNat := by simp [beN]
theorem beN_lt : ∀ (n : Nat) (l : BS), l.length = n → beN l < 256 ^ n := by
  intro n
  induction n with
  | zero =>
    intro l h
    rw [List.length_eq_zero_iff.1 h]
    decide
  | succ n ih =>
    intro l h
    have hl : l ≠ [] := fun e => by rw [e] at h; cases h
    rw [← List.dropLast_concat_getLast hl, beN_snoc]
    have h1 := ih l.dropLast (by simp; omega)
    have h2 := UInt8.toNat_lt (l.getLast hl)
    rw [Nat.pow_succ]
    omega
theorem or_low {x : Nat} {c : Nat} (hc : c < 256) (hx : x < 2 ^ 56) : bits .or .u64 (IntKind.u64.wrap ((x : Int) * 2 ^ min (Int.toNat 8) IntKind.u64.bits)) (IntKind.u64.wrap (c : Int)) = ((x * 256 + c : Nat) : Int) := by
  have e1 : IntKind.u64.wrap ((x : Int) * 2 ^ min (Int.toNat 8) IntKind.u64.bits) = ((x * 2 ^ 8 : Nat) : Int) := by
    rw [show min (Int.toNat 8) IntKind.u64.bits = 8 from rfl, wrapu64]
    push_cast
    omega
  have e2 : IntKind.u64.wrap (c : Int) = ((c : Nat) : Int) := by
    rw [wrapu64]
    omega
  rw [e1, e2, u64_or_nat _ _ (by omega) (by omega), Nat.mul_comm x, Nat.two_pow_add_eq_or_of_lt (i := 8) hc x |>.symm]
noncomputable def inlN : List IRow := []
theorem inlN_ok : IOk Try.prog (inlTab inlN) := inl_ok (by
  unfold inlN
  exact trivial)
noncomputable def inlG : List IRow := [(75, Try.f75, 27, 5, 0)]
theorem inlG_ok : IOk Try.prog (inlTab inlG) := inl_ok (by
  unfold inlG
  refine And.intro ⟨rfl, rfl, rfl, .inl rfl⟩ ?_
  exact trivial)
theorem c_concat (a b : List (List V)) (ha : Side (a.length ≤ 2 ^ 40)) (hb : Side (b.length ≤ 2 ^ 40)) (pa : Side (rowsPlain a)) (pb : Side (rowsPlain b)) (oa : Side (oneRows a)) (ob : Side (oneRows b)) : FnC Try.prog 53 [.sl 1 [[.sl 1 a], [.sl 1 b]]] [] (.sl 1 (a ++ b)) [] := by
  replace ha := ha.h; replace hb := hb.h; replace pa := pa.h; replace pb := pb.h; replace oa := oa.h; replace ob := ob.h
  refine fn_vcI (N := 36) (d := 6) tabOk mixed inlG_ok 3 Try.func53 rfl rfl rfl ?_
  repeat'
    (conv => whnf
     first
      | (exact trivial)
      | (refine And.intro (by with_reducible rfl) ?_)
      | (refine And.intro (drawI (by kernel_rfl)) ?_)
      | (refine andI ?_ ?_)
      | (refine condT (by assumption) ?_)
      | (refine condF (by assumption) ?_)
      | (refine decT (by assumption) ?_)
      | (refine decF (by assumption) ?_)
      | (refine eqT (by assumption) ?_)
      | (refine eqF (by assumption) ?_)
      | (refine neT (by assumption) ?_)
      | (refine neF (by assumption) ?_)
      | (refine cEq (fun h => ?_) (fun h => ?_))
      | (refine cNe (fun h => ?_) (fun h => ?_))
      | (refine cNot (fun h => ?_) (fun h => ?_))
      | (refine cDec (fun h => ?_) (fun h => ?_))
      | (refine condN_split (fun h => ?_) (fun h => ?_))
      | (refine Exists.intro _ (And.intro rfl ?_))
      | (refine loop_unr tabOk (ceN_sound tabOk mixed inlG_ok _) mixed 5 ?_)
      | (refine Or.inl (And.intro (by rfl : Nat.ble _ _ = true) ?_))
      | (refine Or.inl (And.intro Cl.lit ?_))
      | (refine Or.inr ?_)
      | (refine Exists.intro (1 : Nat) ?_)
      | (refine Exists.intro _ (And.intro rfl ?_))
      | (fail))
  all_goals try refine Side.mk ?_
  all_goals try dsimp only at *
  all_goals try refine eqI ?_
  all_goals have w1 : IntKind.i64.wrap (0 + (a.length : Int)) = a.length := by rw [Int.zero_add]; exact wrap64 (by omega) (by omega)
  all_goals have w2 : IntKind.i64.wrap ((a.length : Int) + b.length) = (a.length : Int) + b.length := wrap64 (by omega) (by omega)
  all_goals have w3 : IntKind.i64.wrap ((a.length : Int) + b.length - IntKind.i64.wrap (0 - ((0 : Nat) : Int))) = (a.length : Int) + b.length := by rw [show IntKind.i64.wrap (0 - ((0 : Nat) : Int)) = 0 from rfl, Int.sub_zero]; exact w2
  all_goals try simp only [w1, w2, w3, List.length_cons, List.length_nil, List.nil_append, rp_app, or_app, pa, pb, oa, ob, and_self, List.length_append, List.drop_zero] at *
  all_goals first
    | rfl
    | omega
    | decide
    | (exfalso; omega)
    | (rw [List.take_of_length_le (by simp)])
theorem c_concat3 (a b c : List (List V)) (ha : Side (a.length ≤ 2 ^ 40)) (hb : Side (b.length ≤ 2 ^ 40)) (hc : Side (c.length ≤ 2 ^ 40)) (pa : Side (rowsPlain a)) (pb : Side (rowsPlain b)) (pc : Side (rowsPlain c)) (oa : Side (oneRows a)) (ob : Side (oneRows b)) (oc : Side (oneRows c)) : FnC Try.prog 53 [.sl 1 [[.sl 1 a], [.sl 1 b], [.sl 1 c]]] [] (.sl 1 (a ++ b ++ c)) [] := by
  replace ha := ha.h; replace hb := hb.h; replace pa := pa.h; replace pb := pb.h; replace oa := oa.h; replace ob := ob.h; replace hc := hc.h; replace pc := pc.h; replace oc := oc.h
  refine fn_vcI (N := 36) (d := 6) tabOk mixed inlG_ok 3 Try.func53 rfl rfl rfl ?_
  repeat'
    (conv => whnf
     first
      | (exact trivial)
      | (refine And.intro (by with_reducible rfl) ?_)
      | (refine And.intro (drawI (by kernel_rfl)) ?_)
      | (refine andI ?_ ?_)
      | (refine condT (by assumption) ?_)
      | (refine condF (by assumption) ?_)
      | (refine decT (by assumption) ?_)
      | (refine decF (by assumption) ?_)
      | (refine eqT (by assumption) ?_)
      | (refine eqF (by assumption) ?_)
      | (refine neT (by assumption) ?_)
      | (refine neF (by assumption) ?_)
      | (refine cEq (fun h => ?_) (fun h => ?_))
      | (refine cNe (fun h => ?_) (fun h => ?_))
      | (refine cNot (fun h => ?_) (fun h => ?_))
      | (refine cDec (fun h => ?_) (fun h => ?_))
      | (refine condN_split (fun h => ?_) (fun h => ?_))
      | (refine Exists.intro _ (And.intro rfl ?_))
      | (refine loop_unr tabOk (ceN_sound tabOk mixed inlG_ok _) mixed 6 ?_)
      | (refine Or.inl (And.intro (by rfl : Nat.ble _ _ = true) ?_))
      | (refine Or.inl (And.intro Cl.lit ?_))
      | (refine Or.inr ?_)
      | (refine Exists.intro (1 : Nat) ?_)
      | (refine Exists.intro _ (And.intro rfl ?_))
      | (fail))
  all_goals try refine Side.mk ?_
  all_goals try dsimp only at *
  all_goals try refine eqI ?_
  all_goals have w1 : IntKind.i64.wrap (0 + (a.length : Int)) = a.length := by rw [Int.zero_add]; exact wrap64 (by omega) (by omega)
  all_goals have w2 : IntKind.i64.wrap ((a.length : Int) + b.length) = (a.length : Int) + b.length := wrap64 (by omega) (by omega)
  all_goals have w4 : IntKind.i64.wrap ((a.length : Int) + b.length + c.length) = (a.length : Int) + b.length + c.length := wrap64 (by omega) (by omega)
  all_goals have w3 : IntKind.i64.wrap ((a.length : Int) + b.length + c.length - IntKind.i64.wrap (0 - ((0 : Nat) : Int))) = (a.length : Int) + b.length + c.length := by rw [show IntKind.i64.wrap (0 - ((0 : Nat) : Int)) = 0 from rfl, Int.sub_zero]; exact w4
  all_goals try simp only [w1, w2, w3, w4, List.length_cons, List.length_nil, List.nil_append, rp_app, or_app, pa, pb, pc, oa, ob, oc, and_self, List.length_append, List.drop_zero] at *
  all_goals first
    | rfl
    | omega
    | decide
    | (exfalso; omega)
    | (rw [List.take_of_length_le (by simp; omega)])
    | (rw [List.take_of_length_le (by simp)])
noncomputable def inlW : List IRow := [(76, Try.f76, 23, 5, 0), (77, Try.f77, 28, 5, 0)]
theorem inlW_ok : IOk Try.prog (inlTab inlW) := inl_ok (by
  unfold inlW
  refine And.intro ⟨rfl, rfl, rfl, .inl rfl⟩ ?_
  refine And.intro ⟨rfl, rfl, rfl, .inl rfl⟩ ?_
  exact trivial)
theorem c_put1 (x : Int) : FnC Try.prog 55 [.lit (.int .u64 x), i64 1] [] (.sl 1 [[.lit (.int .u8 (IntKind.u8.wrap x))]]) [] := by
  refine fn_vcI (N := 12) (d := 4) tabOk mixed inlW_ok 3 Try.func55 rfl rfl rfl ?_
  repeat'
    (conv => whnf
     first
      | (exact trivial)
      | (refine And.intro (by with_reducible rfl) ?_)
      | (refine And.intro (drawI (by kernel_rfl)) ?_)
      | (refine andI ?_ ?_)
      | (refine condT (by assumption) ?_)
      | (refine condF (by assumption) ?_)
      | (refine decT (by assumption) ?_)
      | (refine decF (by assumption) ?_)
      | (refine eqT (by assumption) ?_)
      | (refine eqF (by assumption) ?_)
      | (refine neT (by assumption) ?_)
      | (refine neF (by assumption) ?_)
      | (refine cEq (fun h => ?_) (fun h => ?_))
      | (refine cNe (fun h => ?_) (fun h => ?_))
      | (refine cNot (fun h => ?_) (fun h => ?_))
      | (refine cDec (fun h => ?_) (fun h => ?_))
      | (refine condN_split (fun h => ?_) (fun h => ?_))
      | (refine Exists.intro _ (And.intro rfl ?_))
      | (refine loop_unr tabOk (ceN_sound tabOk mixed inlW_ok _) mixed 6 ?_)
      | (refine Or.inl (And.intro (by rfl : Nat.ble _ _ = true) ?_))
      | (refine Or.inl (And.intro Cl.lit ?_))
      | (refine Or.inr ?_)
      | (refine Exists.intro (1 : Nat) ?_)
      | (refine Exists.intro _ (And.intro rfl ?_))
      | (fail))
  all_goals try refine Side.mk ?_
  all_goals try dsimp only at *
  all_goals try refine eqI ?_
  all_goals try rfl
  all_goals try decide
  all_goals try refine rn_plain ?_
  all_goals try (first | (refine rp_all ?_; rfl) | (refine or_all ?_; rfl))
  all_goals try simp (disch := omega) only [wrap64, Int.zero_add, Int.sub_zero, Int.add_zero, List.take_succ_cons, List.take_zero, List.take_nil, List.cons_append, List.length_cons, List.length_nil, rp_cons, or_cons, List.all_cons, List.all_nil, kfc, V.one, one_int, one_bool, one_str, Bool.and_true, Bool.and_self, List.append_assoc, nil_b, rp_bls, or_bls, len_bls, snoc_bls, rp_nil, rp_app, rp_b, or_nil, or_app, or_b, len_b, take_b, drop_b, rep_b, app_b, List.length_append, List.length_take, List.length_drop, List.length_nil, List.drop_zero, List.take_length, List.nil_append, List.append_nil, Int.toNat_natCast, toNat_min, take_min, and_true, true_and, and_self] at *
  all_goals try omega
  all_goals try rfl
  all_goals try (simp; done)
  all_goals try decide
theorem c_put2 (x : Int) : FnC Try.prog 55 [.lit (.int .u64 x), i64 2] [] (.sl 1 [[.lit (.int .u8 (IntKind.u8.wrap (x.fdiv (2 ^ min (Int.toNat 8) IntKind.u64.bits))))], [.lit (.int .u8 (IntKind.u8.wrap x))]]) [] := by
  refine fn_vcI (N := 12) (d := 4) tabOk mixed inlW_ok 3 Try.func55 rfl rfl rfl ?_
  repeat'
    (conv => whnf
     first
      | (exact trivial)
      | (refine And.intro (by with_reducible rfl) ?_)
      | (refine And.intro (drawI (by kernel_rfl)) ?_)
      | (refine andI ?_ ?_)
      | (refine condT (by assumption) ?_)
      | (refine condF (by assumption) ?_)
      | (refine decT (by assumption) ?_)
      | (refine decF (by assumption) ?_)
      | (refine eqT (by assumption) ?_)
      | (refine eqF (by assumption) ?_)
      | (refine neT (by assumption) ?_)
      | (refine neF (by assumption) ?_)
      | (refine cEq (fun h => ?_) (fun h => ?_))
      | (refine cNe (fun h => ?_) (fun h => ?_))
      | (refine cNot (fun h => ?_) (fun h => ?_))
      | (refine cDec (fun h => ?_) (fun h => ?_))
      | (refine condN_split (fun h => ?_) (fun h => ?_))
      | (refine Exists.intro _ (And.intro rfl ?_))
      | (refine loop_unr tabOk (ceN_sound tabOk mixed inlW_ok _) mixed 6 ?_)
      | (refine Or.inl (And.intro (by rfl : Nat.ble _ _ = true) ?_))
      | (refine Or.inl (And.intro Cl.lit ?_))
      | (refine Or.inr ?_)
      | (refine Exists.intro (1 : Nat) ?_)
      | (refine Exists.intro _ (And.intro rfl ?_))
      | (fail))
  all_goals try refine Side.mk ?_
  all_goals try dsimp only at *
  all_goals try refine eqI ?_
  all_goals try rfl
  all_goals try decide
  all_goals try refine rn_plain ?_
  all_goals try (first | (refine rp_all ?_; rfl) | (refine or_all ?_; rfl))
  all_goals try simp (disch := omega) only [wrap64, Int.zero_add, Int.sub_zero, Int.add_zero, List.take_succ_cons, List.take_zero, List.take_nil, List.cons_append, List.length_cons, List.length_nil, rp_cons, or_cons, List.all_cons, List.all_nil, kfc, V.one, one_int, one_bool, one_str, Bool.and_true, Bool.and_self, List.append_assoc, nil_b, rp_bls, or_bls, len_bls, snoc_bls, rp_nil, rp_app, rp_b, or_nil, or_app, or_b, len_b, take_b, drop_b, rep_b, app_b, List.length_append, List.length_take, List.length_drop, List.length_nil, List.drop_zero, List.take_length, List.nil_append, List.append_nil, Int.toNat_natCast, toNat_min, take_min, and_true, true_and, and_self] at *
  all_goals try omega
  all_goals try rfl
  all_goals try (simp; done)
  all_goals try decide
end Go.Proofs.Ytijinkikmglpcaa
