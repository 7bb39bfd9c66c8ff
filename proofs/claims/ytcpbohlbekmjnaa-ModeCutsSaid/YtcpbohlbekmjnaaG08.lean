/-
  Modes (layer 8): the laws' functions.
-/
import Derived.Test.YtcpbohlbekmjnaaE08
import Derived.Test.YtcpbohlbekmjnaaF08
namespace Go.Proofs.Ytcpbohlbekmjnaa
open Go
set_option linter.unusedVariables false
set_option linter.unusedSimpArgs false
set_option maxRecDepth 100000
set_option maxHeartbeats 4000000

theorem c_refSelect (b : BS) (ten c : Bool) (hb : Side (b.length ≤ 2 ^ 20)) : FnC Try.prog 14 [bsV b, bV ten, bV c] [] (.tup [bV (mSel b ten c).1, (mSel b ten c).2.v]) [] := by
  cases ten
  · exact c_refSelect_false b c hb
  · exact c_refSelect_true b c hb
noncomputable def inl8a : List IRow := [(15, Try.f15, 11, 4)]
theorem inl8a_ok : IOk Try.prog (inlTab inl8a) := inl_ok (by
  unfold inl8a
  repeat' (first | exact trivial | refine And.intro (And.intro rfl (And.intro rfl rfl)) ?_))
theorem c_alA : FnC Try.prog 9 [.agg [i64 0x1a, .lit (.int .u64 0), i64 192, i64 0x3f, i64 0], bV true, bV true] [] (.tup [bsV [35, 0, 0x80, 0, 8, 18, 4, 0, 0, 0, 0, 0, 0, 0, 0, 0, 0, 0, 0, 0, 0, 0, 0, 0, 28, 10, 0, 0, 0, 0, 0, 0, 0, 0, 0, 0], sOk.v]) [] := c_answer ⟨0x1a, 0, 192, 0x3f, 0⟩ true true
theorem c_alB : FnC Try.prog 9 [.agg [i64 0x5a, .lit (.int .u64 0), i64 9, i64 8, i64 1], bV false, bV false] [] (.tup [bsV [0, 26, 0, 0, 0, 0, 0, 0, 8], sOk.v]) [] := c_answer ⟨0x5a, 0, 9, 8, 1⟩ false false
theorem c_alC : FnC Try.prog 9 [.agg [i64 0x1a, .lit (.int .u64 0), i64 192, i64 0x3f, i64 3], bV true, bV true] [] (.tup [bsV [], sSave.v]) [] := c_answer ⟨0x1a, 0, 192, 0x3f, 3⟩ true true
theorem c_alD : FnC Try.prog 9 [.agg [i64 0x1a, .lit (.int .u64 0), i64 192, i64 9, i64 0], bV true, bV true] [] (.tup [bsV [], sField.v]) [] := c_answer ⟨0x1a, 0, 192, 9, 0⟩ true true
theorem c_alE : FnC Try.prog 13 [bsV ([0, 0, 0, 0] ++ mOne 4), bV false, bV false] [] (.tup [bV true, sOk.v]) [] := c_select ([0, 0, 0, 0] ++ mOne 4) false false ⟨by decide⟩
theorem c_alF : FnC Try.prog 13 [bsV [8, 18, 4], bV false, bV false] [] (.tup [bV false, sShort.v]) [] := c_select [8, 18, 4] false false ⟨by decide⟩
theorem c_alP : FnC Try.prog 11 [i64 8, i64 0, bV true] [] (.tup [bsV [8, 18, 4, 0, 0, 0, 0, 0, 0, 0, 0, 0, 0, 0, 0, 0, 0, 0, 0, 0], bV true]) [] := c_page 8 0 true
theorem c_alive8 : FnC Try.prog 8 [] [] (bV true) [] := by
  refine fn_vcI (N := 124) (d := 7) tabOk mixed inl8a_ok 2 Try.func8 rfl rfl rfl ?_
  repeat'
    (conv => whnf
     first
      | (exact trivial)
      | (refine And.intro (by with_reducible rfl) ?_)
      | (refine And.intro (drawI (by kernel_rfl)) ?_)
      | (refine andI ?_ ?_)
      | (refine condT (by assumption) ?_)
      | (refine condF (by assumption) ?_)
      | (refine decT (by assumption) ?_)
      | (refine decF (by assumption) ?_)
      | (refine eqT (by assumption) ?_)
      | (refine eqF (by assumption) ?_)
      | (refine neT (by assumption) ?_)
      | (refine neF (by assumption) ?_)
      | (refine cEq (fun h => ?_) (fun h => ?_))
      | (refine cNe (fun h => ?_) (fun h => ?_))
      | (refine cNot (fun h => ?_) (fun h => ?_))
      | (refine cDec (fun h => ?_) (fun h => ?_))
      | (refine condN_split (fun h => ?_) (fun h => ?_))
      | (refine Exists.intro _ (And.intro (c_alP) ?_))
      | (refine Exists.intro _ (And.intro (c_alA) ?_))
      | (refine Exists.intro _ (And.intro (c_alB) ?_))
      | (refine Exists.intro _ (And.intro (c_alC) ?_))
      | (refine Exists.intro _ (And.intro (c_alD) ?_))
      | (refine Exists.intro _ (And.intro (fnC_args c_alE rfl) ?_))
      | (refine Exists.intro _ (And.intro (fnC_args c_alF rfl) ?_))
      | (refine Exists.intro _ (And.intro eq_sns ?_))
      | (refine Exists.intro _ (And.intro (by first | rfl | ((conv => lhs; simp only [nil_b, rp_bls, or_bls, len_bls, snoc_bls, rp_nil, rp_app, rp_b, or_nil, or_app, or_b, len_b, take_b, drop_b, rep_b, app_b, List.length_append, List.length_take, List.length_drop, List.length_nil, List.drop_zero, List.take_length, List.nil_append, List.append_nil, Int.toNat_natCast, toNat_min, take_min, and_true, true_and, and_self]) <;> rfl)) ?_))
      | (refine Exists.intro _ (And.intro rfl ?_))
      | (refine Or.inl (And.intro (by kernel_rfl : Nat.ble _ _ = true) ?_))
      | (refine Or.inl (And.intro Cl.lit ?_))
      | (refine Or.inr ?_)
      | (refine Exists.intro (1 : Nat) ?_)
      | (fail))
  all_goals try refine Side.mk ?_
  all_goals try dsimp only at *
  all_goals try refine eqI ?_
  all_goals try rfl
  all_goals try decide
  all_goals try refine rn_plain ?_
  all_goals try (first | (refine rp_all ?_; rfl) | (refine or_all ?_; rfl))
  all_goals try simp (disch := omega) only [wrap64, Int.zero_add, Int.sub_zero, Int.add_zero, List.take_succ_cons, List.take_zero, List.take_nil, List.cons_append, List.length_cons, List.length_nil, rp_cons, or_cons, List.all_cons, List.all_nil, kfc, V.one, one_int, one_bool, one_str, Bool.and_true, Bool.and_self, List.append_assoc, nil_b, rp_bls, or_bls, len_bls, snoc_bls, rp_nil, rp_app, rp_b, or_nil, or_app, or_b, len_b, take_b, drop_b, rep_b, app_b, List.length_append, List.length_take, List.length_drop, List.length_nil, List.drop_zero, List.take_length, List.nil_append, List.append_nil, Int.toNat_natCast, toNat_min, take_min, and_true, true_and, and_self] at *
  all_goals try omega
  all_goals try rfl
  all_goals try (simp; done)
  all_goals try decide
  all_goals set_option pp.maxSteps 1500 in trace_state
theorem mAll_len (x : Cmd) (c p : Bool) : (mAll x c p).length ≤ 40 := by
  unfold mAll mPage
  split <;> split <;> (try split) <;> (try split) <;> simp [mOne, mTwo]
theorem mAns_cut (op pos n pg bits : Int) (c p : Bool) : mAns ⟨op, pos, n, pg, bits⟩ c p = ((mAns ⟨op, pos, 1000, pg, bits⟩ c p).1.take n.toNat, (mAns ⟨op, pos, 1000, pg, bits⟩ c p).2) := by
  have hl : ∀ k, mAll ⟨op, pos, k, pg, bits⟩ c p = mAll ⟨op, pos, 0, pg, bits⟩ c p := fun k => rfl
  have h40 := mAll_len ⟨op, pos, 0, pg, bits⟩ c p
  unfold mAns
  simp only [hl]
  split
  · simp
  · split
    · simp
    · split
      · simp
      · rw [List.take_of_length_le (i := Int.toNat 1000) (by simp; omega)]
theorem mAns_len (x : Cmd) (c p : Bool) : (mAns x c p).1.length ≤ 40 := by
  have := mAll_len x c p
  unfold mAns
  repeat' split
  · simp
  · simp
  · simp
  · simp; omega
def opOf (ten : Bool) : Int := if ten then 0x5a else 0x1a
/-- what is told of a page -/
def mTold (pg : Int) (ten a b : Bool) : BS := mAll ⟨opOf ten, 0, 200, pg, 0⟩ a b
theorem c_told8 (ten a b : Bool) : FnC Try.prog 9 [.agg [i64 (opOf ten), .lit (.int .u64 0), i64 200, i64 8, i64 0], bV a, bV b] [] (.tup [bsV (mTold 8 ten a b), sOk.v]) [] := by
  have h := c_answer ⟨opOf ten, 0, 200, 8, 0⟩ a b
  rw [show mAns ⟨opOf ten, 0, 200, 8, 0⟩ a b = (mTold 8 ten a b, sOk) from by cases ten <;> cases a <;> cases b <;> rfl] at h
  exact h
theorem c_told28 (ten a b : Bool) : FnC Try.prog 9 [.agg [i64 (opOf ten), .lit (.int .u64 0), i64 200, i64 28, i64 0], bV a, bV b] [] (.tup [bsV (mTold 28 ten a b), sOk.v]) [] := by
  have h := c_answer ⟨opOf ten, 0, 200, 28, 0⟩ a b
  rw [show mAns ⟨opOf ten, 0, 200, 28, 0⟩ a b = (mTold 28 ten a b, sOk) from by cases ten <;> cases a <;> cases b <;> rfl] at h
  exact h
theorem c_told63 (ten a b : Bool) : FnC Try.prog 9 [.agg [i64 (opOf ten), .lit (.int .u64 0), i64 200, i64 63, i64 0], bV a, bV b] [] (.tup [bsV (mTold 63 ten a b), sOk.v]) [] := by
  have h := c_answer ⟨opOf ten, 0, 200, 63, 0⟩ a b
  rw [show mAns ⟨opOf ten, 0, 200, 63, 0⟩ a b = (mTold 63 ten a b, sOk) from by cases ten <;> cases a <;> cases b <;> rfl] at h
  exact h
theorem c_toldN {pg : Int} (ten a b : Bool) (n1 : pg ≠ 8) (n2 : pg ≠ 28) (n3 : pg ≠ 63) : FnC Try.prog 9 [.agg [i64 (opOf ten), .lit (.int .u64 0), i64 200, i64 pg, i64 0], bV a, bV b] [] (.tup [bsV [], sField.v]) [] := by
  have h := c_answer ⟨opOf ten, 0, 200, pg, 0⟩ a b
  rw [ans_pg (x := ⟨opOf ten, 0, 200, pg, 0⟩) n1 n2 n3 (by show (0 : Int) ≠ 3; decide)] at h
  exact h
theorem c_back8 (ten a b c : Bool) : FnC Try.prog 13 [bsV (mTold 8 ten a b), bV ten, bV c] [] (.tup [bV a, sOk.v]) [] := by
  have h := c_select (mTold 8 ten a b) ten c ⟨Nat.le_trans (mAll_len _ _ _) (by decide)⟩
  rw [show mSel (mTold 8 ten a b) ten c = (a, sOk) from by cases ten <;> cases a <;> cases b <;> cases c <;> rfl] at h
  exact h
theorem c_back28 (ten a b c : Bool) : FnC Try.prog 13 [bsV (mTold 28 ten a b), bV ten, bV c] [] (.tup [bV c, sOk.v]) [] := by
  have h := c_select (mTold 28 ten a b) ten c ⟨Nat.le_trans (mAll_len _ _ _) (by decide)⟩
  rw [show mSel (mTold 28 ten a b) ten c = (c, sOk) from by cases ten <;> cases a <;> cases b <;> cases c <;> rfl] at h
  exact h
theorem c_back63 (ten a b c : Bool) : FnC Try.prog 13 [bsV (mTold 63 ten a b), bV ten, bV c] [] (.tup [bV a, sOk.v]) [] := by
  have h := c_select (mTold 63 ten a b) ten c ⟨Nat.le_trans (mAll_len _ _ _) (by decide)⟩
  rw [show mSel (mTold 63 ten a b) ten c = (a, sOk) from by cases ten <;> cases a <;> cases b <;> cases c <;> rfl] at h
  exact h
theorem told28 (ten a b c : Bool) : mTold 28 ten a b = mTold 28 ten c b := by cases ten <;> cases a <;> cases b <;> cases c <;> rfl
attribute [local irreducible] mAns mPage mSel
theorem c_modeAnswers (x : Cmd) (c p : Bool) : FnC Try.prog 3 [x.v, bV c, bV p] [] (bV true) [] := by
  obtain ⟨op, pos, n, pg, bits⟩ := x
  refine fn_vcI (N := 71) (d := 7) tabOk mixed inl8a_ok 2 Try.func3 rfl rfl rfl ?_
  repeat'
    (conv => whnf
     first
      | (exact trivial)
      | (refine And.intro (by with_reducible rfl) ?_)
      | (refine And.intro (drawI (by kernel_rfl)) ?_)
      | (refine andI ?_ ?_)
      | (refine condT (by assumption) ?_)
      | (refine condF (by assumption) ?_)
      | (refine decT (by assumption) ?_)
      | (refine decF (by assumption) ?_)
      | (refine eqT (by assumption) ?_)
      | (refine eqF (by assumption) ?_)
      | (refine neT (by assumption) ?_)
      | (refine neF (by assumption) ?_)
      | (refine cEq (fun h => ?_) (fun h => ?_))
      | (refine cNe (fun h => ?_) (fun h => ?_))
      | (refine cNot (fun h => ?_) (fun h => ?_))
      | (refine cDec (fun h => ?_) (fun h => ?_))
      | (refine condN_split (fun h => ?_) (fun h => ?_))
      | (refine Exists.intro _ (And.intro (c_alive8) ?_))
      | (refine Exists.intro _ (And.intro (c_answer ⟨_, _, _, _, _⟩ _ _) ?_))
      | (refine Exists.intro _ (And.intro (c_refAnswer ⟨_, _, _, _, _⟩ _ _) ?_))
      | (refine Exists.intro _ (And.intro (c_page _ _ _) ?_))
      | (refine Exists.intro _ (And.intro (c_refPage _ _ _) ?_))
      | (refine Exists.intro _ (And.intro eq_sns ?_))
      | (refine Exists.intro _ (And.intro (by first | rfl | ((conv => lhs; simp only [nil_b, rp_bls, or_bls, len_bls, snoc_bls, rp_nil, rp_app, rp_b, or_nil, or_app, or_b, len_b, take_b, drop_b, rep_b, app_b, List.length_append, List.length_take, List.length_drop, List.length_nil, List.drop_zero, List.take_length, List.nil_append, List.append_nil, Int.toNat_natCast, toNat_min, take_min, and_true, true_and, and_self]) <;> rfl)) ?_))
      | (refine Or.inl (And.intro (by kernel_rfl : Nat.ble _ _ = true) ?_))
      | (refine Or.inl (And.intro Cl.lit ?_))
      | (refine Or.inr ?_)
      | (refine Exists.intro (1 : Nat) ?_)
      | (fail))
  all_goals try refine Side.mk ?_
  all_goals try dsimp only at *
  all_goals try refine eqI ?_
  all_goals first | rfl | (simp; done) | (exfalso; simp at *; done)
theorem c_modeSelects (b : BS) (ten c : Bool) : FnC Try.prog 4 [bsV b, bV ten, bV c] [] (bV true) [] := by
  refine fn_vcI (N := 38) (d := 6) tabOk mixed inl8a_ok 2 Try.func4 rfl rfl rfl ?_
  repeat'
    (conv => whnf
     first
      | (exact trivial)
      | (refine And.intro (by with_reducible rfl) ?_)
      | (refine And.intro (drawI (by kernel_rfl)) ?_)
      | (refine andI ?_ ?_)
      | (refine condT (by assumption) ?_)
      | (refine condF (by assumption) ?_)
      | (refine decT (by assumption) ?_)
      | (refine decF (by assumption) ?_)
      | (refine eqT (by assumption) ?_)
      | (refine eqF (by assumption) ?_)
      | (refine neT (by assumption) ?_)
      | (refine neF (by assumption) ?_)
      | (refine cEq (fun h => ?_) (fun h => ?_))
      | (refine cNe (fun h => ?_) (fun h => ?_))
      | (refine cNot (fun h => ?_) (fun h => ?_))
      | (refine cDec (fun h => ?_) (fun h => ?_))
      | (refine condN_split (fun h => ?_) (fun h => ?_))
      | (refine Exists.intro _ (And.intro (c_alive8) ?_))
      | (refine Exists.intro _ (And.intro (c_select _ _ _ ?_) ?_))
      | (refine Exists.intro _ (And.intro (c_refSelect _ _ _ ?_) ?_))
      | (refine Exists.intro _ (And.intro eq_sns ?_))
      | (refine Exists.intro _ (And.intro (by first | rfl | ((conv => lhs; simp only [nil_b, rp_bls, or_bls, len_bls, snoc_bls, rp_nil, rp_app, rp_b, or_nil, or_app, or_b, len_b, take_b, drop_b, rep_b, app_b, List.length_append, List.length_take, List.length_drop, List.length_nil, List.drop_zero, List.take_length, List.nil_append, List.append_nil, Int.toNat_natCast, toNat_min, take_min, and_true, true_and, and_self]) <;> rfl)) ?_))
      | (refine Or.inl (And.intro (by kernel_rfl : Nat.ble _ _ = true) ?_))
      | (refine Or.inl (And.intro Cl.lit ?_))
      | (refine Or.inr ?_)
      | (refine Exists.intro (1 : Nat) ?_)
      | (fail))
  all_goals try refine Side.mk ?_
  all_goals try dsimp only at *
  all_goals try refine eqI ?_
  all_goals try simp only [len_b] at *
  all_goals try omega
  all_goals first | rfl | (simp; done) | (exfalso; simp at *; done)
theorem c_modeCuts (x : Cmd) (c p : Bool) : FnC Try.prog 7 [x.v, bV c, bV p] [] (bV true) [] := by
  obtain ⟨op, pos, n, pg, bits⟩ := x
  dsimp only [Cmd.v]
  refine fn_vcI (N := 63) (d := 6) tabOk mixed inl8a_ok 2 Try.func7 rfl rfl rfl ?_
  repeat'
    (conv => whnf
     first
      | (exact trivial)
      | (refine And.intro (by with_reducible rfl) ?_)
      | (refine And.intro (drawI (by kernel_rfl)) ?_)
      | (refine andI ?_ ?_)
      | (refine condT (by assumption) ?_)
      | (refine condF (by assumption) ?_)
      | (refine decT (by assumption) ?_)
      | (refine decF (by assumption) ?_)
      | (refine eqT (by assumption) ?_)
      | (refine eqF (by assumption) ?_)
      | (refine neT (by assumption) ?_)
      | (refine neF (by assumption) ?_)
      | (refine cEq (fun h => ?_) (fun h => ?_))
      | (refine cNe (fun h => ?_) (fun h => ?_))
      | (refine cNot (fun h => ?_) (fun h => ?_))
      | (refine cDec (fun h => ?_) (fun h => ?_))
      | (refine condN_split (fun h => ?_) (fun h => ?_))
      | (refine Exists.intro _ (And.intro (c_alive8) ?_))
      | (refine Exists.intro _ (And.intro (c_answer ⟨_, _, _, _, _⟩ _ _) ?_))
      | (refine Exists.intro _ (And.intro eq_sns ?_))
      | (refine Exists.intro _ (And.intro (by first | rfl | ((conv => lhs; simp only [nil_b, rp_bls, or_bls, len_bls, snoc_bls, rp_nil, rp_app, rp_b, or_nil, or_app, or_b, len_b, take_b, drop_b, rep_b, app_b, List.length_append, List.length_take, List.length_drop, List.length_nil, List.drop_zero, List.take_length, List.nil_append, List.append_nil, Int.toNat_natCast, toNat_min, take_min, and_true, true_and, and_self]) <;> rfl)) ?_))
      | (refine Or.inl (And.intro (by kernel_rfl : Nat.ble _ _ = true) ?_))
      | (refine Or.inl (And.intro Cl.lit ?_))
      | (refine Or.inr ?_)
      | (refine Exists.intro (1 : Nat) ?_)
      | (fail))
  all_goals try refine Side.mk ?_
  all_goals try dsimp only at *
  all_goals try refine eqI ?_
  all_goals have hl := mAns_len ⟨op, pos, 1000, pg, bits⟩ c p
  all_goals rw [mAns_cut op pos n pg bits c p] at *
  all_goals generalize mAns ⟨op, pos, 1000, pg, bits⟩ c p = y at *
  all_goals simp only [len_b, List.length_take, Int.toNat_natCast, Int.toNat_zero, List.drop_zero] at *
  all_goals first | rfl | omega | (exfalso; simp at *; done) | (exfalso; omega) | (refine bool_close ?_; simp only [beq_iff_eq, iff_true]; omega)
attribute [local irreducible] mTold
theorem c_modeBack (pg : Int) (ten a b c : Bool) : FnC Try.prog 5 [i64 pg, bV ten, .agg [bV a, bV b, bV c]] [] (bV true) [] := by
  rcases pg_cases pg with rfl | rfl | rfl | ⟨n1, n2, n3⟩
  all_goals cases ten
  all_goals refine fn_vcI (N := 91) (d := 7) tabOk mixed inl8a_ok 2 Try.func5 rfl rfl rfl ?_
  repeat'
    (conv => whnf
     first
      | (exact trivial)
      | (refine And.intro (by with_reducible rfl) ?_)
      | (refine And.intro (drawI (by kernel_rfl)) ?_)
      | (refine andI ?_ ?_)
      | (refine condT (by assumption) ?_)
      | (refine condF (by assumption) ?_)
      | (refine decT (by assumption) ?_)
      | (refine decF (by assumption) ?_)
      | (refine eqT (by assumption) ?_)
      | (refine eqF (by assumption) ?_)
      | (refine neT (by assumption) ?_)
      | (refine neF (by assumption) ?_)
      | (refine cEq (fun h => ?_) (fun h => ?_))
      | (refine cNe (fun h => ?_) (fun h => ?_))
      | (refine cNot (fun h => ?_) (fun h => ?_))
      | (refine cDec (fun h => ?_) (fun h => ?_))
      | (refine condN_split (fun h => ?_) (fun h => ?_))
      | (refine Exists.intro _ (And.intro (c_alive8) ?_))
      | (refine Exists.intro _ (And.intro (c_told8 false _ _) ?_))
      | (refine Exists.intro _ (And.intro (c_told8 true _ _) ?_))
      | (refine Exists.intro _ (And.intro (c_told28 false _ _) ?_))
      | (refine Exists.intro _ (And.intro (c_told28 true _ _) ?_))
      | (refine Exists.intro _ (And.intro (c_told63 false _ _) ?_))
      | (refine Exists.intro _ (And.intro (c_told63 true _ _) ?_))
      | (refine Exists.intro _ (And.intro (c_toldN false _ _ n1 n2 n3) ?_))
      | (refine Exists.intro _ (And.intro (c_toldN true _ _ n1 n2 n3) ?_))
      | (refine Exists.intro _ (And.intro (c_back8 false _ _ _) ?_))
      | (refine Exists.intro _ (And.intro (c_back8 true _ _ _) ?_))
      | (refine Exists.intro _ (And.intro (c_back28 _ _ _ _) ?_))
      | (refine Exists.intro _ (And.intro (c_back63 _ _ _ _) ?_))
      | (refine Exists.intro _ (And.intro eq_sns ?_))
      | (refine Exists.intro _ (And.intro (by first | rfl | ((conv => lhs; simp only [nil_b, rp_bls, or_bls, len_bls, snoc_bls, rp_nil, rp_app, rp_b, or_nil, or_app, or_b, len_b, take_b, drop_b, rep_b, app_b, List.length_append, List.length_take, List.length_drop, List.length_nil, List.drop_zero, List.take_length, List.nil_append, List.append_nil, Int.toNat_natCast, toNat_min, take_min, and_true, true_and, and_self]) <;> rfl)) ?_))
      | (refine Exists.intro _ (And.intro rfl ?_))
      | (refine Or.inl (And.intro (by kernel_rfl : Nat.ble _ _ = true) ?_))
      | (refine Or.inl (And.intro Cl.lit ?_))
      | (refine Or.inr ?_)
      | (refine Exists.intro (1 : Nat) ?_)
      | (fail))
  all_goals try refine Side.mk ?_
  all_goals try dsimp only at *
  all_goals try refine eqI ?_
  all_goals first | rfl | omega | decide | (rw [told28 _ c b a]; simp; done) | (simp; done) | (exfalso; simp at *; done)
end Go.Proofs.Ytcpbohlbekmjnaa
