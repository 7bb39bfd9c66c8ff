/-
  Control transfers (layer 17): the laws' functions.
-/
import Derived.Test.YtjgconnmejkcfaaL17
namespace Go.Proofs.Ytjgconnmejkcfaa
open Go
set_option linter.unusedVariables false
set_option linter.unusedSimpArgs false
set_option maxRecDepth 100000
set_option maxHeartbeats 2000000

theorem c_alive17 : FnC Try.prog 8 [] [] (bV true) [] := by
  refine fn_vcI (N := 124) (d := 7) tabOk mixed inl17_ok 3 Try.func8 rfl rfl rfl ?_
  repeat'
    (conv => whnf
     first
      | (exact trivial)
      | (refine And.intro (by with_reducible rfl) ?_)
      | (refine And.intro (drawI (by kernel_rfl)) ?_)
      | (refine andI ?_ ?_)
      | (refine condT (by assumption) ?_)
      | (refine condF (by assumption) ?_)
      | (refine decT (by assumption) ?_)
      | (refine decF (by assumption) ?_)
      | (refine eqT (by assumption) ?_)
      | (refine eqF (by assumption) ?_)
      | (refine neT (by assumption) ?_)
      | (refine neF (by assumption) ?_)
      | (refine cEq (fun h => ?_) (fun h => ?_))
      | (refine cNe (fun h => ?_) (fun h => ?_))
      | (refine cNot (fun h => ?_) (fun h => ?_))
      | (refine cDec (fun h => ?_) (fun h => ?_))
      | (refine condN_split (fun h => ?_) (fun h => ?_))
      | (refine Exists.intro _ (And.intro (fnC_eq (fnC_args (c_begin ⟨_, _, _, _, _⟩ _ _ ?_) (by first | rfl | ((conv => lhs; simp only [rp_nil, rp_app, rp_b, or_nil, or_app, or_b, len_b, take_b, drop_b, rep_b, app_b, List.length_append, List.length_take, List.length_drop, List.length_nil, List.drop_zero, List.take_length, List.nil_append, List.append_nil, Int.toNat_natCast, toNat_min, take_min, and_true, true_and, and_self]) <;> rfl) | ((conv => lhs; simp only [rp_nil, rp_app, rp_b, or_nil, or_app, or_b, len_b, take_b, drop_b, rep_b, app_b, List.length_append, List.length_take, List.length_drop, List.length_nil, List.drop_zero, List.take_length, List.nil_append, List.append_nil, Int.toNat_natCast, toNat_min, take_min, and_true, true_and, and_self, sl1_nil]) <;> rfl))) (by (conv => lhs; simp [cBegin, cIn, cInR, cInD, cNext, cOut, cOutR, cStat, cAt, cZero, Req.dir, Req.ok, Ctl.ok, inB, inW, Ctl.v, Rpl.v, byteRows]) <;> rfl)) ?_))
      | (refine Exists.intro _ (And.intro (fnC_eq (fnC_args (c_in ⟨_, ⟨_, _, _, _, _⟩, _, _, _⟩ _ ?_) (by first | rfl | ((conv => lhs; simp only [rp_nil, rp_app, rp_b, or_nil, or_app, or_b, len_b, take_b, drop_b, rep_b, app_b, List.length_append, List.length_take, List.length_drop, List.length_nil, List.drop_zero, List.take_length, List.nil_append, List.append_nil, Int.toNat_natCast, toNat_min, take_min, and_true, true_and, and_self]) <;> rfl) | ((conv => lhs; simp only [rp_nil, rp_app, rp_b, or_nil, or_app, or_b, len_b, take_b, drop_b, rep_b, app_b, List.length_append, List.length_take, List.length_drop, List.length_nil, List.drop_zero, List.take_length, List.nil_append, List.append_nil, Int.toNat_natCast, toNat_min, take_min, and_true, true_and, and_self, sl1_nil]) <;> rfl))) (by (conv => lhs; simp [cBegin, cIn, cInR, cInD, cNext, cOut, cOutR, cStat, cAt, cZero, Req.dir, Req.ok, Ctl.ok, inB, inW, Ctl.v, Rpl.v, byteRows]) <;> rfl)) ?_))
      | (refine Exists.intro _ (And.intro (fnC_eq (fnC_args (c_out ⟨_, ⟨_, _, _, _, _⟩, _, _, _⟩ ⟨_, _, _, _, _, _, _, _, _⟩) (by first | rfl | ((conv => lhs; simp only [rp_nil, rp_app, rp_b, or_nil, or_app, or_b, len_b, take_b, drop_b, rep_b, app_b, List.length_append, List.length_take, List.length_drop, List.length_nil, List.drop_zero, List.take_length, List.nil_append, List.append_nil, Int.toNat_natCast, toNat_min, take_min, and_true, true_and, and_self]) <;> rfl) | ((conv => lhs; simp only [rp_nil, rp_app, rp_b, or_nil, or_app, or_b, len_b, take_b, drop_b, rep_b, app_b, List.length_append, List.length_take, List.length_drop, List.length_nil, List.drop_zero, List.take_length, List.nil_append, List.append_nil, Int.toNat_natCast, toNat_min, take_min, and_true, true_and, and_self, sl1_nil]) <;> rfl))) (by (conv => lhs; simp [cBegin, cIn, cInR, cInD, cNext, cOut, cOutR, cStat, cAt, cZero, Req.dir, Req.ok, Ctl.ok, inB, inW, Ctl.v, Rpl.v, byteRows]) <;> rfl)) ?_))
      | (refine Exists.intro _ (And.intro (fnC_eq (fnC_args (c_ctlRight ⟨_, ⟨_, _, _, _, _⟩, _, _, _⟩) (by first | rfl | ((conv => lhs; simp only [rp_nil, rp_app, rp_b, or_nil, or_app, or_b, len_b, take_b, drop_b, rep_b, app_b, List.length_append, List.length_take, List.length_drop, List.length_nil, List.drop_zero, List.take_length, List.nil_append, List.append_nil, Int.toNat_natCast, toNat_min, take_min, and_true, true_and, and_self]) <;> rfl) | ((conv => lhs; simp only [rp_nil, rp_app, rp_b, or_nil, or_app, or_b, len_b, take_b, drop_b, rep_b, app_b, List.length_append, List.length_take, List.length_drop, List.length_nil, List.drop_zero, List.take_length, List.nil_append, List.append_nil, Int.toNat_natCast, toNat_min, take_min, and_true, true_and, and_self, sl1_nil]) <;> rfl))) (by (conv => lhs; simp [cBegin, cIn, cInR, cInD, cNext, cOut, cOutR, cStat, cAt, cZero, Req.dir, Req.ok, Ctl.ok, inB, inW, Ctl.v, Rpl.v, byteRows]) <;> rfl)) ?_))
      | (refine Or.inl (And.intro Cl.lit ?_))
      | (refine Or.inr ?_)
      | (refine Exists.intro 1 ?_))
  all_goals try refine Side.mk ?_
  all_goals try dsimp only at *
  all_goals try refine eqI ?_
  all_goals try first
    | omega
    | (simp only [nil_b, rp_nil, rp_app, rp_b, or_nil, or_app, or_b, len_b, take_b, drop_b, rep_b, app_b, List.length_append, List.length_take, List.length_drop, List.length_nil, List.drop_zero, List.take_length, List.nil_append, List.append_nil, Int.toNat_natCast, toNat_min, take_min, and_true, true_and, and_self]; done)
    | (simp only [nil_b, rp_nil, rp_app, rp_b, or_nil, or_app, or_b, len_b, take_b, drop_b, rep_b, app_b, List.length_append, List.length_take, List.length_drop, List.length_nil, List.drop_zero, List.take_length, List.nil_append, List.append_nil, Int.toNat_natCast, toNat_min, take_min, and_true, true_and, and_self]; omega)
    | (simp only [nil_b, rp_nil, rp_app, rp_b, or_nil, or_app, or_b, len_b, take_b, drop_b, rep_b, app_b, List.length_append, List.length_take, List.length_drop, List.length_nil, List.drop_zero, List.take_length, List.nil_append, List.append_nil, Int.toNat_natCast, toNat_min, take_min, and_true, true_and, and_self] at *; omega)
  all_goals first | decide | rfl | (simp only [rep_b, rp_b])

attribute [local irreducible] cBegin cIn cInR cInD cOut cOutR Ctl.ok Ctl.same Rpl.same
theorem c_begins (r : Req) (l : BS) (ok : Bool) : FnC Try.prog 3 [r.v, bsV l, bV ok] [] (bV true) [] := by
  refine fn_vcI (N := 21) (d := 5) tabOk mixed inl17_ok 3 Try.func3 rfl rfl rfl ?_
  repeat'
    (conv => whnf
     first
      | (exact trivial)
      | (refine And.intro (by with_reducible rfl) ?_)
      | (refine And.intro (drawI (by kernel_rfl)) ?_)
      | (refine andI ?_ ?_)
      | (refine condT (by assumption) ?_)
      | (refine condF (by assumption) ?_)
      | (refine decT (by assumption) ?_)
      | (refine decF (by assumption) ?_)
      | (refine eqT (by assumption) ?_)
      | (refine eqF (by assumption) ?_)
      | (refine neT (by assumption) ?_)
      | (refine neF (by assumption) ?_)
      | (refine cEq (fun h => ?_) (fun h => ?_))
      | (refine cNe (fun h => ?_) (fun h => ?_))
      | (refine cNot (fun h => ?_) (fun h => ?_))
      | (refine cDec (fun h => ?_) (fun h => ?_))
      | (refine condN_split (fun h => ?_) (fun h => ?_))
      | (refine Exists.intro _ (And.intro (c_alive17) ?_))
      | (refine Exists.intro _ (And.intro (c_begin ⟨_, _, _, _, _⟩ _ _ ?_) ?_))
      | (refine Exists.intro _ (And.intro (c_refBegin ⟨_, _, _, _, _⟩ _ _) ?_))
      | (refine Exists.intro _ (And.intro (c_same ⟨_, ⟨_, _, _, _, _⟩, _, _, _⟩ ⟨_, ⟨_, _, _, _, _⟩, _, _, _⟩) ?_))
      | (refine Or.inl (And.intro Cl.lit ?_))
      | (refine Or.inr ?_)
      | (refine Exists.intro 1 ?_))
  all_goals try refine Side.mk ?_
  all_goals try dsimp only at *
  all_goals try refine eqI ?_
  all_goals try first
    | omega
    | (simp only [nil_b, rp_nil, rp_app, rp_b, or_nil, or_app, or_b, len_b, take_b, drop_b, rep_b, app_b, List.length_append, List.length_take, List.length_drop, List.length_nil, List.drop_zero, List.take_length, List.nil_append, List.append_nil, Int.toNat_natCast, toNat_min, take_min, and_true, true_and, and_self]; done)
    | (simp only [nil_b, rp_nil, rp_app, rp_b, or_nil, or_app, or_b, len_b, take_b, drop_b, rep_b, app_b, List.length_append, List.length_take, List.length_drop, List.length_nil, List.drop_zero, List.take_length, List.nil_append, List.append_nil, Int.toNat_natCast, toNat_min, take_min, and_true, true_and, and_self]; omega)
    | (simp only [nil_b, rp_nil, rp_app, rp_b, or_nil, or_app, or_b, len_b, take_b, drop_b, rep_b, app_b, List.length_append, List.length_take, List.length_drop, List.length_nil, List.drop_zero, List.take_length, List.nil_append, List.append_nil, Int.toNat_natCast, toNat_min, take_min, and_true, true_and, and_self] at *; omega)
  all_goals (simp only [Ctl.same_self, Rpl.same_self, beq_self_eq_true, reduceCtorEq, not_true_eq_false] at *)
theorem c_asks (c : Ctl) (ack : Bool) : FnC Try.prog 4 [c.v, bV ack] [] (bV true) [] := by
  refine fn_vcI (N := 59) (d := 6) tabOk mixed inl17_ok 3 Try.func4 rfl rfl rfl ?_
  repeat'
    (conv => whnf
     first
      | (exact trivial)
      | (refine And.intro (by with_reducible rfl) ?_)
      | (refine And.intro (drawI (by kernel_rfl)) ?_)
      | (refine andI ?_ ?_)
      | (refine condT (by assumption) ?_)
      | (refine condF (by assumption) ?_)
      | (refine decT (by assumption) ?_)
      | (refine decF (by assumption) ?_)
      | (refine eqT (by assumption) ?_)
      | (refine eqF (by assumption) ?_)
      | (refine neT (by assumption) ?_)
      | (refine neF (by assumption) ?_)
      | (refine cEq (fun h => ?_) (fun h => ?_))
      | (refine cNe (fun h => ?_) (fun h => ?_))
      | (refine cNot (fun h => ?_) (fun h => ?_))
      | (refine cDec (fun h => ?_) (fun h => ?_))
      | (refine condN_split (fun h => ?_) (fun h => ?_))
      | (refine Exists.intro _ (And.intro (c_alive17) ?_))
      | (refine Exists.intro _ (And.intro (c_copy ⟨_, ⟨_, _, _, _, _⟩, _, _, _⟩ ?_) ?_))
      | (refine Exists.intro _ (And.intro (c_in ⟨_, ⟨_, _, _, _, _⟩, _, _, _⟩ _ ?_) ?_))
      | (refine Exists.intro _ (And.intro (c_refIn ⟨_, ⟨_, _, _, _, _⟩, _, _, _⟩ _) ?_))
      | (refine Exists.intro _ (And.intro (c_same ⟨_, ⟨_, _, _, _, _⟩, _, _, _⟩ ⟨_, ⟨_, _, _, _, _⟩, _, _, _⟩) ?_))
      | (refine Exists.intro _ (And.intro (c_replies ⟨_, _, _⟩ ⟨_, _, _⟩) ?_))
      | (refine Exists.intro _ (And.intro (c_ctlRight ⟨_, ⟨_, _, _, _, _⟩, _, _, _⟩) ?_))
      | (refine Exists.intro _ (And.intro (c_refRight ⟨_, ⟨_, _, _, _, _⟩, _, _, _⟩) ?_))
      | (refine Or.inl (And.intro Cl.lit ?_))
      | (refine Or.inr ?_)
      | (refine Exists.intro 1 ?_))
  all_goals try refine Side.mk ?_
  all_goals try dsimp only at *
  all_goals try refine eqI ?_
  all_goals try first
    | omega
    | (simp only [nil_b, rp_nil, rp_app, rp_b, or_nil, or_app, or_b, len_b, take_b, drop_b, rep_b, app_b, List.length_append, List.length_take, List.length_drop, List.length_nil, List.drop_zero, List.take_length, List.nil_append, List.append_nil, Int.toNat_natCast, toNat_min, take_min, and_true, true_and, and_self]; done)
    | (simp only [nil_b, rp_nil, rp_app, rp_b, or_nil, or_app, or_b, len_b, take_b, drop_b, rep_b, app_b, List.length_append, List.length_take, List.length_drop, List.length_nil, List.drop_zero, List.take_length, List.nil_append, List.append_nil, Int.toNat_natCast, toNat_min, take_min, and_true, true_and, and_self]; omega)
    | (simp only [nil_b, rp_nil, rp_app, rp_b, or_nil, or_app, or_b, len_b, take_b, drop_b, rep_b, app_b, List.length_append, List.length_take, List.length_drop, List.length_nil, List.drop_zero, List.take_length, List.nil_append, List.append_nil, Int.toNat_natCast, toNat_min, take_min, and_true, true_and, and_self] at *; omega)
  all_goals (simp only [Ctl.same_self, Rpl.same_self, beq_self_eq_true, reduceCtorEq, not_true_eq_false] at *)
theorem c_takes (c : Ctl) (x : Evt) : FnC Try.prog 5 [c.v, x.v] [] (bV true) [] := by
  refine fn_vcI (N := 49) (d := 6) tabOk mixed inl17_ok 3 Try.func5 rfl rfl rfl ?_
  repeat'
    (conv => whnf
     first
      | (exact trivial)
      | (refine And.intro (by with_reducible rfl) ?_)
      | (refine And.intro (drawI (by kernel_rfl)) ?_)
      | (refine andI ?_ ?_)
      | (refine condT (by assumption) ?_)
      | (refine condF (by assumption) ?_)
      | (refine decT (by assumption) ?_)
      | (refine decF (by assumption) ?_)
      | (refine eqT (by assumption) ?_)
      | (refine eqF (by assumption) ?_)
      | (refine neT (by assumption) ?_)
      | (refine neF (by assumption) ?_)
      | (refine cEq (fun h => ?_) (fun h => ?_))
      | (refine cNe (fun h => ?_) (fun h => ?_))
      | (refine cNot (fun h => ?_) (fun h => ?_))
      | (refine cDec (fun h => ?_) (fun h => ?_))
      | (refine condN_split (fun h => ?_) (fun h => ?_))
      | (refine Exists.intro _ (And.intro (c_alive17) ?_))
      | (refine Exists.intro _ (And.intro (c_copy ⟨_, ⟨_, _, _, _, _⟩, _, _, _⟩ ?_) ?_))
      | (refine Exists.intro _ (And.intro (c_out ⟨_, ⟨_, _, _, _, _⟩, _, _, _⟩ ⟨_, _, _, _, _, _, _, _, _⟩) ?_))
      | (refine Exists.intro _ (And.intro (c_refOut ⟨_, ⟨_, _, _, _, _⟩, _, _, _⟩ ⟨_, _, _, _, _, _, _, _, _⟩) ?_))
      | (refine Exists.intro _ (And.intro (c_same ⟨_, ⟨_, _, _, _, _⟩, _, _, _⟩ ⟨_, ⟨_, _, _, _, _⟩, _, _, _⟩) ?_))
      | (refine Exists.intro _ (And.intro (c_replies ⟨_, _, _⟩ ⟨_, _, _⟩) ?_))
      | (refine Or.inl (And.intro Cl.lit ?_))
      | (refine Or.inr ?_)
      | (refine Exists.intro 1 ?_))
  all_goals try refine Side.mk ?_
  all_goals try dsimp only at *
  all_goals try refine eqI ?_
  all_goals try first
    | omega
    | (simp only [nil_b, rp_nil, rp_app, rp_b, or_nil, or_app, or_b, len_b, take_b, drop_b, rep_b, app_b, List.length_append, List.length_take, List.length_drop, List.length_nil, List.drop_zero, List.take_length, List.nil_append, List.append_nil, Int.toNat_natCast, toNat_min, take_min, and_true, true_and, and_self]; done)
    | (simp only [nil_b, rp_nil, rp_app, rp_b, or_nil, or_app, or_b, len_b, take_b, drop_b, rep_b, app_b, List.length_append, List.length_take, List.length_drop, List.length_nil, List.drop_zero, List.take_length, List.nil_append, List.append_nil, Int.toNat_natCast, toNat_min, take_min, and_true, true_and, and_self]; omega)
    | (simp only [nil_b, rp_nil, rp_app, rp_b, or_nil, or_app, or_b, len_b, take_b, drop_b, rep_b, app_b, List.length_append, List.length_take, List.length_drop, List.length_nil, List.drop_zero, List.take_length, List.nil_append, List.append_nil, Int.toNat_natCast, toNat_min, take_min, and_true, true_and, and_self] at *; omega)
  all_goals (simp only [Ctl.same_self, Rpl.same_self, beq_self_eq_true, reduceCtorEq, not_true_eq_false] at *)

structure LCall where
  out : Bool
  ack : Bool
  data : BS
  tog : Int
def LCall.row (x : LCall) : List V := [bV x.out, bV x.ack, bsV x.data, V.lit (.int .i64 x.tog)]
def LCall.v (x : LCall) : V := .agg [bV x.out, bV x.ack, bsV x.data, V.lit (.int .i64 x.tog)]
def LCall.wf (x : LCall) : Prop := x.data.length ≤ maxLen ∧ (-9223372036854775808 ≤ x.tog ∧ x.tog ≤ 9223372036854775807)
def LCall.dflt : LCall := ⟨false, false, [], 0⟩
theorem rp_LCall (l : List LCall) : rowsPlain (l.map LCall.row) = True := rp_map (fun x => rfl) l
theorem or_LCall (l : List LCall) : oneRows (l.map LCall.row) = True := or_map (fun x => rfl) l
theorem c_fails (r : Req) (data : BS) (l : List LCall) : FnC Try.prog 7 [r.v, bsV data, .sl 4 (l.map LCall.row)] [] (bV true) [] := by
  refine fn_vcI (N := 89) (d := 7) tabOk mixed inl17_ok 3 Try.func7 rfl rfl rfl ?_
  repeat'
    (conv => whnf
     first
      | (exact trivial)
      | (refine And.intro (by with_reducible rfl) ?_)
      | (refine And.intro (drawI (by kernel_rfl)) ?_)
      | (refine andI ?_ ?_)
      | (refine condT (by assumption) ?_)
      | (refine condF (by assumption) ?_)
      | (refine decT (by assumption) ?_)
      | (refine decF (by assumption) ?_)
      | (refine eqT (by assumption) ?_)
      | (refine eqF (by assumption) ?_)
      | (refine neT (by assumption) ?_)
      | (refine neF (by assumption) ?_)
      | (refine cEq (fun h => ?_) (fun h => ?_))
      | (refine cNe (fun h => ?_) (fun h => ?_))
      | (refine cNot (fun h => ?_) (fun h => ?_))
      | (refine cDec (fun h => ?_) (fun h => ?_))
      | (refine condN_split (fun h => ?_) (fun h => ?_))
      | (refine Exists.intro _ (And.intro (c_alive17) ?_))
      | (refine Exists.intro _ (And.intro (fnC_eq (c_begin ⟨_, _, _, _, _⟩ _ _ ?_) (by (conv => lhs; simp [cBegin, cAt, Ctl.v]) <;> rfl)) ?_))
      | (refine Or.inl (And.intro Cl.lit ?_))
      | (refine Or.inr ?_)
      | (refine Exists.intro 1 ?_))
  all_goals try refine Side.mk ?_
  all_goals try dsimp only at *
  all_goals try refine eqI ?_
  all_goals try first
    | omega
    | (simp only [nil_b, rp_nil, rp_app, rp_b, or_nil, or_app, or_b, len_b, take_b, drop_b, rep_b, app_b, List.length_append, List.length_take, List.length_drop, List.length_nil, List.drop_zero, List.take_length, List.nil_append, List.append_nil, Int.toNat_natCast, toNat_min, take_min, and_true, true_and, and_self]; done)
    | (simp only [nil_b, rp_nil, rp_app, rp_b, or_nil, or_app, or_b, len_b, take_b, drop_b, rep_b, app_b, List.length_append, List.length_take, List.length_drop, List.length_nil, List.drop_zero, List.take_length, List.nil_append, List.append_nil, Int.toNat_natCast, toNat_min, take_min, and_true, true_and, and_self]; omega)
    | (simp only [nil_b, rp_nil, rp_app, rp_b, or_nil, or_app, or_b, len_b, take_b, drop_b, rep_b, app_b, List.length_append, List.length_take, List.length_drop, List.length_nil, List.drop_zero, List.take_length, List.nil_append, List.append_nil, Int.toNat_natCast, toNat_min, take_min, and_true, true_and, and_self] at *; omega)
  conv => whnf
  refine loop_w tabOk (ceN_sound tabOk mixed inl17_ok 3) mixed 11 (0 : Nat) (fun i => [(8, i64 (i : Nat))]) (fun _ => [(1, false, ⟨9, [Ctl.row ⟨4, r, [], 0, false⟩], false⟩), (0, false, ⟨5, [r.row], false⟩)]) 2 (fun i => i ≤ l.length) (fun i => l.length - i) (Nat.zero_le _) ?_ ?_
  · repeat'
      (conv => whnf
       first
        | (exact trivial)
        | (refine And.intro (by with_reducible rfl) ?_)
        | (refine And.intro (drawI (by kernel_rfl)) ?_)
        | (refine andI ?_ ?_)
        | (refine condT (by assumption) ?_)
        | (refine condF (by assumption) ?_)
        | (refine decT (by assumption) ?_)
        | (refine decF (by assumption) ?_)
        | (refine eqT (by assumption) ?_)
        | (refine eqF (by assumption) ?_)
        | (refine neT (by assumption) ?_)
        | (refine neF (by assumption) ?_)
        | (refine cEq (fun h => ?_) (fun h => ?_))
        | (refine cNe (fun h => ?_) (fun h => ?_))
        | (refine cNot (fun h => ?_) (fun h => ?_))
        | (refine cDec (fun h => ?_) (fun h => ?_))
        | (refine condN_split (fun h => ?_) (fun h => ?_))
        | (refine Or.inl (And.intro Cl.lit ?_))
        | (refine Or.inr ?_)
        | (refine Exists.intro 1 ?_))
    all_goals try refine Side.mk ?_
    all_goals try dsimp only at *
    all_goals try refine eqI ?_
    all_goals rfl
  · intro i hi
    repeat'
      (conv => whnf
       first
        | (exact trivial)
        | (refine And.intro (by with_reducible rfl) ?_)
        | (refine And.intro (drawI (by kernel_rfl)) ?_)
        | (refine andI ?_ ?_)
        | (refine condT (by assumption) ?_)
        | (refine condF (by assumption) ?_)
        | (refine decT (by assumption) ?_)
        | (refine decF (by assumption) ?_)
        | (refine eqT (by assumption) ?_)
        | (refine eqF (by assumption) ?_)
        | (refine neT (by assumption) ?_)
        | (refine neF (by assumption) ?_)
        | (refine cEq (fun h => ?_) (fun h => ?_))
        | (refine cNe (fun h => ?_) (fun h => ?_))
        | (refine cNot (fun h => ?_) (fun h => ?_))
        | (refine cDec (fun h => ?_) (fun h => ?_))
        | (refine condN_split (fun h => ?_) (fun h => ?_))
        | (refine Exists.intro _ (And.intro (fnC_eq (fnC_args (c_out ⟨_, ⟨_, _, _, _, _⟩, _, _, _⟩ ⟨_, _, _, _, _, _, _, _, _⟩) (by first | rfl | ((conv => lhs; simp only [rp_nil, rp_app, rp_b, or_nil, or_app, or_b, len_b, take_b, drop_b, rep_b, app_b, List.length_append, List.length_take, List.length_drop, List.length_nil, List.drop_zero, List.take_length, List.nil_append, List.append_nil, Int.toNat_natCast, toNat_min, take_min, and_true, true_and, and_self]) <;> rfl) | ((conv => lhs; simp only [rp_nil, rp_app, rp_b, or_nil, or_app, or_b, len_b, take_b, drop_b, rep_b, app_b, List.length_append, List.length_take, List.length_drop, List.length_nil, List.drop_zero, List.take_length, List.nil_append, List.append_nil, Int.toNat_natCast, toNat_min, take_min, and_true, true_and, and_self, sl1_nil]) <;> rfl))) (by (conv => lhs; simp [cOut, cOutR, cStat, cZero, cAt, Ctl.ok, Ctl.v, Rpl.v]) <;> rfl)) ?_))
        | (refine Exists.intro _ (And.intro (fnC_eq (fnC_args (c_in ⟨_, ⟨_, _, _, _, _⟩, _, _, _⟩ _ ?_) (by first | rfl | ((conv => lhs; simp only [rp_nil, rp_app, rp_b, or_nil, or_app, or_b, len_b, take_b, drop_b, rep_b, app_b, List.length_append, List.length_take, List.length_drop, List.length_nil, List.drop_zero, List.take_length, List.nil_append, List.append_nil, Int.toNat_natCast, toNat_min, take_min, and_true, true_and, and_self]) <;> rfl) | ((conv => lhs; simp only [rp_nil, rp_app, rp_b, or_nil, or_app, or_b, len_b, take_b, drop_b, rep_b, app_b, List.length_append, List.length_take, List.length_drop, List.length_nil, List.drop_zero, List.take_length, List.nil_append, List.append_nil, Int.toNat_natCast, toNat_min, take_min, and_true, true_and, and_self, sl1_nil]) <;> rfl))) (by (conv => lhs; simp [cIn, cInR, cInD, cAt, Ctl.ok, Ctl.v, Rpl.v]) <;> rfl)) ?_))
        | (refine Exists.intro _ (And.intro (map_get LCall.dflt ?_) ?_))
        | (refine Exists.intro (i + 1) (andI ?_ (andI ?_ ?_)))
        | (refine Exists.intro _ (And.intro eq_req ?_))
        | (refine Or.inl (And.intro Cl.lit ?_))
        | (refine Or.inr ?_)
        | (refine Exists.intro 1 ?_))
    all_goals try refine Side.mk ?_
    all_goals try dsimp only at *
    all_goals try refine eqI ?_
    all_goals try simp only [List.length_map, len_b, Int.toNat_natCast] at *
    all_goals first
      | omega
      | rfl
      | (simp; done)
      | skip
    all_goals (generalize l[i]?.getD LCall.dflt = x at *; obtain ⟨xo, xa, xd, xt⟩ := x; dsimp only at *)
    all_goals first
      | (rw [wrap64 (by omega) (by omega)]; rfl)
      | (simp_all; done)
      | (have hx : ¬ 64 < xd.length := by omega
         simp_all; done)
end Go.Proofs.Ytjgconnmejkcfaa
