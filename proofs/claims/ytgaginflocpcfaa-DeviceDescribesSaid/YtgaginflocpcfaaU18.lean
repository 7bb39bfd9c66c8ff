/-
  What every device answers (layer 18): the laws' functions.
-/
import Derived.Test.YtgaginflocpcfaaT18
namespace Go.Proofs.Ytgaginflocpcfaa
open Go
set_option linter.unusedVariables false
set_option linter.unusedSimpArgs false
set_option maxRecDepth 100000
set_option maxHeartbeats 8000000

structure How where
  luns : Int
  halted : Int
def How.row (x : How) : List V := [V.lit (.int .i64 x.luns), V.lit (.int .i64 x.halted)]
def How.v (x : How) : V := .agg [V.lit (.int .i64 x.luns), V.lit (.int .i64 x.halted)]
def How.wf (x : How) : Prop := (-9223372036854775808 ≤ x.luns ∧ x.luns ≤ 9223372036854775807) ∧ (-9223372036854775808 ≤ x.halted ∧ x.halted ≤ 9223372036854775807)
def How.dflt : How := ⟨0, 0⟩
theorem rp_How (l : List How) : rowsPlain (l.map How.row) = True := rp_map (fun x => rfl) l
theorem or_How (l : List How) : oneRows (l.map How.row) = True := or_map (fun x => rfl) l
theorem eq_dev : EqFlat Try.prog 23 [true, true, false, true, true] := eqFlat_of (by kernel_rfl) (by kernel_rfl) (by kernel_rfl) (by kernel_rfl)
theorem eq_efc : EqFlat Try.prog 30 [true, true] := eqFlat_of (by kernel_rfl) (by kernel_rfl) (by kernel_rfl) (by kernel_rfl)
theorem inI_lit (a : Int) (h : decide (-9223372036854775808 ≤ a ∧ a ≤ 9223372036854775807) = true) : Side (InI a) := by
  have q := of_decide_eq_true h
  exact ⟨q⟩
theorem ask_eq {d : Dev} {luns halted : Int} {r : Req} {D : Dev} {E : Efc} {B : BS} {ok : Bool} (hi : InI r.idx) (h1 : askD d r = D) (h2 : askE d r = E) (h3 : askB d luns halted r = B) (h4 : mayOk (d0 d) r = ok) :
    FnC Try.prog 9 [d.v, i64 luns, i64 halted, r.v] [] (.tup [D.v, E.v, bsV B, bV ok]) [] := by
  rw [← h1, ← h2, ← h3, ← h4]
  exact c_ask d luns halted r ⟨hi⟩
theorem a18a : FnC Try.prog 9 [Dev.v ⟨0, 0, false, 0, 0⟩, i64 1, i64 0, Req.v ⟨128, 6, 256, 0, 64⟩] [] (.tup [Dev.v ⟨0, 0, false, 0, 0⟩, Efc.v ⟨0, 0⟩, bsV [18, 1, 0x10, 2, 0, 0, 0, 64, 9, 0x12, 0x13, 0x71, 0, 1, 1, 2, 3, 1], bV true]) [] :=
  ask_eq (by unfold InI; decide) rfl rfl rfl rfl
theorem a18b : FnC Try.prog 9 [Dev.v ⟨0, 0, false, 0, 0⟩, i64 1, i64 0, Req.v ⟨0, 5, 7, 0, 0⟩] [] (.tup [Dev.v ⟨0, 7, true, 0, 0⟩, Efc.v ⟨0, 0⟩, bsV [], bV true]) [] :=
  ask_eq (by unfold InI; decide) rfl rfl rfl rfl
theorem a18c : FnC Try.prog 11 [Dev.v ⟨0, 7, true, 0, 0⟩] [] (Dev.v ⟨7, 0, false, 0, 0⟩) [] := c_done _
theorem a18d : FnC Try.prog 9 [Dev.v ⟨7, 0, false, 0, 0⟩, i64 1, i64 0, Req.v ⟨0, 9, 1, 0, 0⟩] [] (.tup [Dev.v ⟨7, 0, false, 1, 0⟩, Efc.v ⟨3, 0⟩, bsV [], bV true]) [] :=
  ask_eq (by unfold InI; decide) rfl rfl rfl rfl
theorem a18e : FnC Try.prog 9 [Dev.v ⟨7, 0, false, 1, 0⟩, i64 1, i64 2, Req.v ⟨130, 0, 0, 129, 2⟩] [] (.tup [Dev.v ⟨7, 0, false, 1, 0⟩, Efc.v ⟨0, 0⟩, bsV [1, 0], bV true]) [] :=
  ask_eq (by unfold InI; decide) rfl rfl rfl rfl
theorem a18f : FnC Try.prog 9 [Dev.v ⟨7, 0, false, 0, 0⟩, i64 1, i64 2, Req.v ⟨130, 0, 0, 129, 2⟩] [] (.tup [Dev.v ⟨7, 0, false, 0, 0⟩, Efc.v ⟨0, 0⟩, bsV [], bV false]) [] :=
  ask_eq (by unfold InI; decide) rfl rfl rfl rfl
theorem a18g : FnC Try.prog 13 [i64 131] [] (i64 3) [] := c_place 131 (inI_lit _ (by decide))
theorem a18h : FnC Try.prog 15 [Dev.v ⟨7, 0, false, 1, 0⟩, i64 2] [] (bV true) [] := c_has _ 2 (inI_lit _ (by decide))
theorem a18i : FnC Try.prog 15 [Dev.v ⟨7, 0, false, 1, 0⟩, i64 4] [] (bV false) [] := c_has _ 4 (inI_lit _ (by decide))
noncomputable def inl18l : List IRow := []
theorem inl18l_ok : IOk Try.prog (inlTab inl18l) := inl_ok (by
  unfold inl18l
  repeat' (first | exact trivial | refine And.intro (And.intro rfl (And.intro rfl rfl)) ?_))
theorem c_alive18 : FnC Try.prog 8 [] [] (bV true) [] := by
  refine fn_vcI (N := 127) (d := 7) tabOk mixed inl18l_ok 2 Try.func8 rfl rfl rfl ?_
  repeat'
    (conv => whnf
     first
      | (exact trivial)
      | (refine And.intro (by with_reducible rfl) ?_)
      | (refine And.intro (drawI (by kernel_rfl)) ?_)
      | (refine andI ?_ ?_)
      | (refine condT (by assumption) ?_)
      | (refine condF (by assumption) ?_)
      | (refine decT (by assumption) ?_)
      | (refine decF (by assumption) ?_)
      | (refine eqT (by assumption) ?_)
      | (refine eqF (by assumption) ?_)
      | (refine neT (by assumption) ?_)
      | (refine neF (by assumption) ?_)
      | (refine cEq (fun h => ?_) (fun h => ?_))
      | (refine cNe (fun h => ?_) (fun h => ?_))
      | (refine cNot (fun h => ?_) (fun h => ?_))
      | (refine cDec (fun h => ?_) (fun h => ?_))
      | (refine condN_split (fun h => ?_) (fun h => ?_))
      | (refine Exists.intro _ (And.intro (a18a) ?_))
      | (refine Exists.intro _ (And.intro (a18b) ?_))
      | (refine Exists.intro _ (And.intro (a18c) ?_))
      | (refine Exists.intro _ (And.intro (a18d) ?_))
      | (refine Exists.intro _ (And.intro (a18e) ?_))
      | (refine Exists.intro _ (And.intro (a18f) ?_))
      | (refine Exists.intro _ (And.intro (a18g) ?_))
      | (refine Exists.intro _ (And.intro (a18h) ?_))
      | (refine Exists.intro _ (And.intro (a18i) ?_))
      | (refine Exists.intro _ (And.intro rfl ?_))
      | (refine Or.inl (And.intro (by kernel_rfl : Nat.ble _ _ = true) ?_))
      | (refine Or.inl (And.intro Cl.lit ?_))
      | (refine Or.inr ?_)
      | (refine Exists.intro (1 : Nat) ?_)
      | (fail))
  all_goals try refine Side.mk ?_
  all_goals try dsimp only at *
  all_goals try refine eqI ?_
  all_goals try rfl
  all_goals try decide
  all_goals try refine rn_plain ?_
  all_goals try (first | (refine rp_all ?_; rfl) | (refine or_all ?_; rfl))
  all_goals try simp (disch := omega) only [wrap64, Int.zero_add, Int.sub_zero, Int.add_zero, List.take_succ_cons, List.take_zero, List.take_nil, List.cons_append, List.length_cons, List.length_nil, rp_cons, or_cons, List.all_cons, List.all_nil, kfc, V.one, one_int, one_bool, one_str, Bool.and_true, Bool.and_self, List.append_assoc, nil_b, rp_bls, or_bls, len_bls, snoc_bls, rp_nil, rp_app, rp_b, or_nil, or_app, or_b, len_b, take_b, drop_b, rep_b, app_b, List.length_append, List.length_take, List.length_drop, List.length_nil, List.drop_zero, List.take_length, List.nil_append, List.append_nil, Int.toNat_natCast, toNat_min, take_min, and_true, true_and, and_self] at *
  all_goals try omega
  all_goals try rfl
  all_goals try (simp; done)
  all_goals try decide
attribute [local irreducible] askD askE askB mayOk doneD dHas dPlace d0
theorem c_deviceAsks (d : Dev) (r : Req) (h : How) (hv : InI r.val) (hi : InI r.idx) : FnC Try.prog 3 [d.v, r.v, h.v] [] (bV true) [] := by
  obtain ⟨ad, nx, cm, cf, al⟩ := d
  obtain ⟨t, c, v, i, l⟩ := r
  obtain ⟨luns, halted⟩ := h
  dsimp only [Dev.v, Req.v, How.v] at *
  refine fn_vcI (N := 68) (d := 7) tabOk mixed inl18l_ok 2 Try.func3 rfl rfl rfl ?_
  repeat'
    (conv => whnf
     first
      | (exact trivial)
      | (refine And.intro (by with_reducible rfl) ?_)
      | (refine And.intro (drawI (by kernel_rfl)) ?_)
      | (refine andI ?_ ?_)
      | (refine condT (by assumption) ?_)
      | (refine condF (by assumption) ?_)
      | (refine decT (by assumption) ?_)
      | (refine decF (by assumption) ?_)
      | (refine eqT (by assumption) ?_)
      | (refine eqF (by assumption) ?_)
      | (refine neT (by assumption) ?_)
      | (refine neF (by assumption) ?_)
      | (refine cEq (fun h => ?_) (fun h => ?_))
      | (refine cNe (fun h => ?_) (fun h => ?_))
      | (refine cNot (fun h => ?_) (fun h => ?_))
      | (refine cDec (fun h => ?_) (fun h => ?_))
      | (refine condN_split (fun h => ?_) (fun h => ?_))
      | (refine Exists.intro _ (And.intro (c_alive18) ?_))
      | (refine Exists.intro _ (And.intro (c_ask ⟨_, _, _, _, _⟩ _ _ ⟨_, _, _, _, _⟩ ⟨hi⟩) ?_))
      | (refine Exists.intro _ (And.intro (c_refAsk ⟨_, _, _, _, _⟩ _ _ ⟨_, _, _, _, _⟩ ⟨hv⟩) ?_))
      | (refine Exists.intro _ (And.intro (c_done ⟨_, _, _, _, _⟩) ?_))
      | (refine Exists.intro _ (And.intro (c_refDone ⟨_, _, _, _, _⟩) ?_))
      | (refine Exists.intro _ (And.intro eq_dev ?_))
      | (refine Exists.intro _ (And.intro eq_efc ?_))
      | (refine Exists.intro _ (And.intro (by first | rfl | ((conv => lhs; simp only [nil_b, rp_bls, or_bls, len_bls, snoc_bls, rp_nil, rp_app, rp_b, or_nil, or_app, or_b, len_b, take_b, drop_b, rep_b, app_b, List.length_append, List.length_take, List.length_drop, List.length_nil, List.drop_zero, List.take_length, List.nil_append, List.append_nil, Int.toNat_natCast, toNat_min, take_min, and_true, true_and, and_self]) <;> rfl)) ?_))
      | (refine Or.inl (And.intro (by kernel_rfl : Nat.ble _ _ = true) ?_))
      | (refine Or.inl (And.intro Cl.lit ?_))
      | (refine Or.inr ?_)
      | (refine Exists.intro (1 : Nat) ?_)
      | (fail))
  all_goals try refine Side.mk ?_
  all_goals try dsimp only at *
  all_goals try refine eqI ?_
  all_goals first
    | (exfalso; simp_all; done)
    | (simp only [beq_self_eq_true]; done)
    | (simp; done)
theorem c_deviceHas (d : Dev) (a : Int) (hi : InI a) : FnC Try.prog 4 [d.v, i64 a] [] (bV true) [] := by
  obtain ⟨ad, nx, cm, cf, al⟩ := d
  dsimp only [Dev.v] at *
  refine fn_vcI (N := 21) (d := 5) tabOk mixed inl18l_ok 2 Try.func4 rfl rfl rfl ?_
  repeat'
    (conv => whnf
     first
      | (exact trivial)
      | (refine And.intro (by with_reducible rfl) ?_)
      | (refine And.intro (drawI (by kernel_rfl)) ?_)
      | (refine andI ?_ ?_)
      | (refine condT (by assumption) ?_)
      | (refine condF (by assumption) ?_)
      | (refine decT (by assumption) ?_)
      | (refine decF (by assumption) ?_)
      | (refine eqT (by assumption) ?_)
      | (refine eqF (by assumption) ?_)
      | (refine neT (by assumption) ?_)
      | (refine neF (by assumption) ?_)
      | (refine cEq (fun h => ?_) (fun h => ?_))
      | (refine cNe (fun h => ?_) (fun h => ?_))
      | (refine cNot (fun h => ?_) (fun h => ?_))
      | (refine cDec (fun h => ?_) (fun h => ?_))
      | (refine condN_split (fun h => ?_) (fun h => ?_))
      | (refine Exists.intro _ (And.intro (c_alive18) ?_))
      | (refine Exists.intro _ (And.intro (c_place _ ⟨hi⟩) ?_))
      | (refine Exists.intro _ (And.intro (c_refPlace _) ?_))
      | (refine Exists.intro _ (And.intro (c_has ⟨_, _, _, _, _⟩ _ ⟨hi⟩) ?_))
      | (refine Exists.intro _ (And.intro (c_refHas ⟨_, _, _, _, _⟩ _) ?_))
      | (refine Or.inl (And.intro (by kernel_rfl : Nat.ble _ _ = true) ?_))
      | (refine Or.inl (And.intro Cl.lit ?_))
      | (refine Or.inr ?_)
      | (refine Exists.intro (1 : Nat) ?_)
      | (fail))
  all_goals try refine Side.mk ?_
  all_goals try dsimp only at *
  all_goals try refine eqI ?_
  all_goals first
    | (exfalso; simp_all; done)
    | (simp only [beq_self_eq_true]; done)
    | (simp; done)
end Go.Proofs.Ytgaginflocpcfaa
