/-
  Modes (layer 8): pages and answers.
-/
import Derived.Test.YtbieiehfohldjaamN01
import Derived.Test.YtbieiehfohldjaaQi
namespace Go.Proofs.Ytbieiehfohldjaa
open Go
set_option linter.unusedVariables false
set_option linter.unusedSimpArgs false
set_option maxRecDepth 100000
set_option maxHeartbeats 2000000

noncomputable def inl08p : List IRow := [(45, Try.f45, 27, 5, 0), (28, Try.f28, 36, 6, 0), (69, Try.f69, 23, 5, 0), (70, Try.f70, 7, 3, 0)]
theorem inl08p_ok : IOk Try.prog (inlTab inl08p) := inl_ok (by
  unfold inl08p
  refine And.intro ⟨rfl, rfl, rfl, .inl rfl⟩ ?_
  refine And.intro ⟨rfl, rfl, rfl, .inl rfl⟩ ?_
  refine And.intro ⟨rfl, rfl, rfl, .inl rfl⟩ ?_
  refine And.intro ⟨rfl, rfl, rfl, .inl rfl⟩ ?_
  exact trivial)
noncomputable def inl08 : List IRow := [(69, Try.f69, 23, 5, 0), (70, Try.f70, 7, 3, 0), (34, Try.f34, 2, 2, 0), (57, Try.f57, 2, 2, 0), (52, Try.f52, 8, 4, 0), (25, Try.f25, 11, 4, 0), (67, Try.f67, 17, 5, 0), (54, Try.f54, 18, 5, 0), (35, Try.f35, 6, 3, 0)]
theorem inl08_ok : IOk Try.prog (inlTab inl08) := inl_ok (by
  unfold inl08
  refine And.intro ⟨rfl, rfl, rfl, .inl rfl⟩ ?_
  refine And.intro ⟨rfl, rfl, rfl, .inl rfl⟩ ?_
  refine And.intro ⟨rfl, rfl, rfl, .inl rfl⟩ ?_
  refine And.intro ⟨rfl, rfl, rfl, .inl rfl⟩ ?_
  refine And.intro ⟨rfl, rfl, rfl, .inl rfl⟩ ?_
  refine And.intro ⟨rfl, rfl, rfl, .inl rfl⟩ ?_
  refine And.intro ⟨rfl, rfl, rfl, .inl rfl⟩ ?_
  refine And.intro ⟨rfl, rfl, rfl, .inl rfl⟩ ?_
  refine And.intro ⟨rfl, rfl, rfl, .inl rfl⟩ ?_
  exact trivial)

def mBit (w : Int) (c : Bool) : UInt8 := if c = true ∨ w = 1 ∨ w = 2 then 4 else 0
def mOne (x : UInt8) : BS := [8, 18, x, 0, 0, 0, 0, 0, 0, 0, 0, 0, 0, 0, 0, 0, 0, 0, 0, 0]
def mTwo : BS := [28, 10, 0, 0, 0, 0, 0, 0, 0, 0, 0, 0]
def mPage (n w : Int) (c : Bool) : BS × Bool := if n = 8 then (mOne (mBit w c), true) else if n = 28 then (mTwo, true) else if n = 63 then (mOne (mBit w c) ++ mTwo, true) else ([], false)
theorem c_page (n w : Int) (c : Bool) : FnC Try.prog 55 [i64 n, i64 w, bV c] [] (.tup [bsV (mPage n w c).1, bV (mPage n w c).2]) [] := by
  refine fn_vcI (N := 35) (d := 6) tabOk mixed inl08p_ok 4 Try.func55 rfl rfl rfl ?_
  repeat'
    (conv => whnf
     first
      | (exact trivial)
      | (refine And.intro (by with_reducible rfl) ?_)
      | (refine And.intro (drawI (by kernel_rfl)) ?_)
      | (refine andI ?_ ?_)
      | (refine condT (by assumption) ?_)
      | (refine condF (by assumption) ?_)
      | (refine decT (by assumption) ?_)
      | (refine decF (by assumption) ?_)
      | (refine eqT (by assumption) ?_)
      | (refine eqF (by assumption) ?_)
      | (refine neT (by assumption) ?_)
      | (refine neF (by assumption) ?_)
      | (refine cEq (fun h => ?_) (fun h => ?_))
      | (refine cNe (fun h => ?_) (fun h => ?_))
      | (refine cNot (fun h => ?_) (fun h => ?_))
      | (refine cDec (fun h => ?_) (fun h => ?_))
      | (refine condN_split (fun h => ?_) (fun h => ?_))
      | (refine Exists.intro _ (And.intro rfl ?_))
      | (refine loop_unr tabOk (ceN_sound tabOk mixed inl08p_ok _) mixed 5 ?_)
      | (refine Or.inl (And.intro (by rfl : Nat.ble _ _ = true) ?_))
      | (refine Or.inl (And.intro Cl.lit ?_))
      | (refine Or.inr ?_)
      | (refine Exists.intro (1 : Nat) ?_)
      | (refine Exists.intro _ (And.intro rfl ?_))
      | (fail))
  all_goals try refine Side.mk ?_
  all_goals try dsimp only at *
  all_goals try refine eqI ?_
  all_goals try subst n
  all_goals try subst w
  all_goals try rfl
  all_goals try decide
  all_goals try refine rn_plain ?_
  all_goals try (first | (refine rp_all ?_; rfl) | (refine or_all ?_; rfl))
  all_goals try simp (disch := omega) only [wrap64, Int.zero_add, Int.sub_zero, Int.add_zero, List.take_succ_cons, List.take_zero, List.take_nil, List.cons_append, List.length_cons, List.length_nil, rp_cons, or_cons, List.all_cons, List.all_nil, kfc, V.one, one_int, one_bool, one_str, Bool.and_true, Bool.and_self, List.append_assoc, nil_b, rp_bls, or_bls, len_bls, snoc_bls, rp_nil, rp_app, rp_b, or_nil, or_app, or_b, len_b, take_b, drop_b, rep_b, app_b, List.length_append, List.length_take, List.length_drop, List.length_nil, List.drop_zero, List.take_length, List.nil_append, List.append_nil, Int.toNat_natCast, toNat_min, take_min, and_true, true_and, and_self] at *
  all_goals try omega
  all_goals try rfl
  all_goals try (simp; done)
  all_goals try decide
  all_goals (simp only [mPage, mBit]; simp only [*, if_true, if_false, true_or, or_true, false_or, or_false, reduceCtorEq, Int.reduceEq, Bool.false_eq_true]; first | done | rfl)
theorem c_pg8 (w : Int) (c : Bool) : FnC Try.prog 55 [i64 8, i64 w, bV c] [] (.tup [bsV (mOne (mBit w c)), bV true]) [] := c_page 8 w c
theorem c_pg28 (w : Int) (c : Bool) : FnC Try.prog 55 [i64 28, i64 w, bV c] [] (.tup [bsV mTwo, bV true]) [] := c_page 28 w c
theorem c_pg63 (w : Int) (c : Bool) : FnC Try.prog 55 [i64 63, i64 w, bV c] [] (.tup [bsV (mOne (mBit w c) ++ mTwo), bV true]) [] := c_page 63 w c
theorem c_pgN {n : Int} (w : Int) (c : Bool) (h8 : n ≠ 8) (h28 : n ≠ 28) (h63 : n ≠ 63) : FnC Try.prog 55 [i64 n, i64 w, bV c] [] (.tup [bsV [], bV false]) [] := by
  have h := c_page n w c
  rw [show mPage n w c = ([], false) from by unfold mPage; rw [if_neg h8, if_neg h28, if_neg h63]] at h
  exact h
def mPr (p : Bool) : UInt8 := if p then 128 else 0
def sOk : Sns := ⟨0, 0, 0⟩
def sField : Sns := ⟨5, 0x24, 0⟩
def sSave : Sns := ⟨5, 0x39, 0⟩
def sShort : Sns := ⟨5, 0x1a, 0⟩
def sBad : Sns := ⟨5, 0x26, 0⟩
def mAll (x : Cmd) (c p : Bool) : BS := (if x.op = 0x1a then [UInt8.ofNat ((mPage x.page x.bits c).1.length + 3), 0, mPr p, 0] else [0, UInt8.ofNat ((mPage x.page x.bits c).1.length + 6), 0, mPr p, 0, 0, 0, 0]) ++ (mPage x.page x.bits c).1
def mAns (x : Cmd) (c p : Bool) : BS × Sns := if x.op ≠ 0x1a ∧ x.op ≠ 0x5a then ([], sField) else if x.bits = 3 then ([], sSave) else if (mPage x.page x.bits c).2 = false then ([], sField) else ((mAll x c p).take x.n.toNat, sOk)
theorem ans_eq {x : Cmd} {c p : Bool} (h : x.op = 0x1a ∨ x.op = 0x5a) (hb : x.bits ≠ 3) (hp : (mPage x.page x.bits c).2 = true) {l : List (List V)} (hl : l = byteRows (mAll x c p)) : V.tup [.sl 1 (l.take x.n.toNat), .agg [i64 0, i64 0, i64 0]] = V.tup [bsV (mAns x c p).1, (mAns x c p).2.v] := by
  have e : mAns x c p = ((mAll x c p).take x.n.toNat, sOk) := by
    unfold mAns
    rw [if_neg (by omega), if_neg hb, if_neg (by rw [hp]; decide)]
  rw [e, hl, take_b]
  rfl
theorem ans_save {x : Cmd} {c p : Bool} (h : x.op = 0x1a ∨ x.op = 0x5a) (hb : x.bits = 3) : mAns x c p = ([], sSave) := by
  unfold mAns
  rw [if_neg (by omega), if_pos hb]
theorem ans_op {x : Cmd} {c p : Bool} (h : x.op ≠ 0x1a) (h2 : x.op ≠ 0x5a) : mAns x c p = ([], sField) := by
  unfold mAns
  rw [if_pos ⟨h, h2⟩]
theorem ans_pg {x : Cmd} {c p : Bool} (n1 : x.page ≠ 8) (n2 : x.page ≠ 28) (n3 : x.page ≠ 63) (hb : x.bits ≠ 3) : mAns x c p = ([], sField) := by
  unfold mAns
  split
  · rfl
  · rw [if_pos (by unfold mPage; rw [if_neg n1, if_neg n2, if_neg n3])]
theorem len_mOne (x : UInt8) : (mOne x).length = 20 := rfl
theorem len_mTwo : mTwo.length = 12 := rfl
theorem pg_cases (n : Int) : n = 8 ∨ n = 28 ∨ n = 63 ∨ (n ≠ 8 ∧ n ≠ 28 ∧ n ≠ 63) := by omega
end Go.Proofs.Ytbieiehfohldjaa
