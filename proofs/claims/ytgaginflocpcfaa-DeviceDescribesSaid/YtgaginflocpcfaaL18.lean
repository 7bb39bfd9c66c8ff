/-
  What every device answers (layer 18): small contracts.
-/
import Derived.Test.YtgaginflocpcfaaC14
import Derived.Test.YtgaginflocpcfaaAbsVm
namespace Go.Proofs.Ytgaginflocpcfaa
open Go
set_option linter.unusedVariables false
set_option linter.unusedSimpArgs false
set_option maxRecDepth 100000
set_option maxHeartbeats 2000000

structure Dev where
  addr : Int
  next : Int
  coming : Bool
  conf : Int
  alt : Int
def Dev.row (x : Dev) : List V := [V.lit (.int .i64 x.addr), V.lit (.int .i64 x.next), bV x.coming, V.lit (.int .i64 x.conf), V.lit (.int .i64 x.alt)]
def Dev.v (x : Dev) : V := .agg [V.lit (.int .i64 x.addr), V.lit (.int .i64 x.next), bV x.coming, V.lit (.int .i64 x.conf), V.lit (.int .i64 x.alt)]
def Dev.wf (x : Dev) : Prop := (-9223372036854775808 ≤ x.addr ∧ x.addr ≤ 9223372036854775807) ∧ (-9223372036854775808 ≤ x.next ∧ x.next ≤ 9223372036854775807) ∧ (-9223372036854775808 ≤ x.conf ∧ x.conf ≤ 9223372036854775807) ∧ (-9223372036854775808 ≤ x.alt ∧ x.alt ≤ 9223372036854775807)
def Dev.dflt : Dev := ⟨0, 0, false, 0, 0⟩
theorem rp_Dev (l : List Dev) : rowsPlain (l.map Dev.row) = True := rp_map (fun x => rfl) l
theorem or_Dev (l : List Dev) : oneRows (l.map Dev.row) = True := or_map (fun x => rfl) l
structure Efc where
  kind : Int
  ep : Int
def Efc.row (x : Efc) : List V := [V.lit (.int .i64 x.kind), V.lit (.int .i64 x.ep)]
def Efc.v (x : Efc) : V := .agg [V.lit (.int .i64 x.kind), V.lit (.int .i64 x.ep)]
def Efc.wf (x : Efc) : Prop := (-9223372036854775808 ≤ x.kind ∧ x.kind ≤ 9223372036854775807) ∧ (-9223372036854775808 ≤ x.ep ∧ x.ep ≤ 9223372036854775807)
def Efc.dflt : Efc := ⟨0, 0⟩
theorem rp_Efc (l : List Efc) : rowsPlain (l.map Efc.row) = True := rp_map (fun x => rfl) l
theorem or_Efc (l : List Efc) : oneRows (l.map Efc.row) = True := or_map (fun x => rfl) l
structure Req where
  ty : Int
  code : Int
  val : Int
  idx : Int
  len : Int
def Req.row (x : Req) : List V := [V.lit (.int .i64 x.ty), V.lit (.int .i64 x.code), V.lit (.int .i64 x.val), V.lit (.int .i64 x.idx), V.lit (.int .i64 x.len)]
def Req.v (x : Req) : V := .agg [V.lit (.int .i64 x.ty), V.lit (.int .i64 x.code), V.lit (.int .i64 x.val), V.lit (.int .i64 x.idx), V.lit (.int .i64 x.len)]
def Req.wf (x : Req) : Prop := (-9223372036854775808 ≤ x.ty ∧ x.ty ≤ 9223372036854775807) ∧ (-9223372036854775808 ≤ x.code ∧ x.code ≤ 9223372036854775807) ∧ (-9223372036854775808 ≤ x.val ∧ x.val ≤ 9223372036854775807) ∧ (-9223372036854775808 ≤ x.idx ∧ x.idx ≤ 9223372036854775807) ∧ (-9223372036854775808 ≤ x.len ∧ x.len ≤ 9223372036854775807)
def Req.dflt : Req := ⟨0, 0, 0, 0, 0⟩
theorem rp_Req (l : List Req) : rowsPlain (l.map Req.row) = True := rp_map (fun x => rfl) l
theorem or_Req (l : List Req) : oneRows (l.map Req.row) = True := or_map (fun x => rfl) l
theorem key_kind : KeyOk Try.prog 58 [true, true] := keyOk_of (by kernel_rfl) (by kernel_rfl) (by kernel_rfl)
theorem zero_int : ZeroIs Try.prog 3 (.int .i64 0) := zeroIs_of rfl (by kernel_rfl)
theorem i64_close {a b : Int} (h : a = b) : V.lit (Value.int .i64 a) = i64 b := by rw [h]
def askOf (t c : Int) : Int :=
  if t = 128 ∧ c = 0 then 1 else if t = 129 ∧ c = 0 then 1 else if t = 130 ∧ c = 0 then 1 else if t = 2 ∧ c = 1 then 2 else if t = 2 ∧ c = 3 then 3 else if t = 0 ∧ c = 5 then 4 else if t = 128 ∧ c = 6 then 5 else if t = 128 ∧ c = 8 then 6
  else if t = 0 ∧ c = 9 then 7 else if t = 129 ∧ c = 10 then 8 else if t = 1 ∧ c = 11 then 9 else if t = 161 ∧ c = 254 then 10 else if t = 33 ∧ c = 255 then 11 else 0
theorem key_no {a b c d : Int} : (a == b && (c == d && true)) = false ↔ ¬ (a = b ∧ c = d) := by simp
theorem key_yes {a b c d : Int} : (a == b && (c == d && true)) = true ↔ (a = b ∧ c = d) := by simp
noncomputable def inl18 : List IRow := [(24, Try.f24, 6, 3), (31, Try.f31, 10, 4), (29, Try.f29, 25, 5), (44, Try.f44, 26, 5), (37, Try.f37, 25, 5), (36, Try.f36, 7, 3)]
theorem inl18_ok : IOk Try.prog (inlTab inl18) := inl_ok (by
  unfold inl18
  repeat' (first | exact trivial | refine And.intro (And.intro rfl (And.intro rfl rfl)) ?_))
theorem c_asks (r : Req) : FnC Try.prog 20 [r.v] [] (i64 (askOf r.ty r.code)) [] := by
  obtain ⟨t, c, v, i, l⟩ := r
  dsimp only [Req.v]
  refine fn_vcI (N := 26) (d := 5) tabOk mixed inl18_ok 2 Try.func20 rfl rfl rfl ?_
  repeat'
    (conv => whnf
     first
      | (exact trivial)
      | (refine And.intro (by with_reducible rfl) ?_)
      | (refine And.intro (drawI (by kernel_rfl)) ?_)
      | (refine andI ?_ ?_)
      | (refine condT (by assumption) ?_)
      | (refine condF (by assumption) ?_)
      | (refine decT (by assumption) ?_)
      | (refine decF (by assumption) ?_)
      | (refine eqT (by assumption) ?_)
      | (refine eqF (by assumption) ?_)
      | (refine neT (by assumption) ?_)
      | (refine neF (by assumption) ?_)
      | (refine cEq (fun h => ?_) (fun h => ?_))
      | (refine cNe (fun h => ?_) (fun h => ?_))
      | (refine cNot (fun h => ?_) (fun h => ?_))
      | (refine cDec (fun h => ?_) (fun h => ?_))
      | (refine condN_split (fun h => ?_) (fun h => ?_))
      | (refine Exists.intro _ (And.intro key_kind ?_))
      | (refine Exists.intro _ (And.intro zero_int ?_))
      | (refine Or.inl (And.intro (by kernel_rfl : Nat.ble _ _ = true) ?_))
      | (refine Or.inl (And.intro Cl.lit ?_))
      | (refine Or.inr ?_)
      | (refine Exists.intro (1 : Nat) ?_)
      | (fail))
  all_goals try refine Side.mk ?_
  all_goals try dsimp only at *
  all_goals try refine eqI ?_
  all_goals simp only [key_no, key_yes] at *
  all_goals (refine i64_close ?_; simp only [askOf, *, if_true, if_false, and_self]; try rfl)

def InI (a : Int) : Prop := -9223372036854775808 ≤ a ∧ a ≤ 9223372036854775807
theorem nat_an128 (n : Nat) (h : n < 2 ^ 64) : n &&& 18446744073709551487 = 256 * (n / 256) + n % 128 := by
  have e1 : (n &&& 18446744073709551487) / 2 ^ 8 = n / 2 ^ 8 := by
    rw [Nat.and_div_two_pow, show 18446744073709551487 / 2 ^ 8 = 2 ^ 56 - 1 from rfl, Nat.and_two_pow_sub_one_eq_mod, Nat.mod_eq_of_lt (by omega)]
  have e2 : (n &&& 18446744073709551487) % 2 ^ 8 = n % 128 := by
    rw [Nat.and_mod_two_pow, show 18446744073709551487 % 2 ^ 8 = 2 ^ 7 - 1 from rfl, Nat.and_two_pow_sub_one_eq_mod]
    omega
  omega
theorem an128 {a : Int} (h : InI a) : bits .andNot .i64 a 128 = a - (if a % 256 ≥ 128 then 128 else 0) := by
  unfold InI at h
  have e : (BitVec.ofInt 64 a &&& ~~~ BitVec.ofInt 64 128).toNat = 256 * ((a % 18446744073709551616).toNat / 256) + (a % 18446744073709551616).toNat % 128 := by
    rw [BitVec.toNat_and, BitVec.toNat_ofInt, show (~~~ BitVec.ofInt 64 128).toNat = 18446744073709551487 from rfl]
    exact nat_an128 _ (by omega)
  show IntKind.i64.wrap (((BitVec.ofInt 64 a &&& ~~~ BitVec.ofInt 64 128).toNat : Nat) : Int) = _
  rw [e, IntKind.wrap_i64]
  split <;> omega
theorem and1 (x : Int) : bits .and .i64 x 1 = x % 2 := and_mask .i64 1 (by decide) x
def dOwn (a : Int) : Bool := decide (a = 0 ∨ a = 128)
def dPlace (a : Int) : Int := if a = 129 then 1 else if a = 2 then 2 else if a = 131 then 3 else if a = 4 then 4 else 0
def dHas (d : Dev) (a : Int) : Bool := dOwn a || (decide (d.conf = 1) && dUses d.alt a)
theorem c_own (a : Int) (h : Side (InI a)) : FnC Try.prog 23 [i64 a] [] (bV (dOwn a)) [] := by
  have h := h.h
  refine fn_vcI (N := 6) (d := 3) tabOk mixed inl18_ok 2 Try.func23 rfl rfl rfl ?_
  repeat'
    (conv => whnf
     first
      | (exact trivial)
      | (refine And.intro (by with_reducible rfl) ?_)
      | (refine And.intro (drawI (by kernel_rfl)) ?_)
      | (refine andI ?_ ?_)
      | (refine condT (by assumption) ?_)
      | (refine condF (by assumption) ?_)
      | (refine decT (by assumption) ?_)
      | (refine decF (by assumption) ?_)
      | (refine eqT (by assumption) ?_)
      | (refine eqF (by assumption) ?_)
      | (refine neT (by assumption) ?_)
      | (refine neF (by assumption) ?_)
      | (refine cEq (fun h => ?_) (fun h => ?_))
      | (refine cNe (fun h => ?_) (fun h => ?_))
      | (refine cNot (fun h => ?_) (fun h => ?_))
      | (refine cDec (fun h => ?_) (fun h => ?_))
      | (refine condN_split (fun h => ?_) (fun h => ?_))
      | (refine Or.inl (And.intro (by kernel_rfl : Nat.ble _ _ = true) ?_))
      | (refine Or.inl (And.intro Cl.lit ?_))
      | (refine Or.inr ?_)
      | (refine Exists.intro (1 : Nat) ?_)
      | (fail))
  all_goals try refine Side.mk ?_
  all_goals try dsimp only at *
  all_goals try refine eqI ?_
  all_goals (refine bool_close ?_; rw [an128 h]; unfold InI at h; unfold dOwn; simp only [beq_iff_eq, decide_eq_true_eq]; split <;> omega)
theorem dPlace_of {a : Int} (h : InI a) : (if bits .andNot .i64 a 128 < 1 ∨ bits .andNot .i64 a 128 > 4 ∨ ((a == bits .andNot .i64 a 128) = (bits .andNot .i64 a 128 % 2 == 1)) then 0 else bits .andNot .i64 a 128) = dPlace a := by
  rw [an128 h]
  unfold InI at h
  unfold dPlace
  by_cases h1 : a % 256 ≥ 128
  · rw [if_pos h1]
    rw [show (a == a - 128) = false from by rw [beq_eq_false_iff_ne]; omega]
    by_cases h2 : a - 128 < 1 ∨ a - 128 > 4
    · rw [if_pos (by omega)]
      (repeat' split) <;> omega
    · have h3 : a = 129 ∨ a = 130 ∨ a = 131 ∨ a = 132 := by omega
      rcases h3 with rfl | rfl | rfl | rfl <;> rfl
  · rw [if_neg h1, Int.sub_zero, beq_self_eq_true]
    by_cases h2 : a < 1 ∨ a > 4
    · rw [if_pos (by omega)]
      (repeat' split) <;> omega
    · have h3 : a = 1 ∨ a = 2 ∨ a = 3 ∨ a = 4 := by omega
      rcases h3 with rfl | rfl | rfl | rfl <;> rfl
theorem c_place (a : Int) (hs : Side (InI a)) : FnC Try.prog 13 [i64 a] [] (i64 (dPlace a)) [] := by
  have hI := hs.h
  rw [← dPlace_of hI]
  refine fn_vcI (N := 22) (d := 5) tabOk mixed inl18_ok 2 Try.func13 rfl rfl rfl ?_
  repeat'
    (conv => whnf
     first
      | (exact trivial)
      | (refine And.intro (by with_reducible rfl) ?_)
      | (refine And.intro (drawI (by kernel_rfl)) ?_)
      | (refine andI ?_ ?_)
      | (refine condT (by assumption) ?_)
      | (refine condF (by assumption) ?_)
      | (refine decT (by assumption) ?_)
      | (refine decF (by assumption) ?_)
      | (refine eqT (by assumption) ?_)
      | (refine eqF (by assumption) ?_)
      | (refine neT (by assumption) ?_)
      | (refine neF (by assumption) ?_)
      | (refine cEq (fun h => ?_) (fun h => ?_))
      | (refine cNe (fun h => ?_) (fun h => ?_))
      | (refine cNot (fun h => ?_) (fun h => ?_))
      | (refine cDec (fun h => ?_) (fun h => ?_))
      | (refine condN_split (fun h => ?_) (fun h => ?_))
      | (refine Or.inl (And.intro (by kernel_rfl : Nat.ble _ _ = true) ?_))
      | (refine Or.inl (And.intro Cl.lit ?_))
      | (refine Or.inr ?_)
      | (refine Exists.intro (1 : Nat) ?_)
      | (fail))
  all_goals try refine Side.mk ?_
  all_goals try dsimp only at *
  all_goals try refine eqI ?_
  all_goals (refine i64_close ?_)
  · rw [if_pos (.inl (by assumption))]
  · rw [if_pos (.inr (.inl (by assumption)))]
  · rw [and1] at h
    rw [if_pos (.inr (.inr h))]
  · rename_i h1 h2
    rw [and1] at h
    rw [if_neg (by rintro (q | q | q); exact h1 q; exact h2 q; exact h q)]
theorem c_has (d : Dev) (a : Int) (h : Side (InI a)) : FnC Try.prog 15 [d.v, i64 a] [] (bV (dHas d a)) [] := by
  have h := h.h
  obtain ⟨ad, nx, cm, cf, al⟩ := d
  dsimp only [Dev.v]
  refine fn_vcI (N := 17) (d := 5) tabOk mixed inl18_ok 2 Try.func15 rfl rfl rfl ?_
  repeat'
    (conv => whnf
     first
      | (exact trivial)
      | (refine And.intro (by with_reducible rfl) ?_)
      | (refine And.intro (drawI (by kernel_rfl)) ?_)
      | (refine andI ?_ ?_)
      | (refine condT (by assumption) ?_)
      | (refine condF (by assumption) ?_)
      | (refine decT (by assumption) ?_)
      | (refine decF (by assumption) ?_)
      | (refine eqT (by assumption) ?_)
      | (refine eqF (by assumption) ?_)
      | (refine neT (by assumption) ?_)
      | (refine neF (by assumption) ?_)
      | (refine cEq (fun h => ?_) (fun h => ?_))
      | (refine cNe (fun h => ?_) (fun h => ?_))
      | (refine cNot (fun h => ?_) (fun h => ?_))
      | (refine cDec (fun h => ?_) (fun h => ?_))
      | (refine condN_split (fun h => ?_) (fun h => ?_))
      | (refine Exists.intro _ (And.intro (c_own _ ?_) ?_))
      | (refine Exists.intro _ (And.intro (c_uses _ _) ?_))
      | (refine Or.inl (And.intro (by kernel_rfl : Nat.ble _ _ = true) ?_))
      | (refine Or.inl (And.intro Cl.lit ?_))
      | (refine Or.inr ?_)
      | (refine Exists.intro (1 : Nat) ?_)
      | (fail))
  all_goals try refine Side.mk ?_
  all_goals try dsimp only at *
  all_goals try refine eqI ?_
  all_goals first | exact h | (refine congrArg (fun b => V.lit (Value.bool b)) ?_; simp [dHas, dOwn, *]; done)
theorem c_refPlace (a : Int) : FnC Try.prog 14 [i64 a] [] (i64 (dPlace a)) [] := by
  refine fn_vcI (N := 12) (d := 4) tabOk mixed inl18_ok 2 Try.func14 rfl rfl rfl ?_
  repeat'
    (conv => whnf
     first
      | (exact trivial)
      | (refine And.intro (by with_reducible rfl) ?_)
      | (refine And.intro (drawI (by kernel_rfl)) ?_)
      | (refine andI ?_ ?_)
      | (refine condT (by assumption) ?_)
      | (refine condF (by assumption) ?_)
      | (refine decT (by assumption) ?_)
      | (refine decF (by assumption) ?_)
      | (refine eqT (by assumption) ?_)
      | (refine eqF (by assumption) ?_)
      | (refine neT (by assumption) ?_)
      | (refine neF (by assumption) ?_)
      | (refine cEq (fun h => ?_) (fun h => ?_))
      | (refine cNe (fun h => ?_) (fun h => ?_))
      | (refine cNot (fun h => ?_) (fun h => ?_))
      | (refine cDec (fun h => ?_) (fun h => ?_))
      | (refine condN_split (fun h => ?_) (fun h => ?_))
      | (refine Or.inl (And.intro (by kernel_rfl : Nat.ble _ _ = true) ?_))
      | (refine Or.inl (And.intro Cl.lit ?_))
      | (refine Or.inr ?_)
      | (refine Exists.intro (1 : Nat) ?_)
      | (fail))
  all_goals try refine Side.mk ?_
  all_goals try dsimp only at *
  all_goals try refine eqI ?_
  all_goals (refine i64_close ?_; unfold dPlace; (repeat' split) <;> first | rfl | omega)
theorem c_refHas (d : Dev) (a : Int) : FnC Try.prog 16 [d.v, i64 a] [] (bV (dHas d a)) [] := by
  obtain ⟨ad, nx, cm, cf, al⟩ := d
  dsimp only [Dev.v]
  refine fn_vcI (N := 20) (d := 5) tabOk mixed inl18_ok 2 Try.func16 rfl rfl rfl ?_
  repeat'
    (conv => whnf
     first
      | (exact trivial)
      | (refine And.intro (by with_reducible rfl) ?_)
      | (refine And.intro (drawI (by kernel_rfl)) ?_)
      | (refine andI ?_ ?_)
      | (refine condT (by assumption) ?_)
      | (refine condF (by assumption) ?_)
      | (refine decT (by assumption) ?_)
      | (refine decF (by assumption) ?_)
      | (refine eqT (by assumption) ?_)
      | (refine eqF (by assumption) ?_)
      | (refine neT (by assumption) ?_)
      | (refine neF (by assumption) ?_)
      | (refine cEq (fun h => ?_) (fun h => ?_))
      | (refine cNe (fun h => ?_) (fun h => ?_))
      | (refine cNot (fun h => ?_) (fun h => ?_))
      | (refine cDec (fun h => ?_) (fun h => ?_))
      | (refine condN_split (fun h => ?_) (fun h => ?_))
      | (refine Exists.intro _ (And.intro (c_refUses _ _) ?_))
      | (refine Or.inl (And.intro (by kernel_rfl : Nat.ble _ _ = true) ?_))
      | (refine Or.inl (And.intro Cl.lit ?_))
      | (refine Or.inr ?_)
      | (refine Exists.intro (1 : Nat) ?_)
      | (fail))
  all_goals try refine Side.mk ?_
  all_goals try dsimp only at *
  all_goals try refine eqI ?_
  all_goals (refine congrArg (fun b => V.lit (Value.bool b)) ?_; simp [dHas, dOwn, *]; done)
end Go.Proofs.Ytgaginflocpcfaa
