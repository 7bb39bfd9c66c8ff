/-
  What every device answers (layer 18): the program's functions.
-/
import Derived.Test.YtgaginflocpcfaaM18
import Derived.Laws.BitsAllLaws
namespace Go.Proofs.Ytgaginflocpcfaa
open Go
set_option linter.unusedVariables false
set_option linter.unusedSimpArgs false
set_option maxRecDepth 100000
set_option maxHeartbeats 4000000

theorem and_bit (x n : Nat) : (x &&& 2 ^ n) / 2 ^ n = x / 2 ^ n % 2 := by
  rw [Nat.and_div_two_pow, Nat.div_self (Nat.two_pow_pos n), Nat.and_one_is_mod]
theorem and_bit64 {x : Int} (h0 : 0 ≤ x) (h1 : x < 18446744073709551616) (n : Nat) (hn : n < 8) : (bits .and .u64 x ((2 ^ n : Nat) : Int)).fdiv ((2 ^ n : Nat) : Int) = x / ((2 ^ n : Nat) : Int) % 2 := by
  obtain ⟨m, rfl⟩ := Int.eq_ofNat_of_zero_le h0
  have h2 : 2 ^ n ≤ 2 ^ 8 := Nat.pow_le_pow_right (by decide) (by omega)
  rw [u64_and_nat _ _ (by omega) (by omega), Int.fdiv_eq_ediv_of_nonneg _ (Int.natCast_nonneg _)]
  have := and_bit m n
  rw [← Int.natCast_ediv, this]
  push_cast
  rfl
def dBit (h : Int) (n : Int) : Int := if n = 0 then h / 1 % 2 else if n = 1 then h / 2 % 2 else if n = 2 then h / 4 % 2 else if n = 3 then h / 8 % 2 else h / 16 % 2
theorem c_bits (x n : Int) (hx : Side (0 ≤ x ∧ x < 18446744073709551616)) (hn : Side (n = 0 ∨ n = 1 ∨ n = 2 ∨ n = 3 ∨ n = 4)) : FnC Try.prog 32 [.lit (.int .u64 x), i64 n, i64 1] [] (.lit (.int .u64 (dBit x n))) [] := by
  have hx := hx.h
  have hn := hn.h
  have a0 := and_bit64 hx.1 hx.2 0 (by decide)
  have a1 := and_bit64 hx.1 hx.2 1 (by decide)
  have a2 := and_bit64 hx.1 hx.2 2 (by decide)
  have a3 := and_bit64 hx.1 hx.2 3 (by decide)
  have a4 := and_bit64 hx.1 hx.2 4 (by decide)
  rcases hn with rfl | rfl | rfl | rfl | rfl
  all_goals refine fn_vcI (N := 18) (d := 5) tabOk mixed inl18_ok 3 Try.func32 rfl rfl rfl ?_
  repeat'
    (conv => whnf
     first
      | (exact trivial)
      | (refine And.intro (by with_reducible rfl) ?_)
      | (refine And.intro (drawI (by kernel_rfl)) ?_)
      | (refine andI ?_ ?_)
      | (refine condT (by assumption) ?_)
      | (refine condF (by assumption) ?_)
      | (refine decT (by assumption) ?_)
      | (refine decF (by assumption) ?_)
      | (refine eqT (by assumption) ?_)
      | (refine eqF (by assumption) ?_)
      | (refine neT (by assumption) ?_)
      | (refine neF (by assumption) ?_)
      | (refine condT (by decide) ?_)
      | (refine condF (by decide) ?_)
      | (refine cEq (fun h => ?_) (fun h => ?_))
      | (refine cNe (fun h => ?_) (fun h => ?_))
      | (refine cNot (fun h => ?_) (fun h => ?_))
      | (refine cDec (fun h => ?_) (fun h => ?_))
      | (refine condN_split (fun h => ?_) (fun h => ?_))
      | (refine Or.inl (And.intro (by kernel_rfl : Nat.ble _ _ = true) ?_))
      | (refine Or.inl (And.intro Cl.lit ?_))
      | (refine Or.inr ?_)
      | (refine Exists.intro (1 : Nat) ?_)
      | (fail))
  all_goals try refine Side.mk ?_
  all_goals try dsimp only at *
  all_goals try refine eqI ?_
  all_goals first
    | decide
    | exact congrArg (fun z => V.lit (.int .u64 z)) a0
    | exact congrArg (fun z => V.lit (.int .u64 z)) a1
    | exact congrArg (fun z => V.lit (.int .u64 z)) a2
    | exact congrArg (fun z => V.lit (.int .u64 z)) a3
    | exact congrArg (fun z => V.lit (.int .u64 z)) a4
def b8 (z : Int) : UInt8 := UInt8.ofNat (z % 256).toNat
theorem b8_v (z : Int) : V.lit (Value.int .u8 (IntKind.u8.wrap z)) = u8V (b8 z) := by
  unfold u8V b8
  rw [IntKind.wrap_u8']
  congr 2
  rw [UInt8.toNat_ofNat']
  omega
def dataK (k : Int) (d : Dev) (luns halted : Int) (r : Req) : BS :=
  if k = 1 then [if r.ty = 130 ∧ dOwn r.idx = false then b8 (dBit (halted % 18446744073709551616) (dPlace r.idx)) else 0, 0]
  else if k = 5 then (dGet (r.val / 256) (r.val % 256)).1 else if k = 6 then [b8 d.conf] else if k = 8 then [b8 d.alt] else if k = 10 then [b8 ((if luns < 1 ∨ luns > 4 then 1 else luns) - 1)] else []
theorem dPlace_in (a : Int) : dPlace a = 0 ∨ dPlace a = 1 ∨ dPlace a = 2 ∨ dPlace a = 3 ∨ dPlace a = 4 := by
  unfold dPlace
  (repeat' split) <;> simp
attribute [local irreducible] askOf dGet dHas dOwn dPlace dBit
theorem c_data (d : Dev) (luns halted : Int) (r : Req) (hi : Side (InI r.idx)) : FnC Try.prog 19 [d.v, i64 luns, i64 halted, r.v] [] (bsV (dataK (askOf r.ty r.code) d luns halted r)) [] := by
  have hi := hi.h
  have hp := dPlace_in r.idx
  obtain ⟨ad, nx, cm, cf, al⟩ := d
  obtain ⟨t, c, v, i, l⟩ := r
  dsimp only [Dev.v, Req.v] at *
  refine fn_vcI (N := 73) (d := 7) tabOk mixed inl18_ok 2 Try.func19 rfl rfl rfl ?_
  repeat'
    (conv => whnf
     first
      | (exact trivial)
      | (refine And.intro (by with_reducible rfl) ?_)
      | (refine And.intro (drawI (by kernel_rfl)) ?_)
      | (refine andI ?_ ?_)
      | (refine condT (by assumption) ?_)
      | (refine condF (by assumption) ?_)
      | (refine decT (by assumption) ?_)
      | (refine decF (by assumption) ?_)
      | (refine eqT (by assumption) ?_)
      | (refine eqF (by assumption) ?_)
      | (refine neT (by assumption) ?_)
      | (refine neF (by assumption) ?_)
      | (refine cEq (fun h => ?_) (fun h => ?_))
      | (refine cNe (fun h => ?_) (fun h => ?_))
      | (refine cNot (fun h => ?_) (fun h => ?_))
      | (refine cDec (fun h => ?_) (fun h => ?_))
      | (refine condN_split (fun h => ?_) (fun h => ?_))
      | (refine Exists.intro _ (And.intro (c_asks ⟨_, _, _, _, _⟩) ?_))
      | (refine Exists.intro _ (And.intro (c_own _ ?_) ?_))
      | (refine Exists.intro _ (And.intro (c_place _ ?_) ?_))
      | (refine Exists.intro _ (And.intro (c_bits _ _ ?_ ?_) ?_))
      | (refine Exists.intro _ (And.intro (c_get _ _) ?_))
      | (refine Exists.intro _ (And.intro rfl ?_))
      | (refine Or.inl (And.intro (by kernel_rfl : Nat.ble _ _ = true) ?_))
      | (refine Or.inl (And.intro Cl.lit ?_))
      | (refine Or.inr ?_)
      | (refine Exists.intro (1 : Nat) ?_)
      | (fail))
  all_goals try refine Side.mk ?_
  all_goals try dsimp only at *
  all_goals try refine eqI ?_
  all_goals try exact hi
  all_goals try exact hp
  all_goals try simp only [andFF, shr8, and1] at *
  all_goals first
    | decide
    | exact Nat.le_refl _
    | (rw [wrapu64]; omega)
    | (refine rp_all ?_; rfl)
    | (generalize askOf t c = k at *
       try simp (disch := omega) only [wrap64]
       try simp only [wrapu64, b8_v]
       unfold dataK
       dsimp only at *
       generalize dOwn i = ow at *
       simp only [*, if_true, if_false, ne_eq, not_true_eq_false, not_false_eq_true, Int.reduceEq, and_self, true_and, and_true, and_false, false_and, Bool.true_eq_false, Bool.false_eq_true, true_or, or_true, false_or, or_false, show luns - 1 = luns - 1 from rfl]
       first | done | rfl)
def haltE (kd a : Int) : Efc := if dOwn a = true then ⟨0, 0⟩ else ⟨kd, dPlace a⟩
theorem c_halt (kd a : Int) (hi : Side (InI a)) : FnC Try.prog 21 [i64 kd, i64 a] [] (haltE kd a).v [] := by
  have hi := hi.h
  refine fn_vcI (N := 12) (d := 4) tabOk mixed inl18_ok 2 Try.func21 rfl rfl rfl ?_
  repeat'
    (conv => whnf
     first
      | (exact trivial)
      | (refine And.intro (by with_reducible rfl) ?_)
      | (refine And.intro (drawI (by kernel_rfl)) ?_)
      | (refine andI ?_ ?_)
      | (refine condT (by assumption) ?_)
      | (refine condF (by assumption) ?_)
      | (refine decT (by assumption) ?_)
      | (refine decF (by assumption) ?_)
      | (refine eqT (by assumption) ?_)
      | (refine eqF (by assumption) ?_)
      | (refine neT (by assumption) ?_)
      | (refine neF (by assumption) ?_)
      | (refine cEq (fun h => ?_) (fun h => ?_))
      | (refine cNe (fun h => ?_) (fun h => ?_))
      | (refine cNot (fun h => ?_) (fun h => ?_))
      | (refine cDec (fun h => ?_) (fun h => ?_))
      | (refine condN_split (fun h => ?_) (fun h => ?_))
      | (refine Exists.intro _ (And.intro (c_own _ ?_) ?_))
      | (refine Exists.intro _ (And.intro (c_place _ ?_) ?_))
      | (refine Or.inl (And.intro (by kernel_rfl : Nat.ble _ _ = true) ?_))
      | (refine Or.inl (And.intro Cl.lit ?_))
      | (refine Or.inr ?_)
      | (refine Exists.intro (1 : Nat) ?_)
      | (fail))
  all_goals try refine Side.mk ?_
  all_goals try dsimp only at *
  all_goals try refine eqI ?_
  all_goals first | exact hi | (simp only [haltE, *, if_true, if_false, Bool.false_eq_true]; rfl)
def effK (k : Int) (r : Req) : Efc := if k = 2 then haltE 1 r.idx else if k = 3 then haltE 2 r.idx else if k = 7 ∨ k = 9 then ⟨3, 0⟩ else if k = 11 then ⟨4, 0⟩ else ⟨0, 0⟩
def devK (k : Int) (d : Dev) (r : Req) : Dev := if k = 4 then ⟨d.addr, r.val, true, d.conf, d.alt⟩ else if k = 7 then ⟨d.addr, 0, false, r.val, 0⟩ else if k = 9 then ⟨d.addr, 0, false, d.conf, r.val⟩ else ⟨d.addr, 0, false, d.conf, d.alt⟩
def d0 (d : Dev) : Dev := ⟨d.addr, 0, false, d.conf, d.alt⟩
def askD (d : Dev) (r : Req) : Dev := if mayOk (d0 d) r = true then devK (askOf r.ty r.code) d r else d0 d
def askE (d : Dev) (r : Req) : Efc := if mayOk (d0 d) r = true then effK (askOf r.ty r.code) r else ⟨0, 0⟩
def askB (d : Dev) (luns halted : Int) (r : Req) : BS := if mayOk (d0 d) r = true then dataK (askOf r.ty r.code) (d0 d) luns halted r else []
attribute [local irreducible] mayOk dataK haltE
theorem c_ask (d : Dev) (luns halted : Int) (r : Req) (hi : Side (InI r.idx)) : FnC Try.prog 9 [d.v, i64 luns, i64 halted, r.v] [] (.tup [(askD d r).v, (askE d r).v, bsV (askB d luns halted r), bV (mayOk (d0 d) r)]) [] := by
  have hi := hi.h
  obtain ⟨ad, nx, cm, cf, al⟩ := d
  obtain ⟨t, c, v, i, l⟩ := r
  dsimp only [Dev.v, Req.v] at *
  refine fn_vcI (N := 64) (d := 7) tabOk mixed inl18_ok 2 Try.func9 rfl rfl rfl ?_
  repeat'
    (conv => whnf
     first
      | (exact trivial)
      | (refine And.intro (by with_reducible rfl) ?_)
      | (refine And.intro (drawI (by kernel_rfl)) ?_)
      | (refine andI ?_ ?_)
      | (refine condT (by assumption) ?_)
      | (refine condF (by assumption) ?_)
      | (refine decT (by assumption) ?_)
      | (refine decF (by assumption) ?_)
      | (refine eqT (by assumption) ?_)
      | (refine eqF (by assumption) ?_)
      | (refine neT (by assumption) ?_)
      | (refine neF (by assumption) ?_)
      | (refine cEq (fun h => ?_) (fun h => ?_))
      | (refine cNe (fun h => ?_) (fun h => ?_))
      | (refine cNot (fun h => ?_) (fun h => ?_))
      | (refine cDec (fun h => ?_) (fun h => ?_))
      | (refine condN_split (fun h => ?_) (fun h => ?_))
      | (refine Exists.intro _ (And.intro (c_may ⟨_, _, _, _, _⟩ ⟨_, _, _, _, _⟩ ?_) ?_))
      | (refine Exists.intro _ (And.intro (c_data ⟨_, _, _, _, _⟩ _ _ ⟨_, _, _, _, _⟩ ?_) ?_))
      | (refine Exists.intro _ (And.intro (c_asks ⟨_, _, _, _, _⟩) ?_))
      | (refine Exists.intro _ (And.intro (c_halt _ _ ?_) ?_))
      | (refine Exists.intro _ (And.intro rfl ?_))
      | (refine Or.inl (And.intro (by kernel_rfl : Nat.ble _ _ = true) ?_))
      | (refine Or.inl (And.intro Cl.lit ?_))
      | (refine Or.inr ?_)
      | (refine Exists.intro (1 : Nat) ?_)
      | (fail))
  all_goals try refine Side.mk ?_
  all_goals try dsimp only at *
  all_goals try refine eqI ?_
  all_goals try exact hi
  all_goals (unfold askD askE askB d0; dsimp only at *)
  all_goals (generalize mayOk _ _ = ok at *)
  all_goals subst h
  all_goals (generalize askOf t c = k at *; simp only [devK, effK, *, if_true, if_false, Int.reduceEq, ne_eq, not_false_eq_true, not_true_eq_false, Bool.false_eq_true, or_self, true_or, or_true, false_or, or_false]; first | done | rfl)
def doneD (d : Dev) : Dev := if d.coming = true then ⟨d.next, 0, false, d.conf, d.alt⟩ else d0 d
theorem c_done (d : Dev) : FnC Try.prog 11 [d.v] [] (doneD d).v [] := by
  obtain ⟨ad, nx, cm, cf, al⟩ := d
  dsimp only [Dev.v] at *
  refine fn_vcI (N := 11) (d := 4) tabOk mixed inl18_ok 2 Try.func11 rfl rfl rfl ?_
  repeat'
    (conv => whnf
     first
      | (exact trivial)
      | (refine And.intro (by with_reducible rfl) ?_)
      | (refine And.intro (drawI (by kernel_rfl)) ?_)
      | (refine andI ?_ ?_)
      | (refine condT (by assumption) ?_)
      | (refine condF (by assumption) ?_)
      | (refine decT (by assumption) ?_)
      | (refine decF (by assumption) ?_)
      | (refine eqT (by assumption) ?_)
      | (refine eqF (by assumption) ?_)
      | (refine neT (by assumption) ?_)
      | (refine neF (by assumption) ?_)
      | (refine cEq (fun h => ?_) (fun h => ?_))
      | (refine cNe (fun h => ?_) (fun h => ?_))
      | (refine cNot (fun h => ?_) (fun h => ?_))
      | (refine cDec (fun h => ?_) (fun h => ?_))
      | (refine condN_split (fun h => ?_) (fun h => ?_))
      | (refine Exists.intro _ (And.intro rfl ?_))
      | (refine Or.inl (And.intro (by kernel_rfl : Nat.ble _ _ = true) ?_))
      | (refine Or.inl (And.intro Cl.lit ?_))
      | (refine Or.inr ?_)
      | (refine Exists.intro (1 : Nat) ?_)
      | (fail))
  all_goals try refine Side.mk ?_
  all_goals try dsimp only at *
  all_goals try refine eqI ?_
  all_goals (subst h; rfl)
theorem c_refDone (d : Dev) : FnC Try.prog 12 [d.v] [] (doneD d).v [] := by
  obtain ⟨ad, nx, cm, cf, al⟩ := d
  dsimp only [Dev.v] at *
  refine fn_vcI (N := 11) (d := 4) tabOk mixed inl18_ok 2 Try.func12 rfl rfl rfl ?_
  repeat'
    (conv => whnf
     first
      | (exact trivial)
      | (refine And.intro (by with_reducible rfl) ?_)
      | (refine And.intro (drawI (by kernel_rfl)) ?_)
      | (refine andI ?_ ?_)
      | (refine condT (by assumption) ?_)
      | (refine condF (by assumption) ?_)
      | (refine decT (by assumption) ?_)
      | (refine decF (by assumption) ?_)
      | (refine eqT (by assumption) ?_)
      | (refine eqF (by assumption) ?_)
      | (refine neT (by assumption) ?_)
      | (refine neF (by assumption) ?_)
      | (refine cEq (fun h => ?_) (fun h => ?_))
      | (refine cNe (fun h => ?_) (fun h => ?_))
      | (refine cNot (fun h => ?_) (fun h => ?_))
      | (refine cDec (fun h => ?_) (fun h => ?_))
      | (refine condN_split (fun h => ?_) (fun h => ?_))
      | (refine Exists.intro _ (And.intro rfl ?_))
      | (refine Or.inl (And.intro (by kernel_rfl : Nat.ble _ _ = true) ?_))
      | (refine Or.inl (And.intro Cl.lit ?_))
      | (refine Or.inr ?_)
      | (refine Exists.intro (1 : Nat) ?_)
      | (fail))
  all_goals try refine Side.mk ?_
  all_goals try dsimp only at *
  all_goals try refine eqI ?_
  all_goals (subst h; rfl)
end Go.Proofs.Ytgaginflocpcfaa
