/-
  Requests, and their direction, by the program and by the document.
-/
import Derived.Test.YtijinkikmglpcaaQh
namespace Go.Proofs.Ytijinkikmglpcaa
open Go
set_option linter.unusedVariables false
set_option linter.unusedSimpArgs false
set_option maxRecDepth 100000
set_option maxHeartbeats 2000000

structure Req where
  ty : Int
  code : Int
  val : Int
  idx : Int
  len : Int
def inB (n : Int) : Bool := decide (0 ≤ n) && decide (n < 256)
def inW (n : Int) : Bool := decide (0 ≤ n) && decide (n < 65536)
def Req.ok (r : Req) : Bool := inB r.ty && (inB r.code && (inW r.val && (inW r.idx && inW r.len)))
/-- 0: none, 1: in, 2: out -/
def Req.dir (r : Req) : Int := if r.ok = true then (if r.len = 0 then 0 else if 128 ≤ r.ty then 1 else 2) else 0

theorem w8 (n : Int) : (n == IntKind.i64.wrap (IntKind.u8.wrap n)) = inB n := by
  rw [IntKind.wrap_u8', wrap64 (by omega) (by omega)]
  unfold inB
  rw [Bool.eq_iff_iff]
  simp only [beq_iff_eq, Bool.and_eq_true, decide_eq_true_eq]
  omega
theorem w16 (n : Int) : (n == IntKind.i64.wrap (IntKind.u16.wrap n)) = inW n := by
  rw [IntKind.wrap_u16, wrap64 (by omega) (by omega)]
  unfold inW
  rw [Bool.eq_iff_iff]
  simp only [beq_iff_eq, Bool.and_eq_true, decide_eq_true_eq]
  omega

/- bits of numbers -/
theorem pow_nat (n : Nat) : (2 : Int) ^ n = ((2 ^ n : Nat) : Int) := by push_cast; rfl
theorem fdiv_nat (a b : Nat) : Int.fdiv (a : Int) (b : Int) = ((a / b : Nat) : Int) := by
  rw [Int.fdiv_eq_ediv_of_nonneg _ (Int.natCast_nonneg b)]; rfl
theorem mask_nat (f n : Nat) (h1 : 1 ≤ n) (h2 : f + n ≤ 64) : IntKind.u64.wrap (Int.fdiv 18446744073709551615 (2 ^ (64 - n)) * 2 ^ f) = (((2 ^ n - 1) * 2 ^ f : Nat) : Int) := by
  have e1 : Int.fdiv 18446744073709551615 (2 ^ (64 - n)) = ((2 ^ n - 1 : Nat) : Int) := by
    rw [pow_nat]
    show Int.fdiv ((18446744073709551615 : Nat) : Int) _ = _
    rw [fdiv_nat]
    congr 1
    have hp : 2 ^ n * 2 ^ (64 - n) = 18446744073709551616 := by rw [← Nat.pow_add, show n + (64 - n) = 64 by omega]
    have hpos := Nat.two_pow_pos (64 - n)
    have hpos' := Nat.two_pow_pos n
    apply Nat.div_eq_of_lt_le
    · rw [Nat.sub_mul, hp]; omega
    · rw [show (2 ^ n - 1 + 1 : Nat) = 2 ^ n by omega, hp]; decide
  rw [e1, wrapu64, pow_nat, ← Int.natCast_mul]
  rw [Int.emod_eq_of_lt (Int.natCast_nonneg _)]
  have : (2 ^ n - 1) * 2 ^ f < 2 ^ 64 := by
    have hp : 2 ^ n * 2 ^ f ≤ 2 ^ 64 := by rw [← Nat.pow_add]; exact Nat.pow_le_pow_right (by decide) (by omega)
    have hpos := Nat.two_pow_pos f
    have hpos' := Nat.two_pow_pos n
    rw [Nat.sub_mul]; omega
  generalize (2 ^ n - 1) * 2 ^ f = z at this ⊢
  omega
theorem c_mask (f n : Nat) (h1 : 1 ≤ n) (h2 : f + n ≤ 64) : FnC Try.prog 104 [i64 f, i64 n] [] (u64 ((2 ^ n - 1) * 2 ^ f : Nat)) [] := by
  have hw : IntKind.i64.wrap (64 - (n : Int)) = ((64 - n : Nat) : Int) := by rw [wrap64 (by omega) (by omega)]; omega
  refine fn_vc (N := 26) (d := 5) tabOk mixed Try.func104 rfl rfl rfl ?_
  repeat' first
    | (refine And.intro ?_ ?_)
    | (refine cEq (fun h => ?_) (fun h => ?_))
    | (refine cNe (fun h => ?_) (fun h => ?_))
    | (refine cNot (fun h => ?_) (fun h => ?_))
    | (refine cDec (fun h => ?_) (fun h => ?_))
    | (refine condN_split (fun h => ?_) (fun h => ?_))
  all_goals try refine eqI ?_
  all_goals first | omega | skip
  rw [hw, show min (((64 - n : Nat) : Int)).toNat IntKind.u64.bits = 64 - n by show min (64 - n) 64 = _; omega, show min ((f : Int)).toNat IntKind.u64.bits = f by show min f 64 = _; omega, mask_nat f n h1 h2]

theorem bits_cut (x f n : Nat) (h1 : 1 ≤ n) (h2 : f + n ≤ 64) (hx : x < 2 ^ 64) : Int.fdiv (bits .and .u64 (x : Int) (((2 ^ n - 1) * 2 ^ f : Nat) : Int)) (2 ^ f) = ((x / 2 ^ f % 2 ^ n : Nat) : Int) := by
  have hm : (2 ^ n - 1) * 2 ^ f < 2 ^ 64 := by
    have hp : 2 ^ n * 2 ^ f ≤ 2 ^ 64 := by rw [← Nat.pow_add]; exact Nat.pow_le_pow_right (by decide) (by omega)
    have hpos := Nat.two_pow_pos f
    have hpos' := Nat.two_pow_pos n
    rw [Nat.sub_mul]; omega
  have e : bits .and .u64 (x : Int) (((2 ^ n - 1) * 2 ^ f : Nat) : Int) = ((x &&& ((2 ^ n - 1) * 2 ^ f) : Nat) : Int) :=
    (bits_nat .u64 64 (by decide) (fun n h0 h1 => by rw [wrapu64]; omega) x _ hx hm).1
  rw [e, pow_nat, fdiv_nat]
  congr 1
  apply Nat.eq_of_testBit_eq
  intro i
  rw [Nat.testBit_mod_two_pow, ← Nat.shiftRight_eq_div_pow, ← Nat.shiftRight_eq_div_pow, Nat.testBit_shiftRight, Nat.testBit_shiftRight, Nat.testBit_and, ← Nat.shiftLeft_eq, Nat.testBit_shiftLeft, Nat.testBit_two_pow_sub_one]
  rw [show f + i - f = i by omega]
  simp [Bool.and_comm]
theorem c_bits (x f n : Nat) (h1 : 1 ≤ n) (h2 : f + n ≤ 64) (hx : x < 2 ^ 64) : FnC Try.prog 94 [u64 x, i64 f, i64 n] [] (u64 (x / 2 ^ f % 2 ^ n : Nat)) [] := by
  have hm : ((((2 ^ n - 1) * 2 ^ f : Nat) : Int) == 0) = false := by
    have hpos := Nat.two_pow_pos f
    have hpos' : 2 ^ 1 ≤ 2 ^ n := Nat.pow_le_pow_right (by decide) h1
    have : 0 < (2 ^ n - 1) * 2 ^ f := Nat.mul_pos (by omega) hpos
    simp only [beq_eq_false_iff_ne, ne_eq]
    omega
  refine fn_vc (N := 18) (d := 5) tabOk mixed Try.func94 rfl rfl rfl ?_
  refine Exists.intro _ (And.intro (c_mask f n h1 h2) ?_)
  refine condN_split (fun h => ?_) (fun h => ?_)
  · rw [hm] at h; cases h
  · refine And.intro (by omega) ?_
    refine eqI ?_
    rw [show min ((f : Int)).toNat IntKind.u64.bits = f by show min f 64 = _; omega, bits_cut x f n h1 h2 hx]

end Go.Proofs.Ytijinkikmglpcaa
