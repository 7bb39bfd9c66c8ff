/-
  Layer 11: numbers laid into bytes; senses' bytes.
-/
import Derived.Test.YtijinkikmglpcaamIj
import Derived.Test.YtijinkikmglpcaamL08
import Derived.Test.YtijinkikmglpcaamN01
namespace Go.Proofs.Ytijinkikmglpcaa
open Go
set_option linter.unusedVariables false
set_option linter.unusedSimpArgs false
set_option maxRecDepth 100000
set_option maxHeartbeats 8000000

/-- a number in so many bytes, the lowest one first -/
def leB : Nat → Nat → BS
  | 0, _ => []
  | k + 1, x => leB k x ++ [UInt8.ofNat (x / 256 ^ k)]
theorem leB_len : ∀ (w x : Nat), (leB w x).length = w
  | 0, _ => rfl
  | w + 1, x => by simp [leB, leB_len w]
/-- the highest one first -/
def putB (w x : Nat) : BS := (leB w x).reverse
theorem putB_len (w x : Nat) : (putB w x).length = w := by rw [putB, List.length_reverse, leB_len]
theorem u8c (n : Nat) : V.lit (.int .u8 (IntKind.u8.wrap (n : Int))) = u8V (UInt8.ofNat n) := by
  have h : IntKind.u8.wrap (n : Int) = (n : Int) % 256 := by
    simp only [IntKind.wrap, IntKind.bits, IntKind.signed]
    rfl
  rw [h]
  unfold u8V
  refine congrArg (fun n => V.lit (.int .u8 n)) ?_
  simp only [UInt8.toNat_ofNat']
  omega
theorem sh8 (n : Nat) : ((n : Int).fdiv (2 ^ min (Int.toNat 8) IntKind.u64.bits)) = ((n / 256 : Nat) : Int) := by
  rw [show (2 ^ min (Int.toNat 8) IntKind.u64.bits : Int) = 256 from rfl, Int.fdiv_eq_ediv_of_nonneg _ (by decide)]
  rfl
theorem dv8 {n : Nat} (h : n < 2 ^ 64) : IntKind.u64.wrap ((n : Int).tdiv 256) = ((n / 256 : Nat) : Int) := by
  rw [Int.tdiv_eq_ediv_of_nonneg (by omega), wrapu64]
  omega
theorem md8 (n : Nat) : (n : Int).tmod 256 = ((n % 256 : Nat) : Int) := by
  rw [Int.tmod_eq_emod_of_nonneg (by omega)]
  rfl
theorem of_mod (n : Nat) : UInt8.ofNat (n % 256) = UInt8.ofNat n := by
  refine UInt8.toNat_inj.1 ?_
  simp only [UInt8.toNat_ofNat']
  omega
theorem dv_pow (x k : Nat) : x / 256 ^ k / 256 = x / 256 ^ (k + 1) := by rw [Nat.div_div_eq_div_mul, Nat.pow_succ]
theorem dv_lt {x : Nat} (h : x < 2 ^ 64) (k : Nat) : x / 256 ^ k < 2 ^ 64 := Nat.lt_of_le_of_lt (Nat.div_le_self _ _) h
theorem snoc_b (l : BS) (x : UInt8) : byteRows l ++ [[u8V x]] = byteRows (l ++ [x]) := by rw [← app_b]; rfl
noncomputable def inlRv : List IRow := [(77, Try.f77, 28, 5, 0), (76, Try.f76, 23, 0, 0)]
theorem inlRv_ok : IOk Try.prog (inlTab inlRv) := inl_ok (by
  unfold inlRv
  refine And.intro ⟨rfl, rfl, rfl, .inl rfl⟩ ?_
  refine And.intro ⟨rfl, rfl, rfl, .inl rfl⟩ ?_
  exact trivial)
theorem c_putLittle (w x : Nat) (hw : Side (1 ≤ w ∧ w ≤ 8)) (hx : Side (x < 2 ^ 64)) : FnN Try.prog 76 [u64 (x : Int), i64 (w : Int)] (.win 0 1 0 w w) [(0, true, ⟨1, byteRows (leB w x), false⟩)] 1 := by
  have hw := hw.h
  have hx := hx.h
  have l1 := fun k => leB_len k x
  refine fn_vcN (N := 23) (d := 5) tabOk mixed inlN0_ok 6 Try.func76 rfl rfl rfl rfl rfl ⟨by rw [rp_b]; trivial, trivial⟩ ?_
  repeat'
    (conv => whnf
     first
      | (exact trivial)
      | (refine And.intro (by with_reducible rfl) ?_)
      | (refine And.intro (drawI (by kernel_rfl)) ?_)
      | (refine andI ?_ ?_)
      | (refine condT (by assumption) ?_)
      | (refine condF (by assumption) ?_)
      | (refine decT (by assumption) ?_)
      | (refine decF (by assumption) ?_)
      | (refine eqT (by assumption) ?_)
      | (refine eqF (by assumption) ?_)
      | (refine neT (by assumption) ?_)
      | (refine neF (by assumption) ?_)
      | (refine cEq (fun h => ?_) (fun h => ?_))
      | (refine cNe (fun h => ?_) (fun h => ?_))
      | (refine cNot (fun h => ?_) (fun h => ?_))
      | (refine cDec (fun h => ?_) (fun h => ?_))
      | (refine condN_split (fun h => ?_) (fun h => ?_))
      | (refine Exists.intro _ (And.intro rfl ?_))
      | (refine Or.inl (And.intro (by rfl : Nat.ble _ _ = true) ?_))
      | (refine Or.inl (And.intro Cl.lit ?_))
      | (refine Or.inr ?_)
      | (refine Exists.intro (1 : Nat) ?_)
      | (refine Exists.intro _ (And.intro rfl ?_))
      | (fail))
  all_goals try refine Side.mk ?_
  all_goals try dsimp only at *
  all_goals try refine eqI ?_
  all_goals try (exfalso; omega)
  conv => whnf
  refine loop_w tabOk (ceN_sound tabOk mixed inlN0_ok 6) mixed 13 (X := Nat) 0 (fun k => [(12, i64 (k : Nat)), (4, .win 0 1 0 k k), (0, u64 ((x / 256 ^ k : Nat) : Int))]) (fun k => [(0, true, ⟨1, byteRows (leB k x), false⟩)]) 1 (fun k => k ≤ w) (fun k => w - k) (Nat.zero_le _) ?_ ?_
  · repeat'
      (conv => whnf
       first
        | (exact trivial)
        | (refine And.intro (by with_reducible rfl) ?_)
        | (refine And.intro (drawI (by kernel_rfl)) ?_)
        | (refine andI ?_ ?_)
        | (refine condT (by assumption) ?_)
        | (refine condF (by assumption) ?_)
        | (refine decT (by assumption) ?_)
        | (refine decF (by assumption) ?_)
        | (refine eqT (by assumption) ?_)
        | (refine eqF (by assumption) ?_)
        | (refine neT (by assumption) ?_)
        | (refine neF (by assumption) ?_)
        | (refine cEq (fun h => ?_) (fun h => ?_))
        | (refine cNe (fun h => ?_) (fun h => ?_))
        | (refine cNot (fun h => ?_) (fun h => ?_))
        | (refine cDec (fun h => ?_) (fun h => ?_))
        | (refine condN_split (fun h => ?_) (fun h => ?_))
        | (refine Or.inl (And.intro (by rfl : Nat.ble _ _ = true) ?_))
        | (refine Or.inl (And.intro Cl.lit ?_))
        | (refine Or.inr ?_)
        | (refine Exists.intro (1 : Nat) ?_)
        | (refine Exists.intro _ (And.intro rfl ?_))
        | (fail))
    all_goals try refine Side.mk ?_
    all_goals try dsimp only at *
    all_goals try refine eqI ?_
    all_goals first
      | rfl
      | (rw [rp_b]; trivial)
      | (refine congrArg (Value.int IntKind.u64) ?_; rw [Nat.pow_zero, Nat.div_one])
      | (set_option pp.maxSteps 400 in trace_state; sorry)
  · rintro k hk
    by_cases hkl : k < w
    · have e1 : leB (k + 1) x = leB k x ++ [UInt8.ofNat (x / 256 ^ k)] := rfl
      repeat'
        (conv => whnf
         first
          | (exact trivial)
          | (refine And.intro (by with_reducible rfl) ?_)
          | (refine And.intro (drawI (by kernel_rfl)) ?_)
          | (refine andI ?_ ?_)
          | (refine condT (by assumption) ?_)
          | (refine condF (by assumption) ?_)
          | (refine decT (by assumption) ?_)
          | (refine decF (by assumption) ?_)
          | (refine eqT (by assumption) ?_)
          | (refine eqF (by assumption) ?_)
          | (refine neT (by assumption) ?_)
          | (refine neF (by assumption) ?_)
          | (refine cEq (fun h => ?_) (fun h => ?_))
          | (refine cNe (fun h => ?_) (fun h => ?_))
          | (refine cNot (fun h => ?_) (fun h => ?_))
          | (refine cDec (fun h => ?_) (fun h => ?_))
          | (refine condN_split (fun h => ?_) (fun h => ?_))
          | (refine Exists.intro _ (And.intro rfl ?_))
          | (refine Exists.intro (k + 1) (andI ?_ (andI ?_ ?_)))
          | (refine Or.inl (And.intro (by rfl : Nat.ble _ _ = true) ?_))
          | (refine Or.inl (And.intro Cl.lit ?_))
          | (refine Or.inr ?_)
          | (refine Exists.intro (1 : Nat) ?_)
          | (refine Exists.intro _ (And.intro rfl ?_))
          | (fail))
      all_goals try refine Side.mk ?_
      all_goals try dsimp only at *
      all_goals try refine eqI ?_
      all_goals first
        | omega
        | (exfalso; omega)
        | (refine or_all ?_; rfl)
        | (rw [rp_b]; trivial)
        | (refine congrArg (Value.int IntKind.i64) ?_; rw [wrap64 (by omega) (by omega)]; omega)
        | (refine congrArg (Value.int IntKind.u64) ?_; rw [sh8, dv_pow])
        | (rw [len_b, l1]; done)
        | (simp only [len_b, l1, List.length_append, List.length_take, List.length_drop, List.length_cons, List.length_nil]; omega)
        | (rw [u8c, List.drop_zero, List.drop_zero, List.take_of_length_le (by rw [len_b, l1]; omega), List.take_of_length_le (by simp), snoc_b, e1]; done)
        | (rw [u8c, e1, ← snoc_b]; done)
        | (rw [u8c, e1, ← snoc_b]; rfl)
        | (set_option pp.maxSteps 800 in trace_state; sorry)
    · have e1 : k = w := by omega
      subst e1
      repeat'
        (conv => whnf
         first
          | (exact trivial)
          | (refine And.intro (by with_reducible rfl) ?_)
          | (refine And.intro (drawI (by kernel_rfl)) ?_)
          | (refine andI ?_ ?_)
          | (refine condT (by assumption) ?_)
          | (refine condF (by assumption) ?_)
          | (refine decT (by assumption) ?_)
          | (refine decF (by assumption) ?_)
          | (refine eqT (by assumption) ?_)
          | (refine eqF (by assumption) ?_)
          | (refine neT (by assumption) ?_)
          | (refine neF (by assumption) ?_)
          | (refine cEq (fun h => ?_) (fun h => ?_))
          | (refine cNe (fun h => ?_) (fun h => ?_))
          | (refine cNot (fun h => ?_) (fun h => ?_))
          | (refine cDec (fun h => ?_) (fun h => ?_))
          | (refine condN_split (fun h => ?_) (fun h => ?_))
          | (refine Exists.intro _ (And.intro rfl ?_))
          | (refine Or.inl (And.intro (by rfl : Nat.ble _ _ = true) ?_))
          | (refine Or.inl (And.intro Cl.lit ?_))
          | (refine Or.inr ?_)
          | (refine Exists.intro (1 : Nat) ?_)
          | (refine Exists.intro _ (And.intro rfl ?_))
          | (fail))
      all_goals try refine Side.mk ?_
      all_goals try dsimp only at *
      all_goals try refine eqI ?_
      all_goals first
        | omega
        | (exfalso; omega)
        | rfl
        | (rw [rp_b]; trivial)
        | (rw [len_b, l1]; done)
        | (rw [len_b, l1]; omega)
        | (set_option pp.maxSteps 400 in trace_state; sorry)
theorem set_b (l : BS) (j : Nat) (x : UInt8) : (byteRows l).set j [u8V x] = byteRows (l.set j x) := by simp only [byteRows]; exact (List.map_set).symm
theorem bytes_set_get {l : BS} {i j : Nat} {x : UInt8} (h : Side (j < (l.set i x).length)) : ((byteRows l).set i [u8V x])[j]? = some [u8V ((l.set i x)[j]?.getD 0)] := by
  rw [set_b]
  exact bytes_get h
/-- bytes, i of which are changed for those at the end -/
def rvS (l : BS) (i : Nat) : BS := (List.range l.length).map fun p => if p < i ∨ l.length - i ≤ p then l[l.length - 1 - p]?.getD 0 else l[p]?.getD 0
theorem rvS_len (l : BS) (i : Nat) : (rvS l i).length = l.length := by simp [rvS]
theorem rvS_get {l : BS} {i p : Nat} (h : p < l.length) : (rvS l i)[p]? = some (if p < i ∨ l.length - i ≤ p then l[l.length - 1 - p]?.getD 0 else l[p]?.getD 0) := by
  unfold rvS
  rw [List.getElem?_map, List.getElem?_range h]
  rfl
theorem rvS_zero (l : BS) : rvS l 0 = l := by
  refine List.ext_getElem? fun p => ?_
  by_cases h : p < l.length
  · rw [rvS_get h, if_neg (by omega), List.getElem?_eq_getElem h]; rfl
  · rw [List.getElem?_eq_none (by rw [rvS_len]; omega), List.getElem?_eq_none (by omega)]
theorem rvS_end {l : BS} {i : Nat} (h : l.length ≤ 2 * i + 1) : rvS l i = l.reverse := by
  refine List.ext_getElem? fun p => ?_
  by_cases hp : p < l.length
  · rw [rvS_get hp, List.getElem?_reverse hp, List.getElem?_eq_getElem (show l.length - 1 - p < l.length by omega)]
    by_cases q : p < i ∨ l.length - i ≤ p
    · rw [if_pos q]; rfl
    · rw [if_neg q, List.getElem?_eq_getElem hp]
      simp only [Option.getD_some]
      congr 2
      omega
  · rw [List.getElem?_eq_none (by rw [rvS_len]; omega), List.getElem?_eq_none (by simp; omega)]
theorem rvS_swap {l : BS} {i j : Nat} (h : 2 * i + 1 < l.length) (hj : j = l.length - 1 - i) : ((rvS l i).set i ((rvS l i)[j]?.getD 0)).set j ((rvS l i)[i]?.getD 0) = rvS l (i + 1) := by
  subst hj
  refine List.ext_getElem? fun p => ?_
  rw [List.getElem?_set, List.getElem?_set, List.length_set, rvS_len]
  by_cases hp : p < l.length
  · rw [rvS_get hp, rvS_get hp, rvS_get (show i < l.length by omega), rvS_get (show l.length - 1 - i < l.length by omega)]
    simp only [Option.getD_some]
    by_cases e1 : l.length - 1 - i = p
    · rw [if_pos e1, if_pos (by omega), if_neg (by omega), if_pos (by omega), show l.length - 1 - p = i by omega]
    · rw [if_neg e1]
      by_cases e2 : i = p
      · rw [if_pos e2, if_pos (by omega), if_neg (by omega), if_pos (by omega), ← e2]
      · rw [if_neg e2]
        by_cases q : p < i ∨ l.length - i ≤ p
        · rw [if_pos q, if_pos (by omega)]
        · rw [if_neg q, if_neg (by omega)]
  · rw [List.getElem?_eq_none (show (rvS l (i + 1)).length ≤ p by rw [rvS_len]; omega), List.getElem?_eq_none (show (rvS l i).length ≤ p by rw [rvS_len]; omega), if_neg (by omega), if_neg (by omega)]
theorem c_putBig (w x : Nat) (hw : Side (1 ≤ w ∧ w ≤ 8)) (hx : Side (x < 2 ^ 64)) : FnC Try.prog 55 [u64 (x : Int), i64 (w : Int)] [] (bsV (putB w x)) [] := by
  have hL := c_putLittle w x hw hx
  have hw := hw.h
  have hl := leB_len w x
  unfold putB
  generalize leB w x = l at *
  subst hl
  have l1 := rvS_len l
  refine fn_vcI (N := 12) (d := 4) tabOk mixed inlRv_ok 6 Try.func55 rfl rfl rfl ?_
  repeat'
    (conv => whnf
     first
      | (exact trivial)
      | (refine And.intro (by with_reducible rfl) ?_)
      | (refine And.intro (drawI (by kernel_rfl)) ?_)
      | (refine andI ?_ ?_)
      | (refine condT (by assumption) ?_)
      | (refine condF (by assumption) ?_)
      | (refine decT (by assumption) ?_)
      | (refine decF (by assumption) ?_)
      | (refine eqT (by assumption) ?_)
      | (refine eqF (by assumption) ?_)
      | (refine neT (by assumption) ?_)
      | (refine neF (by assumption) ?_)
      | (refine cEq (fun h => ?_) (fun h => ?_))
      | (refine cNe (fun h => ?_) (fun h => ?_))
      | (refine cNot (fun h => ?_) (fun h => ?_))
      | (refine cDec (fun h => ?_) (fun h => ?_))
      | (refine condN_split (fun h => ?_) (fun h => ?_))
      | (refine Exists.intro _ (Exists.intro _ (Exists.intro _ (And.intro (hL) ?_))))
      | (refine Exists.intro _ (And.intro rfl ?_))
      | (refine Or.inl (And.intro (by rfl : Nat.ble _ _ = true) ?_))
      | (refine Or.inl (And.intro Cl.lit ?_))
      | (refine Or.inr ?_)
      | (refine Exists.intro (1 : Nat) ?_)
      | (refine Exists.intro _ (And.intro rfl ?_))
      | (fail))
  all_goals try refine Side.mk ?_
  all_goals try dsimp only at *
  all_goals try refine eqI ?_
  · refine rn_plain ?_; rw [rp_b]; trivial
  conv => whnf
  refine loop_wD tabOk (ceN_sound tabOk mixed inlRv_ok _) mixed 7 (X := Nat) 0 (fun i => [(2, i64 (i : Nat)), (3, i64 ((l.length : Int) - 1 - (i : Nat)))]) (fun i => [(0, true, ⟨1, byteRows (rvS l i), false⟩)]) 1 (fun i => 2 * i ≤ l.length) (fun i => l.length - i) (.exit 0) [] [(0, true, ⟨1, byteRows l.reverse, false⟩)] 1 (fun h => by cases h) (Nat.zero_le _) ?_ ?_ ?_
  · repeat'
      (conv => whnf
       first
        | (exact trivial)
        | (refine And.intro (by with_reducible rfl) ?_)
        | (refine And.intro (drawI (by kernel_rfl)) ?_)
        | (refine andI ?_ ?_)
        | (refine condT (by assumption) ?_)
        | (refine condF (by assumption) ?_)
        | (refine decT (by assumption) ?_)
        | (refine decF (by assumption) ?_)
        | (refine eqT (by assumption) ?_)
        | (refine eqF (by assumption) ?_)
        | (refine neT (by assumption) ?_)
        | (refine neF (by assumption) ?_)
        | (refine cEq (fun h => ?_) (fun h => ?_))
        | (refine cNe (fun h => ?_) (fun h => ?_))
        | (refine cNot (fun h => ?_) (fun h => ?_))
        | (refine cDec (fun h => ?_) (fun h => ?_))
        | (refine condN_split (fun h => ?_) (fun h => ?_))
        | (refine Or.inl (And.intro (by rfl : Nat.ble _ _ = true) ?_))
        | (refine Or.inl (And.intro Cl.lit ?_))
        | (refine Or.inr ?_)
        | (refine Exists.intro (1 : Nat) ?_)
        | (refine Exists.intro _ (And.intro rfl ?_))
        | (fail))
    all_goals try refine Side.mk ?_
    all_goals try dsimp only at *
    all_goals try refine eqI ?_
    all_goals first
      | rfl
      | (rw [rp_b]; trivial)
      | (rw [rvS_zero]; done)
      | (refine congrArg (Value.int IntKind.i64) ?_; rw [wrap64 (by omega) (by omega)]; omega)
      | (set_option pp.maxSteps 400 in trace_state; sorry)
  · rintro i hi
    by_cases hij : 2 * i + 1 < l.length
    · have e2 : ((l.length : Int) - 1 - (i : Int)).toNat = l.length - 1 - i := by omega
      have hs := rvS_swap (l := l) (i := i) (j := l.length - 1 - i) hij rfl
      repeat'
        (conv => whnf
         first
          | (exact trivial)
          | (refine And.intro (by with_reducible rfl) ?_)
          | (refine And.intro (drawI (by kernel_rfl)) ?_)
          | (refine andI ?_ ?_)
          | (refine condT (by assumption) ?_)
          | (refine condF (by assumption) ?_)
          | (refine decT (by assumption) ?_)
          | (refine decF (by assumption) ?_)
          | (refine eqT (by assumption) ?_)
          | (refine eqF (by assumption) ?_)
          | (refine neT (by assumption) ?_)
          | (refine neF (by assumption) ?_)
          | (refine cEq (fun h => ?_) (fun h => ?_))
          | (refine cNe (fun h => ?_) (fun h => ?_))
          | (refine cNot (fun h => ?_) (fun h => ?_))
          | (refine cDec (fun h => ?_) (fun h => ?_))
          | (refine condN_split (fun h => ?_) (fun h => ?_))
          | (refine Exists.intro _ (And.intro (bytes_get ?_) ?_))
          | (refine Exists.intro _ (And.intro (bytes_set_get ?_) ?_))
          | (refine Exists.intro _ (And.intro rfl ?_))
          | (refine Exists.intro (i + 1) (andI ?_ (andI ?_ ?_)))
          | (refine Or.inl (And.intro (by rfl : Nat.ble _ _ = true) ?_))
          | (refine Or.inl (And.intro Cl.lit ?_))
          | (refine Or.inr ?_)
          | (refine Exists.intro (1 : Nat) ?_)
          | (refine Exists.intro _ (And.intro rfl ?_))
          | (fail))
      all_goals try refine Side.mk ?_
      all_goals try dsimp only at *
      all_goals try refine eqI ?_
      all_goals try simp only [Nat.zero_add, e2, Int.toNat_natCast, l1, List.length_set]
      all_goals first
        | omega
        | (exfalso; omega)
        | (refine or_all ?_; rfl)
        | (rw [rp_b]; trivial)
        | (rw [len_b, l1]; omega)
        | (refine congrArg (Value.int IntKind.i64) ?_; rw [wrap64 (by omega) (by omega)]; omega)
        | (rw [List.length_set, len_b, l1]; omega)
        | (rw [set_b, set_b, hs]; done)
        | (rw [← hs, ← set_b, ← set_b]; first | done | rfl)
        | (set_option pp.maxSteps 800 in trace_state; sorry)
    · have e3 := rvS_end (l := l) (i := i) (by omega)
      repeat'
        (conv => whnf
         first
          | (exact trivial)
          | (refine And.intro (by with_reducible rfl) ?_)
          | (refine And.intro (drawI (by kernel_rfl)) ?_)
          | (refine andI ?_ ?_)
          | (refine condT (by assumption) ?_)
          | (refine condF (by assumption) ?_)
          | (refine decT (by assumption) ?_)
          | (refine decF (by assumption) ?_)
          | (refine eqT (by assumption) ?_)
          | (refine eqF (by assumption) ?_)
          | (refine neT (by assumption) ?_)
          | (refine neF (by assumption) ?_)
          | (refine cEq (fun h => ?_) (fun h => ?_))
          | (refine cNe (fun h => ?_) (fun h => ?_))
          | (refine cNot (fun h => ?_) (fun h => ?_))
          | (refine cDec (fun h => ?_) (fun h => ?_))
          | (refine condN_split (fun h => ?_) (fun h => ?_))
          | (refine Exists.intro _ (And.intro rfl ?_))
          | (refine Or.inl (And.intro (by rfl : Nat.ble _ _ = true) ?_))
          | (refine Or.inl (And.intro Cl.lit ?_))
          | (refine Or.inr ?_)
          | (refine Exists.intro (1 : Nat) ?_)
          | (refine Exists.intro _ (And.intro rfl ?_))
          | (fail))
      all_goals try refine Side.mk ?_
      all_goals try dsimp only at *
      all_goals try refine eqI ?_
      all_goals first
        | omega
        | (exfalso; omega)
        | rfl
        | (rw [e3]; done)
        | (rw [rp_b]; trivial)
        | (set_option pp.maxSteps 400 in trace_state; sorry)
  · repeat'
      (conv => whnf
       first
        | (exact trivial)
        | (refine And.intro (by with_reducible rfl) ?_)
        | (refine And.intro (drawI (by kernel_rfl)) ?_)
        | (refine andI ?_ ?_)
        | (refine condT (by assumption) ?_)
        | (refine condF (by assumption) ?_)
        | (refine decT (by assumption) ?_)
        | (refine decF (by assumption) ?_)
        | (refine eqT (by assumption) ?_)
        | (refine eqF (by assumption) ?_)
        | (refine neT (by assumption) ?_)
        | (refine neF (by assumption) ?_)
        | (refine cEq (fun h => ?_) (fun h => ?_))
        | (refine cNe (fun h => ?_) (fun h => ?_))
        | (refine cNot (fun h => ?_) (fun h => ?_))
        | (refine cDec (fun h => ?_) (fun h => ?_))
        | (refine condN_split (fun h => ?_) (fun h => ?_))
        | (refine Exists.intro _ (And.intro rfl ?_))
        | (refine Or.inl (And.intro (by rfl : Nat.ble _ _ = true) ?_))
        | (refine Or.inl (And.intro Cl.lit ?_))
        | (refine Or.inr ?_)
        | (refine Exists.intro (1 : Nat) ?_)
        | (refine Exists.intro _ (And.intro rfl ?_))
        | (fail))
    all_goals try refine Side.mk ?_
    all_goals try dsimp only at *
    all_goals try refine eqI ?_
    all_goals first
      | omega
      | rfl
      | (rw [rp_b]; trivial)
      | (refine rn_plain ?_; rw [rp_b]; trivial)
      | (rw [len_b, List.length_reverse]; omega)
      | (rw [List.drop_zero, List.take_of_length_le (by rw [len_b, List.length_reverse]; omega)]; done)
      | (set_option pp.maxSteps 400 in trace_state; sorry)
/-- bytes of a sense -/
def sBytes (s : Sns) : BS := [0x70, 0, UInt8.ofNat (s.key % 256).toNat, 0, 0, 0, 0, 10, 0, 0, 0, 0, UInt8.ofNat (s.code % 256).toNat, UInt8.ofNat (s.qual % 256).toNat, 0, 0, 0, 0]
theorem u8wz (z : Int) : IntKind.u8.wrap z = z % 256 := by
  simp only [IntKind.wrap, IntKind.bits, IntKind.signed]
  rfl
theorem u8w (z : Int) : V.lit (.int .u8 (IntKind.u8.wrap z)) = u8V (UInt8.ofNat (z % 256).toNat) := by
  have h0 := Int.emod_nonneg z (show (256 : Int) ≠ 0 by decide)
  have h1 := Int.emod_lt_of_pos z (show (0 : Int) < 256 by decide)
  rw [u8wz]
  unfold u8V
  refine congrArg (fun n => V.lit (.int .u8 n)) ?_
  simp only [UInt8.toNat_ofNat']
  omega
theorem or_two (b c : Int) : bits .or .u64 (IntKind.u64.wrap (IntKind.u64.wrap (IntKind.u8.wrap b) * 2 ^ min (Int.toNat 8) IntKind.u64.bits)) (IntKind.u64.wrap (IntKind.u8.wrap c)) = (((b % 256).toNat * 256 + (c % 256).toNat : Nat) : Int) := by
  have h0 := Int.emod_nonneg b (show (256 : Int) ≠ 0 by decide)
  have h1 := Int.emod_lt_of_pos b (show (0 : Int) < 256 by decide)
  have h2 := Int.emod_nonneg c (show (256 : Int) ≠ 0 by decide)
  have h3 := Int.emod_lt_of_pos c (show (0 : Int) < 256 by decide)
  rw [u8wz, u8wz, show b % 256 = (((b % 256).toNat : Nat) : Int) by omega, show c % 256 = (((c % 256).toNat : Nat) : Int) by omega, show IntKind.u64.wrap (((b % 256).toNat : Nat) : Int) = (((b % 256).toNat : Nat) : Int) by rw [wrapu64]; omega, or_low (by omega) (by omega)]
  simp only [Int.toNat_natCast]
theorem put_two {x y : Nat} (hx : x < 256) (hy : y < 256) : putB 2 (x * 256 + y) = [UInt8.ofNat x, UInt8.ofNat y] := by
  simp only [putB, leB, List.nil_append, List.cons_append, List.reverse_cons, List.reverse_nil, Nat.pow_zero, Nat.div_one, Nat.pow_one]
  rw [show (x * 256 + y) / 256 = x by omega, ← of_mod (x * 256 + y), show (x * 256 + y) % 256 = y by omega]
theorem c_sbytes (s : Sns) : FnC Try.prog 47 [s.v] [] (bsV (sBytes s)) [] := by
  obtain ⟨a, b, c⟩ := s
  have hP : FnC Try.prog 55 [u64 (bits .or .u64 (IntKind.u64.wrap (IntKind.u64.wrap (IntKind.u8.wrap b) * 2 ^ min (Int.toNat 8) IntKind.u64.bits)) (IntKind.u64.wrap (IntKind.u8.wrap c))), i64 2] [] (bsV [UInt8.ofNat (b % 256).toNat, UInt8.ofNat (c % 256).toNat]) [] := by
    rw [or_two]
    have h1 := Int.emod_lt_of_pos b (show (0 : Int) < 256 by decide)
    have h3 := Int.emod_lt_of_pos c (show (0 : Int) < 256 by decide)
    have := c_putBig 2 ((b % 256).toNat * 256 + (c % 256).toNat) ⟨by omega⟩ ⟨by omega⟩
    rw [put_two (by omega) (by omega)] at this
    exact this
  dsimp only [Sns.v]
  refine fn_vcI (N := 29) (d := 5) tabOk mixed inlN0_ok 6 Try.func47 rfl rfl rfl ?_
  repeat'
    (conv => whnf
     first
      | (exact trivial)
      | (refine And.intro (by with_reducible rfl) ?_)
      | (refine And.intro (drawI (by kernel_rfl)) ?_)
      | (refine andI ?_ ?_)
      | (refine condT (by assumption) ?_)
      | (refine condF (by assumption) ?_)
      | (refine decT (by assumption) ?_)
      | (refine decF (by assumption) ?_)
      | (refine eqT (by assumption) ?_)
      | (refine eqF (by assumption) ?_)
      | (refine neT (by assumption) ?_)
      | (refine neF (by assumption) ?_)
      | (refine cEq (fun h => ?_) (fun h => ?_))
      | (refine cNe (fun h => ?_) (fun h => ?_))
      | (refine cNot (fun h => ?_) (fun h => ?_))
      | (refine cDec (fun h => ?_) (fun h => ?_))
      | (refine condN_split (fun h => ?_) (fun h => ?_))
      | (refine Exists.intro _ (And.intro (hP) ?_))
      | (refine Exists.intro _ (And.intro rfl ?_))
      | (refine Or.inl (And.intro (by rfl : Nat.ble _ _ = true) ?_))
      | (refine Or.inl (And.intro Cl.lit ?_))
      | (refine Or.inr ?_)
      | (refine Exists.intro (1 : Nat) ?_)
      | (refine Exists.intro _ (And.intro rfl ?_))
      | (fail))
  all_goals try refine Side.mk ?_
  all_goals try dsimp only at *
  all_goals try refine eqI ?_
  all_goals first
    | (simp only [u8w]; rfl)
    | decide
    | (refine or_all ?_; rfl)
    | (refine rp_all ?_; rfl)
    | (refine rn_plain (rp_all ?_); rfl)
    | exact Nat.le_of_ble_eq_true rfl
    | (set_option pp.maxSteps 600 in trace_state; sorry)
end Go.Proofs.Ytijinkikmglpcaa
