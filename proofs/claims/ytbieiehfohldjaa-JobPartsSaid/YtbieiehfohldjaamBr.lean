/-
  Blocks: which there are, their bytes; by the program and by the document.
-/
import Derived.Test.YtbieiehfohldjaamMc
namespace Go.Proofs.Ytbieiehfohldjaa
open Go
set_option linter.unusedVariables false
set_option linter.unusedSimpArgs false
set_option maxRecDepth 100000
set_option maxHeartbeats 4000000

def bWithin (c p n : Int) : Bool := decide (0 ≤ n ∧ n ≤ c ∧ p ≤ c - n)
abbrev InU (a : Int) : Prop := 0 ≤ a ∧ a ≤ 18446744073709551615
abbrev InI6 (a : Int) : Prop := -9223372036854775808 ≤ a ∧ a ≤ 9223372036854775807
theorem c_within (c p n : Int) (hc : Side (0 ≤ c ∧ c ≤ 2 ^ 40)) (hn : Side (InI6 n)) : FnC Try.prog 74 [i64 c, u64 p, i64 n] [] (bV (bWithin c p n)) [] := by
  have hc := hc.h
  have hn := hn.h
  refine fn_vcI (N := 22) (d := 5) tabOk mixed inlN0_ok 6 Try.func74 rfl rfl rfl ?_
  repeat'
    (conv => whnf
     first
      | (exact trivial)
      | (refine And.intro (by with_reducible rfl) ?_)
      | (refine And.intro (drawI (by kernel_rfl)) ?_)
      | (refine andI ?_ ?_)
      | (refine condT (by assumption) ?_)
      | (refine condF (by assumption) ?_)
      | (refine decT (by assumption) ?_)
      | (refine decF (by assumption) ?_)
      | (refine eqT (by assumption) ?_)
      | (refine eqF (by assumption) ?_)
      | (refine neT (by assumption) ?_)
      | (refine neF (by assumption) ?_)
      | (refine cEq (fun h => ?_) (fun h => ?_))
      | (refine cNe (fun h => ?_) (fun h => ?_))
      | (refine cNot (fun h => ?_) (fun h => ?_))
      | (refine cDec (fun h => ?_) (fun h => ?_))
      | (refine condN_split (fun h => ?_) (fun h => ?_))
      | (refine Or.inl (And.intro (by rfl : Nat.ble _ _ = true) ?_))
      | (refine Or.inl (And.intro Cl.lit ?_))
      | (refine Or.inr ?_)
      | (refine Exists.intro (1 : Nat) ?_)
      | (refine Exists.intro _ (And.intro rfl ?_))
      | (fail))
  all_goals try refine Side.mk ?_
  all_goals try dsimp only at *
  all_goals try refine eqI ?_
  all_goals dsimp only [InI6] at *
  all_goals first
    | (rw [wrap64 (by omega) (by omega), wrapu64]; refine bool_close ?_; simp only [bWithin, decide_eq_true_eq]; omega)
    | (refine bool_close ?_; simp only [bWithin, decide_eq_true_eq, Bool.false_eq_true, false_iff]; omega)
theorem c_refWithin (c p n : Int) (hc : Side (0 ≤ c ∧ c ≤ 2 ^ 40)) (hn : Side (InI6 n)) : FnC Try.prog 82 [i64 c, u64 p, i64 n] [] (bV (bWithin c p n)) [] := by
  have hc := hc.h
  have hn := hn.h
  refine fn_vcI (N := 20) (d := 5) tabOk mixed inlN0_ok 6 Try.func82 rfl rfl rfl ?_
  repeat'
    (conv => whnf
     first
      | (exact trivial)
      | (refine And.intro (by with_reducible rfl) ?_)
      | (refine And.intro (drawI (by kernel_rfl)) ?_)
      | (refine andI ?_ ?_)
      | (refine condT (by assumption) ?_)
      | (refine condF (by assumption) ?_)
      | (refine decT (by assumption) ?_)
      | (refine decF (by assumption) ?_)
      | (refine eqT (by assumption) ?_)
      | (refine eqF (by assumption) ?_)
      | (refine neT (by assumption) ?_)
      | (refine neF (by assumption) ?_)
      | (refine cEq (fun h => ?_) (fun h => ?_))
      | (refine cNe (fun h => ?_) (fun h => ?_))
      | (refine cNot (fun h => ?_) (fun h => ?_))
      | (refine cDec (fun h => ?_) (fun h => ?_))
      | (refine condN_split (fun h => ?_) (fun h => ?_))
      | (refine Or.inl (And.intro (by rfl : Nat.ble _ _ = true) ?_))
      | (refine Or.inl (And.intro Cl.lit ?_))
      | (refine Or.inr ?_)
      | (refine Exists.intro (1 : Nat) ?_)
      | (refine Exists.intro _ (And.intro rfl ?_))
      | (fail))
  all_goals try refine Side.mk ?_
  all_goals try dsimp only at *
  all_goals try refine eqI ?_
  all_goals dsimp only [InI6] at *
  all_goals first
    | (rw [wrap64 (by omega) (by omega), wrapu64]; refine bool_close ?_; simp only [bWithin, decide_eq_true_eq]; omega)
    | (refine bool_close ?_; simp only [bWithin, decide_eq_true_eq, Bool.false_eq_true, false_iff]; omega)
def bSome (l : List Blk) (p n : Int) : List Blk × Int := if l.length > 64 then ([], 4) else if bWithin l.length p n = false then ([], 5) else ((l.drop p.toNat).take n.toNat, 0)
theorem c_some (l : List Blk) (p n : Int) (hl : Side (l.length ≤ 2 ^ 40)) (hp : Side (InU p)) (hn : Side (InI6 n)) : FnC Try.prog 76 [.sl 64 (l.map Blk.row), u64 p, i64 n] [] (.tup [.sl 64 ((bSome l p n).1.map Blk.row), i64 (bSome l p n).2]) [] := by
  have hl := hl.h
  have hn := hn.h
  have hp := hp.h
  refine fn_vcI (N := 24) (d := 5) tabOk mixed inlN0_ok 6 Try.func76 rfl rfl rfl ?_
  repeat'
    (conv => whnf
     first
      | (exact trivial)
      | (refine And.intro (by with_reducible rfl) ?_)
      | (refine And.intro (drawI (by kernel_rfl)) ?_)
      | (refine andI ?_ ?_)
      | (refine condT (by assumption) ?_)
      | (refine condF (by assumption) ?_)
      | (refine decT (by assumption) ?_)
      | (refine decF (by assumption) ?_)
      | (refine eqT (by assumption) ?_)
      | (refine eqF (by assumption) ?_)
      | (refine neT (by assumption) ?_)
      | (refine neF (by assumption) ?_)
      | (refine cEq (fun h => ?_) (fun h => ?_))
      | (refine cNe (fun h => ?_) (fun h => ?_))
      | (refine cNot (fun h => ?_) (fun h => ?_))
      | (refine cDec (fun h => ?_) (fun h => ?_))
      | (refine condN_split (fun h => ?_) (fun h => ?_))
      | (refine Exists.intro _ (And.intro (c_within _ _ _ ?_ ?_) ?_))
      | (refine Or.inl (And.intro (by rfl : Nat.ble _ _ = true) ?_))
      | (refine Or.inl (And.intro Cl.lit ?_))
      | (refine Or.inr ?_)
      | (refine Exists.intro (64 : Nat) ?_)
      | (refine Exists.intro _ (And.intro rfl ?_))
      | (fail))
  all_goals try refine Side.mk ?_
  all_goals try dsimp only at *
  all_goals try refine eqI ?_
  all_goals try simp only [List.length_map, Int.toNat_natCast, Nat.zero_add, List.drop_zero, decide_eq_true_eq, decide_eq_false_iff_not] at *
  all_goals try first
    | assumption
    | omega
    | exact Nat.le_refl _
    | (rw [rp_Blk]; trivial)
    | (rw [rp_Dty]; trivial)
    | (rw [rp_Sns]; trivial)
    | (rw [or_Blk]; trivial)
    | (rw [or_Dty]; trivial)
    | (rw [or_Sns]; trivial)
    | (refine rn_plain ?_; rw [rp_Blk]; trivial)
    | (refine rn_plain ?_; rw [rp_Dty]; trivial)
    | (refine rn_plain ?_; rw [rp_Sns]; trivial)
    | (refine or_all ?_; rfl)
    | (refine rp_all ?_; rfl)
    | (refine rn_plain (rp_all ?_); rfl)
  all_goals try dsimp only [InI6, InU] at *
  all_goals first
    | omega
    | (have hw : bWithin l.length p n = true := by assumption
       simp only [bWithin, decide_eq_true_eq] at hw
       first
         | omega
         | (simp only [List.length_drop, List.length_take, List.length_map]; omega))
    | (rw [show bSome l p n = ([], 4) from by unfold bSome; rw [if_pos (by omega)]]; rfl)
    | (rw [show bSome l p n = ([], 5) from by unfold bSome; rw [if_neg (by omega), if_pos (by assumption)]]; rfl)
    | (rw [show bSome l p n = ((l.drop p.toNat).take n.toNat, 0) from by unfold bSome; rw [if_neg (by omega), if_neg (by rw [show bWithin l.length p n = true by assumption]; decide)]]
       simp only [List.map_take, List.map_drop, List.take_take, List.drop_take, List.take_of_length_le (l := List.map Blk.row l) (i := l.length) (by rw [List.length_map]; exact Nat.le_refl _)]
       done)
/-- the bytes of blocks -/
def bBytes (l : List Blk) : BS := l.flatMap Blk.bs
theorem bBytes_len (l : List Blk) : (bBytes l).length = 64 * l.length := by
  unfold bBytes
  induction l with
  | nil => rfl
  | cons a l ih => rw [List.flatMap_cons, List.length_append, ih, Blk.bs_len, List.length_cons]; omega
theorem bBytes_snoc (l : List Blk) (x : Blk) : bBytes (l ++ [x]) = bBytes l ++ x.bs := by simp [bBytes]
theorem c_bread (l : List Blk) (p n : Int) (hl : Side (l.length ≤ 2 ^ 40)) (hp : Side (InU p)) (hn : Side (InI6 n)) : FnC Try.prog 60 [.sl 64 (l.map Blk.row), u64 p, i64 n] [] (.tup [bsV (bBytes (bSome l p n).1), i64 (bSome l p n).2]) [] := by
  have h0 := c_some l p n hl hp hn
  have hb : (bSome l p n).1.length ≤ 64 := by
    unfold bSome
    split
    · simp
    · split
      · simp
      · simp; omega
  generalize bSome l p n = s at *
  obtain ⟨q, e⟩ := s
  dsimp only at *
  refine fn_vcI (N := 30) (d := 5) tabOk mixed inlN0_ok 6 Try.func60 rfl rfl rfl ?_
  repeat'
    (conv => whnf
     first
      | (exact trivial)
      | (refine And.intro (by with_reducible rfl) ?_)
      | (refine And.intro (drawI (by kernel_rfl)) ?_)
      | (refine andI ?_ ?_)
      | (refine condT (by assumption) ?_)
      | (refine condF (by assumption) ?_)
      | (refine decT (by assumption) ?_)
      | (refine decF (by assumption) ?_)
      | (refine eqT (by assumption) ?_)
      | (refine eqF (by assumption) ?_)
      | (refine neT (by assumption) ?_)
      | (refine neF (by assumption) ?_)
      | (refine cEq (fun h => ?_) (fun h => ?_))
      | (refine cNe (fun h => ?_) (fun h => ?_))
      | (refine cNot (fun h => ?_) (fun h => ?_))
      | (refine cDec (fun h => ?_) (fun h => ?_))
      | (refine condN_split (fun h => ?_) (fun h => ?_))
      | (refine Exists.intro _ (And.intro (h0) ?_))
      | (refine Exists.intro _ (And.intro rfl ?_))
      | (refine Or.inl (And.intro (by rfl : Nat.ble _ _ = true) ?_))
      | (refine Or.inl (And.intro Cl.lit ?_))
      | (refine Or.inr ?_)
      | (refine Exists.intro (1 : Nat) ?_)
      | (refine Exists.intro _ (And.intro rfl ?_))
      | (fail))
  all_goals try refine Side.mk ?_
  all_goals try dsimp only at *
  all_goals try refine eqI ?_
  conv => whnf
  refine loop_w tabOk (ceN_sound tabOk mixed inlN0_ok 6) mixed 21 (X := Nat) 0 (fun k => [(20, i64 (k : Nat)), (6, .win 0 1 0 (bBytes (q.take k)).length (bBytes (q.take k)).length)]) (fun k => [(0, true, ⟨1, byteRows (bBytes (q.take k)), false⟩)]) 1 (fun k => k ≤ q.length) (fun k => q.length - k) (Nat.zero_le _) ?_ ?_
  · repeat'
      (conv => whnf
       first
        | (exact trivial)
        | (refine And.intro (by with_reducible rfl) ?_)
        | (refine And.intro (drawI (by kernel_rfl)) ?_)
        | (refine andI ?_ ?_)
        | (refine condT (by assumption) ?_)
        | (refine condF (by assumption) ?_)
        | (refine decT (by assumption) ?_)
        | (refine decF (by assumption) ?_)
        | (refine eqT (by assumption) ?_)
        | (refine eqF (by assumption) ?_)
        | (refine neT (by assumption) ?_)
        | (refine neF (by assumption) ?_)
        | (refine cEq (fun h => ?_) (fun h => ?_))
        | (refine cNe (fun h => ?_) (fun h => ?_))
        | (refine cNot (fun h => ?_) (fun h => ?_))
        | (refine cDec (fun h => ?_) (fun h => ?_))
        | (refine condN_split (fun h => ?_) (fun h => ?_))
        | (refine Or.inl (And.intro (by rfl : Nat.ble _ _ = true) ?_))
        | (refine Or.inl (And.intro Cl.lit ?_))
        | (refine Or.inr ?_)
        | (refine Exists.intro (1 : Nat) ?_)
        | (refine Exists.intro _ (And.intro rfl ?_))
        | (fail))
    all_goals try refine Side.mk ?_
    all_goals try dsimp only at *
    all_goals try refine eqI ?_
    all_goals (first | rfl | (rw [rp_b]; trivial))
  · rintro k hk
    by_cases hkl : k < q.length
    · obtain ⟨x, hx⟩ : ∃ x, q[k]? = some x := ⟨_, List.getElem?_eq_getElem hkl⟩
      have e1 : q.take (k + 1) = q.take k ++ [x] := by rw [take_getD x hkl, hx]; rfl
      have e2 := bBytes_snoc (q.take k) x
      have l1 := bBytes_len (q.take k)
      rw [List.length_take] at l1
      repeat'
        (conv => whnf
         first
          | (exact trivial)
          | (refine And.intro (by with_reducible rfl) ?_)
          | (refine And.intro (drawI (by kernel_rfl)) ?_)
          | (refine andI ?_ ?_)
          | (refine condT (by assumption) ?_)
          | (refine condF (by assumption) ?_)
          | (refine decT (by assumption) ?_)
          | (refine decF (by assumption) ?_)
          | (refine eqT (by assumption) ?_)
          | (refine eqF (by assumption) ?_)
          | (refine neT (by assumption) ?_)
          | (refine neF (by assumption) ?_)
          | (refine cEq (fun h => ?_) (fun h => ?_))
          | (refine cNe (fun h => ?_) (fun h => ?_))
          | (refine cNot (fun h => ?_) (fun h => ?_))
          | (refine cDec (fun h => ?_) (fun h => ?_))
          | (refine condN_split (fun h => ?_) (fun h => ?_))
          | (refine Exists.intro _ (And.intro (row_get hx) ?_))
          | (refine Exists.intro _ (And.intro rfl ?_))
          | (refine Exists.intro (k + 1) (andI ?_ (andI ?_ ?_)))
          | (refine Or.inl (And.intro (by rfl : Nat.ble _ _ = true) ?_))
          | (refine Or.inl (And.intro Cl.lit ?_))
          | (refine Or.inr ?_)
          | (refine Exists.intro (1 : Nat) ?_)
          | (refine Exists.intro _ (And.intro rfl ?_))
          | (fail))
      all_goals try refine Side.mk ?_
      all_goals try dsimp only at *
      all_goals try refine eqI ?_
      all_goals first
        | (simp only [List.length_map] at *; omega)
        | (rw [len_b]; done)
        | (rw [rp_b]; trivial)
        | exact of_eq_true (or_b x.bs)
        | exact (show (2 * ((bBytes (q.take k)).length + (byteRows x.bs).length) + 192) * 1 ≤ 2 ^ 48 from by rw [len_b, Blk.bs_len]; omega)
        | exact (show (bBytes (q.take (k + 1))).length = (byteRows (bBytes (q.take k)) ++ byteRows x.bs).length from by rw [e1, e2, app_b, len_b])
        | exact (show byteRows (bBytes (q.take (k + 1))) = byteRows (bBytes (q.take k)) ++ byteRows x.bs from by rw [e1, e2, app_b])
        | exact (show 0 + 64 ≤ (byteRows x.bs).length from by rw [len_b, Blk.bs_len]; decide)
        | (refine congrArg (Value.int IntKind.i64) ?_; rw [wrap64 (by omega) (by omega)]; omega)
        | (rw [len_b]; omega)
        | (exfalso; simp only [List.length_map] at *; omega)
    · have e1 : q.take k = q := List.take_of_length_le (by omega)
      repeat'
        (conv => whnf
         first
          | (exact trivial)
          | (refine And.intro (by with_reducible rfl) ?_)
          | (refine And.intro (drawI (by kernel_rfl)) ?_)
          | (refine andI ?_ ?_)
          | (refine condT (by assumption) ?_)
          | (refine condF (by assumption) ?_)
          | (refine decT (by assumption) ?_)
          | (refine decF (by assumption) ?_)
          | (refine eqT (by assumption) ?_)
          | (refine eqF (by assumption) ?_)
          | (refine neT (by assumption) ?_)
          | (refine neF (by assumption) ?_)
          | (refine cEq (fun h => ?_) (fun h => ?_))
          | (refine cNe (fun h => ?_) (fun h => ?_))
          | (refine cNot (fun h => ?_) (fun h => ?_))
          | (refine cDec (fun h => ?_) (fun h => ?_))
          | (refine condN_split (fun h => ?_) (fun h => ?_))
          | (refine Or.inl (And.intro (by rfl : Nat.ble _ _ = true) ?_))
          | (refine Or.inl (And.intro Cl.lit ?_))
          | (refine Or.inr ?_)
          | (refine Exists.intro (1 : Nat) ?_)
          | (refine Exists.intro _ (And.intro rfl ?_))
          | (fail))
      all_goals try refine Side.mk ?_
      all_goals try dsimp only at *
      all_goals try refine eqI ?_
      all_goals first
        | (simp only [List.length_map] at *; omega)
        | (exfalso; simp only [List.length_map] at *; omega)
        | (rw [rp_b]; trivial)
        | (rw [len_b]; omega)
        | (rw [e1, List.drop_zero, List.take_of_length_le (by rw [len_b]; exact Nat.le_refl _)])
end Go.Proofs.Ytbieiehfohldjaa
