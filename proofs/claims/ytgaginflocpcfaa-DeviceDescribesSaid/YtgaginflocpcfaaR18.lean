/-
  What every device answers (layer 18): the document's answers.
-/
import Derived.Test.YtgaginflocpcfaaQ18
namespace Go.Proofs.Ytgaginflocpcfaa
open Go
set_option linter.unusedVariables false
set_option linter.unusedSimpArgs false
set_option maxRecDepth 100000
set_option maxHeartbeats 8000000

def ansV (k : Int) (d : Dev) (luns halted : Int) (r : Req) : V :=
  if mayK k (d0 d) r = true then .tup [(devK k d r).v, (effK k r).v, bsV (dataK k (d0 d) luns halted r), bV true]
  else .tup [(d0 d).v, (Efc.mk 0 0).v, bsV [], bV false]
theorem ans_of (d : Dev) (luns halted : Int) (r : Req) : .tup [(askD d r).v, (askE d r).v, bsV (askB d luns halted r), bV (mayOk (d0 d) r)] = ansV (askOf r.ty r.code) d luns halted r := by
  unfold ansV askD askE askB mayOk
  split
  · rename_i h; rw [h]
  · rename_i h; rw [Bool.not_eq_true] at h; rw [h]
theorem own_place {a : Int} (h : dOwn a = true) : dPlace a = 0 := by
  unfold dOwn at h
  simp only [decide_eq_true_eq] at h
  rcases h with rfl | rfl <;> rfl
theorem has_place {d : Dev} {a : Int} (h : dHas d a = true) (ho : dOwn a = false) : dPlace a ≠ 0 := by
  unfold dHas dUses at h
  rw [ho, Bool.false_or, Bool.and_eq_true, decide_eq_true_eq, decide_eq_true_eq] at h
  have : a = 129 ∨ a = 2 ∨ a = 131 ∨ a = 4 := by omega
  rcases this with rfl | rfl | rfl | rfl <;> decide
theorem dBit_or (x n : Int) : dBit x n = 0 ∨ dBit x n = 1 := by
  unfold dBit
  (repeat' split) <;> omega
theorem halt_of {d : Dev} {a : Int} (kd : Int) (h : dHas d a = true) : haltE kd a = if dPlace a = 0 then ⟨0, 0⟩ else ⟨kd, dPlace a⟩ := by
  unfold haltE
  cases ho : dOwn a with
  | true => rw [if_pos rfl, if_pos (own_place ho)]
  | false => rw [if_neg (by decide), if_neg (has_place h ho)]
theorem stat_of {d : Dev} {a x : Int} (h : dHas d a = true) : b8 (if dOwn a = false then dBit x (dPlace a) else 0) = if dPlace a ≠ 0 ∧ dBit x (dPlace a) = 1 then 1 else 0 := by
  cases ho : dOwn a with
  | true => rw [if_neg (by decide), if_neg (fun q => q.1 (own_place ho))]; rfl
  | false =>
    rw [if_pos rfl]
    rcases dBit_or x (dPlace a) with e | e
    · rw [e, if_neg (fun q => absurd q.2 (by decide))]; rfl
    · rw [e, if_pos ⟨has_place h ho, rfl⟩]; rfl
theorem stat_of' {d : Dev} {a x : Int} (h : dHas d a = true) : (if (130 : Int) = 130 ∧ dOwn a = false then b8 (dBit x (dPlace a)) else 0) = if dPlace a ≠ 0 ∧ dBit x (dPlace a) = 1 then 1 else 0 := by
  rw [← stat_of h]
  cases ho : dOwn a with
  | true => rfl
  | false => rfl
theorem stat1 {d D : Dev} {i v l luns halted : Int} (h : dHas d i = true) : dataK 1 D luns halted ⟨130, 0, v, i, l⟩ = [if dPlace i ≠ 0 ∧ dBit (halted % 18446744073709551616) (dPlace i) = 1 then 1 else 0, 0] := by
  rw [← stat_of' h]
  rfl
theorem tget (v : Int) : dGet (v.tdiv 256) (v.tmod 256) = dGet (v / 256) (v % 256) := by
  by_cases h : 0 ≤ v
  · rw [Int.tdiv_eq_ediv_of_nonneg h, Int.tmod_eq_emod_of_nonneg h]
  · have a : v.tdiv 256 ≤ 0 := by
      have := Int.tdiv_nonneg (a := -v) (b := 256) (by omega) (by omega)
      rw [Int.neg_tdiv] at this
      omega
    unfold dGet
    rw [if_neg (show ¬ v.tdiv 256 = 3 by omega), if_neg (show ¬ v / 256 = 3 by omega), if_neg (show ¬ v.tdiv 256 = 1 by omega), if_neg (show ¬ v / 256 = 1 by omega), if_neg (show ¬ v.tdiv 256 = 2 by omega), if_neg (show ¬ v / 256 = 2 by omega), if_neg (show ¬ v.tdiv 256 = 15 by omega), if_neg (show ¬ v / 256 = 15 by omega), ite_self, ite_self]
theorem t3 (v : Int) : (v.tdiv 256 = 3) = (v / 256 = 3) := by
  rw [eq_iff_iff]
  by_cases h : 0 ≤ v
  · rw [Int.tdiv_eq_ediv_of_nonneg h]
  · have := Int.tdiv_nonneg (a := -v) (b := 256) (by omega) (by omega)
    rw [Int.neg_tdiv] at this
    omega
theorem tm0 (v : Int) : (v.tmod 256 = 0) = (v % 256 = 0) := by
  rw [eq_iff_iff]
  rw [← Int.dvd_iff_tmod_eq_zero, ← Int.dvd_iff_emod_eq_zero]
theorem wtd {v : Int} (h : InI v) : IntKind.i64.wrap (v.tdiv 256) = v.tdiv 256 := by
  unfold InI at h
  have h1 : -9223372036854775808 ≤ v.tdiv 256 ∧ v.tdiv 256 ≤ 9223372036854775807 := by
    rcases Int.le_total 0 v with q | q
    · rw [Int.tdiv_eq_ediv_of_nonneg q]; omega
    · have e : v.tdiv 256 = -((-v) / 256) := by
        rw [← Int.tdiv_eq_ediv_of_nonneg (by omega), Int.neg_tdiv, Int.neg_neg]
      omega
  rw [IntKind.wrap_i64]
  omega
theorem may5 (D : Dev) (v i l : Int) : mayK 5 D ⟨128, 6, v, i, l⟩ = ((dGet (v / 256) (v % 256)).2 && decide (i = dLang v)) := rfl
theorem b8_mod (x : Int) : b8 (x % 256) = b8 x := by unfold b8; rw [Int.emod_emod_of_dvd _ (by decide)]
theorem low_v (x : Int) : V.lit (Value.int .u8 (IntKind.u8.wrap (bits .and .i64 x 255))) = u8V (b8 x) := by rw [b8_v, andFF, b8_mod]
theorem b8_w (x : Int) : b8 (IntKind.i64.wrap x) = b8 x := by
  unfold b8
  rw [IntKind.wrap_i64]
  congr 2
  omega
theorem low_luns (luns : Int) (h1 : 1 ≤ luns) (h2 : luns ≤ 4) : (if luns < 1 ∨ luns > 4 then (1:Int) else luns) = luns := if_neg (by omega)
theorem low_luns' (luns : Int) (h : luns < 1 ∨ luns > 4) : (if luns < 1 ∨ luns > 4 then (1:Int) else luns) = 1 := if_pos h
attribute [local irreducible] askOf dGet dHas dOwn dPlace dBit
theorem c_ra128_0 (d : Dev) (luns halted v i l : Int) : FnC Try.prog 10 [d.v, i64 luns, i64 halted, .agg [i64 128, i64 0, i64 v, i64 i, i64 l]] [] (ansV 1 d luns halted ⟨128, 0, v, i, l⟩) [] := by
  obtain ⟨ad, nx, cm, cf, al⟩ := d
  dsimp only [Dev.v] at *
  refine fn_vcI (N := 23) (d := 5) tabOk mixed inl18r_ok 4 Try.func10 rfl rfl rfl ?_
  repeat'
    (conv => whnf
     first
      | (exact trivial)
      | (refine And.intro (by with_reducible rfl) ?_)
      | (refine And.intro (drawI (by kernel_rfl)) ?_)
      | (refine andI ?_ ?_)
      | (refine condT (by assumption) ?_)
      | (refine condF (by assumption) ?_)
      | (refine decT (by assumption) ?_)
      | (refine decF (by assumption) ?_)
      | (refine eqT (by assumption) ?_)
      | (refine eqF (by assumption) ?_)
      | (refine neT (by assumption) ?_)
      | (refine neF (by assumption) ?_)
      | (refine cEq (fun h => ?_) (fun h => ?_))
      | (refine cNe (fun h => ?_) (fun h => ?_))
      | (refine cNot (fun h => ?_) (fun h => ?_))
      | (refine cDec (fun h => ?_) (fun h => ?_))
      | (refine condN_split (fun h => ?_) (fun h => ?_))
      | (refine Exists.intro _ (And.intro (c_refHas ⟨_, _, _, _, _⟩ _) ?_))
      | (refine Exists.intro _ (And.intro (c_refPlace _) ?_))
      | (refine Exists.intro _ (And.intro (c_halted _ _ ?_) ?_))
      | (refine Exists.intro _ (And.intro (c_refGet _ _) ?_))
      | (refine Exists.intro _ (And.intro rfl ?_))
      | (refine Or.inl (And.intro (by kernel_rfl : Nat.ble _ _ = true) ?_))
      | (refine Or.inl (And.intro Cl.lit ?_))
      | (refine Or.inr ?_)
      | (refine Exists.intro (1 : Nat) ?_)
      | (fail))
  all_goals try refine Side.mk ?_
  all_goals try dsimp only at *
  all_goals try refine eqI ?_
  all_goals try exact dPlace_in _
  all_goals try simp only [low_v, b8_w] at *
  all_goals first
    | decide
    | exact Nat.le_refl _
    | (refine rp_all ?_; rfl)
    | (refine rn_plain (rp_all ?_); rfl)
    | (refine or_all ?_; rfl)
    | (subst_vars
       unfold ansV d0
       first
         | (simp only [mayK, devK, effK, dataK, haltE, *, if_true, if_false, Int.reduceEq, ne_eq, not_false_eq_true, not_true_eq_false, Bool.false_eq_true, or_self, true_or, or_true, false_or, or_false, and_self, true_and, and_true, and_false, false_and, decide_true, decide_false, Bool.and_true, Bool.true_and, Bool.and_false, Bool.false_and, Bool.and_self]; first | done | rfl)
         | (simp [mayK, devK, effK, dataK, haltE, *]; first | done | rfl)
         | (rw [if_pos (by simp [mayK, *]), stat1 (by assumption)]; first | (rw [if_pos (by assumption)]; done) | (rw [if_neg (by assumption)]; done) | (rw [if_pos (by assumption)]; rfl) | (rw [if_neg (by assumption)]; rfl))
         | (rw [if_pos (by simp [mayK, *])]; unfold effK; simp only [if_true, if_false, Int.reduceEq]; rw [halt_of _ (by assumption)]; first | (rw [if_pos (by assumption)]; done) | (rw [if_neg (by assumption)]; done) | (rw [if_pos (by assumption)]; rfl) | (rw [if_neg (by assumption)]; rfl))
         | (simp only [bne_iff_ne, ne_eq, bne_eq_false_iff_eq, ge_iff_le] at *
            first
              | (rw [if_pos (by simp only [mayK, Int.reduceEq, if_true, if_false, decide_eq_true_eq, or_false, or_true, or_self, true_and, and_true, ne_eq]; omega)]; first | done | rfl)
              | (rw [if_neg (by simp only [mayK, Int.reduceEq, if_true, if_false, decide_eq_true_eq, or_false, or_true, or_self, true_and, and_true, ne_eq]; omega)]; first | done | rfl))
         | (rw [if_pos (by simp [mayK])]; unfold dataK; simp only [if_true, if_false, Int.reduceEq]; (first | rw [low_luns _ (by omega) (by omega)] | rw [low_luns' _ (by omega)]); try rfl)
         | (fail))
theorem c_ra129_0 (d : Dev) (luns halted v i l : Int) : FnC Try.prog 10 [d.v, i64 luns, i64 halted, .agg [i64 129, i64 0, i64 v, i64 i, i64 l]] [] (ansV 1 d luns halted ⟨129, 0, v, i, l⟩) [] := by
  obtain ⟨ad, nx, cm, cf, al⟩ := d
  dsimp only [Dev.v] at *
  refine fn_vcI (N := 23) (d := 5) tabOk mixed inl18r_ok 4 Try.func10 rfl rfl rfl ?_
  repeat'
    (conv => whnf
     first
      | (exact trivial)
      | (refine And.intro (by with_reducible rfl) ?_)
      | (refine And.intro (drawI (by kernel_rfl)) ?_)
      | (refine andI ?_ ?_)
      | (refine condT (by assumption) ?_)
      | (refine condF (by assumption) ?_)
      | (refine decT (by assumption) ?_)
      | (refine decF (by assumption) ?_)
      | (refine eqT (by assumption) ?_)
      | (refine eqF (by assumption) ?_)
      | (refine neT (by assumption) ?_)
      | (refine neF (by assumption) ?_)
      | (refine cEq (fun h => ?_) (fun h => ?_))
      | (refine cNe (fun h => ?_) (fun h => ?_))
      | (refine cNot (fun h => ?_) (fun h => ?_))
      | (refine cDec (fun h => ?_) (fun h => ?_))
      | (refine condN_split (fun h => ?_) (fun h => ?_))
      | (refine Exists.intro _ (And.intro (c_refHas ⟨_, _, _, _, _⟩ _) ?_))
      | (refine Exists.intro _ (And.intro (c_refPlace _) ?_))
      | (refine Exists.intro _ (And.intro (c_halted _ _ ?_) ?_))
      | (refine Exists.intro _ (And.intro (c_refGet _ _) ?_))
      | (refine Exists.intro _ (And.intro rfl ?_))
      | (refine Or.inl (And.intro (by kernel_rfl : Nat.ble _ _ = true) ?_))
      | (refine Or.inl (And.intro Cl.lit ?_))
      | (refine Or.inr ?_)
      | (refine Exists.intro (1 : Nat) ?_)
      | (fail))
  all_goals try refine Side.mk ?_
  all_goals try dsimp only at *
  all_goals try refine eqI ?_
  all_goals try exact dPlace_in _
  all_goals try simp only [low_v, b8_w] at *
  all_goals first
    | decide
    | exact Nat.le_refl _
    | (refine rp_all ?_; rfl)
    | (refine rn_plain (rp_all ?_); rfl)
    | (refine or_all ?_; rfl)
    | (subst_vars
       unfold ansV d0
       first
         | (simp only [mayK, devK, effK, dataK, haltE, *, if_true, if_false, Int.reduceEq, ne_eq, not_false_eq_true, not_true_eq_false, Bool.false_eq_true, or_self, true_or, or_true, false_or, or_false, and_self, true_and, and_true, and_false, false_and, decide_true, decide_false, Bool.and_true, Bool.true_and, Bool.and_false, Bool.false_and, Bool.and_self]; first | done | rfl)
         | (simp [mayK, devK, effK, dataK, haltE, *]; first | done | rfl)
         | (rw [if_pos (by simp [mayK, *]), stat1 (by assumption)]; first | (rw [if_pos (by assumption)]; done) | (rw [if_neg (by assumption)]; done) | (rw [if_pos (by assumption)]; rfl) | (rw [if_neg (by assumption)]; rfl))
         | (rw [if_pos (by simp [mayK, *])]; unfold effK; simp only [if_true, if_false, Int.reduceEq]; rw [halt_of _ (by assumption)]; first | (rw [if_pos (by assumption)]; done) | (rw [if_neg (by assumption)]; done) | (rw [if_pos (by assumption)]; rfl) | (rw [if_neg (by assumption)]; rfl))
         | (simp only [bne_iff_ne, ne_eq, bne_eq_false_iff_eq, ge_iff_le] at *
            first
              | (rw [if_pos (by simp only [mayK, Int.reduceEq, if_true, if_false, decide_eq_true_eq, or_false, or_true, or_self, true_and, and_true, ne_eq]; omega)]; first | done | rfl)
              | (rw [if_neg (by simp only [mayK, Int.reduceEq, if_true, if_false, decide_eq_true_eq, or_false, or_true, or_self, true_and, and_true, ne_eq]; omega)]; first | done | rfl))
         | (rw [if_pos (by simp [mayK])]; unfold dataK; simp only [if_true, if_false, Int.reduceEq]; (first | rw [low_luns _ (by omega) (by omega)] | rw [low_luns' _ (by omega)]); try rfl)
         | (fail))
theorem c_ra130_0 (d : Dev) (luns halted v i l : Int) : FnC Try.prog 10 [d.v, i64 luns, i64 halted, .agg [i64 130, i64 0, i64 v, i64 i, i64 l]] [] (ansV 1 d luns halted ⟨130, 0, v, i, l⟩) [] := by
  obtain ⟨ad, nx, cm, cf, al⟩ := d
  dsimp only [Dev.v] at *
  refine fn_vcI (N := 23) (d := 5) tabOk mixed inl18r_ok 4 Try.func10 rfl rfl rfl ?_
  repeat'
    (conv => whnf
     first
      | (exact trivial)
      | (refine And.intro (by with_reducible rfl) ?_)
      | (refine And.intro (drawI (by kernel_rfl)) ?_)
      | (refine andI ?_ ?_)
      | (refine condT (by assumption) ?_)
      | (refine condF (by assumption) ?_)
      | (refine decT (by assumption) ?_)
      | (refine decF (by assumption) ?_)
      | (refine eqT (by assumption) ?_)
      | (refine eqF (by assumption) ?_)
      | (refine neT (by assumption) ?_)
      | (refine neF (by assumption) ?_)
      | (refine cEq (fun h => ?_) (fun h => ?_))
      | (refine cNe (fun h => ?_) (fun h => ?_))
      | (refine cNot (fun h => ?_) (fun h => ?_))
      | (refine cDec (fun h => ?_) (fun h => ?_))
      | (refine condN_split (fun h => ?_) (fun h => ?_))
      | (refine Exists.intro _ (And.intro (c_refHas ⟨_, _, _, _, _⟩ _) ?_))
      | (refine Exists.intro _ (And.intro (c_refPlace _) ?_))
      | (refine Exists.intro _ (And.intro (c_halted _ _ ?_) ?_))
      | (refine Exists.intro _ (And.intro (c_refGet _ _) ?_))
      | (refine Exists.intro _ (And.intro rfl ?_))
      | (refine Or.inl (And.intro (by kernel_rfl : Nat.ble _ _ = true) ?_))
      | (refine Or.inl (And.intro Cl.lit ?_))
      | (refine Or.inr ?_)
      | (refine Exists.intro (1 : Nat) ?_)
      | (fail))
  all_goals try refine Side.mk ?_
  all_goals try dsimp only at *
  all_goals try refine eqI ?_
  all_goals try exact dPlace_in _
  all_goals try simp only [low_v, b8_w] at *
  all_goals first
    | decide
    | exact Nat.le_refl _
    | (refine rp_all ?_; rfl)
    | (refine rn_plain (rp_all ?_); rfl)
    | (refine or_all ?_; rfl)
    | (subst_vars
       unfold ansV d0
       first
         | (simp only [mayK, devK, effK, dataK, haltE, *, if_true, if_false, Int.reduceEq, ne_eq, not_false_eq_true, not_true_eq_false, Bool.false_eq_true, or_self, true_or, or_true, false_or, or_false, and_self, true_and, and_true, and_false, false_and, decide_true, decide_false, Bool.and_true, Bool.true_and, Bool.and_false, Bool.false_and, Bool.and_self]; first | done | rfl)
         | (simp [mayK, devK, effK, dataK, haltE, *]; first | done | rfl)
         | (rw [if_pos (by simp [mayK, *]), stat1 (by assumption)]; first | (rw [if_pos (by assumption)]; done) | (rw [if_neg (by assumption)]; done) | (rw [if_pos (by assumption)]; rfl) | (rw [if_neg (by assumption)]; rfl))
         | (rw [if_pos (by simp [mayK, *])]; unfold effK; simp only [if_true, if_false, Int.reduceEq]; rw [halt_of _ (by assumption)]; first | (rw [if_pos (by assumption)]; done) | (rw [if_neg (by assumption)]; done) | (rw [if_pos (by assumption)]; rfl) | (rw [if_neg (by assumption)]; rfl))
         | (simp only [bne_iff_ne, ne_eq, bne_eq_false_iff_eq, ge_iff_le] at *
            first
              | (rw [if_pos (by simp only [mayK, Int.reduceEq, if_true, if_false, decide_eq_true_eq, or_false, or_true, or_self, true_and, and_true, ne_eq]; omega)]; first | done | rfl)
              | (rw [if_neg (by simp only [mayK, Int.reduceEq, if_true, if_false, decide_eq_true_eq, or_false, or_true, or_self, true_and, and_true, ne_eq]; omega)]; first | done | rfl))
         | (rw [if_pos (by simp [mayK])]; unfold dataK; simp only [if_true, if_false, Int.reduceEq]; (first | rw [low_luns _ (by omega) (by omega)] | rw [low_luns' _ (by omega)]); try rfl)
         | (fail))
theorem c_ra2_1 (d : Dev) (luns halted v i l : Int) : FnC Try.prog 10 [d.v, i64 luns, i64 halted, .agg [i64 2, i64 1, i64 v, i64 i, i64 l]] [] (ansV 2 d luns halted ⟨2, 1, v, i, l⟩) [] := by
  obtain ⟨ad, nx, cm, cf, al⟩ := d
  dsimp only [Dev.v] at *
  refine fn_vcI (N := 23) (d := 5) tabOk mixed inl18r_ok 4 Try.func10 rfl rfl rfl ?_
  repeat'
    (conv => whnf
     first
      | (exact trivial)
      | (refine And.intro (by with_reducible rfl) ?_)
      | (refine And.intro (drawI (by kernel_rfl)) ?_)
      | (refine andI ?_ ?_)
      | (refine condT (by assumption) ?_)
      | (refine condF (by assumption) ?_)
      | (refine decT (by assumption) ?_)
      | (refine decF (by assumption) ?_)
      | (refine eqT (by assumption) ?_)
      | (refine eqF (by assumption) ?_)
      | (refine neT (by assumption) ?_)
      | (refine neF (by assumption) ?_)
      | (refine cEq (fun h => ?_) (fun h => ?_))
      | (refine cNe (fun h => ?_) (fun h => ?_))
      | (refine cNot (fun h => ?_) (fun h => ?_))
      | (refine cDec (fun h => ?_) (fun h => ?_))
      | (refine condN_split (fun h => ?_) (fun h => ?_))
      | (refine Exists.intro _ (And.intro (c_refHas ⟨_, _, _, _, _⟩ _) ?_))
      | (refine Exists.intro _ (And.intro (c_refPlace _) ?_))
      | (refine Exists.intro _ (And.intro (c_halted _ _ ?_) ?_))
      | (refine Exists.intro _ (And.intro (c_refGet _ _) ?_))
      | (refine Exists.intro _ (And.intro rfl ?_))
      | (refine Or.inl (And.intro (by kernel_rfl : Nat.ble _ _ = true) ?_))
      | (refine Or.inl (And.intro Cl.lit ?_))
      | (refine Or.inr ?_)
      | (refine Exists.intro (1 : Nat) ?_)
      | (fail))
  all_goals try refine Side.mk ?_
  all_goals try dsimp only at *
  all_goals try refine eqI ?_
  all_goals try exact dPlace_in _
  all_goals try simp only [low_v, b8_w] at *
  all_goals first
    | decide
    | exact Nat.le_refl _
    | (refine rp_all ?_; rfl)
    | (refine rn_plain (rp_all ?_); rfl)
    | (refine or_all ?_; rfl)
    | (subst_vars
       unfold ansV d0
       first
         | (simp only [mayK, devK, effK, dataK, haltE, *, if_true, if_false, Int.reduceEq, ne_eq, not_false_eq_true, not_true_eq_false, Bool.false_eq_true, or_self, true_or, or_true, false_or, or_false, and_self, true_and, and_true, and_false, false_and, decide_true, decide_false, Bool.and_true, Bool.true_and, Bool.and_false, Bool.false_and, Bool.and_self]; first | done | rfl)
         | (simp [mayK, devK, effK, dataK, haltE, *]; first | done | rfl)
         | (rw [if_pos (by simp [mayK, *]), stat1 (by assumption)]; first | (rw [if_pos (by assumption)]; done) | (rw [if_neg (by assumption)]; done) | (rw [if_pos (by assumption)]; rfl) | (rw [if_neg (by assumption)]; rfl))
         | (rw [if_pos (by simp [mayK, *])]; unfold effK; simp only [if_true, if_false, Int.reduceEq]; rw [halt_of _ (by assumption)]; first | (rw [if_pos (by assumption)]; done) | (rw [if_neg (by assumption)]; done) | (rw [if_pos (by assumption)]; rfl) | (rw [if_neg (by assumption)]; rfl))
         | (simp only [bne_iff_ne, ne_eq, bne_eq_false_iff_eq, ge_iff_le] at *
            first
              | (rw [if_pos (by simp only [mayK, Int.reduceEq, if_true, if_false, decide_eq_true_eq, or_false, or_true, or_self, true_and, and_true, ne_eq]; omega)]; first | done | rfl)
              | (rw [if_neg (by simp only [mayK, Int.reduceEq, if_true, if_false, decide_eq_true_eq, or_false, or_true, or_self, true_and, and_true, ne_eq]; omega)]; first | done | rfl))
         | (rw [if_pos (by simp [mayK])]; unfold dataK; simp only [if_true, if_false, Int.reduceEq]; (first | rw [low_luns _ (by omega) (by omega)] | rw [low_luns' _ (by omega)]); try rfl)
         | (fail))
theorem c_ra2_3 (d : Dev) (luns halted v i l : Int) : FnC Try.prog 10 [d.v, i64 luns, i64 halted, .agg [i64 2, i64 3, i64 v, i64 i, i64 l]] [] (ansV 3 d luns halted ⟨2, 3, v, i, l⟩) [] := by
  obtain ⟨ad, nx, cm, cf, al⟩ := d
  dsimp only [Dev.v] at *
  refine fn_vcI (N := 23) (d := 5) tabOk mixed inl18r_ok 4 Try.func10 rfl rfl rfl ?_
  repeat'
    (conv => whnf
     first
      | (exact trivial)
      | (refine And.intro (by with_reducible rfl) ?_)
      | (refine And.intro (drawI (by kernel_rfl)) ?_)
      | (refine andI ?_ ?_)
      | (refine condT (by assumption) ?_)
      | (refine condF (by assumption) ?_)
      | (refine decT (by assumption) ?_)
      | (refine decF (by assumption) ?_)
      | (refine eqT (by assumption) ?_)
      | (refine eqF (by assumption) ?_)
      | (refine neT (by assumption) ?_)
      | (refine neF (by assumption) ?_)
      | (refine cEq (fun h => ?_) (fun h => ?_))
      | (refine cNe (fun h => ?_) (fun h => ?_))
      | (refine cNot (fun h => ?_) (fun h => ?_))
      | (refine cDec (fun h => ?_) (fun h => ?_))
      | (refine condN_split (fun h => ?_) (fun h => ?_))
      | (refine Exists.intro _ (And.intro (c_refHas ⟨_, _, _, _, _⟩ _) ?_))
      | (refine Exists.intro _ (And.intro (c_refPlace _) ?_))
      | (refine Exists.intro _ (And.intro (c_halted _ _ ?_) ?_))
      | (refine Exists.intro _ (And.intro (c_refGet _ _) ?_))
      | (refine Exists.intro _ (And.intro rfl ?_))
      | (refine Or.inl (And.intro (by kernel_rfl : Nat.ble _ _ = true) ?_))
      | (refine Or.inl (And.intro Cl.lit ?_))
      | (refine Or.inr ?_)
      | (refine Exists.intro (1 : Nat) ?_)
      | (fail))
  all_goals try refine Side.mk ?_
  all_goals try dsimp only at *
  all_goals try refine eqI ?_
  all_goals try exact dPlace_in _
  all_goals try simp only [low_v, b8_w] at *
  all_goals first
    | decide
    | exact Nat.le_refl _
    | (refine rp_all ?_; rfl)
    | (refine rn_plain (rp_all ?_); rfl)
    | (refine or_all ?_; rfl)
    | (subst_vars
       unfold ansV d0
       first
         | (simp only [mayK, devK, effK, dataK, haltE, *, if_true, if_false, Int.reduceEq, ne_eq, not_false_eq_true, not_true_eq_false, Bool.false_eq_true, or_self, true_or, or_true, false_or, or_false, and_self, true_and, and_true, and_false, false_and, decide_true, decide_false, Bool.and_true, Bool.true_and, Bool.and_false, Bool.false_and, Bool.and_self]; first | done | rfl)
         | (simp [mayK, devK, effK, dataK, haltE, *]; first | done | rfl)
         | (rw [if_pos (by simp [mayK, *]), stat1 (by assumption)]; first | (rw [if_pos (by assumption)]; done) | (rw [if_neg (by assumption)]; done) | (rw [if_pos (by assumption)]; rfl) | (rw [if_neg (by assumption)]; rfl))
         | (rw [if_pos (by simp [mayK, *])]; unfold effK; simp only [if_true, if_false, Int.reduceEq]; rw [halt_of _ (by assumption)]; first | (rw [if_pos (by assumption)]; done) | (rw [if_neg (by assumption)]; done) | (rw [if_pos (by assumption)]; rfl) | (rw [if_neg (by assumption)]; rfl))
         | (simp only [bne_iff_ne, ne_eq, bne_eq_false_iff_eq, ge_iff_le] at *
            first
              | (rw [if_pos (by simp only [mayK, Int.reduceEq, if_true, if_false, decide_eq_true_eq, or_false, or_true, or_self, true_and, and_true, ne_eq]; omega)]; first | done | rfl)
              | (rw [if_neg (by simp only [mayK, Int.reduceEq, if_true, if_false, decide_eq_true_eq, or_false, or_true, or_self, true_and, and_true, ne_eq]; omega)]; first | done | rfl))
         | (rw [if_pos (by simp [mayK])]; unfold dataK; simp only [if_true, if_false, Int.reduceEq]; (first | rw [low_luns _ (by omega) (by omega)] | rw [low_luns' _ (by omega)]); try rfl)
         | (fail))
theorem c_ra0_5 (d : Dev) (luns halted v i l : Int) : FnC Try.prog 10 [d.v, i64 luns, i64 halted, .agg [i64 0, i64 5, i64 v, i64 i, i64 l]] [] (ansV 4 d luns halted ⟨0, 5, v, i, l⟩) [] := by
  obtain ⟨ad, nx, cm, cf, al⟩ := d
  dsimp only [Dev.v] at *
  refine fn_vcI (N := 23) (d := 5) tabOk mixed inl18r_ok 4 Try.func10 rfl rfl rfl ?_
  repeat'
    (conv => whnf
     first
      | (exact trivial)
      | (refine And.intro (by with_reducible rfl) ?_)
      | (refine And.intro (drawI (by kernel_rfl)) ?_)
      | (refine andI ?_ ?_)
      | (refine condT (by assumption) ?_)
      | (refine condF (by assumption) ?_)
      | (refine decT (by assumption) ?_)
      | (refine decF (by assumption) ?_)
      | (refine eqT (by assumption) ?_)
      | (refine eqF (by assumption) ?_)
      | (refine neT (by assumption) ?_)
      | (refine neF (by assumption) ?_)
      | (refine cEq (fun h => ?_) (fun h => ?_))
      | (refine cNe (fun h => ?_) (fun h => ?_))
      | (refine cNot (fun h => ?_) (fun h => ?_))
      | (refine cDec (fun h => ?_) (fun h => ?_))
      | (refine condN_split (fun h => ?_) (fun h => ?_))
      | (refine Exists.intro _ (And.intro (c_refHas ⟨_, _, _, _, _⟩ _) ?_))
      | (refine Exists.intro _ (And.intro (c_refPlace _) ?_))
      | (refine Exists.intro _ (And.intro (c_halted _ _ ?_) ?_))
      | (refine Exists.intro _ (And.intro (c_refGet _ _) ?_))
      | (refine Exists.intro _ (And.intro rfl ?_))
      | (refine Or.inl (And.intro (by kernel_rfl : Nat.ble _ _ = true) ?_))
      | (refine Or.inl (And.intro Cl.lit ?_))
      | (refine Or.inr ?_)
      | (refine Exists.intro (1 : Nat) ?_)
      | (fail))
  all_goals try refine Side.mk ?_
  all_goals try dsimp only at *
  all_goals try refine eqI ?_
  all_goals try exact dPlace_in _
  all_goals try simp only [low_v, b8_w] at *
  all_goals first
    | decide
    | exact Nat.le_refl _
    | (refine rp_all ?_; rfl)
    | (refine rn_plain (rp_all ?_); rfl)
    | (refine or_all ?_; rfl)
    | (subst_vars
       unfold ansV d0
       first
         | (simp only [mayK, devK, effK, dataK, haltE, *, if_true, if_false, Int.reduceEq, ne_eq, not_false_eq_true, not_true_eq_false, Bool.false_eq_true, or_self, true_or, or_true, false_or, or_false, and_self, true_and, and_true, and_false, false_and, decide_true, decide_false, Bool.and_true, Bool.true_and, Bool.and_false, Bool.false_and, Bool.and_self]; first | done | rfl)
         | (simp [mayK, devK, effK, dataK, haltE, *]; first | done | rfl)
         | (rw [if_pos (by simp [mayK, *]), stat1 (by assumption)]; first | (rw [if_pos (by assumption)]; done) | (rw [if_neg (by assumption)]; done) | (rw [if_pos (by assumption)]; rfl) | (rw [if_neg (by assumption)]; rfl))
         | (rw [if_pos (by simp [mayK, *])]; unfold effK; simp only [if_true, if_false, Int.reduceEq]; rw [halt_of _ (by assumption)]; first | (rw [if_pos (by assumption)]; done) | (rw [if_neg (by assumption)]; done) | (rw [if_pos (by assumption)]; rfl) | (rw [if_neg (by assumption)]; rfl))
         | (simp only [bne_iff_ne, ne_eq, bne_eq_false_iff_eq, ge_iff_le] at *
            first
              | (rw [if_pos (by simp only [mayK, Int.reduceEq, if_true, if_false, decide_eq_true_eq, or_false, or_true, or_self, true_and, and_true, ne_eq]; omega)]; first | done | rfl)
              | (rw [if_neg (by simp only [mayK, Int.reduceEq, if_true, if_false, decide_eq_true_eq, or_false, or_true, or_self, true_and, and_true, ne_eq]; omega)]; first | done | rfl))
         | (rw [if_pos (by simp [mayK])]; unfold dataK; simp only [if_true, if_false, Int.reduceEq]; (first | rw [low_luns _ (by omega) (by omega)] | rw [low_luns' _ (by omega)]); try rfl)
         | (fail))
theorem c_ra128_6 (d : Dev) (luns halted v i l : Int) (hv : InI v) : FnC Try.prog 10 [d.v, i64 luns, i64 halted, .agg [i64 128, i64 6, i64 v, i64 i, i64 l]] [] (ansV 5 d luns halted ⟨128, 6, v, i, l⟩) [] := by
  obtain ⟨ad, nx, cm, cf, al⟩ := d
  dsimp only [Dev.v] at *
  refine fn_vcI (N := 23) (d := 5) tabOk mixed inl18r_ok 4 Try.func10 rfl rfl rfl ?_
  repeat'
    (conv => whnf
     first
      | (exact trivial)
      | (refine And.intro (by with_reducible rfl) ?_)
      | (refine And.intro (drawI (by kernel_rfl)) ?_)
      | (refine andI ?_ ?_)
      | (refine condT (by assumption) ?_)
      | (refine condF (by assumption) ?_)
      | (refine decT (by assumption) ?_)
      | (refine decF (by assumption) ?_)
      | (refine eqT (by assumption) ?_)
      | (refine eqF (by assumption) ?_)
      | (refine neT (by assumption) ?_)
      | (refine neF (by assumption) ?_)
      | (refine cEq (fun h => ?_) (fun h => ?_))
      | (refine cNe (fun h => ?_) (fun h => ?_))
      | (refine cNot (fun h => ?_) (fun h => ?_))
      | (refine cDec (fun h => ?_) (fun h => ?_))
      | (refine condN_split (fun h => ?_) (fun h => ?_))
      | (refine Exists.intro _ (And.intro (c_refHas ⟨_, _, _, _, _⟩ _) ?_))
      | (refine Exists.intro _ (And.intro (c_refPlace _) ?_))
      | (refine Exists.intro _ (And.intro (c_halted _ _ ?_) ?_))
      | (refine Exists.intro _ (And.intro (c_refGet _ _) ?_))
      | (refine Exists.intro _ (And.intro rfl ?_))
      | (refine Or.inl (And.intro (by kernel_rfl : Nat.ble _ _ = true) ?_))
      | (refine Or.inl (And.intro Cl.lit ?_))
      | (refine Or.inr ?_)
      | (refine Exists.intro (1 : Nat) ?_)
      | (fail))
  all_goals try refine Side.mk ?_
  all_goals try dsimp only at *
  all_goals try refine eqI ?_
  all_goals try exact dPlace_in _
  all_goals try simp only [low_v, b8_w] at *
  all_goals try simp only [wtd hv, tget, t3, tm0, ne_eq] at *
  all_goals first
    | decide
    | exact Nat.le_refl _
    | (refine rp_all ?_; rfl)
    | (refine rn_plain (rp_all ?_); rfl)
    | (refine or_all ?_; rfl)
    | (unfold ansV d0
       first
         | (rw [if_pos (by
              rw [may5, Bool.and_eq_true]
              refine ⟨by assumption, ?_⟩
              rw [decide_eq_true_eq]
              unfold dLang
              split <;> omega)]; first | done | rfl)
         | (rw [if_neg (by
              rw [may5]
              intro q
              rw [Bool.and_eq_true, decide_eq_true_eq] at q
              unfold dLang at q
              obtain ⟨q1, q2⟩ := q
              first
                | exact absurd (q1.symm.trans ‹_ = false›) (by decide)
                | (split at q2 <;> omega))]; first | done | rfl)
         | (fail))
theorem c_ra128_8 (d : Dev) (luns halted v i l : Int) : FnC Try.prog 10 [d.v, i64 luns, i64 halted, .agg [i64 128, i64 8, i64 v, i64 i, i64 l]] [] (ansV 6 d luns halted ⟨128, 8, v, i, l⟩) [] := by
  obtain ⟨ad, nx, cm, cf, al⟩ := d
  dsimp only [Dev.v] at *
  refine fn_vcI (N := 23) (d := 5) tabOk mixed inl18r_ok 4 Try.func10 rfl rfl rfl ?_
  repeat'
    (conv => whnf
     first
      | (exact trivial)
      | (refine And.intro (by with_reducible rfl) ?_)
      | (refine And.intro (drawI (by kernel_rfl)) ?_)
      | (refine andI ?_ ?_)
      | (refine condT (by assumption) ?_)
      | (refine condF (by assumption) ?_)
      | (refine decT (by assumption) ?_)
      | (refine decF (by assumption) ?_)
      | (refine eqT (by assumption) ?_)
      | (refine eqF (by assumption) ?_)
      | (refine neT (by assumption) ?_)
      | (refine neF (by assumption) ?_)
      | (refine cEq (fun h => ?_) (fun h => ?_))
      | (refine cNe (fun h => ?_) (fun h => ?_))
      | (refine cNot (fun h => ?_) (fun h => ?_))
      | (refine cDec (fun h => ?_) (fun h => ?_))
      | (refine condN_split (fun h => ?_) (fun h => ?_))
      | (refine Exists.intro _ (And.intro (c_refHas ⟨_, _, _, _, _⟩ _) ?_))
      | (refine Exists.intro _ (And.intro (c_refPlace _) ?_))
      | (refine Exists.intro _ (And.intro (c_halted _ _ ?_) ?_))
      | (refine Exists.intro _ (And.intro (c_refGet _ _) ?_))
      | (refine Exists.intro _ (And.intro rfl ?_))
      | (refine Or.inl (And.intro (by kernel_rfl : Nat.ble _ _ = true) ?_))
      | (refine Or.inl (And.intro Cl.lit ?_))
      | (refine Or.inr ?_)
      | (refine Exists.intro (1 : Nat) ?_)
      | (fail))
  all_goals try refine Side.mk ?_
  all_goals try dsimp only at *
  all_goals try refine eqI ?_
  all_goals try exact dPlace_in _
  all_goals try simp only [low_v, b8_w] at *
  all_goals first
    | decide
    | exact Nat.le_refl _
    | (refine rp_all ?_; rfl)
    | (refine rn_plain (rp_all ?_); rfl)
    | (refine or_all ?_; rfl)
    | (subst_vars
       unfold ansV d0
       first
         | (simp only [mayK, devK, effK, dataK, haltE, *, if_true, if_false, Int.reduceEq, ne_eq, not_false_eq_true, not_true_eq_false, Bool.false_eq_true, or_self, true_or, or_true, false_or, or_false, and_self, true_and, and_true, and_false, false_and, decide_true, decide_false, Bool.and_true, Bool.true_and, Bool.and_false, Bool.false_and, Bool.and_self]; first | done | rfl)
         | (simp [mayK, devK, effK, dataK, haltE, *]; first | done | rfl)
         | (rw [if_pos (by simp [mayK, *]), stat1 (by assumption)]; first | (rw [if_pos (by assumption)]; done) | (rw [if_neg (by assumption)]; done) | (rw [if_pos (by assumption)]; rfl) | (rw [if_neg (by assumption)]; rfl))
         | (rw [if_pos (by simp [mayK, *])]; unfold effK; simp only [if_true, if_false, Int.reduceEq]; rw [halt_of _ (by assumption)]; first | (rw [if_pos (by assumption)]; done) | (rw [if_neg (by assumption)]; done) | (rw [if_pos (by assumption)]; rfl) | (rw [if_neg (by assumption)]; rfl))
         | (simp only [bne_iff_ne, ne_eq, bne_eq_false_iff_eq, ge_iff_le] at *
            first
              | (rw [if_pos (by simp only [mayK, Int.reduceEq, if_true, if_false, decide_eq_true_eq, or_false, or_true, or_self, true_and, and_true, ne_eq]; omega)]; first | done | rfl)
              | (rw [if_neg (by simp only [mayK, Int.reduceEq, if_true, if_false, decide_eq_true_eq, or_false, or_true, or_self, true_and, and_true, ne_eq]; omega)]; first | done | rfl))
         | (rw [if_pos (by simp [mayK])]; unfold dataK; simp only [if_true, if_false, Int.reduceEq]; (first | rw [low_luns _ (by omega) (by omega)] | rw [low_luns' _ (by omega)]); try rfl)
         | (fail))
theorem c_ra0_9 (d : Dev) (luns halted v i l : Int) : FnC Try.prog 10 [d.v, i64 luns, i64 halted, .agg [i64 0, i64 9, i64 v, i64 i, i64 l]] [] (ansV 7 d luns halted ⟨0, 9, v, i, l⟩) [] := by
  obtain ⟨ad, nx, cm, cf, al⟩ := d
  dsimp only [Dev.v] at *
  refine fn_vcI (N := 23) (d := 5) tabOk mixed inl18r_ok 4 Try.func10 rfl rfl rfl ?_
  repeat'
    (conv => whnf
     first
      | (exact trivial)
      | (refine And.intro (by with_reducible rfl) ?_)
      | (refine And.intro (drawI (by kernel_rfl)) ?_)
      | (refine andI ?_ ?_)
      | (refine condT (by assumption) ?_)
      | (refine condF (by assumption) ?_)
      | (refine decT (by assumption) ?_)
      | (refine decF (by assumption) ?_)
      | (refine eqT (by assumption) ?_)
      | (refine eqF (by assumption) ?_)
      | (refine neT (by assumption) ?_)
      | (refine neF (by assumption) ?_)
      | (refine cEq (fun h => ?_) (fun h => ?_))
      | (refine cNe (fun h => ?_) (fun h => ?_))
      | (refine cNot (fun h => ?_) (fun h => ?_))
      | (refine cDec (fun h => ?_) (fun h => ?_))
      | (refine condN_split (fun h => ?_) (fun h => ?_))
      | (refine Exists.intro _ (And.intro (c_refHas ⟨_, _, _, _, _⟩ _) ?_))
      | (refine Exists.intro _ (And.intro (c_refPlace _) ?_))
      | (refine Exists.intro _ (And.intro (c_halted _ _ ?_) ?_))
      | (refine Exists.intro _ (And.intro (c_refGet _ _) ?_))
      | (refine Exists.intro _ (And.intro rfl ?_))
      | (refine Or.inl (And.intro (by kernel_rfl : Nat.ble _ _ = true) ?_))
      | (refine Or.inl (And.intro Cl.lit ?_))
      | (refine Or.inr ?_)
      | (refine Exists.intro (1 : Nat) ?_)
      | (fail))
  all_goals try refine Side.mk ?_
  all_goals try dsimp only at *
  all_goals try refine eqI ?_
  all_goals try exact dPlace_in _
  all_goals try simp only [low_v, b8_w] at *
  all_goals first
    | decide
    | exact Nat.le_refl _
    | (refine rp_all ?_; rfl)
    | (refine rn_plain (rp_all ?_); rfl)
    | (refine or_all ?_; rfl)
    | (subst_vars
       unfold ansV d0
       first
         | (simp only [mayK, devK, effK, dataK, haltE, *, if_true, if_false, Int.reduceEq, ne_eq, not_false_eq_true, not_true_eq_false, Bool.false_eq_true, or_self, true_or, or_true, false_or, or_false, and_self, true_and, and_true, and_false, false_and, decide_true, decide_false, Bool.and_true, Bool.true_and, Bool.and_false, Bool.false_and, Bool.and_self]; first | done | rfl)
         | (simp [mayK, devK, effK, dataK, haltE, *]; first | done | rfl)
         | (rw [if_pos (by simp [mayK, *]), stat1 (by assumption)]; first | (rw [if_pos (by assumption)]; done) | (rw [if_neg (by assumption)]; done) | (rw [if_pos (by assumption)]; rfl) | (rw [if_neg (by assumption)]; rfl))
         | (rw [if_pos (by simp [mayK, *])]; unfold effK; simp only [if_true, if_false, Int.reduceEq]; rw [halt_of _ (by assumption)]; first | (rw [if_pos (by assumption)]; done) | (rw [if_neg (by assumption)]; done) | (rw [if_pos (by assumption)]; rfl) | (rw [if_neg (by assumption)]; rfl))
         | (simp only [bne_iff_ne, ne_eq, bne_eq_false_iff_eq, ge_iff_le] at *
            first
              | (rw [if_pos (by simp only [mayK, Int.reduceEq, if_true, if_false, decide_eq_true_eq, or_false, or_true, or_self, true_and, and_true, ne_eq]; omega)]; first | done | rfl)
              | (rw [if_neg (by simp only [mayK, Int.reduceEq, if_true, if_false, decide_eq_true_eq, or_false, or_true, or_self, true_and, and_true, ne_eq]; omega)]; first | done | rfl))
         | (rw [if_pos (by simp [mayK])]; unfold dataK; simp only [if_true, if_false, Int.reduceEq]; (first | rw [low_luns _ (by omega) (by omega)] | rw [low_luns' _ (by omega)]); try rfl)
         | (fail))
theorem c_ra129_10 (d : Dev) (luns halted v i l : Int) : FnC Try.prog 10 [d.v, i64 luns, i64 halted, .agg [i64 129, i64 10, i64 v, i64 i, i64 l]] [] (ansV 8 d luns halted ⟨129, 10, v, i, l⟩) [] := by
  obtain ⟨ad, nx, cm, cf, al⟩ := d
  dsimp only [Dev.v] at *
  refine fn_vcI (N := 23) (d := 5) tabOk mixed inl18r_ok 4 Try.func10 rfl rfl rfl ?_
  repeat'
    (conv => whnf
     first
      | (exact trivial)
      | (refine And.intro (by with_reducible rfl) ?_)
      | (refine And.intro (drawI (by kernel_rfl)) ?_)
      | (refine andI ?_ ?_)
      | (refine condT (by assumption) ?_)
      | (refine condF (by assumption) ?_)
      | (refine decT (by assumption) ?_)
      | (refine decF (by assumption) ?_)
      | (refine eqT (by assumption) ?_)
      | (refine eqF (by assumption) ?_)
      | (refine neT (by assumption) ?_)
      | (refine neF (by assumption) ?_)
      | (refine cEq (fun h => ?_) (fun h => ?_))
      | (refine cNe (fun h => ?_) (fun h => ?_))
      | (refine cNot (fun h => ?_) (fun h => ?_))
      | (refine cDec (fun h => ?_) (fun h => ?_))
      | (refine condN_split (fun h => ?_) (fun h => ?_))
      | (refine Exists.intro _ (And.intro (c_refHas ⟨_, _, _, _, _⟩ _) ?_))
      | (refine Exists.intro _ (And.intro (c_refPlace _) ?_))
      | (refine Exists.intro _ (And.intro (c_halted _ _ ?_) ?_))
      | (refine Exists.intro _ (And.intro (c_refGet _ _) ?_))
      | (refine Exists.intro _ (And.intro rfl ?_))
      | (refine Or.inl (And.intro (by kernel_rfl : Nat.ble _ _ = true) ?_))
      | (refine Or.inl (And.intro Cl.lit ?_))
      | (refine Or.inr ?_)
      | (refine Exists.intro (1 : Nat) ?_)
      | (fail))
  all_goals try refine Side.mk ?_
  all_goals try dsimp only at *
  all_goals try refine eqI ?_
  all_goals try exact dPlace_in _
  all_goals try simp only [low_v, b8_w] at *
  all_goals first
    | decide
    | exact Nat.le_refl _
    | (refine rp_all ?_; rfl)
    | (refine rn_plain (rp_all ?_); rfl)
    | (refine or_all ?_; rfl)
    | (subst_vars
       unfold ansV d0
       first
         | (simp only [mayK, devK, effK, dataK, haltE, *, if_true, if_false, Int.reduceEq, ne_eq, not_false_eq_true, not_true_eq_false, Bool.false_eq_true, or_self, true_or, or_true, false_or, or_false, and_self, true_and, and_true, and_false, false_and, decide_true, decide_false, Bool.and_true, Bool.true_and, Bool.and_false, Bool.false_and, Bool.and_self]; first | done | rfl)
         | (simp [mayK, devK, effK, dataK, haltE, *]; first | done | rfl)
         | (rw [if_pos (by simp [mayK, *]), stat1 (by assumption)]; first | (rw [if_pos (by assumption)]; done) | (rw [if_neg (by assumption)]; done) | (rw [if_pos (by assumption)]; rfl) | (rw [if_neg (by assumption)]; rfl))
         | (rw [if_pos (by simp [mayK, *])]; unfold effK; simp only [if_true, if_false, Int.reduceEq]; rw [halt_of _ (by assumption)]; first | (rw [if_pos (by assumption)]; done) | (rw [if_neg (by assumption)]; done) | (rw [if_pos (by assumption)]; rfl) | (rw [if_neg (by assumption)]; rfl))
         | (simp only [bne_iff_ne, ne_eq, bne_eq_false_iff_eq, ge_iff_le] at *
            first
              | (rw [if_pos (by simp only [mayK, Int.reduceEq, if_true, if_false, decide_eq_true_eq, or_false, or_true, or_self, true_and, and_true, ne_eq]; omega)]; first | done | rfl)
              | (rw [if_neg (by simp only [mayK, Int.reduceEq, if_true, if_false, decide_eq_true_eq, or_false, or_true, or_self, true_and, and_true, ne_eq]; omega)]; first | done | rfl))
         | (rw [if_pos (by simp [mayK])]; unfold dataK; simp only [if_true, if_false, Int.reduceEq]; (first | rw [low_luns _ (by omega) (by omega)] | rw [low_luns' _ (by omega)]); try rfl)
         | (fail))
theorem c_ra1_11 (d : Dev) (luns halted v i l : Int) : FnC Try.prog 10 [d.v, i64 luns, i64 halted, .agg [i64 1, i64 11, i64 v, i64 i, i64 l]] [] (ansV 9 d luns halted ⟨1, 11, v, i, l⟩) [] := by
  obtain ⟨ad, nx, cm, cf, al⟩ := d
  dsimp only [Dev.v] at *
  refine fn_vcI (N := 23) (d := 5) tabOk mixed inl18r_ok 4 Try.func10 rfl rfl rfl ?_
  repeat'
    (conv => whnf
     first
      | (exact trivial)
      | (refine And.intro (by with_reducible rfl) ?_)
      | (refine And.intro (drawI (by kernel_rfl)) ?_)
      | (refine andI ?_ ?_)
      | (refine condT (by assumption) ?_)
      | (refine condF (by assumption) ?_)
      | (refine decT (by assumption) ?_)
      | (refine decF (by assumption) ?_)
      | (refine eqT (by assumption) ?_)
      | (refine eqF (by assumption) ?_)
      | (refine neT (by assumption) ?_)
      | (refine neF (by assumption) ?_)
      | (refine cEq (fun h => ?_) (fun h => ?_))
      | (refine cNe (fun h => ?_) (fun h => ?_))
      | (refine cNot (fun h => ?_) (fun h => ?_))
      | (refine cDec (fun h => ?_) (fun h => ?_))
      | (refine condN_split (fun h => ?_) (fun h => ?_))
      | (refine Exists.intro _ (And.intro (c_refHas ⟨_, _, _, _, _⟩ _) ?_))
      | (refine Exists.intro _ (And.intro (c_refPlace _) ?_))
      | (refine Exists.intro _ (And.intro (c_halted _ _ ?_) ?_))
      | (refine Exists.intro _ (And.intro (c_refGet _ _) ?_))
      | (refine Exists.intro _ (And.intro rfl ?_))
      | (refine Or.inl (And.intro (by kernel_rfl : Nat.ble _ _ = true) ?_))
      | (refine Or.inl (And.intro Cl.lit ?_))
      | (refine Or.inr ?_)
      | (refine Exists.intro (1 : Nat) ?_)
      | (fail))
  all_goals try refine Side.mk ?_
  all_goals try dsimp only at *
  all_goals try refine eqI ?_
  all_goals try exact dPlace_in _
  all_goals try simp only [low_v, b8_w] at *
  all_goals first
    | decide
    | exact Nat.le_refl _
    | (refine rp_all ?_; rfl)
    | (refine rn_plain (rp_all ?_); rfl)
    | (refine or_all ?_; rfl)
    | (subst_vars
       unfold ansV d0
       first
         | (simp only [mayK, devK, effK, dataK, haltE, *, if_true, if_false, Int.reduceEq, ne_eq, not_false_eq_true, not_true_eq_false, Bool.false_eq_true, or_self, true_or, or_true, false_or, or_false, and_self, true_and, and_true, and_false, false_and, decide_true, decide_false, Bool.and_true, Bool.true_and, Bool.and_false, Bool.false_and, Bool.and_self]; first | done | rfl)
         | (simp [mayK, devK, effK, dataK, haltE, *]; first | done | rfl)
         | (rw [if_pos (by simp [mayK, *]), stat1 (by assumption)]; first | (rw [if_pos (by assumption)]; done) | (rw [if_neg (by assumption)]; done) | (rw [if_pos (by assumption)]; rfl) | (rw [if_neg (by assumption)]; rfl))
         | (rw [if_pos (by simp [mayK, *])]; unfold effK; simp only [if_true, if_false, Int.reduceEq]; rw [halt_of _ (by assumption)]; first | (rw [if_pos (by assumption)]; done) | (rw [if_neg (by assumption)]; done) | (rw [if_pos (by assumption)]; rfl) | (rw [if_neg (by assumption)]; rfl))
         | (simp only [bne_iff_ne, ne_eq, bne_eq_false_iff_eq, ge_iff_le] at *
            first
              | (rw [if_pos (by simp only [mayK, Int.reduceEq, if_true, if_false, decide_eq_true_eq, or_false, or_true, or_self, true_and, and_true, ne_eq]; omega)]; first | done | rfl)
              | (rw [if_neg (by simp only [mayK, Int.reduceEq, if_true, if_false, decide_eq_true_eq, or_false, or_true, or_self, true_and, and_true, ne_eq]; omega)]; first | done | rfl))
         | (rw [if_pos (by simp [mayK])]; unfold dataK; simp only [if_true, if_false, Int.reduceEq]; (first | rw [low_luns _ (by omega) (by omega)] | rw [low_luns' _ (by omega)]); try rfl)
         | (fail))
theorem c_ra161_254 (d : Dev) (luns halted v i l : Int) : FnC Try.prog 10 [d.v, i64 luns, i64 halted, .agg [i64 161, i64 254, i64 v, i64 i, i64 l]] [] (ansV 10 d luns halted ⟨161, 254, v, i, l⟩) [] := by
  obtain ⟨ad, nx, cm, cf, al⟩ := d
  dsimp only [Dev.v] at *
  refine fn_vcI (N := 23) (d := 5) tabOk mixed inl18r_ok 4 Try.func10 rfl rfl rfl ?_
  repeat'
    (conv => whnf
     first
      | (exact trivial)
      | (refine And.intro (by with_reducible rfl) ?_)
      | (refine And.intro (drawI (by kernel_rfl)) ?_)
      | (refine andI ?_ ?_)
      | (refine condT (by assumption) ?_)
      | (refine condF (by assumption) ?_)
      | (refine decT (by assumption) ?_)
      | (refine decF (by assumption) ?_)
      | (refine eqT (by assumption) ?_)
      | (refine eqF (by assumption) ?_)
      | (refine neT (by assumption) ?_)
      | (refine neF (by assumption) ?_)
      | (refine cEq (fun h => ?_) (fun h => ?_))
      | (refine cNe (fun h => ?_) (fun h => ?_))
      | (refine cNot (fun h => ?_) (fun h => ?_))
      | (refine cDec (fun h => ?_) (fun h => ?_))
      | (refine condN_split (fun h => ?_) (fun h => ?_))
      | (refine Exists.intro _ (And.intro (c_refHas ⟨_, _, _, _, _⟩ _) ?_))
      | (refine Exists.intro _ (And.intro (c_refPlace _) ?_))
      | (refine Exists.intro _ (And.intro (c_halted _ _ ?_) ?_))
      | (refine Exists.intro _ (And.intro (c_refGet _ _) ?_))
      | (refine Exists.intro _ (And.intro rfl ?_))
      | (refine Or.inl (And.intro (by kernel_rfl : Nat.ble _ _ = true) ?_))
      | (refine Or.inl (And.intro Cl.lit ?_))
      | (refine Or.inr ?_)
      | (refine Exists.intro (1 : Nat) ?_)
      | (fail))
  all_goals try refine Side.mk ?_
  all_goals try dsimp only at *
  all_goals try refine eqI ?_
  all_goals try exact dPlace_in _
  all_goals try simp only [low_v, b8_w] at *
  all_goals first
    | decide
    | exact Nat.le_refl _
    | (refine rp_all ?_; rfl)
    | (refine rn_plain (rp_all ?_); rfl)
    | (refine or_all ?_; rfl)
    | (subst_vars
       unfold ansV d0
       first
         | (simp only [mayK, devK, effK, dataK, haltE, *, if_true, if_false, Int.reduceEq, ne_eq, not_false_eq_true, not_true_eq_false, Bool.false_eq_true, or_self, true_or, or_true, false_or, or_false, and_self, true_and, and_true, and_false, false_and, decide_true, decide_false, Bool.and_true, Bool.true_and, Bool.and_false, Bool.false_and, Bool.and_self]; first | done | rfl)
         | (simp [mayK, devK, effK, dataK, haltE, *]; first | done | rfl)
         | (rw [if_pos (by simp [mayK, *]), stat1 (by assumption)]; first | (rw [if_pos (by assumption)]; done) | (rw [if_neg (by assumption)]; done) | (rw [if_pos (by assumption)]; rfl) | (rw [if_neg (by assumption)]; rfl))
         | (rw [if_pos (by simp [mayK, *])]; unfold effK; simp only [if_true, if_false, Int.reduceEq]; rw [halt_of _ (by assumption)]; first | (rw [if_pos (by assumption)]; done) | (rw [if_neg (by assumption)]; done) | (rw [if_pos (by assumption)]; rfl) | (rw [if_neg (by assumption)]; rfl))
         | (simp only [bne_iff_ne, ne_eq, bne_eq_false_iff_eq, ge_iff_le] at *
            first
              | (rw [if_pos (by simp only [mayK, Int.reduceEq, if_true, if_false, decide_eq_true_eq, or_false, or_true, or_self, true_and, and_true, ne_eq]; omega)]; first | done | rfl)
              | (rw [if_neg (by simp only [mayK, Int.reduceEq, if_true, if_false, decide_eq_true_eq, or_false, or_true, or_self, true_and, and_true, ne_eq]; omega)]; first | done | rfl))
         | (rw [if_pos (by simp [mayK])]; unfold dataK; simp only [if_true, if_false, Int.reduceEq]; (first | rw [low_luns _ (by omega) (by omega)] | rw [low_luns' _ (by omega)]); try rfl)
         | (fail))
theorem c_ra33_255 (d : Dev) (luns halted v i l : Int) : FnC Try.prog 10 [d.v, i64 luns, i64 halted, .agg [i64 33, i64 255, i64 v, i64 i, i64 l]] [] (ansV 11 d luns halted ⟨33, 255, v, i, l⟩) [] := by
  obtain ⟨ad, nx, cm, cf, al⟩ := d
  dsimp only [Dev.v] at *
  refine fn_vcI (N := 23) (d := 5) tabOk mixed inl18r_ok 4 Try.func10 rfl rfl rfl ?_
  repeat'
    (conv => whnf
     first
      | (exact trivial)
      | (refine And.intro (by with_reducible rfl) ?_)
      | (refine And.intro (drawI (by kernel_rfl)) ?_)
      | (refine andI ?_ ?_)
      | (refine condT (by assumption) ?_)
      | (refine condF (by assumption) ?_)
      | (refine decT (by assumption) ?_)
      | (refine decF (by assumption) ?_)
      | (refine eqT (by assumption) ?_)
      | (refine eqF (by assumption) ?_)
      | (refine neT (by assumption) ?_)
      | (refine neF (by assumption) ?_)
      | (refine cEq (fun h => ?_) (fun h => ?_))
      | (refine cNe (fun h => ?_) (fun h => ?_))
      | (refine cNot (fun h => ?_) (fun h => ?_))
      | (refine cDec (fun h => ?_) (fun h => ?_))
      | (refine condN_split (fun h => ?_) (fun h => ?_))
      | (refine Exists.intro _ (And.intro (c_refHas ⟨_, _, _, _, _⟩ _) ?_))
      | (refine Exists.intro _ (And.intro (c_refPlace _) ?_))
      | (refine Exists.intro _ (And.intro (c_halted _ _ ?_) ?_))
      | (refine Exists.intro _ (And.intro (c_refGet _ _) ?_))
      | (refine Exists.intro _ (And.intro rfl ?_))
      | (refine Or.inl (And.intro (by kernel_rfl : Nat.ble _ _ = true) ?_))
      | (refine Or.inl (And.intro Cl.lit ?_))
      | (refine Or.inr ?_)
      | (refine Exists.intro (1 : Nat) ?_)
      | (fail))
  all_goals try refine Side.mk ?_
  all_goals try dsimp only at *
  all_goals try refine eqI ?_
  all_goals try exact dPlace_in _
  all_goals try simp only [low_v, b8_w] at *
  all_goals first
    | decide
    | exact Nat.le_refl _
    | (refine rp_all ?_; rfl)
    | (refine rn_plain (rp_all ?_); rfl)
    | (refine or_all ?_; rfl)
    | (subst_vars
       unfold ansV d0
       first
         | (simp only [mayK, devK, effK, dataK, haltE, *, if_true, if_false, Int.reduceEq, ne_eq, not_false_eq_true, not_true_eq_false, Bool.false_eq_true, or_self, true_or, or_true, false_or, or_false, and_self, true_and, and_true, and_false, false_and, decide_true, decide_false, Bool.and_true, Bool.true_and, Bool.and_false, Bool.false_and, Bool.and_self]; first | done | rfl)
         | (simp [mayK, devK, effK, dataK, haltE, *]; first | done | rfl)
         | (rw [if_pos (by simp [mayK, *]), stat1 (by assumption)]; first | (rw [if_pos (by assumption)]; done) | (rw [if_neg (by assumption)]; done) | (rw [if_pos (by assumption)]; rfl) | (rw [if_neg (by assumption)]; rfl))
         | (rw [if_pos (by simp [mayK, *])]; unfold effK; simp only [if_true, if_false, Int.reduceEq]; rw [halt_of _ (by assumption)]; first | (rw [if_pos (by assumption)]; done) | (rw [if_neg (by assumption)]; done) | (rw [if_pos (by assumption)]; rfl) | (rw [if_neg (by assumption)]; rfl))
         | (simp only [bne_iff_ne, ne_eq, bne_eq_false_iff_eq, ge_iff_le] at *
            first
              | (rw [if_pos (by simp only [mayK, Int.reduceEq, if_true, if_false, decide_eq_true_eq, or_false, or_true, or_self, true_and, and_true, ne_eq]; omega)]; first | done | rfl)
              | (rw [if_neg (by simp only [mayK, Int.reduceEq, if_true, if_false, decide_eq_true_eq, or_false, or_true, or_self, true_and, and_true, ne_eq]; omega)]; first | done | rfl))
         | (rw [if_pos (by simp [mayK])]; unfold dataK; simp only [if_true, if_false, Int.reduceEq]; (first | rw [low_luns _ (by omega) (by omega)] | rw [low_luns' _ (by omega)]); try rfl)
         | (fail))
end Go.Proofs.Ytgaginflocpcfaa
