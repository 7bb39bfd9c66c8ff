/-
  What every device answers (layer 18): the document's Ask, whole.
-/
import Derived.Test.YtgaginflocpcfaaR18
namespace Go.Proofs.Ytgaginflocpcfaa
open Go
set_option linter.unusedVariables false
set_option linter.unusedSimpArgs false
set_option maxRecDepth 100000
set_option maxHeartbeats 8000000

attribute [local irreducible] askOf dGet dHas dOwn dPlace dBit
theorem c_rn0 (d : Dev) (luns halted t v i l : Int) (hn : t ≠ 128 ∧ t ≠ 129 ∧ t ≠ 130) : FnC Try.prog 10 [d.v, i64 luns, i64 halted, .agg [i64 t, i64 0, i64 v, i64 i, i64 l]] [] (ansV 0 d luns halted ⟨t, 0, v, i, l⟩) [] := by
  obtain ⟨ad, nx, cm, cf, al⟩ := d
  dsimp only [Dev.v] at *
  refine fn_vcI (N := 23) (d := 5) tabOk mixed inl18r_ok 4 Try.func10 rfl rfl rfl ?_
  repeat'
    (conv => whnf
     first
      | (exact trivial)
      | (refine And.intro (by with_reducible rfl) ?_)
      | (refine And.intro (drawI (by kernel_rfl)) ?_)
      | (refine andI ?_ ?_)
      | (refine condT (by assumption) ?_)
      | (refine condF (by assumption) ?_)
      | (refine decT (by assumption) ?_)
      | (refine decF (by assumption) ?_)
      | (refine eqT (by assumption) ?_)
      | (refine eqF (by assumption) ?_)
      | (refine neT (by assumption) ?_)
      | (refine neF (by assumption) ?_)
      | (refine condT (by omega) ?_)
      | (refine condF (by omega) ?_)
      | (refine eqT (by omega) ?_)
      | (refine eqF (by omega) ?_)
      | (refine neT (by omega) ?_)
      | (refine neF (by omega) ?_)
      | (refine cEq (fun h => ?_) (fun h => ?_))
      | (refine cNe (fun h => ?_) (fun h => ?_))
      | (refine cNot (fun h => ?_) (fun h => ?_))
      | (refine cDec (fun h => ?_) (fun h => ?_))
      | (refine condN_split (fun h => ?_) (fun h => ?_))
      | (refine Or.inl (And.intro (by kernel_rfl : Nat.ble _ _ = true) ?_))
      | (refine Or.inl (And.intro Cl.lit ?_))
      | (refine Or.inr ?_)
      | (refine Exists.intro (1 : Nat) ?_)
      | (fail))
  all_goals try refine Side.mk ?_
  all_goals try dsimp only at *
  all_goals try refine eqI ?_
  all_goals first | rfl | (exfalso; omega)
theorem c_rn1 (d : Dev) (luns halted t v i l : Int) (hn : t ≠ 2) : FnC Try.prog 10 [d.v, i64 luns, i64 halted, .agg [i64 t, i64 1, i64 v, i64 i, i64 l]] [] (ansV 0 d luns halted ⟨t, 1, v, i, l⟩) [] := by
  obtain ⟨ad, nx, cm, cf, al⟩ := d
  dsimp only [Dev.v] at *
  refine fn_vcI (N := 23) (d := 5) tabOk mixed inl18r_ok 4 Try.func10 rfl rfl rfl ?_
  repeat'
    (conv => whnf
     first
      | (exact trivial)
      | (refine And.intro (by with_reducible rfl) ?_)
      | (refine And.intro (drawI (by kernel_rfl)) ?_)
      | (refine andI ?_ ?_)
      | (refine condT (by assumption) ?_)
      | (refine condF (by assumption) ?_)
      | (refine decT (by assumption) ?_)
      | (refine decF (by assumption) ?_)
      | (refine eqT (by assumption) ?_)
      | (refine eqF (by assumption) ?_)
      | (refine neT (by assumption) ?_)
      | (refine neF (by assumption) ?_)
      | (refine condT (by omega) ?_)
      | (refine condF (by omega) ?_)
      | (refine eqT (by omega) ?_)
      | (refine eqF (by omega) ?_)
      | (refine neT (by omega) ?_)
      | (refine neF (by omega) ?_)
      | (refine cEq (fun h => ?_) (fun h => ?_))
      | (refine cNe (fun h => ?_) (fun h => ?_))
      | (refine cNot (fun h => ?_) (fun h => ?_))
      | (refine cDec (fun h => ?_) (fun h => ?_))
      | (refine condN_split (fun h => ?_) (fun h => ?_))
      | (refine Or.inl (And.intro (by kernel_rfl : Nat.ble _ _ = true) ?_))
      | (refine Or.inl (And.intro Cl.lit ?_))
      | (refine Or.inr ?_)
      | (refine Exists.intro (1 : Nat) ?_)
      | (fail))
  all_goals try refine Side.mk ?_
  all_goals try dsimp only at *
  all_goals try refine eqI ?_
  all_goals first | rfl | (exfalso; omega)
theorem c_rn3 (d : Dev) (luns halted t v i l : Int) (hn : t ≠ 2) : FnC Try.prog 10 [d.v, i64 luns, i64 halted, .agg [i64 t, i64 3, i64 v, i64 i, i64 l]] [] (ansV 0 d luns halted ⟨t, 3, v, i, l⟩) [] := by
  obtain ⟨ad, nx, cm, cf, al⟩ := d
  dsimp only [Dev.v] at *
  refine fn_vcI (N := 23) (d := 5) tabOk mixed inl18r_ok 4 Try.func10 rfl rfl rfl ?_
  repeat'
    (conv => whnf
     first
      | (exact trivial)
      | (refine And.intro (by with_reducible rfl) ?_)
      | (refine And.intro (drawI (by kernel_rfl)) ?_)
      | (refine andI ?_ ?_)
      | (refine condT (by assumption) ?_)
      | (refine condF (by assumption) ?_)
      | (refine decT (by assumption) ?_)
      | (refine decF (by assumption) ?_)
      | (refine eqT (by assumption) ?_)
      | (refine eqF (by assumption) ?_)
      | (refine neT (by assumption) ?_)
      | (refine neF (by assumption) ?_)
      | (refine condT (by omega) ?_)
      | (refine condF (by omega) ?_)
      | (refine eqT (by omega) ?_)
      | (refine eqF (by omega) ?_)
      | (refine neT (by omega) ?_)
      | (refine neF (by omega) ?_)
      | (refine cEq (fun h => ?_) (fun h => ?_))
      | (refine cNe (fun h => ?_) (fun h => ?_))
      | (refine cNot (fun h => ?_) (fun h => ?_))
      | (refine cDec (fun h => ?_) (fun h => ?_))
      | (refine condN_split (fun h => ?_) (fun h => ?_))
      | (refine Or.inl (And.intro (by kernel_rfl : Nat.ble _ _ = true) ?_))
      | (refine Or.inl (And.intro Cl.lit ?_))
      | (refine Or.inr ?_)
      | (refine Exists.intro (1 : Nat) ?_)
      | (fail))
  all_goals try refine Side.mk ?_
  all_goals try dsimp only at *
  all_goals try refine eqI ?_
  all_goals first | rfl | (exfalso; omega)
theorem c_rn5 (d : Dev) (luns halted t v i l : Int) (hn : t ≠ 0) : FnC Try.prog 10 [d.v, i64 luns, i64 halted, .agg [i64 t, i64 5, i64 v, i64 i, i64 l]] [] (ansV 0 d luns halted ⟨t, 5, v, i, l⟩) [] := by
  obtain ⟨ad, nx, cm, cf, al⟩ := d
  dsimp only [Dev.v] at *
  refine fn_vcI (N := 23) (d := 5) tabOk mixed inl18r_ok 4 Try.func10 rfl rfl rfl ?_
  repeat'
    (conv => whnf
     first
      | (exact trivial)
      | (refine And.intro (by with_reducible rfl) ?_)
      | (refine And.intro (drawI (by kernel_rfl)) ?_)
      | (refine andI ?_ ?_)
      | (refine condT (by assumption) ?_)
      | (refine condF (by assumption) ?_)
      | (refine decT (by assumption) ?_)
      | (refine decF (by assumption) ?_)
      | (refine eqT (by assumption) ?_)
      | (refine eqF (by assumption) ?_)
      | (refine neT (by assumption) ?_)
      | (refine neF (by assumption) ?_)
      | (refine condT (by omega) ?_)
      | (refine condF (by omega) ?_)
      | (refine eqT (by omega) ?_)
      | (refine eqF (by omega) ?_)
      | (refine neT (by omega) ?_)
      | (refine neF (by omega) ?_)
      | (refine cEq (fun h => ?_) (fun h => ?_))
      | (refine cNe (fun h => ?_) (fun h => ?_))
      | (refine cNot (fun h => ?_) (fun h => ?_))
      | (refine cDec (fun h => ?_) (fun h => ?_))
      | (refine condN_split (fun h => ?_) (fun h => ?_))
      | (refine Or.inl (And.intro (by kernel_rfl : Nat.ble _ _ = true) ?_))
      | (refine Or.inl (And.intro Cl.lit ?_))
      | (refine Or.inr ?_)
      | (refine Exists.intro (1 : Nat) ?_)
      | (fail))
  all_goals try refine Side.mk ?_
  all_goals try dsimp only at *
  all_goals try refine eqI ?_
  all_goals first | rfl | (exfalso; omega)
theorem c_rn6 (d : Dev) (luns halted t v i l : Int) (hn : t ≠ 128) : FnC Try.prog 10 [d.v, i64 luns, i64 halted, .agg [i64 t, i64 6, i64 v, i64 i, i64 l]] [] (ansV 0 d luns halted ⟨t, 6, v, i, l⟩) [] := by
  obtain ⟨ad, nx, cm, cf, al⟩ := d
  dsimp only [Dev.v] at *
  refine fn_vcI (N := 23) (d := 5) tabOk mixed inl18r_ok 4 Try.func10 rfl rfl rfl ?_
  repeat'
    (conv => whnf
     first
      | (exact trivial)
      | (refine And.intro (by with_reducible rfl) ?_)
      | (refine And.intro (drawI (by kernel_rfl)) ?_)
      | (refine andI ?_ ?_)
      | (refine condT (by assumption) ?_)
      | (refine condF (by assumption) ?_)
      | (refine decT (by assumption) ?_)
      | (refine decF (by assumption) ?_)
      | (refine eqT (by assumption) ?_)
      | (refine eqF (by assumption) ?_)
      | (refine neT (by assumption) ?_)
      | (refine neF (by assumption) ?_)
      | (refine condT (by omega) ?_)
      | (refine condF (by omega) ?_)
      | (refine eqT (by omega) ?_)
      | (refine eqF (by omega) ?_)
      | (refine neT (by omega) ?_)
      | (refine neF (by omega) ?_)
      | (refine cEq (fun h => ?_) (fun h => ?_))
      | (refine cNe (fun h => ?_) (fun h => ?_))
      | (refine cNot (fun h => ?_) (fun h => ?_))
      | (refine cDec (fun h => ?_) (fun h => ?_))
      | (refine condN_split (fun h => ?_) (fun h => ?_))
      | (refine Or.inl (And.intro (by kernel_rfl : Nat.ble _ _ = true) ?_))
      | (refine Or.inl (And.intro Cl.lit ?_))
      | (refine Or.inr ?_)
      | (refine Exists.intro (1 : Nat) ?_)
      | (fail))
  all_goals try refine Side.mk ?_
  all_goals try dsimp only at *
  all_goals try refine eqI ?_
  all_goals first | rfl | (exfalso; omega)
theorem c_rn8 (d : Dev) (luns halted t v i l : Int) (hn : t ≠ 128) : FnC Try.prog 10 [d.v, i64 luns, i64 halted, .agg [i64 t, i64 8, i64 v, i64 i, i64 l]] [] (ansV 0 d luns halted ⟨t, 8, v, i, l⟩) [] := by
  obtain ⟨ad, nx, cm, cf, al⟩ := d
  dsimp only [Dev.v] at *
  refine fn_vcI (N := 23) (d := 5) tabOk mixed inl18r_ok 4 Try.func10 rfl rfl rfl ?_
  repeat'
    (conv => whnf
     first
      | (exact trivial)
      | (refine And.intro (by with_reducible rfl) ?_)
      | (refine And.intro (drawI (by kernel_rfl)) ?_)
      | (refine andI ?_ ?_)
      | (refine condT (by assumption) ?_)
      | (refine condF (by assumption) ?_)
      | (refine decT (by assumption) ?_)
      | (refine decF (by assumption) ?_)
      | (refine eqT (by assumption) ?_)
      | (refine eqF (by assumption) ?_)
      | (refine neT (by assumption) ?_)
      | (refine neF (by assumption) ?_)
      | (refine condT (by omega) ?_)
      | (refine condF (by omega) ?_)
      | (refine eqT (by omega) ?_)
      | (refine eqF (by omega) ?_)
      | (refine neT (by omega) ?_)
      | (refine neF (by omega) ?_)
      | (refine cEq (fun h => ?_) (fun h => ?_))
      | (refine cNe (fun h => ?_) (fun h => ?_))
      | (refine cNot (fun h => ?_) (fun h => ?_))
      | (refine cDec (fun h => ?_) (fun h => ?_))
      | (refine condN_split (fun h => ?_) (fun h => ?_))
      | (refine Or.inl (And.intro (by kernel_rfl : Nat.ble _ _ = true) ?_))
      | (refine Or.inl (And.intro Cl.lit ?_))
      | (refine Or.inr ?_)
      | (refine Exists.intro (1 : Nat) ?_)
      | (fail))
  all_goals try refine Side.mk ?_
  all_goals try dsimp only at *
  all_goals try refine eqI ?_
  all_goals first | rfl | (exfalso; omega)
theorem c_rn9 (d : Dev) (luns halted t v i l : Int) (hn : t ≠ 0) : FnC Try.prog 10 [d.v, i64 luns, i64 halted, .agg [i64 t, i64 9, i64 v, i64 i, i64 l]] [] (ansV 0 d luns halted ⟨t, 9, v, i, l⟩) [] := by
  obtain ⟨ad, nx, cm, cf, al⟩ := d
  dsimp only [Dev.v] at *
  refine fn_vcI (N := 23) (d := 5) tabOk mixed inl18r_ok 4 Try.func10 rfl rfl rfl ?_
  repeat'
    (conv => whnf
     first
      | (exact trivial)
      | (refine And.intro (by with_reducible rfl) ?_)
      | (refine And.intro (drawI (by kernel_rfl)) ?_)
      | (refine andI ?_ ?_)
      | (refine condT (by assumption) ?_)
      | (refine condF (by assumption) ?_)
      | (refine decT (by assumption) ?_)
      | (refine decF (by assumption) ?_)
      | (refine eqT (by assumption) ?_)
      | (refine eqF (by assumption) ?_)
      | (refine neT (by assumption) ?_)
      | (refine neF (by assumption) ?_)
      | (refine condT (by omega) ?_)
      | (refine condF (by omega) ?_)
      | (refine eqT (by omega) ?_)
      | (refine eqF (by omega) ?_)
      | (refine neT (by omega) ?_)
      | (refine neF (by omega) ?_)
      | (refine cEq (fun h => ?_) (fun h => ?_))
      | (refine cNe (fun h => ?_) (fun h => ?_))
      | (refine cNot (fun h => ?_) (fun h => ?_))
      | (refine cDec (fun h => ?_) (fun h => ?_))
      | (refine condN_split (fun h => ?_) (fun h => ?_))
      | (refine Or.inl (And.intro (by kernel_rfl : Nat.ble _ _ = true) ?_))
      | (refine Or.inl (And.intro Cl.lit ?_))
      | (refine Or.inr ?_)
      | (refine Exists.intro (1 : Nat) ?_)
      | (fail))
  all_goals try refine Side.mk ?_
  all_goals try dsimp only at *
  all_goals try refine eqI ?_
  all_goals first | rfl | (exfalso; omega)
theorem c_rn10 (d : Dev) (luns halted t v i l : Int) (hn : t ≠ 129) : FnC Try.prog 10 [d.v, i64 luns, i64 halted, .agg [i64 t, i64 10, i64 v, i64 i, i64 l]] [] (ansV 0 d luns halted ⟨t, 10, v, i, l⟩) [] := by
  obtain ⟨ad, nx, cm, cf, al⟩ := d
  dsimp only [Dev.v] at *
  refine fn_vcI (N := 23) (d := 5) tabOk mixed inl18r_ok 4 Try.func10 rfl rfl rfl ?_
  repeat'
    (conv => whnf
     first
      | (exact trivial)
      | (refine And.intro (by with_reducible rfl) ?_)
      | (refine And.intro (drawI (by kernel_rfl)) ?_)
      | (refine andI ?_ ?_)
      | (refine condT (by assumption) ?_)
      | (refine condF (by assumption) ?_)
      | (refine decT (by assumption) ?_)
      | (refine decF (by assumption) ?_)
      | (refine eqT (by assumption) ?_)
      | (refine eqF (by assumption) ?_)
      | (refine neT (by assumption) ?_)
      | (refine neF (by assumption) ?_)
      | (refine condT (by omega) ?_)
      | (refine condF (by omega) ?_)
      | (refine eqT (by omega) ?_)
      | (refine eqF (by omega) ?_)
      | (refine neT (by omega) ?_)
      | (refine neF (by omega) ?_)
      | (refine cEq (fun h => ?_) (fun h => ?_))
      | (refine cNe (fun h => ?_) (fun h => ?_))
      | (refine cNot (fun h => ?_) (fun h => ?_))
      | (refine cDec (fun h => ?_) (fun h => ?_))
      | (refine condN_split (fun h => ?_) (fun h => ?_))
      | (refine Or.inl (And.intro (by kernel_rfl : Nat.ble _ _ = true) ?_))
      | (refine Or.inl (And.intro Cl.lit ?_))
      | (refine Or.inr ?_)
      | (refine Exists.intro (1 : Nat) ?_)
      | (fail))
  all_goals try refine Side.mk ?_
  all_goals try dsimp only at *
  all_goals try refine eqI ?_
  all_goals first | rfl | (exfalso; omega)
theorem c_rn11 (d : Dev) (luns halted t v i l : Int) (hn : t ≠ 1) : FnC Try.prog 10 [d.v, i64 luns, i64 halted, .agg [i64 t, i64 11, i64 v, i64 i, i64 l]] [] (ansV 0 d luns halted ⟨t, 11, v, i, l⟩) [] := by
  obtain ⟨ad, nx, cm, cf, al⟩ := d
  dsimp only [Dev.v] at *
  refine fn_vcI (N := 23) (d := 5) tabOk mixed inl18r_ok 4 Try.func10 rfl rfl rfl ?_
  repeat'
    (conv => whnf
     first
      | (exact trivial)
      | (refine And.intro (by with_reducible rfl) ?_)
      | (refine And.intro (drawI (by kernel_rfl)) ?_)
      | (refine andI ?_ ?_)
      | (refine condT (by assumption) ?_)
      | (refine condF (by assumption) ?_)
      | (refine decT (by assumption) ?_)
      | (refine decF (by assumption) ?_)
      | (refine eqT (by assumption) ?_)
      | (refine eqF (by assumption) ?_)
      | (refine neT (by assumption) ?_)
      | (refine neF (by assumption) ?_)
      | (refine condT (by omega) ?_)
      | (refine condF (by omega) ?_)
      | (refine eqT (by omega) ?_)
      | (refine eqF (by omega) ?_)
      | (refine neT (by omega) ?_)
      | (refine neF (by omega) ?_)
      | (refine cEq (fun h => ?_) (fun h => ?_))
      | (refine cNe (fun h => ?_) (fun h => ?_))
      | (refine cNot (fun h => ?_) (fun h => ?_))
      | (refine cDec (fun h => ?_) (fun h => ?_))
      | (refine condN_split (fun h => ?_) (fun h => ?_))
      | (refine Or.inl (And.intro (by kernel_rfl : Nat.ble _ _ = true) ?_))
      | (refine Or.inl (And.intro Cl.lit ?_))
      | (refine Or.inr ?_)
      | (refine Exists.intro (1 : Nat) ?_)
      | (fail))
  all_goals try refine Side.mk ?_
  all_goals try dsimp only at *
  all_goals try refine eqI ?_
  all_goals first | rfl | (exfalso; omega)
theorem c_rn254 (d : Dev) (luns halted t v i l : Int) (hn : t ≠ 161) : FnC Try.prog 10 [d.v, i64 luns, i64 halted, .agg [i64 t, i64 254, i64 v, i64 i, i64 l]] [] (ansV 0 d luns halted ⟨t, 254, v, i, l⟩) [] := by
  obtain ⟨ad, nx, cm, cf, al⟩ := d
  dsimp only [Dev.v] at *
  refine fn_vcI (N := 23) (d := 5) tabOk mixed inl18r_ok 4 Try.func10 rfl rfl rfl ?_
  repeat'
    (conv => whnf
     first
      | (exact trivial)
      | (refine And.intro (by with_reducible rfl) ?_)
      | (refine And.intro (drawI (by kernel_rfl)) ?_)
      | (refine andI ?_ ?_)
      | (refine condT (by assumption) ?_)
      | (refine condF (by assumption) ?_)
      | (refine decT (by assumption) ?_)
      | (refine decF (by assumption) ?_)
      | (refine eqT (by assumption) ?_)
      | (refine eqF (by assumption) ?_)
      | (refine neT (by assumption) ?_)
      | (refine neF (by assumption) ?_)
      | (refine condT (by omega) ?_)
      | (refine condF (by omega) ?_)
      | (refine eqT (by omega) ?_)
      | (refine eqF (by omega) ?_)
      | (refine neT (by omega) ?_)
      | (refine neF (by omega) ?_)
      | (refine cEq (fun h => ?_) (fun h => ?_))
      | (refine cNe (fun h => ?_) (fun h => ?_))
      | (refine cNot (fun h => ?_) (fun h => ?_))
      | (refine cDec (fun h => ?_) (fun h => ?_))
      | (refine condN_split (fun h => ?_) (fun h => ?_))
      | (refine Or.inl (And.intro (by kernel_rfl : Nat.ble _ _ = true) ?_))
      | (refine Or.inl (And.intro Cl.lit ?_))
      | (refine Or.inr ?_)
      | (refine Exists.intro (1 : Nat) ?_)
      | (fail))
  all_goals try refine Side.mk ?_
  all_goals try dsimp only at *
  all_goals try refine eqI ?_
  all_goals first | rfl | (exfalso; omega)
theorem c_rn255 (d : Dev) (luns halted t v i l : Int) (hn : t ≠ 33) : FnC Try.prog 10 [d.v, i64 luns, i64 halted, .agg [i64 t, i64 255, i64 v, i64 i, i64 l]] [] (ansV 0 d luns halted ⟨t, 255, v, i, l⟩) [] := by
  obtain ⟨ad, nx, cm, cf, al⟩ := d
  dsimp only [Dev.v] at *
  refine fn_vcI (N := 23) (d := 5) tabOk mixed inl18r_ok 4 Try.func10 rfl rfl rfl ?_
  repeat'
    (conv => whnf
     first
      | (exact trivial)
      | (refine And.intro (by with_reducible rfl) ?_)
      | (refine And.intro (drawI (by kernel_rfl)) ?_)
      | (refine andI ?_ ?_)
      | (refine condT (by assumption) ?_)
      | (refine condF (by assumption) ?_)
      | (refine decT (by assumption) ?_)
      | (refine decF (by assumption) ?_)
      | (refine eqT (by assumption) ?_)
      | (refine eqF (by assumption) ?_)
      | (refine neT (by assumption) ?_)
      | (refine neF (by assumption) ?_)
      | (refine condT (by omega) ?_)
      | (refine condF (by omega) ?_)
      | (refine eqT (by omega) ?_)
      | (refine eqF (by omega) ?_)
      | (refine neT (by omega) ?_)
      | (refine neF (by omega) ?_)
      | (refine cEq (fun h => ?_) (fun h => ?_))
      | (refine cNe (fun h => ?_) (fun h => ?_))
      | (refine cNot (fun h => ?_) (fun h => ?_))
      | (refine cDec (fun h => ?_) (fun h => ?_))
      | (refine condN_split (fun h => ?_) (fun h => ?_))
      | (refine Or.inl (And.intro (by kernel_rfl : Nat.ble _ _ = true) ?_))
      | (refine Or.inl (And.intro Cl.lit ?_))
      | (refine Or.inr ?_)
      | (refine Exists.intro (1 : Nat) ?_)
      | (fail))
  all_goals try refine Side.mk ?_
  all_goals try dsimp only at *
  all_goals try refine eqI ?_
  all_goals first | rfl | (exfalso; omega)
theorem c_rn (d : Dev) (luns halted t c v i l : Int) (hn : c ≠ 0 ∧ c ≠ 1 ∧ c ≠ 3 ∧ c ≠ 5 ∧ c ≠ 6 ∧ c ≠ 8 ∧ c ≠ 9 ∧ c ≠ 10 ∧ c ≠ 11 ∧ c ≠ 254 ∧ c ≠ 255) : FnC Try.prog 10 [d.v, i64 luns, i64 halted, .agg [i64 t, i64 c, i64 v, i64 i, i64 l]] [] (ansV 0 d luns halted ⟨t, c, v, i, l⟩) [] := by
  obtain ⟨ad, nx, cm, cf, al⟩ := d
  dsimp only [Dev.v] at *
  refine fn_vcI (N := 23) (d := 5) tabOk mixed inl18r_ok 4 Try.func10 rfl rfl rfl ?_
  repeat'
    (conv => whnf
     first
      | (exact trivial)
      | (refine And.intro (by with_reducible rfl) ?_)
      | (refine And.intro (drawI (by kernel_rfl)) ?_)
      | (refine andI ?_ ?_)
      | (refine condT (by assumption) ?_)
      | (refine condF (by assumption) ?_)
      | (refine decT (by assumption) ?_)
      | (refine decF (by assumption) ?_)
      | (refine eqT (by assumption) ?_)
      | (refine eqF (by assumption) ?_)
      | (refine neT (by assumption) ?_)
      | (refine neF (by assumption) ?_)
      | (refine condT (by omega) ?_)
      | (refine condF (by omega) ?_)
      | (refine eqT (by omega) ?_)
      | (refine eqF (by omega) ?_)
      | (refine neT (by omega) ?_)
      | (refine neF (by omega) ?_)
      | (refine cEq (fun h => ?_) (fun h => ?_))
      | (refine cNe (fun h => ?_) (fun h => ?_))
      | (refine cNot (fun h => ?_) (fun h => ?_))
      | (refine cDec (fun h => ?_) (fun h => ?_))
      | (refine condN_split (fun h => ?_) (fun h => ?_))
      | (refine Or.inl (And.intro (by kernel_rfl : Nat.ble _ _ = true) ?_))
      | (refine Or.inl (And.intro Cl.lit ?_))
      | (refine Or.inr ?_)
      | (refine Exists.intro (1 : Nat) ?_)
      | (fail))
  all_goals try refine Side.mk ?_
  all_goals try dsimp only at *
  all_goals try refine eqI ?_
  all_goals first | rfl | (exfalso; omega)
theorem c_raNone (d : Dev) (luns halted t c v i l : Int) (h : ¬ anyAsk t c) : FnC Try.prog 10 [d.v, i64 luns, i64 halted, .agg [i64 t, i64 c, i64 v, i64 i, i64 l]] [] (ansV 0 d luns halted ⟨t, c, v, i, l⟩) [] := by
  unfold anyAsk at h
  by_cases h0 : c = 0
  · subst h0; exact c_rn0 d luns halted t v i l (by omega)
  by_cases h1 : c = 1
  · subst h1; exact c_rn1 d luns halted t v i l (by omega)
  by_cases h3 : c = 3
  · subst h3; exact c_rn3 d luns halted t v i l (by omega)
  by_cases h5 : c = 5
  · subst h5; exact c_rn5 d luns halted t v i l (by omega)
  by_cases h6 : c = 6
  · subst h6; exact c_rn6 d luns halted t v i l (by omega)
  by_cases h8 : c = 8
  · subst h8; exact c_rn8 d luns halted t v i l (by omega)
  by_cases h9 : c = 9
  · subst h9; exact c_rn9 d luns halted t v i l (by omega)
  by_cases h10 : c = 10
  · subst h10; exact c_rn10 d luns halted t v i l (by omega)
  by_cases h11 : c = 11
  · subst h11; exact c_rn11 d luns halted t v i l (by omega)
  by_cases h254 : c = 254
  · subst h254; exact c_rn254 d luns halted t v i l (by omega)
  by_cases h255 : c = 255
  · subst h255; exact c_rn255 d luns halted t v i l (by omega)
  exact c_rn d luns halted t c v i l ⟨h0, h1, h3, h5, h6, h8, h9, h10, h11, h254, h255⟩
theorem c_refAsk (d : Dev) (luns halted : Int) (r : Req) (hv : Side (InI r.val)) : FnC Try.prog 10 [d.v, i64 luns, i64 halted, r.v] [] (.tup [(askD d r).v, (askE d r).v, bsV (askB d luns halted r), bV (mayOk (d0 d) r)]) [] := by
  have hv := hv.h
  rw [ans_of]
  obtain ⟨t, c, v, i, l⟩ := r
  dsimp only [Req.v] at *
  by_cases h : anyAsk t c
  · rcases h with ⟨rfl, rfl⟩ | ⟨rfl, rfl⟩ | ⟨rfl, rfl⟩ | ⟨rfl, rfl⟩ | ⟨rfl, rfl⟩ | ⟨rfl, rfl⟩ | ⟨rfl, rfl⟩ | ⟨rfl, rfl⟩ | ⟨rfl, rfl⟩ | ⟨rfl, rfl⟩ | ⟨rfl, rfl⟩ | ⟨rfl, rfl⟩ | ⟨rfl, rfl⟩
    · rw [show askOf 128 0 = 1 from by decide +kernel]; exact c_ra128_0 d luns halted v i l
    · rw [show askOf 129 0 = 1 from by decide +kernel]; exact c_ra129_0 d luns halted v i l
    · rw [show askOf 130 0 = 1 from by decide +kernel]; exact c_ra130_0 d luns halted v i l
    · rw [show askOf 2 1 = 2 from by decide +kernel]; exact c_ra2_1 d luns halted v i l
    · rw [show askOf 2 3 = 3 from by decide +kernel]; exact c_ra2_3 d luns halted v i l
    · rw [show askOf 0 5 = 4 from by decide +kernel]; exact c_ra0_5 d luns halted v i l
    · rw [show askOf 128 6 = 5 from by decide +kernel]; exact c_ra128_6 d luns halted v i l hv
    · rw [show askOf 128 8 = 6 from by decide +kernel]; exact c_ra128_8 d luns halted v i l
    · rw [show askOf 0 9 = 7 from by decide +kernel]; exact c_ra0_9 d luns halted v i l
    · rw [show askOf 129 10 = 8 from by decide +kernel]; exact c_ra129_10 d luns halted v i l
    · rw [show askOf 1 11 = 9 from by decide +kernel]; exact c_ra1_11 d luns halted v i l
    · rw [show askOf 161 254 = 10 from by decide +kernel]; exact c_ra161_254 d luns halted v i l
    · rw [show askOf 33 255 = 11 from by decide +kernel]; exact c_ra33_255 d luns halted v i l
  · rw [askOf_none h]; exact c_raNone d luns halted t c v i l h
end Go.Proofs.Ytgaginflocpcfaa
