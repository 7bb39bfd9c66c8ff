/-
  Descriptors (layer 14): the configuration's endpoints.
-/
import Derived.Test.YtgkcdahnmkbldaaE14
namespace Go.Proofs.Ytgkcdahnmkbldaa
open Go
set_option linter.unusedVariables false
set_option linter.unusedSimpArgs false
set_option maxRecDepth 100000
set_option maxHeartbeats 2000000

def cnt (w : Int) : Nat → Int
  | 0 => 0
  | n + 1 => cnt w n + if dUses w n then 1 else 0
theorem cnt_bnd (w : Int) : ∀ n : Nat, 0 ≤ cnt w n ∧ cnt w n ≤ n
  | 0 => ⟨Int.le_refl _, Int.le_refl _⟩
  | n + 1 => by
    have := cnt_bnd w n
    simp only [cnt]
    split <;> omega
theorem cnt_yes {w : Int} {n : Nat} (h : dUses w n = true) : cnt w (n + 1) = cnt w n + 1 := by simp only [cnt]; rw [if_pos h]
theorem cnt_no {w : Int} {n : Nat} (h : dUses w n = false) : cnt w (n + 1) = cnt w n := by simp only [cnt]; rw [if_neg (by rw [h]; simp), Int.add_zero]
theorem c_get20 : FnC Try.prog 8 [i64 2, i64 0] [] (.tup [bsV dWhole, bV true]) [] := c_get 2 0
def dPw : List BS := [[9, 2, 85, 0, 1, 1, 0, 0x80, 0x32], [9, 4, 0, 0, 2, 8, 6, 0x50, 0], [7, 5, 0x81, 2, 64, 0, 0], [7, 5, 2, 2, 64, 0, 0], [9, 4, 0, 1, 4, 8, 6, 0x62, 0], [7, 5, 4, 2, 64, 0, 0], [4, 36, 1, 0], [7, 5, 0x83, 2, 64, 0, 0], [4, 36, 2, 0], [7, 5, 0x81, 2, 64, 0, 0], [4, 36, 3, 0], [7, 5, 2, 2, 64, 0, 0], [4, 36, 4, 0]]
theorem dPw_eq : dParts dWhole = (dPw, true) := rfl
theorem c_partsW : FnC Try.prog 12 [bsV dWhole] [] (.tup [.sl 1 [[bsV [9, 2, 85, 0, 1, 1, 0, 0x80, 0x32]], [bsV [9, 4, 0, 0, 2, 8, 6, 0x50, 0]], [bsV [7, 5, 0x81, 2, 64, 0, 0]], [bsV [7, 5, 2, 2, 64, 0, 0]], [bsV [9, 4, 0, 1, 4, 8, 6, 0x62, 0]], [bsV [7, 5, 4, 2, 64, 0, 0]], [bsV [4, 36, 1, 0]], [bsV [7, 5, 0x83, 2, 64, 0, 0]], [bsV [4, 36, 2, 0]], [bsV [7, 5, 0x81, 2, 64, 0, 0]], [bsV [4, 36, 3, 0]], [bsV [7, 5, 2, 2, 64, 0, 0]], [bsV [4, 36, 4, 0]]], bV true]) [] := by
  have h := c_parts dWhole ⟨by decide⟩
  rw [dPw_eq] at h
  exact h
theorem says_of (w z : Int) (hz : IntKind.i64.wrap (z.tmod 2) = w) (hw : w = 0 ∨ w = 1) : FnC Try.prog 5 [.lit (.int .u8 z)] [] (bV true) [] := by
  rcases hw with rfl | rfl
  all_goals refine fn_vcI (N := 159) (d := 8) tabOk mixed inlP_ok 2 Try.func5 rfl rfl rfl ?_
  repeat'
    (conv => whnf
     first
      | (exact trivial)
      | (refine And.intro (by with_reducible rfl) ?_)
      | (refine And.intro (drawI (by kernel_rfl)) ?_)
      | (refine andI ?_ ?_)
      | (refine condT (by assumption) ?_)
      | (refine condF (by assumption) ?_)
      | (refine decT (by assumption) ?_)
      | (refine decF (by assumption) ?_)
      | (refine eqT (by assumption) ?_)
      | (refine eqF (by assumption) ?_)
      | (refine neT (by assumption) ?_)
      | (refine neF (by assumption) ?_)
      | (refine condT (by decide) ?_)
      | (refine condF (by decide) ?_)
      | (refine cEq (fun h => ?_) (fun h => ?_))
      | (refine cNe (fun h => ?_) (fun h => ?_))
      | (refine cNot (fun h => ?_) (fun h => ?_))
      | (refine cDec (fun h => ?_) (fun h => ?_))
      | (refine condN_split (fun h => ?_) (fun h => ?_))
      | (refine Exists.intro _ (And.intro (c_alive14) ?_))
      | (refine Exists.intro _ (And.intro (c_get20) ?_))
      | (refine Exists.intro _ (And.intro (c_partsW) ?_))
      | (refine Exists.intro _ (And.intro rfl ?_))
      | (refine Or.inl (And.intro Cl.lit ?_))
      | (refine Or.inr ?_)
      | (refine Exists.intro 1 ?_))
  all_goals try refine Side.mk ?_
  all_goals try dsimp only at *
  all_goals try refine eqI ?_
  all_goals try decide
  all_goals conv => whnf
  all_goals simp only [hz]
  all_goals refine loop_unr tabOk (ceN_sound tabOk mixed inlP_ok 2) mixed 15 ?_
  repeat'
    (conv => whnf
     first
      | (exact trivial)
      | (refine And.intro (by with_reducible rfl) ?_)
      | (refine And.intro (drawI (by kernel_rfl)) ?_)
      | (refine andI ?_ ?_)
      | (refine condT (by assumption) ?_)
      | (refine condF (by assumption) ?_)
      | (refine decT (by assumption) ?_)
      | (refine decF (by assumption) ?_)
      | (refine eqT (by assumption) ?_)
      | (refine eqF (by assumption) ?_)
      | (refine neT (by assumption) ?_)
      | (refine neF (by assumption) ?_)
      | (refine condT (by decide) ?_)
      | (refine condF (by decide) ?_)
      | (refine cEq (fun h => ?_) (fun h => ?_))
      | (refine cNe (fun h => ?_) (fun h => ?_))
      | (refine cNot (fun h => ?_) (fun h => ?_))
      | (refine cDec (fun h => ?_) (fun h => ?_))
      | (refine condN_split (fun h => ?_) (fun h => ?_))
      | (refine Exists.intro _ (And.intro rfl ?_))
      | (refine Exists.intro _ (And.intro (c_uses _ _) ?_))
      | (refine Or.inl (And.intro Cl.lit ?_))
      | (refine Or.inr ?_)
      | (refine Exists.intro 1 ?_))
  all_goals try refine Side.mk ?_
  all_goals try dsimp only at *
  all_goals try refine eqI ?_
  all_goals try decide
  all_goals conv => whnf
  · refine loop_w tabOk (ceN_sound tabOk mixed inlP_ok 2) mixed 135 (X := Nat) 0 (fun k => [(13, i64 (k : Nat)), (12, i64 (cnt 0 k))]) (fun _ => []) 0 (fun k => k ≤ 256) (fun k => 256 - k) (Nat.zero_le _) ?_ ?_
    · repeat'
        (conv => whnf
         first
          | (exact trivial)
          | (refine And.intro (by with_reducible rfl) ?_)
          | (refine And.intro (drawI (by kernel_rfl)) ?_)
          | (refine andI ?_ ?_)
          | (refine condT (by assumption) ?_)
          | (refine condF (by assumption) ?_)
          | (refine decT (by assumption) ?_)
          | (refine decF (by assumption) ?_)
          | (refine eqT (by assumption) ?_)
          | (refine eqF (by assumption) ?_)
          | (refine neT (by assumption) ?_)
          | (refine neF (by assumption) ?_)
          | (refine cEq (fun h => ?_) (fun h => ?_))
          | (refine cNe (fun h => ?_) (fun h => ?_))
          | (refine cNot (fun h => ?_) (fun h => ?_))
          | (refine cDec (fun h => ?_) (fun h => ?_))
          | (refine condN_split (fun h => ?_) (fun h => ?_))
          | (refine Or.inl (And.intro Cl.lit ?_))
          | (refine Or.inr ?_)
          | (refine Exists.intro 1 ?_))
      all_goals try refine Side.mk ?_
      all_goals try dsimp only at *
      all_goals try refine eqI ?_
      all_goals rfl
    · rintro k h1
      have hb := cnt_bnd 0 k
      repeat'
        (conv => whnf
         first
          | (exact trivial)
          | (refine And.intro (by with_reducible rfl) ?_)
          | (refine And.intro (drawI (by kernel_rfl)) ?_)
          | (refine andI ?_ ?_)
          | (refine condT (by assumption) ?_)
          | (refine condF (by assumption) ?_)
          | (refine decT (by assumption) ?_)
          | (refine decF (by assumption) ?_)
          | (refine eqT (by assumption) ?_)
          | (refine eqF (by assumption) ?_)
          | (refine neT (by assumption) ?_)
          | (refine neF (by assumption) ?_)
          | (refine condT (by decide) ?_)
          | (refine condF (by decide) ?_)
          | (refine cEq (fun h => ?_) (fun h => ?_))
          | (refine cNe (fun h => ?_) (fun h => ?_))
          | (refine cNot (fun h => ?_) (fun h => ?_))
          | (refine cDec (fun h => ?_) (fun h => ?_))
          | (refine condN_split (fun h => ?_) (fun h => ?_))
          | (refine Exists.intro _ (And.intro (c_uses _ _) ?_))
          | (refine Exists.intro (k + 1) (andI ?_ (andI ?_ ?_)))
          | (refine Or.inl (And.intro Cl.lit ?_))
          | (refine Or.inr ?_)
          | (refine Exists.intro 1 ?_))
      all_goals try refine Side.mk ?_
      all_goals try dsimp only at *
      all_goals try refine eqI ?_
      all_goals first
        | omega
        | (rw [wrap64 (by omega) (by omega)]; rfl)
        | (rw [wrap64 (by omega) (by omega), cnt_yes (decide_eq_true h)]; done)
        | (rw [cnt_no (decide_eq_false h)]; done)
        | (obtain rfl : k = 256 := by omega
           have hk : cnt 0 256 = 2 := by decide +kernel
           first | rfl | (rw [hk]; first | rfl | decide) | (rw [hk] at h; first | exact absurd rfl h | exact absurd (by decide) h | (exfalso; revert h; decide)))
  · refine loop_w tabOk (ceN_sound tabOk mixed inlP_ok 2) mixed 135 (X := Nat) 0 (fun k => [(13, i64 (k : Nat)), (12, i64 (cnt 1 k))]) (fun _ => []) 0 (fun k => k ≤ 256) (fun k => 256 - k) (Nat.zero_le _) ?_ ?_
    · repeat'
        (conv => whnf
         first
          | (exact trivial)
          | (refine And.intro (by with_reducible rfl) ?_)
          | (refine And.intro (drawI (by kernel_rfl)) ?_)
          | (refine andI ?_ ?_)
          | (refine condT (by assumption) ?_)
          | (refine condF (by assumption) ?_)
          | (refine decT (by assumption) ?_)
          | (refine decF (by assumption) ?_)
          | (refine eqT (by assumption) ?_)
          | (refine eqF (by assumption) ?_)
          | (refine neT (by assumption) ?_)
          | (refine neF (by assumption) ?_)
          | (refine cEq (fun h => ?_) (fun h => ?_))
          | (refine cNe (fun h => ?_) (fun h => ?_))
          | (refine cNot (fun h => ?_) (fun h => ?_))
          | (refine cDec (fun h => ?_) (fun h => ?_))
          | (refine condN_split (fun h => ?_) (fun h => ?_))
          | (refine Or.inl (And.intro Cl.lit ?_))
          | (refine Or.inr ?_)
          | (refine Exists.intro 1 ?_))
      all_goals try refine Side.mk ?_
      all_goals try dsimp only at *
      all_goals try refine eqI ?_
      all_goals rfl
    · rintro k h1
      have hb := cnt_bnd 1 k
      repeat'
        (conv => whnf
         first
          | (exact trivial)
          | (refine And.intro (by with_reducible rfl) ?_)
          | (refine And.intro (drawI (by kernel_rfl)) ?_)
          | (refine andI ?_ ?_)
          | (refine condT (by assumption) ?_)
          | (refine condF (by assumption) ?_)
          | (refine decT (by assumption) ?_)
          | (refine decF (by assumption) ?_)
          | (refine eqT (by assumption) ?_)
          | (refine eqF (by assumption) ?_)
          | (refine neT (by assumption) ?_)
          | (refine neF (by assumption) ?_)
          | (refine condT (by decide) ?_)
          | (refine condF (by decide) ?_)
          | (refine cEq (fun h => ?_) (fun h => ?_))
          | (refine cNe (fun h => ?_) (fun h => ?_))
          | (refine cNot (fun h => ?_) (fun h => ?_))
          | (refine cDec (fun h => ?_) (fun h => ?_))
          | (refine condN_split (fun h => ?_) (fun h => ?_))
          | (refine Exists.intro _ (And.intro (c_uses _ _) ?_))
          | (refine Exists.intro (k + 1) (andI ?_ (andI ?_ ?_)))
          | (refine Or.inl (And.intro Cl.lit ?_))
          | (refine Or.inr ?_)
          | (refine Exists.intro 1 ?_))
      all_goals try refine Side.mk ?_
      all_goals try dsimp only at *
      all_goals try refine eqI ?_
      all_goals first
        | omega
        | (rw [wrap64 (by omega) (by omega)]; rfl)
        | (rw [wrap64 (by omega) (by omega), cnt_yes (decide_eq_true h)]; done)
        | (rw [cnt_no (decide_eq_false h)]; done)
        | (obtain rfl : k = 256 := by omega
           have hk : cnt 1 256 = 4 := by decide +kernel
           first | rfl | (rw [hk]; first | rfl | decide) | (rw [hk] at h; first | exact absurd rfl h | exact absurd (by decide) h | (exfalso; revert h; decide)))
theorem c_descSays (z : Int) (hz : 0 ≤ z ∧ z ≤ 255) : FnC Try.prog 5 [.lit (.int .u8 z)] [] (bV true) [] := by
  have h0 : z.tmod 2 = 0 ∨ z.tmod 2 = 1 := by
    rw [Int.tmod_eq_emod_of_nonneg hz.1]
    omega
  rcases h0 with h | h
  · exact says_of 0 z (by rw [h]; rfl) (.inl rfl)
  · exact says_of 1 z (by rw [h]; rfl) (.inr rfl)
end Go.Proofs.Ytgkcdahnmkbldaa
