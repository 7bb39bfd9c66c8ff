/-
  Jobs (layer 10): units copied, and the laws.
-/
import Derived.Test.YtbieiehfohldjaamJc
import Derived.Test.YtbieiehfohldjaamJf
import Derived.Test.YtbieiehfohldjaamJm
namespace Go.Proofs.Ytbieiehfohldjaa
open Go
set_option linter.unusedVariables false
set_option linter.unusedSimpArgs false
set_option maxRecDepth 100000
set_option maxHeartbeats 8000000

noncomputable def inlJl : List IRow := [(27, Try.f27, 8, 4, 0), (44, Try.f44, 11, 4, 0), (42, Try.f42, 6, 3, 0), (26, Try.f26, 13, 4, 0), (8, Try.f8, 28, 5, 0), (25, Try.f25, 11, 4, 0)]
theorem inlJl_ok : IOk Try.prog (inlTab inlJl) := inl_ok (by
  unfold inlJl
  refine And.intro ⟨rfl, rfl, rfl, .inl rfl⟩ ?_
  refine And.intro ⟨rfl, rfl, rfl, .inl rfl⟩ ?_
  refine And.intro ⟨rfl, rfl, rfl, .inl rfl⟩ ?_
  refine And.intro ⟨rfl, rfl, rfl, .inl rfl⟩ ?_
  refine And.intro ⟨rfl, rfl, rfl, .inl rfl⟩ ?_
  refine And.intro ⟨rfl, rfl, rfl, .inl rfl⟩ ?_
  exact trivial)
theorem c_uCopy (u : Unt) (h1 : Side (u.slot.med.blocks.length ≤ 2 ^ 38)) (h2 : Side (u.slot.med.dirty.length ≤ 2 ^ 38)) (h3 : Side (u.atts.length ≤ 2 ^ 38)) : FnC Try.prog 9 [u.v] [] u.v [] := by
  have h1 := h1.h
  have h2 := h2.h
  have h3 := h3.h
  obtain ⟨⟨⟨bs, ds⟩, pr, pt, la⟩, ca, atts, ls⟩ := u
  dsimp only [Unt.v, Slt.v, Med.v, Sns.v] at *
  refine fn_vcI (N := 13) (d := 4) tabOk mixed inlJl_ok 6 Try.func9 rfl rfl rfl ?_
  repeat'
    (conv => whnf
     first
      | (exact trivial)
      | (refine And.intro (by with_reducible rfl) ?_)
      | (refine And.intro (drawI (by kernel_rfl)) ?_)
      | (refine andI ?_ ?_)
      | (refine condT (by assumption) ?_)
      | (refine condF (by assumption) ?_)
      | (refine decT (by assumption) ?_)
      | (refine decF (by assumption) ?_)
      | (refine eqT (by assumption) ?_)
      | (refine eqF (by assumption) ?_)
      | (refine neT (by assumption) ?_)
      | (refine neF (by assumption) ?_)
      | (refine cEq (fun h => ?_) (fun h => ?_))
      | (refine cNe (fun h => ?_) (fun h => ?_))
      | (refine cNot (fun h => ?_) (fun h => ?_))
      | (refine cDec (fun h => ?_) (fun h => ?_))
      | (refine condN_split (fun h => ?_) (fun h => ?_))
      | (refine Exists.intro _ (And.intro rfl ?_))
      | (refine Or.inl (And.intro (by rfl : Nat.ble _ _ = true) ?_))
      | (refine Or.inl (And.intro Cl.lit ?_))
      | (refine Or.inr ?_)
      | (refine Exists.intro (1 : Nat) ?_)
      | (refine Exists.intro _ (And.intro rfl ?_))
      | (fail))
  all_goals try refine Side.mk ?_
  all_goals try dsimp only
  all_goals try refine eqI ?_
  all_goals try simp only [List.nil_append, List.drop_zero, Nat.zero_add, List.length_map]
  all_goals try simp only [List.length_map, Int.toNat_natCast, Nat.zero_add, List.drop_zero, decide_eq_true_eq, decide_eq_false_iff_not] at *
  all_goals try first
    | assumption
    | omega
    | exact Nat.le_refl _
    | (rw [rp_Blk]; trivial)
    | (rw [rp_Dty]; trivial)
    | (rw [rp_Sns]; trivial)
    | (rw [or_Blk]; trivial)
    | (rw [or_Dty]; trivial)
    | (rw [or_Sns]; trivial)
    | (refine rn_plain ?_; rw [rp_Blk]; trivial)
    | (refine rn_plain ?_; rw [rp_Dty]; trivial)
    | (refine rn_plain ?_; rw [rp_Sns]; trivial)
    | (refine or_all ?_; rfl)
    | (refine rp_all ?_; rfl)
    | (refine rn_plain (rp_all ?_); rfl)
  all_goals first
    | rfl
    | exact List.length_nil.symm
    | (simp only [List.take_of_length_le (l := List.map Blk.row bs) (by rw [List.length_map]; exact Nat.le_refl _), List.take_of_length_le (l := List.map Dty.row ds) (by rw [List.length_map]; exact Nat.le_refl _), List.take_of_length_le (l := List.map Sns.row atts) (by rw [List.length_map]; exact Nat.le_refl _)]; done)
theorem right_congr {j k : Job} (h1 : j.cmd = k.cmd) (h2 : j.len = k.len) (h3 : 0 ≤ k.took ∧ k.took ≤ k.len) (h4 : (k.rest.length : Int) = if jSel k.cmd.op = true then k.took else k.took % 64) (h : jRight j = true) : jRight k = true := by
  unfold jRight at *
  simp only [Bool.and_eq_true, decide_eq_true_eq] at *
  rw [h1, h2] at h
  exact ⟨h.1, ⟨h.2.1.1, h3⟩, h4⟩
theorem take_right (u : Unt) (j : Job) (b : BS) : jRight (jTake u j b).2 = jRight j := by
  cases hr : jRight j with
  | false =>
    unfold jTake
    rw [if_pos hr]
    exact hr
  | true =>
    obtain ⟨r1, r2, r3, r4, r5, r6⟩ := right_facts hr
    have hl : ((jRest j b).length : Int) = j.rest.length + min (b.length : Int) (j.len - j.took) := by
      unfold jRest
      rw [List.length_append, List.length_take]
      omega
    unfold jTake
    rw [if_neg (by rw [hr]; decide)]
    split
    · rename_i hs
      refine right_congr (j := j) rfl rfl ?_ ?_ hr
      · dsimp only; unfold jTook; omega
      · dsimp only; rw [if_pos hs, hl, r6 hs]; unfold jTook; omega
    · rename_i hs
      rw [Bool.not_eq_true] at hs
      refine right_congr (j := j) rfl rfl ?_ ?_ hr
      · dsimp only; unfold jTook; omega
      · dsimp only
        rw [if_neg (by rw [hs]; decide), List.length_drop]
        have := r5 hs
        unfold jTook
        omega
end Go.Proofs.Ytbieiehfohldjaa
