/-
  What every device answers (layer 18): what is told, addresses.
-/
import Derived.Test.YtgaginflocpcfaaV18
namespace Go.Proofs.Ytgaginflocpcfaa
open Go
set_option linter.unusedVariables false
set_option linter.unusedSimpArgs false
set_option maxRecDepth 100000
set_option maxHeartbeats 8000000

theorem desc_ok {d : Dev} {k i x : Int} (hk : 0 ≤ k ∧ k ≤ 255) (hi : 0 ≤ i ∧ i ≤ 255) (hx : Side (InI x)) (h : x = dLng k i) : FnC Try.prog 9 [d.v, i64 1, i64 0, .agg [i64 128, i64 6, i64 (256 * k + i), i64 x, i64 255]] [] (.tup [Dev.v ⟨d.addr, 0, false, d.conf, d.alt⟩, Efc.v ⟨0, 0⟩, bsV (dGet k i).1, bV (dGet k i).2]) [] := by
  have hm := may_desc d k i x hk hi
  rw [decide_eq_true h, Bool.and_true] at hm
  cases hg : (dGet k i).2 with
  | false =>
    rw [hg] at hm
    rw [get_no hg]
    exact ask_no (r := ⟨128, 6, 256 * k + i, x, 255⟩) hx.h hm
  | true =>
    rw [hg] at hm
    have := ask_yes (luns := 1) (halted := 0) (r := ⟨128, 6, 256 * k + i, x, 255⟩) hx.h hm
    rw [show askOf (Req.mk 128 6 (256 * k + i) x 255).ty (Req.mk 128 6 (256 * k + i) x 255).code = 5 from ask86] at this
    rw [show dataK 5 (d0 d) 1 0 (Req.mk 128 6 (256 * k + i) x 255) = (dGet ((256 * k + i) / 256) ((256 * k + i) % 256)).1 from rfl, (val_div hi).1, (val_div hi).2] at this
    exact this
theorem desc_no {d : Dev} {k i x : Int} (hk : 0 ≤ k ∧ k ≤ 255) (hi : 0 ≤ i ∧ i ≤ 255) (hx : Side (InI x)) (h : x ≠ dLng k i) : FnC Try.prog 9 [d.v, i64 1, i64 0, .agg [i64 128, i64 6, i64 (256 * k + i), i64 x, i64 255]] [] (.tup [Dev.v ⟨d.addr, 0, false, d.conf, d.alt⟩, Efc.v ⟨0, 0⟩, bsV [], bV false]) [] := by
  have hm := may_desc d k i x hk hi
  rw [decide_eq_false h, Bool.and_false] at hm
  exact ask_no (r := ⟨128, 6, 256 * k + i, x, 255⟩) hx.h hm
def dB (x k i : Int) : BS := if x = dLng k i then (dGet k i).1 else []
def dO (x k i : Int) : Bool := (dGet k i).2 && decide (x = dLng k i)
theorem desc_any {d : Dev} {k i x z : Int} (hk : 0 ≤ k ∧ k ≤ 255) (hi : 0 ≤ i ∧ i ≤ 255) (hz : z = 256 * k + i) (hx : Side (InI x)) : FnC Try.prog 9 [d.v, i64 1, i64 0, .agg [i64 128, i64 6, i64 z, i64 x, i64 255]] [] (.tup [Dev.v ⟨d.addr, 0, false, d.conf, d.alt⟩, Efc.v ⟨0, 0⟩, bsV (dB x k i), bV (dO x k i)]) [] := by
  subst hz
  unfold dB dO
  by_cases h : x = dLng k i
  · rw [if_pos h, decide_eq_true h, Bool.and_true]; exact desc_ok hk hi hx h
  · rw [if_neg h, decide_eq_false h, Bool.and_false]; exact desc_no hk hi hx h
attribute [local irreducible] askD askE askB mayOk doneD dHas dPlace d0 devK effK dataK askOf dGet dB dO
theorem c_deviceDescribes (d : Dev) (k i : Int) (hk : 0 ≤ k ∧ k ≤ 255) (hi : 0 ≤ i ∧ i ≤ 255) : FnC Try.prog 7 [d.v, .lit (.int .u8 k), .lit (.int .u8 i)] [] (bV true) [] := by
  have w1 : IntKind.i64.wrap k = k := by rw [wrap64 (by omega) (by omega)]
  have w2 : IntKind.i64.wrap i = i := by rw [wrap64 (by omega) (by omega)]
  have w : IntKind.i64.wrap (IntKind.i64.wrap (256 * IntKind.i64.wrap k) + IntKind.i64.wrap i) = 256 * k + i := by
    rw [w1, w2, show IntKind.i64.wrap (256 * k) = 256 * k from wrap64 (by omega) (by omega), wrap64 (by omega) (by omega)]
  obtain ⟨ad, nx, cm, cf, al⟩ := d
  dsimp only [Dev.v] at *
  refine fn_vcI (N := 86) (d := 7) tabOk mixed inl18l_ok 2 Try.func7 rfl rfl rfl ?_
  repeat'
    (conv => whnf
     first
      | (exact trivial)
      | (refine And.intro (by with_reducible rfl) ?_)
      | (refine And.intro (drawI (by kernel_rfl)) ?_)
      | (refine andI ?_ ?_)
      | (refine condT (by assumption) ?_)
      | (refine condF (by assumption) ?_)
      | (refine decT (by assumption) ?_)
      | (refine decF (by assumption) ?_)
      | (refine eqT (by assumption) ?_)
      | (refine eqF (by assumption) ?_)
      | (refine neT (by assumption) ?_)
      | (refine neF (by assumption) ?_)
      | (refine cEq (fun h => ?_) (fun h => ?_))
      | (refine cNe (fun h => ?_) (fun h => ?_))
      | (refine cNot (fun h => ?_) (fun h => ?_))
      | (refine cDec (fun h => ?_) (fun h => ?_))
      | (refine condN_split (fun h => ?_) (fun h => ?_))
      | (refine Exists.intro _ (And.intro (c_alive18) ?_))
      | (refine Exists.intro _ (And.intro (c_refGet _ _) ?_))
      | (refine Exists.intro _ (And.intro (desc_any (d := ⟨_, _, _, _, _⟩) hk hi w ?_) ?_))
      | (refine Exists.intro _ (And.intro eq_efc ?_))
      | (refine Exists.intro _ (And.intro (by first | rfl | ((conv => lhs; simp only [nil_b, rp_bls, or_bls, len_bls, snoc_bls, rp_nil, rp_app, rp_b, or_nil, or_app, or_b, len_b, take_b, drop_b, rep_b, app_b, List.length_append, List.length_take, List.length_drop, List.length_nil, List.drop_zero, List.take_length, List.nil_append, List.append_nil, Int.toNat_natCast, toNat_min, take_min, and_true, true_and, and_self]) <;> rfl)) ?_))
      | (refine Or.inl (And.intro (by kernel_rfl : Nat.ble _ _ = true) ?_))
      | (refine Or.inl (And.intro Cl.lit ?_))
      | (refine Or.inr ?_)
      | (refine Exists.intro (1 : Nat) ?_)
      | (fail))
  all_goals try refine Side.mk ?_
  all_goals try dsimp only at *
  all_goals try refine eqI ?_
  all_goals try (exact (inI_lit _ (by decide)).h)
  all_goals simp only [w1, w2, show IntKind.i64.wrap (1033 + 1) = 1034 from rfl, show IntKind.i64.wrap (0 + 1) = 1 from rfl] at *
  all_goals try unfold dB at *
  all_goals try unfold dO at *
  all_goals first
    | (have hL : dLng k i = 1033 := by unfold dLng; exact if_pos (by clear w w1 w2; omega)
       simp only [hL] at *; clear hL w w1 w2 hk hi; first | (simp_all; done) | (simp_all [byteRows]; done))
    | (have hL : dLng k i = 0 := by unfold dLng; exact if_neg (by clear w w1 w2; omega)
       simp only [hL] at *; clear hL w w1 w2 hk hi; first | (simp_all; done) | (simp_all [byteRows]; done))
end Go.Proofs.Ytgaginflocpcfaa
