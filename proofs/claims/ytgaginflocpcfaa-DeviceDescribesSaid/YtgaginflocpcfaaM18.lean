/-
  What every device answers (layer 18): what may be done, what is answered.
-/
import Derived.Test.YtgaginflocpcfaaL18
namespace Go.Proofs.Ytgaginflocpcfaa
open Go
set_option linter.unusedVariables false
set_option linter.unusedSimpArgs false
set_option maxRecDepth 100000
set_option maxHeartbeats 4000000

def dLang (v : Int) : Int := if v / 256 = 3 ∧ v ≠ 768 then 0x409 else 0
def mayK (k : Int) (d : Dev) (r : Req) : Bool :=
  if k = 1 then decide (r.val = 0 ∧ r.len = 2) && (if r.ty = 130 then dHas d r.idx else decide (r.idx = 0 ∧ (r.ty = 128 ∨ d.conf = 1)))
  else if k = 2 ∨ k = 3 then decide (r.val = 0 ∧ r.len = 0) && dHas d r.idx
  else if k = 4 then decide (0 ≤ r.val ∧ r.val < 128 ∧ r.idx = 0 ∧ r.len = 0 ∧ d.conf ≠ 1)
  else if k = 5 then (dGet (r.val / 256) (r.val % 256)).2 && decide (r.idx = dLang r.val)
  else if k = 6 then decide (r.val = 0 ∧ r.idx = 0 ∧ r.len = 1 ∧ d.addr ≠ 0)
  else if k = 7 then decide ((r.val = 0 ∨ r.val = 1) ∧ r.idx = 0 ∧ r.len = 0 ∧ d.addr ≠ 0)
  else if k = 8 then decide (r.val = 0 ∧ r.idx = 0 ∧ r.len = 1 ∧ d.conf = 1)
  else if k = 9 then decide ((r.val = 0 ∨ r.val = 1) ∧ r.idx = 0 ∧ r.len = 0 ∧ d.conf = 1)
  else if k = 10 then decide (r.val = 0 ∧ r.idx = 0 ∧ r.len = 1 ∧ d.conf = 1 ∧ d.alt = 0)
  else if k = 11 then decide (r.val = 0 ∧ r.idx = 0 ∧ r.len = 0 ∧ d.conf = 1 ∧ d.alt = 0)
  else false
def mayOk (d : Dev) (r : Req) : Bool := mayK (askOf r.ty r.code) d r
theorem andFF (x : Int) : bits .and .i64 x 255 = x % 256 := and_mask .i64 8 (by decide) x
theorem par {v : Int} : (v = v % 2) = (v = 0 ∨ v = 1) := by rw [eq_iff_iff]; omega
theorem shr8 (x : Int) : x.fdiv (2 ^ min (Int.toNat 8) IntKind.i64.bits) = x / 256 := by
  rw [show (2 : Int) ^ min (Int.toNat 8) IntKind.i64.bits = 256 from rfl, Int.fdiv_eq_ediv_of_nonneg _ (by decide)]
attribute [local irreducible] askOf dGet dHas dOwn dPlace
theorem c_may (d : Dev) (r : Req) (hi : Side (InI r.idx)) : FnC Try.prog 18 [d.v, r.v] [] (bV (mayOk d r)) [] := by
  have hi := hi.h
  obtain ⟨ad, nx, cm, cf, al⟩ := d
  obtain ⟨t, c, v, i, l⟩ := r
  dsimp only [Dev.v, Req.v] at *
  refine fn_vcI (N := 159) (d := 8) tabOk mixed inl18_ok 2 Try.func18 rfl rfl rfl ?_
  repeat'
    (conv => whnf
     first
      | (exact trivial)
      | (refine And.intro (by with_reducible rfl) ?_)
      | (refine And.intro (drawI (by kernel_rfl)) ?_)
      | (refine andI ?_ ?_)
      | (refine condT (by assumption) ?_)
      | (refine condF (by assumption) ?_)
      | (refine decT (by assumption) ?_)
      | (refine decF (by assumption) ?_)
      | (refine eqT (by assumption) ?_)
      | (refine eqF (by assumption) ?_)
      | (refine neT (by assumption) ?_)
      | (refine neF (by assumption) ?_)
      | (refine cEq (fun h => ?_) (fun h => ?_))
      | (refine cNe (fun h => ?_) (fun h => ?_))
      | (refine cNot (fun h => ?_) (fun h => ?_))
      | (refine cDec (fun h => ?_) (fun h => ?_))
      | (refine condN_split (fun h => ?_) (fun h => ?_))
      | (refine Exists.intro _ (And.intro (c_asks ⟨_, _, _, _, _⟩) ?_))
      | (refine Exists.intro _ (And.intro (c_has ⟨_, _, _, _, _⟩ _ ?_) ?_))
      | (refine Exists.intro _ (And.intro (c_get _ _) ?_))
      | (refine Or.inl (And.intro (by kernel_rfl : Nat.ble _ _ = true) ?_))
      | (refine Or.inl (And.intro Cl.lit ?_))
      | (refine Or.inr ?_)
      | (refine Exists.intro (1 : Nat) ?_)
      | (fail))
  all_goals try refine Side.mk ?_
  all_goals try dsimp only at *
  all_goals try refine eqI ?_
  all_goals try exact hi
  all_goals try simp only [andFF, shr8, and1, par, ne_eq] at *
  all_goals clear hi
  all_goals first
    | exact (show (0 : Int) ≤ 8 by decide)
    | (exfalso; omega)
    | (exfalso; simp at *; done)
    | (unfold mayOk
       dsimp only at *
       generalize askOf t c = k at *
       refine bool_close ?_
       simp only [mayK, dLang] at *
       generalize (dGet (v / 256) (v % 256)).2 = g at *
       first
         | (simp [*]; done)
         | (simp [*]; omega))
end Go.Proofs.Ytgaginflocpcfaa
