/-
  Slots: blocks read and put, by the program and by the document.
-/
import Derived.Test.YtbieiehfohldjaamSl
import Derived.Test.YtbieiehfohldjaamSr
namespace Go.Proofs.Ytbieiehfohldjaa
open Go
set_option linter.unusedVariables false
set_option linter.unusedSimpArgs false
set_option maxRecDepth 100000
set_option maxHeartbeats 8000000

def sRead (s : Slt) (p n : Int) : BS × Sns := if (sCheck s p n false).good = true then (bBytes (bSome (mdAll s.med) p n).1, sCheck s p n false) else ([], sCheck s p n false)
def sPut (s : Slt) (p : Int) (x : Blk) (thr : Bool) : Slt × Sns := if (sCheck s p 1 true).good = true then (⟨(mWrite s.med p x thr).1, s.present, s.prot, s.latch⟩, sCheck s p 1 true) else (s, sCheck s p 1 true)
theorem chk_write {s : Slt} {p : Int} {x : Blk} {thr : Bool} (h : (sCheck s p 1 true).good = true) (hp : 0 ≤ p) : (mWrite s.med p x thr).2 = 0 := by
  unfold sCheck at h
  split at h
  · exact absurd h (by decide)
  · split at h
    · exact absurd h (by decide)
    · split at h
      · exact absurd h (by decide)
      · rename_i h1
        simp only [bWithin, decide_eq_false_iff_not, Classical.not_not] at h1
        have hr : mRight s.med = true := by
          cases hr : mRight s.med with
          | true => rfl
          | false =>
            unfold mdAll at h1
            rw [if_neg (by rw [hr]; decide)] at h1
            simp at h1
            try omega
        have hl : (mdAll s.med).length = s.med.blocks.length := by unfold mdAll; rw [if_pos hr, flush_len]
        rw [hl] at h1
        unfold mWrite
        rw [if_neg (by rw [hr]; decide), if_neg (by omega)]
        split <;> rfl
theorem c_sread (s : Slt) (p n : Int) (hp : Side (InU p)) (hn : Side (InI6 n)) : FnC Try.prog 46 [s.v, u64 p, i64 n] [] (.tup [bsV (sRead s p n).1, (sRead s p n).2.v]) [] := by
  have hl := mdAll_len s.med
  have hA := c_all s.med
  have hS := c_scheck s p n false hn
  have hB := c_bread (mdAll s.med) p n ⟨by omega⟩ hp hn
  have e1 : (sCheck s p n false).good = true → sRead s p n = (bBytes (bSome (mdAll s.med) p n).1, sCheck s p n false) := fun h => by unfold sRead; rw [if_pos h]
  have e2 : (sCheck s p n false).good = false → sRead s p n = ([], sCheck s p n false) := fun h => by unfold sRead; rw [if_neg (by rw [h]; decide)]
  generalize sRead s p n = r at *
  generalize bSome (mdAll s.med) p n = b at *
  generalize mdAll s.med = a at *
  generalize sCheck s p n false = w at *
  obtain ⟨w1, w2, w3⟩ := w
  obtain ⟨m, pr, pt, la⟩ := s
  obtain ⟨bs, ds⟩ := m
  dsimp only [Slt.v, Med.v, Sns.v] at *
  refine fn_vcI (N := 30) (d := 5) tabOk mixed inlSl_ok 6 Try.func46 rfl rfl rfl ?_
  repeat'
    (conv => whnf
     first
      | (exact trivial)
      | (refine And.intro (by with_reducible rfl) ?_)
      | (refine And.intro (drawI (by kernel_rfl)) ?_)
      | (refine andI ?_ ?_)
      | (refine condT (by assumption) ?_)
      | (refine condF (by assumption) ?_)
      | (refine decT (by assumption) ?_)
      | (refine decF (by assumption) ?_)
      | (refine eqT (by assumption) ?_)
      | (refine eqF (by assumption) ?_)
      | (refine neT (by assumption) ?_)
      | (refine neF (by assumption) ?_)
      | (refine cEq (fun h => ?_) (fun h => ?_))
      | (refine cNe (fun h => ?_) (fun h => ?_))
      | (refine cNot (fun h => ?_) (fun h => ?_))
      | (refine cDec (fun h => ?_) (fun h => ?_))
      | (refine condN_split (fun h => ?_) (fun h => ?_))
      | (refine Exists.intro _ (And.intro (hS) ?_))
      | (refine Exists.intro _ (And.intro (hA) ?_))
      | (refine Exists.intro _ (And.intro (hB) ?_))
      | (refine Exists.intro _ (And.intro eq_sns ?_))
      | (refine Exists.intro _ (And.intro rfl ?_))
      | (refine Or.inl (And.intro (by rfl : Nat.ble _ _ = true) ?_))
      | (refine Or.inl (And.intro Cl.lit ?_))
      | (refine Or.inr ?_)
      | (refine Exists.intro (1 : Nat) ?_)
      | (refine Exists.intro _ (And.intro rfl ?_))
      | (fail))
  all_goals try refine Side.mk ?_
  all_goals try dsimp only at *
  all_goals try refine eqI ?_
  all_goals first
    | (rw [e1 (by assumption)]; done)
    | (rw [e2 (by assumption)]; done)
    | (rw [e2 (by assumption)]; rfl)
theorem c_refSread (s : Slt) (p n : Int) (hp : Side (InU p)) (hn : Side (InI6 n)) : FnC Try.prog 50 [s.v, u64 p, i64 n] [] (.tup [bsV (sRead s p n).1, (sRead s p n).2.v]) [] := by
  have hl := mdAll_len s.med
  have hA := c_refAll s.med
  have hS := c_refScheck s p n false hn
  have hB := c_refBread (mdAll s.med) p n ⟨by omega⟩ hp hn
  have e1 : (sCheck s p n false).good = true → sRead s p n = (bBytes (bSome (mdAll s.med) p n).1, sCheck s p n false) := fun h => by unfold sRead; rw [if_pos h]
  have e2 : (sCheck s p n false).good = false → sRead s p n = ([], sCheck s p n false) := fun h => by unfold sRead; rw [if_neg (by rw [h]; decide)]
  generalize sRead s p n = r at *
  generalize bSome (mdAll s.med) p n = b at *
  generalize mdAll s.med = a at *
  generalize sCheck s p n false = w at *
  obtain ⟨w1, w2, w3⟩ := w
  obtain ⟨m, pr, pt, la⟩ := s
  obtain ⟨bs, ds⟩ := m
  dsimp only [Slt.v, Med.v, Sns.v] at *
  refine fn_vcI (N := 30) (d := 5) tabOk mixed inlSl_ok 6 Try.func50 rfl rfl rfl ?_
  repeat'
    (conv => whnf
     first
      | (exact trivial)
      | (refine And.intro (by with_reducible rfl) ?_)
      | (refine And.intro (drawI (by kernel_rfl)) ?_)
      | (refine andI ?_ ?_)
      | (refine condT (by assumption) ?_)
      | (refine condF (by assumption) ?_)
      | (refine decT (by assumption) ?_)
      | (refine decF (by assumption) ?_)
      | (refine eqT (by assumption) ?_)
      | (refine eqF (by assumption) ?_)
      | (refine neT (by assumption) ?_)
      | (refine neF (by assumption) ?_)
      | (refine cEq (fun h => ?_) (fun h => ?_))
      | (refine cNe (fun h => ?_) (fun h => ?_))
      | (refine cNot (fun h => ?_) (fun h => ?_))
      | (refine cDec (fun h => ?_) (fun h => ?_))
      | (refine condN_split (fun h => ?_) (fun h => ?_))
      | (refine Exists.intro _ (And.intro (hS) ?_))
      | (refine Exists.intro _ (And.intro (hA) ?_))
      | (refine Exists.intro _ (And.intro (hB) ?_))
      | (refine Exists.intro _ (And.intro eq_sns ?_))
      | (refine Exists.intro _ (And.intro rfl ?_))
      | (refine Or.inl (And.intro (by rfl : Nat.ble _ _ = true) ?_))
      | (refine Or.inl (And.intro Cl.lit ?_))
      | (refine Or.inr ?_)
      | (refine Exists.intro (1 : Nat) ?_)
      | (refine Exists.intro _ (And.intro rfl ?_))
      | (fail))
  all_goals try refine Side.mk ?_
  all_goals try dsimp only at *
  all_goals try refine eqI ?_
  all_goals first
    | (rw [e1 (by assumption)]; done)
    | (rw [e2 (by assumption)]; done)
    | (rw [e2 (by assumption)]; rfl)
theorem c_sput (s : Slt) (p : Int) (x : Blk) (thr : Bool) (hp : Side (0 ≤ p ∧ p ≤ 2 ^ 40)) : FnC Try.prog 49 [s.v, i64 p, .agg x.row, bV thr] [] (.tup [(sPut s p x thr).1.v, (sPut s p x thr).2.v]) [] := by
  have hp := hp.h
  have hS : ∀ z, Side (z = p) → FnC Try.prog 59 [s.v, u64 z, i64 1, bV true] [] (sCheck s p 1 true).v [] := fun z hz => by rw [hz.h]; exact c_scheck s p 1 true ⟨by decide⟩
  have hW := c_cwrite s.med p x thr
  have hk := fun h => chk_write (s := s) (p := p) (x := x) (thr := thr) h hp.1
  have e1 : (sCheck s p 1 true).good = true → sPut s p x thr = (⟨(mWrite s.med p x thr).1, s.present, s.prot, s.latch⟩, sCheck s p 1 true) := fun h => by unfold sPut; rw [if_pos h]
  have e2 : (sCheck s p 1 true).good = false → sPut s p x thr = (s, sCheck s p 1 true) := fun h => by unfold sPut; rw [if_neg (by rw [h]; decide)]
  generalize sPut s p x thr = r at *
  generalize mWrite s.med p x thr = b at *
  generalize sCheck s p 1 true = w at *
  obtain ⟨w1, w2, w3⟩ := w
  obtain ⟨⟨bb, bd⟩, be⟩ := b
  obtain ⟨m, pr, pt, la⟩ := s
  obtain ⟨bs, ds⟩ := m
  dsimp only [Slt.v, Med.v, Sns.v] at *
  refine fn_vcI (N := 36) (d := 6) tabOk mixed inlSl_ok 6 Try.func49 rfl rfl rfl ?_
  repeat'
    (conv => whnf
     first
      | (exact trivial)
      | (refine And.intro (by with_reducible rfl) ?_)
      | (refine And.intro (drawI (by kernel_rfl)) ?_)
      | (refine andI ?_ ?_)
      | (refine condT (by assumption) ?_)
      | (refine condF (by assumption) ?_)
      | (refine decT (by assumption) ?_)
      | (refine decF (by assumption) ?_)
      | (refine eqT (by assumption) ?_)
      | (refine eqF (by assumption) ?_)
      | (refine neT (by assumption) ?_)
      | (refine neF (by assumption) ?_)
      | (refine cEq (fun h => ?_) (fun h => ?_))
      | (refine cNe (fun h => ?_) (fun h => ?_))
      | (refine cNot (fun h => ?_) (fun h => ?_))
      | (refine cDec (fun h => ?_) (fun h => ?_))
      | (refine condN_split (fun h => ?_) (fun h => ?_))
      | (refine Exists.intro _ (And.intro (hS _ ?_) ?_))
      | (refine Exists.intro _ (And.intro (hW) ?_))
      | (refine Exists.intro _ (And.intro eq_sns ?_))
      | (refine Exists.intro _ (And.intro rfl ?_))
      | (refine Or.inl (And.intro (by rfl : Nat.ble _ _ = true) ?_))
      | (refine Or.inl (And.intro Cl.lit ?_))
      | (refine Or.inr ?_)
      | (refine Exists.intro (1 : Nat) ?_)
      | (refine Exists.intro _ (And.intro rfl ?_))
      | (fail))
  all_goals try refine Side.mk ?_
  all_goals try dsimp only at *
  all_goals try refine eqI ?_
  all_goals first
    | (rw [wrapu64]; omega)
    | (rw [e1 (by assumption)]; done)
    | (rw [e2 (by assumption)]; done)
    | (rw [e2 (by assumption)]; rfl)
    | (exfalso; exact absurd (hk (by assumption)) (by assumption))
theorem c_refSput (s : Slt) (p : Int) (x : Blk) (thr : Bool) (hp : Side (0 ≤ p ∧ p ≤ 2 ^ 40)) : FnC Try.prog 51 [s.v, i64 p, .agg x.row, bV thr] [] (.tup [(sPut s p x thr).1.v, (sPut s p x thr).2.v]) [] := by
  have hp := hp.h
  have hS : ∀ z, Side (z = p) → FnC Try.prog 64 [s.v, u64 z, i64 1, bV true] [] (sCheck s p 1 true).v [] := fun z hz => by rw [hz.h]; exact c_refScheck s p 1 true ⟨by decide⟩
  have hW := c_refCwrite s.med p x thr ⟨by dsimp only [InI6]; omega⟩
  have e1 : (sCheck s p 1 true).good = true → sPut s p x thr = (⟨(mWrite s.med p x thr).1, s.present, s.prot, s.latch⟩, sCheck s p 1 true) := fun h => by unfold sPut; rw [if_pos h]
  have e2 : (sCheck s p 1 true).good = false → sPut s p x thr = (s, sCheck s p 1 true) := fun h => by unfold sPut; rw [if_neg (by rw [h]; decide)]
  generalize sPut s p x thr = r at *
  generalize mWrite s.med p x thr = b at *
  generalize sCheck s p 1 true = w at *
  obtain ⟨w1, w2, w3⟩ := w
  obtain ⟨⟨bb, bd⟩, be⟩ := b
  obtain ⟨m, pr, pt, la⟩ := s
  obtain ⟨bs, ds⟩ := m
  dsimp only [Slt.v, Med.v, Sns.v] at *
  refine fn_vcI (N := 37) (d := 6) tabOk mixed inlSl_ok 6 Try.func51 rfl rfl rfl ?_
  repeat'
    (conv => whnf
     first
      | (exact trivial)
      | (refine And.intro (by with_reducible rfl) ?_)
      | (refine And.intro (drawI (by kernel_rfl)) ?_)
      | (refine andI ?_ ?_)
      | (refine condT (by assumption) ?_)
      | (refine condF (by assumption) ?_)
      | (refine decT (by assumption) ?_)
      | (refine decF (by assumption) ?_)
      | (refine eqT (by assumption) ?_)
      | (refine eqF (by assumption) ?_)
      | (refine neT (by assumption) ?_)
      | (refine neF (by assumption) ?_)
      | (refine cEq (fun h => ?_) (fun h => ?_))
      | (refine cNe (fun h => ?_) (fun h => ?_))
      | (refine cNot (fun h => ?_) (fun h => ?_))
      | (refine cDec (fun h => ?_) (fun h => ?_))
      | (refine condN_split (fun h => ?_) (fun h => ?_))
      | (refine Exists.intro _ (And.intro (hS _ ?_) ?_))
      | (refine Exists.intro _ (And.intro (hW) ?_))
      | (refine Exists.intro _ (And.intro eq_sns ?_))
      | (refine Exists.intro _ (And.intro rfl ?_))
      | (refine Or.inl (And.intro (by rfl : Nat.ble _ _ = true) ?_))
      | (refine Or.inl (And.intro Cl.lit ?_))
      | (refine Or.inr ?_)
      | (refine Exists.intro (1 : Nat) ?_)
      | (refine Exists.intro _ (And.intro rfl ?_))
      | (fail))
  all_goals try refine Side.mk ?_
  all_goals try dsimp only at *
  all_goals try refine eqI ?_
  all_goals first
    | (rw [wrapu64]; omega)
    | (exfalso; omega)
    | (rw [e1 (by assumption)]; done)
    | (rw [e2 (by assumption)]; done)
    | (rw [e2 (by assumption)]; rfl)
end Go.Proofs.Ytbieiehfohldjaa
