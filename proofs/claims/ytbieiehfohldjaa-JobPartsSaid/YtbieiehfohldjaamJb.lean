/-
  Jobs (layer 10): a block that came, for a place.
-/
import Derived.Test.YtbieiehfohldjaamJa
import Derived.Test.YtbieiehfohldjaamSp
namespace Go.Proofs.Ytbieiehfohldjaa
open Go
set_option linter.unusedVariables false
set_option linter.unusedSimpArgs false
set_option maxRecDepth 100000
set_option maxHeartbeats 8000000

/-- of the places behind all, one -/
def jClamp (p : Int) : Int := if p > 1000 then 1000 else p
def jPos (c : Cmd) (i : Int) : Int := if c.pos + i ≥ 18446744073709551616 then 1000 else jClamp (c.pos + i)
def jBad (s : Slt) (p : Int) (x : Blk) : Sns := if (sRead s p 1).2.good = true then (if (sRead s p 1).1 = x.bs then sOk else sDiff) else (sRead s p 1).2
def jBlk (u : Unt) (j : Job) (p : Int) (x : Blk) : Unt × Job :=
  if j.bad.good = false then (u, j)
  else if clsN j.cmd.op = 3 then (u, ⟨j.cmd, j.len, j.took, j.rest, jBad u.slot p x⟩)
  else (⟨(sPut u.slot p x (decide (j.cmd.bits = 1) || !u.caching)).1, u.caching, u.atts, u.last⟩, ⟨j.cmd, j.len, j.took, j.rest, (sPut u.slot p x (decide (j.cmd.bits = 1) || !u.caching)).2⟩)
theorem chk_far {s : Slt} {p n : Int} {w : Bool} (h : 64 ≤ p) (hn : 1 ≤ n) : (sCheck s p n w).good = false ∧ sCheck s p n w = sCheck s 1000 n w := by
  have hl := mdAll_len s.med
  have e1 : bWithin (mdAll s.med).length p n = false := by simp only [bWithin, decide_eq_false_iff_not]; omega
  have e2 : bWithin (mdAll s.med).length 1000 n = false := by simp only [bWithin, decide_eq_false_iff_not]; omega
  unfold sCheck
  rw [e1, e2]
  refine ⟨?_, rfl⟩
  split
  · rfl
  · split
    · rfl
    · rfl
theorem read_far {s : Slt} {p : Int} (h : 64 ≤ p) : sRead s p 1 = sRead s 1000 1 := by
  obtain ⟨a, b⟩ := chk_far (s := s) (p := p) (n := 1) (w := false) h (by decide)
  obtain ⟨c, _⟩ := chk_far (s := s) (p := 1000) (n := 1) (w := false) (by decide) (by decide)
  unfold sRead
  rw [if_neg (by rw [a]; decide), if_neg (by rw [c]; decide), b]
theorem put_far {s : Slt} {p : Int} {x : Blk} {t : Bool} (h : 64 ≤ p) : sPut s p x t = sPut s 1000 x t := by
  obtain ⟨a, b⟩ := chk_far (s := s) (p := p) (n := 1) (w := true) h (by decide)
  obtain ⟨c, _⟩ := chk_far (s := s) (p := 1000) (n := 1) (w := true) (by decide) (by decide)
  unfold sPut
  rw [if_neg (by rw [a]; decide), if_neg (by rw [c]; decide), b]
theorem read_clamp (s : Slt) (p : Int) : sRead s (jClamp p) 1 = sRead s p 1 := by
  unfold jClamp
  split
  · rw [read_far (p := p) (by omega)]
  · rfl
theorem put_clamp (s : Slt) (p : Int) (x : Blk) (t : Bool) : sPut s (jClamp p) x t = sPut s p x t := by
  unfold jClamp
  split
  · rw [put_far (p := p) (by omega)]
  · rfl
theorem read_len {s : Slt} {p : Int} (h : (sRead s p 1).2.good = true) : (sRead s p 1).1.length = 64 := by
  have hg : (sCheck s p 1 false).good = true := by
    unfold sRead at h
    split at h
    · exact h
    · exact h
  have hw : bWithin (mdAll s.med).length p 1 = true := by
    unfold sCheck at hg
    split at hg
    · exact absurd hg (by decide)
    · split at hg
      · exact absurd hg (by decide)
      · split at hg
        · exact absurd hg (by decide)
        · rename_i h1; simpa using h1
  have hl := mdAll_len s.med
  simp only [bWithin, decide_eq_true_eq] at hw
  unfold sRead
  rw [if_pos hg]
  dsimp only
  rw [bBytes_len]
  unfold bSome
  rw [if_neg (by omega), if_neg (by simp only [bWithin, decide_eq_false_iff_not]; omega)]
  dsimp only
  rw [List.length_take, List.length_drop, show Int.toNat 1 = 1 from rfl]
  omega
theorem c_refJblock (u : Unt) (j : Job) (i : Int) (x : Blk) (hi : Side (0 ≤ i ∧ i ≤ 2 ^ 50)) (hp : Side (InU j.cmd.pos)) : FnC Try.prog 32 [u.v, j.v, i64 i, .agg x.row] [] (.tup [(jBlk u j (jPos j.cmd i) x).1.v, (jBlk u j (jPos j.cmd i) x).2.v]) [] := by
  have hi := hi.h
  have hp := hp.h
  dsimp only [InU] at hp
  have hC := c_refClass j.cmd.op
  have hR : ∀ z, Side (z = jPos j.cmd i) → FnC Try.prog 50 [u.slot.v, u64 z, i64 1] [] (.tup [bsV (sRead u.slot (jPos j.cmd i) 1).1, (sRead u.slot (jPos j.cmd i) 1).2.v]) [] := fun z hz => by
    rw [hz.h]
    refine c_refSread u.slot _ 1 ⟨?_⟩ ⟨by decide⟩
    unfold jPos jClamp InU
    (repeat' split) <;> omega
  have hP : ∀ z t, Side (z = jPos j.cmd i) → FnC Try.prog 51 [u.slot.v, i64 z, .agg x.row, bV t] [] (.tup [(sPut u.slot (jPos j.cmd i) x t).1.v, (sPut u.slot (jPos j.cmd i) x t).2.v]) [] := fun z t hz => by
    rw [hz.h]
    refine c_refSput u.slot _ x t ⟨?_⟩
    unfold jPos jClamp
    (repeat' split) <;> omega
  have hO : ∀ b, b = (sRead u.slot (jPos j.cmd i) 1).1 → b.length = 64 → FnC Try.prog 33 [bsV b, i64 0] [] (.agg (Blk.of b).row) [] := fun b hb hl => c_refOf b 0 ⟨by omega, by omega⟩
  have hl := read_len (s := u.slot) (p := jPos j.cmd i)
  have hq1 : ¬ (j.cmd.pos + i ≥ 18446744073709551616) → j.cmd.pos + i ≤ 1000 → jPos j.cmd i = j.cmd.pos + i := fun h h2 => by unfold jPos jClamp; rw [if_neg h, if_neg (by omega)]
  have hq2 : ¬ (j.cmd.pos + i ≥ 18446744073709551616) → ¬ j.cmd.pos + i ≤ 1000 → jPos j.cmd i = 1000 := fun h h2 => by unfold jPos jClamp; rw [if_neg h, if_pos (by omega)]
  have hq3 : j.cmd.pos + i ≥ 18446744073709551616 → jPos j.cmd i = 1000 := fun h => by unfold jPos; rw [if_pos h]
  generalize jPos j.cmd i = P at *
  have f0 : j.bad.good = false → jBlk u j P x = (u, j) := fun h => by unfold jBlk; rw [if_pos h]
  have f1 : j.bad.good = true → clsN j.cmd.op = 3 → jBlk u j P x = (u, ⟨j.cmd, j.len, j.took, j.rest, jBad u.slot P x⟩) := fun h h2 => by unfold jBlk; rw [if_neg (by rw [h]; decide), if_pos h2]
  have f2 : j.bad.good = true → clsN j.cmd.op ≠ 3 → ∀ t, t = (decide (j.cmd.bits = 1) || !u.caching) → jBlk u j P x = (⟨(sPut u.slot P x t).1, u.caching, u.atts, u.last⟩, ⟨j.cmd, j.len, j.took, j.rest, (sPut u.slot P x t).2⟩) := fun h h2 t ht => by unfold jBlk; rw [if_neg (by rw [h]; decide), if_neg h2, ht]
  have g1 : (sRead u.slot P 1).2.good = false → jBad u.slot P x = (sRead u.slot P 1).2 := fun h => by unfold jBad; rw [if_neg (by rw [h]; decide)]
  have g2 : (sRead u.slot P 1).2.good = true → (sRead u.slot P 1).1 = x.bs → jBad u.slot P x = (sRead u.slot P 1).2 := fun h h2 => by unfold jBad; rw [if_pos h, if_pos h2, (good_iff _).1 h]
  have g3 : (sRead u.slot P 1).2.good = true → (sRead u.slot P 1).1 ≠ x.bs → jBad u.slot P x = sDiff := fun h h2 => by unfold jBad; rw [if_pos h, if_neg h2]
  generalize jBlk u j P x = r at *
  generalize jBad u.slot P x = jb at *
  generalize sRead u.slot P 1 = rd at *
  generalize hsp : (fun t => sPut u.slot P x t) = sp at *
  have hsp2 : ∀ t, sPut u.slot P x t = sp t := fun t => by rw [← hsp]
  simp only [hsp2] at *
  clear hsp hsp2
  generalize clsN j.cmd.op = cl at *
  obtain ⟨rb, w1, w2, w3⟩ := rd
  obtain ⟨⟨⟨bs, ds⟩, pr, pt, la⟩, ca, atts, ls⟩ := u
  obtain ⟨⟨op, pos, n, pg, bits⟩, len, took, rest, b1, b2, b3⟩ := j
  dsimp only [Unt.v, Slt.v, Med.v, Job.v, Cmd.v, Sns.v] at *
  have hk : rb.length = 64 → ∀ q, eqL (Blk.of rb).bs x.bs = q → decide (rb = x.bs) = q := fun h q hq => by rw [Blk.bs_of h, eqL_eq] at hq; exact hq
  have wi : IntKind.u64.wrap i = i := by rw [wrapu64]; omega
  have hz : IntKind.u64.wrap (pos + IntKind.u64.wrap i) = (pos + i) % 18446744073709551616 := by rw [wi, wrapu64]
  have hz3 : (IntKind.u64.wrap (pos + IntKind.u64.wrap i) > 1000 ∨ IntKind.u64.wrap (pos + IntKind.u64.wrap i) < IntKind.u64.wrap i) → 1000 = P := fun h => by
    rw [hz, wi] at h
    by_cases ov : pos + i ≥ 18446744073709551616
    · exact (hq3 ov).symm
    · exact (hq2 ov (by omega)).symm
  have hz4 : ¬ (IntKind.u64.wrap (pos + IntKind.u64.wrap i) > 1000) → ¬ (IntKind.u64.wrap (pos + IntKind.u64.wrap i) < IntKind.u64.wrap i) → IntKind.u64.wrap (pos + IntKind.u64.wrap i) = P := fun h h2 => by
    rw [hz] at h h2 ⊢
    rw [wi] at h2
    rw [hq1 (by omega) (by omega)]
    omega
  clear hq1 hq2 hq3
  refine fn_vcI (N := 86) (d := 7) tabOk mixed inlJa_ok 6 Try.func32 rfl rfl rfl ?_
  repeat'
    (conv => whnf
     first
      | (exact trivial)
      | (refine And.intro (by with_reducible rfl) ?_)
      | (refine And.intro (drawI (by kernel_rfl)) ?_)
      | (refine andI ?_ ?_)
      | (refine condT (by assumption) ?_)
      | (refine condF (by assumption) ?_)
      | (refine decT (by assumption) ?_)
      | (refine decF (by assumption) ?_)
      | (refine eqT (by assumption) ?_)
      | (refine eqF (by assumption) ?_)
      | (refine neT (by assumption) ?_)
      | (refine neF (by assumption) ?_)
      | (refine cEq (fun h => ?_) (fun h => ?_))
      | (refine cNe (fun h => ?_) (fun h => ?_))
      | (refine cNot (fun h => ?_) (fun h => ?_))
      | (refine cDec (fun h => ?_) (fun h => ?_))
      | (refine condN_split (fun h => ?_) (fun h => ?_))
      | (refine Exists.intro _ (And.intro (hC) ?_))
      | (refine Exists.intro _ (And.intro (hR _ ?_) ?_))
      | (refine Exists.intro _ (And.intro (hP _ _ ?_) ?_))
      | (refine Exists.intro _ (And.intro (hO _ rfl ?_) ?_))
      | (refine Exists.intro _ (And.intro eq_sns ?_))
      | (refine Exists.intro _ (And.intro eq_blk ?_))
      | (refine Exists.intro _ (And.intro rfl ?_))
      | (refine Or.inl (And.intro (by rfl : Nat.ble _ _ = true) ?_))
      | (refine Or.inl (And.intro Cl.lit ?_))
      | (refine Or.inr ?_)
      | (refine Exists.intro (1 : Nat) ?_)
      | (refine Exists.intro _ (And.intro rfl ?_))
      | (fail))
  all_goals try refine Side.mk ?_
  all_goals try dsimp only
  all_goals try refine eqI ?_
  all_goals first
    | exact hl (by assumption)
    | (rw [f0 (by assumption)]; done)
    | (rw [f1 (by assumption) (by assumption), g1 (by assumption)]; done)
    | (have hq := hk (hl (by assumption)) true (by assumption)
       rw [f1 (by assumption) (by assumption), g2 (by assumption) (of_decide_eq_true hq)]; done)
    | (have hq := hk (hl (by assumption)) false (by assumption)
       rw [f1 (by assumption) (by assumption), g3 (by assumption) (of_decide_eq_false hq)]; rfl)
    | (rw [f2 (by assumption) (by assumption) true (by simp [*])]; done)
    | (rw [f2 (by assumption) (by assumption) (!ca) (by simp [*])]; done)
    | (rw [f2 (by assumption) (by assumption) false (by simp [*])]; done)
    | exact hz3 (by omega)
    | exact hz4 (by omega) (by omega)
    | (rw [wrap64 (by omega) (by omega)]; exact hz3 (by omega))
    | (rw [wrap64 (by omega) (by omega)]; exact hz4 (by omega) (by omega))
end Go.Proofs.Ytbieiehfohldjaa
