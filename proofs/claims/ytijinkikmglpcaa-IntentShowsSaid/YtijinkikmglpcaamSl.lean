/-
  Slots: what may be read and written, by the program and by the document.
-/
import Derived.Test.YtijinkikmglpcaamSv
namespace Go.Proofs.Ytijinkikmglpcaa
open Go
set_option linter.unusedVariables false
set_option linter.unusedSimpArgs false
set_option maxRecDepth 100000
set_option maxHeartbeats 8000000

theorem mdAll_len (m : Med) : (mdAll m).length ≤ 64 := by
  unfold mdAll
  split
  · rename_i h
    rw [flush_len]
    exact ((right_iff m).1 h).1
  · exact Nat.zero_le _
theorem bSome_len (l : List Blk) (p n : Int) : (bSome l p n).1.length ≤ 64 := by
  unfold bSome
  split
  · simp
  · split
    · simp
    · simp; omega
def sCheck (s : Slt) (p n : Int) (w : Bool) : Sns := if s.present = false then sNotReady else if w = true ∧ s.prot = true then sProt else if bWithin (mdAll s.med).length p n = false then sRange else sOk
theorem c_scheck (s : Slt) (p n : Int) (w : Bool) (hn : Side (InI6 n)) : FnC Try.prog 66 [s.v, u64 p, i64 n, bV w] [] (sCheck s p n w).v [] := by
  have hn := hn.h
  have hl := mdAll_len s.med
  have hA := c_all s.med
  unfold sCheck
  obtain ⟨m, pr, pt, la⟩ := s
  obtain ⟨bs, ds⟩ := m
  dsimp only [Slt.v, Med.v] at *
  generalize mdAll _ = a at *
  refine fn_vcI (N := 35) (d := 6) tabOk mixed inlSl_ok 6 Try.func66 rfl rfl rfl ?_
  repeat'
    (conv => whnf
     first
      | (exact trivial)
      | (refine And.intro (by with_reducible rfl) ?_)
      | (refine And.intro (drawI (by kernel_rfl)) ?_)
      | (refine andI ?_ ?_)
      | (refine condT (by assumption) ?_)
      | (refine condF (by assumption) ?_)
      | (refine decT (by assumption) ?_)
      | (refine decF (by assumption) ?_)
      | (refine eqT (by assumption) ?_)
      | (refine eqF (by assumption) ?_)
      | (refine neT (by assumption) ?_)
      | (refine neF (by assumption) ?_)
      | (refine cEq (fun h => ?_) (fun h => ?_))
      | (refine cNe (fun h => ?_) (fun h => ?_))
      | (refine cNot (fun h => ?_) (fun h => ?_))
      | (refine cDec (fun h => ?_) (fun h => ?_))
      | (refine condN_split (fun h => ?_) (fun h => ?_))
      | (refine Exists.intro _ (And.intro (hA) ?_))
      | (refine Exists.intro _ (And.intro eq_sns ?_))
      | (refine Exists.intro _ (And.intro (c_within _ _ _ ?_ ?_) ?_))
      | (refine Exists.intro _ (And.intro rfl ?_))
      | (refine Or.inl (And.intro (by rfl : Nat.ble _ _ = true) ?_))
      | (refine Or.inl (And.intro Cl.lit ?_))
      | (refine Or.inr ?_)
      | (refine Exists.intro (1 : Nat) ?_)
      | (refine Exists.intro _ (And.intro rfl ?_))
      | (fail))
  all_goals try refine Side.mk ?_
  all_goals try dsimp only at *
  all_goals try refine eqI ?_
  all_goals try simp only [List.length_map] at *
  all_goals first
    | assumption
    | omega
    | (simp [*]; done)
    | (simp [*]; rfl)
    | (exfalso; simp [*] at *; done)
    | (set_option pp.maxSteps 400 in trace_state; sorry)
theorem c_refScheck (s : Slt) (p n : Int) (w : Bool) (hn : Side (InI6 n)) : FnC Try.prog 25 [s.v, u64 p, i64 n, bV w] [] (sCheck s p n w).v [] := by
  have hn := hn.h
  have hl := mdAll_len s.med
  have hA := c_refAll s.med
  unfold sCheck
  obtain ⟨m, pr, pt, la⟩ := s
  obtain ⟨bs, ds⟩ := m
  dsimp only [Slt.v, Med.v] at *
  generalize mdAll _ = a at *
  refine fn_vcI (N := 29) (d := 5) tabOk mixed inlSl_ok 6 Try.func25 rfl rfl rfl ?_
  repeat'
    (conv => whnf
     first
      | (exact trivial)
      | (refine And.intro (by with_reducible rfl) ?_)
      | (refine And.intro (drawI (by kernel_rfl)) ?_)
      | (refine andI ?_ ?_)
      | (refine condT (by assumption) ?_)
      | (refine condF (by assumption) ?_)
      | (refine decT (by assumption) ?_)
      | (refine decF (by assumption) ?_)
      | (refine eqT (by assumption) ?_)
      | (refine eqF (by assumption) ?_)
      | (refine neT (by assumption) ?_)
      | (refine neF (by assumption) ?_)
      | (refine cEq (fun h => ?_) (fun h => ?_))
      | (refine cNe (fun h => ?_) (fun h => ?_))
      | (refine cNot (fun h => ?_) (fun h => ?_))
      | (refine cDec (fun h => ?_) (fun h => ?_))
      | (refine condN_split (fun h => ?_) (fun h => ?_))
      | (refine Exists.intro _ (And.intro (hA) ?_))
      | (refine Exists.intro _ (And.intro (c_refWithin _ _ _ ?_ ?_) ?_))
      | (refine Exists.intro _ (And.intro rfl ?_))
      | (refine Or.inl (And.intro (by rfl : Nat.ble _ _ = true) ?_))
      | (refine Or.inl (And.intro Cl.lit ?_))
      | (refine Or.inr ?_)
      | (refine Exists.intro (1 : Nat) ?_)
      | (refine Exists.intro _ (And.intro rfl ?_))
      | (fail))
  all_goals try refine Side.mk ?_
  all_goals try dsimp only at *
  all_goals try refine eqI ?_
  all_goals try simp only [List.length_map] at *
  all_goals first
    | assumption
    | omega
    | (simp [*]; done)
    | (simp [*]; rfl)
    | (set_option pp.maxSteps 400 in trace_state; sorry)
end Go.Proofs.Ytijinkikmglpcaa
