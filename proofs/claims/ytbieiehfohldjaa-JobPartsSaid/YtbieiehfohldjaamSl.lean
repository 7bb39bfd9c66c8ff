/-
  Slots: what may be read and written, by the program and by the document.
-/
import Derived.Test.YtbieiehfohldjaamSv
namespace Go.Proofs.Ytbieiehfohldjaa
open Go
set_option linter.unusedVariables false
set_option linter.unusedSimpArgs false
set_option maxRecDepth 100000
set_option maxHeartbeats 8000000

theorem c_refCwrite (m : Med) (at_ : Int) (x : Blk) (thr : Bool) (hI : Side (InI6 at_)) : FnC Try.prog 66 [m.v, i64 at_, .agg x.row, bV thr] [] (.tup [(mWrite m at_ x thr).1.v, i64 (mWrite m at_ x thr).2]) [] := by
  have hI := hI.h
  dsimp only [InI6] at hI
  have hF : ∀ z, Side (z = at_ + 1) → Side (mRight m = true) → FnN Try.prog 83 [m.v, i64 at_, i64 z] (.agg [.win 0 64 0 m.blocks.length m.blocks.length, .win 1 65 0 (mFlush (q_ft at_ (at_ + 1)) m).dirty.length (mFlush (q_ft at_ (at_ + 1)) m).dirty.length]) [(0, true, ⟨64, (mFlush (q_ft at_ (at_ + 1)) m).blocks.map Blk.row, false⟩), (1, true, ⟨65, (mFlush (q_ft at_ (at_ + 1)) m).dirty.map Dty.row, false⟩)] 2 := fun z hz hr => by
    rw [hz.h]; exact c_refFlushed m at_ (at_ + 1) hr
  have hG : ∀ z, Side (z = (m.blocks.length : Int)) → Side (mRight m = true) → FnN Try.prog 83 [m.v, i64 0, i64 z] (.agg [.win 0 64 0 m.blocks.length m.blocks.length, .win 1 65 0 (mFlush (q_ft 0 m.blocks.length) m).dirty.length (mFlush (q_ft 0 m.blocks.length) m).dirty.length]) [(0, true, ⟨64, (mFlush (q_ft 0 m.blocks.length) m).blocks.map Blk.row, false⟩), (1, true, ⟨65, (mFlush (q_ft 0 m.blocks.length) m).dirty.map Dty.row, false⟩)] 2 := fun z hz hr => by
    rw [hz.h]; exact c_refFlushed m 0 m.blocks.length hr
  have h0 := c_refRight m
  have e1 : mRight m = false → mWrite m at_ x thr = (mNil, 1) := fun h => by unfold mWrite; rw [if_pos h]
  have e2 : mRight m = true → ¬ (0 ≤ at_ ∧ at_ < m.blocks.length) → mWrite m at_ x thr = (mNil, 5) := fun h h2 => by unfold mWrite; rw [if_neg (by rw [h]; decide), if_pos h2]
  have e3 : mRight m = true → (0 ≤ at_ ∧ at_ < m.blocks.length) → thr = true → mWrite m at_ x thr = (⟨(mFlush (q_ft at_ (at_ + 1)) m).blocks.set at_.toNat x, (mFlush (q_ft at_ (at_ + 1)) m).dirty⟩, 0) := fun h h2 h3 => by
    unfold mWrite; rw [if_neg (by rw [h]; decide), if_neg (by simpa using h2), if_pos h3, flush_at]
  have e4 : mRight m = true → (0 ≤ at_ ∧ at_ < m.blocks.length) → thr = false → m.dirty.length = 64 → mWrite m at_ x thr = (⟨(mFlush (q_ft 0 m.blocks.length) m).blocks, (mFlush (q_ft 0 m.blocks.length) m).dirty ++ [⟨at_, x⟩]⟩, 0) := fun h h2 h3 h4 => by
    unfold mWrite; rw [if_neg (by rw [h]; decide), if_neg (by simpa using h2), if_neg (by rw [h3]; decide), flush_full m at_ h4 h]
  have e5 : mRight m = true → (0 ≤ at_ ∧ at_ < m.blocks.length) → thr = false → m.dirty.length ≠ 64 → mWrite m at_ x thr = (⟨m.blocks, m.dirty ++ [⟨at_, x⟩]⟩, 0) := fun h h2 h3 h4 => by
    unfold mWrite; rw [if_neg (by rw [h]; decide), if_neg (by simpa using h2), if_neg (by rw [h3]; decide), flush_few m at_ h4]
  have l1 := flush_len (q_ft at_ (at_ + 1)) m
  have l2 := flush_dlen (q_ft at_ (at_ + 1)) m
  have l3 := flush_len (q_ft 0 m.blocks.length) m
  have l4 := flush_dlen (q_ft 0 m.blocks.length) m
  have hd := fun h => ((right_iff m).1 h)
  generalize mWrite m at_ x thr = w at *
  generalize mFlush (q_ft at_ (at_ + 1)) m = f at *
  generalize mFlush (q_ft 0 m.blocks.length) m = g at *
  have w1 : at_ < m.blocks.length → m.blocks.length ≤ 64 → IntKind.i64.wrap (at_ + 1) = at_ + 1 := fun a b => wrap64 (by omega) (by omega)
  obtain ⟨bs, ds⟩ := m
  obtain ⟨fb, fd⟩ := f
  obtain ⟨gb, gd⟩ := g
  dsimp only [Med.v] at *
  have t1 : (gb.map Blk.row).take bs.length = gb.map Blk.row := List.take_of_length_le (by rw [List.length_map, l3]; exact Nat.le_refl _)
  have t2 : ∀ l : List Dty, (l.map Dty.row).take l.length = l.map Dty.row := fun l => List.take_of_length_le (by rw [List.length_map]; exact Nat.le_refl _)
  have t3 : ∀ l : List Blk, (l.map Blk.row).take l.length = l.map Blk.row := fun l => List.take_of_length_le (by rw [List.length_map]; exact Nat.le_refl _)
  refine fn_vcI (N := 59) (d := 6) tabOk mixed inlSl_ok 6 Try.func66 rfl rfl rfl ?_
  repeat'
    (conv => whnf
     first
      | (exact trivial)
      | (refine And.intro (by with_reducible rfl) ?_)
      | (refine And.intro (drawI (by kernel_rfl)) ?_)
      | (refine andI ?_ ?_)
      | (refine condT (by assumption) ?_)
      | (refine condF (by assumption) ?_)
      | (refine decT (by assumption) ?_)
      | (refine decF (by assumption) ?_)
      | (refine eqT (by assumption) ?_)
      | (refine eqF (by assumption) ?_)
      | (refine neT (by assumption) ?_)
      | (refine neF (by assumption) ?_)
      | (refine cEq (fun h => ?_) (fun h => ?_))
      | (refine cNe (fun h => ?_) (fun h => ?_))
      | (refine cNot (fun h => ?_) (fun h => ?_))
      | (refine cDec (fun h => ?_) (fun h => ?_))
      | (refine condN_split (fun h => ?_) (fun h => ?_))
      | (refine Exists.intro _ (And.intro (h0) ?_))
      | (refine Exists.intro _ (Exists.intro _ (Exists.intro _ (And.intro (hF _ ?_ ?_) ?_))))
      | (refine Exists.intro _ (Exists.intro _ (Exists.intro _ (And.intro (hG _ ?_ ?_) ?_))))
      | (refine Exists.intro _ (And.intro (map_get Blk.dflt ?_) ?_))
      | (refine Exists.intro _ (And.intro rfl ?_))
      | (refine Or.inl (And.intro (by rfl : Nat.ble _ _ = true) ?_))
      | (refine Or.inl (And.intro Cl.lit ?_))
      | (refine Or.inr ?_)
      | (refine Exists.intro (1 : Nat) ?_)
      | (refine Exists.intro _ (And.intro rfl ?_))
      | (fail))
  all_goals try refine Side.mk ?_
  all_goals try dsimp only at *
  all_goals try refine eqI ?_
  all_goals first
    | assumption
    | (rw [e1 (by assumption)]; rfl)
    | skip
  all_goals have hd := hd (by assumption)
  all_goals try simp only [List.drop_zero, Nat.zero_add, List.nil_append, List.length_map, t1, t2, t3]
  all_goals clear t1 t2 t3
  all_goals try simp only [List.length_map, Int.toNat_natCast, Nat.zero_add, List.drop_zero, decide_eq_true_eq, decide_eq_false_iff_not] at *
  all_goals try first
    | assumption
    | omega
    | exact Nat.le_refl _
    | (rw [rp_Blk]; trivial)
    | (rw [rp_Dty]; trivial)
    | (rw [rp_Sns]; trivial)
    | (rw [or_Blk]; trivial)
    | (rw [or_Dty]; trivial)
    | (rw [or_Sns]; trivial)
    | (refine rn_plain ?_; rw [rp_Blk]; trivial)
    | (refine rn_plain ?_; rw [rp_Dty]; trivial)
    | (refine rn_plain ?_; rw [rp_Sns]; trivial)
    | (refine or_all ?_; rfl)
    | (refine rp_all ?_; rfl)
    | (refine rn_plain (rp_all ?_); rfl)
  all_goals first
    | (rw [e2 (by assumption) (by omega)]; rfl)
    | (exact w1 (by omega) (by omega))
    | (simp only [List.length_take, List.length_append, List.length_map, List.length_cons, List.length_nil]; omega)
    | (rw [rp_app, rp_Dty]; exact ⟨trivial, rp_all rfl⟩)
    | (refine rp_set ?_ rfl _; rw [rp_Blk]; trivial)
    | (rw [List.length_set, List.length_map]; omega)
    | (rw [e3 (by assumption) (by omega) (by assumption), List.take_of_length_le (by rw [List.length_set, List.length_map]; omega)]
       exact congrArg (fun l => V.tup [V.agg [V.sl 64 l, _], _]) (set_row _ _ _))
    | exact List.length_nil.symm
    | (rw [e4 (by assumption) (by omega) (by assumption) (by omega), List.take_of_length_le (l := List.map Dty.row gd ++ _) (Nat.le_refl _)]
       simp only [List.map_append]
       rfl)
    | (rw [e5 (by assumption) (by omega) (by assumption) (by omega), List.take_of_length_le (l := List.map Dty.row ds ++ _) (Nat.le_refl _)]
       simp only [List.map_append]
       rfl)
theorem mdAll_len (m : Med) : (mdAll m).length ≤ 64 := by
  unfold mdAll
  split
  · rename_i h
    rw [flush_len]
    exact ((right_iff m).1 h).1
  · exact Nat.zero_le _
theorem bSome_len (l : List Blk) (p n : Int) : (bSome l p n).1.length ≤ 64 := by
  unfold bSome
  split
  · simp
  · split
    · simp
    · simp; omega
def sCheck (s : Slt) (p n : Int) (w : Bool) : Sns := if s.present = false then sNotReady else if w = true ∧ s.prot = true then sProt else if bWithin (mdAll s.med).length p n = false then sRange else sOk
theorem c_scheck (s : Slt) (p n : Int) (w : Bool) (hn : Side (InI6 n)) : FnC Try.prog 59 [s.v, u64 p, i64 n, bV w] [] (sCheck s p n w).v [] := by
  have hn := hn.h
  have hl := mdAll_len s.med
  have hA := c_all s.med
  unfold sCheck
  obtain ⟨m, pr, pt, la⟩ := s
  obtain ⟨bs, ds⟩ := m
  dsimp only [Slt.v, Med.v] at *
  generalize mdAll _ = a at *
  refine fn_vcI (N := 35) (d := 6) tabOk mixed inlSl_ok 6 Try.func59 rfl rfl rfl ?_
  repeat'
    (conv => whnf
     first
      | (exact trivial)
      | (refine And.intro (by with_reducible rfl) ?_)
      | (refine And.intro (drawI (by kernel_rfl)) ?_)
      | (refine andI ?_ ?_)
      | (refine condT (by assumption) ?_)
      | (refine condF (by assumption) ?_)
      | (refine decT (by assumption) ?_)
      | (refine decF (by assumption) ?_)
      | (refine eqT (by assumption) ?_)
      | (refine eqF (by assumption) ?_)
      | (refine neT (by assumption) ?_)
      | (refine neF (by assumption) ?_)
      | (refine cEq (fun h => ?_) (fun h => ?_))
      | (refine cNe (fun h => ?_) (fun h => ?_))
      | (refine cNot (fun h => ?_) (fun h => ?_))
      | (refine cDec (fun h => ?_) (fun h => ?_))
      | (refine condN_split (fun h => ?_) (fun h => ?_))
      | (refine Exists.intro _ (And.intro (hA) ?_))
      | (refine Exists.intro _ (And.intro eq_sns ?_))
      | (refine Exists.intro _ (And.intro (c_within _ _ _ ?_ ?_) ?_))
      | (refine Exists.intro _ (And.intro rfl ?_))
      | (refine Or.inl (And.intro (by rfl : Nat.ble _ _ = true) ?_))
      | (refine Or.inl (And.intro Cl.lit ?_))
      | (refine Or.inr ?_)
      | (refine Exists.intro (1 : Nat) ?_)
      | (refine Exists.intro _ (And.intro rfl ?_))
      | (fail))
  all_goals try refine Side.mk ?_
  all_goals try dsimp only at *
  all_goals try refine eqI ?_
  all_goals try simp only [List.length_map] at *
  all_goals first
    | assumption
    | omega
    | (simp [*]; done)
    | (simp [*]; rfl)
    | (exfalso; simp [*] at *; done)
theorem c_refScheck (s : Slt) (p n : Int) (w : Bool) (hn : Side (InI6 n)) : FnC Try.prog 64 [s.v, u64 p, i64 n, bV w] [] (sCheck s p n w).v [] := by
  have hn := hn.h
  have hl := mdAll_len s.med
  have hA := c_refAll s.med
  unfold sCheck
  obtain ⟨m, pr, pt, la⟩ := s
  obtain ⟨bs, ds⟩ := m
  dsimp only [Slt.v, Med.v] at *
  generalize mdAll _ = a at *
  refine fn_vcI (N := 29) (d := 5) tabOk mixed inlSl_ok 6 Try.func64 rfl rfl rfl ?_
  repeat'
    (conv => whnf
     first
      | (exact trivial)
      | (refine And.intro (by with_reducible rfl) ?_)
      | (refine And.intro (drawI (by kernel_rfl)) ?_)
      | (refine andI ?_ ?_)
      | (refine condT (by assumption) ?_)
      | (refine condF (by assumption) ?_)
      | (refine decT (by assumption) ?_)
      | (refine decF (by assumption) ?_)
      | (refine eqT (by assumption) ?_)
      | (refine eqF (by assumption) ?_)
      | (refine neT (by assumption) ?_)
      | (refine neF (by assumption) ?_)
      | (refine cEq (fun h => ?_) (fun h => ?_))
      | (refine cNe (fun h => ?_) (fun h => ?_))
      | (refine cNot (fun h => ?_) (fun h => ?_))
      | (refine cDec (fun h => ?_) (fun h => ?_))
      | (refine condN_split (fun h => ?_) (fun h => ?_))
      | (refine Exists.intro _ (And.intro (hA) ?_))
      | (refine Exists.intro _ (And.intro (c_refWithin _ _ _ ?_ ?_) ?_))
      | (refine Exists.intro _ (And.intro rfl ?_))
      | (refine Or.inl (And.intro (by rfl : Nat.ble _ _ = true) ?_))
      | (refine Or.inl (And.intro Cl.lit ?_))
      | (refine Or.inr ?_)
      | (refine Exists.intro (1 : Nat) ?_)
      | (refine Exists.intro _ (And.intro rfl ?_))
      | (fail))
  all_goals try refine Side.mk ?_
  all_goals try dsimp only at *
  all_goals try refine eqI ?_
  all_goals try simp only [List.length_map] at *
  all_goals first
    | assumption
    | omega
    | (simp [*]; done)
    | (simp [*]; rfl)
end Go.Proofs.Ytbieiehfohldjaa
