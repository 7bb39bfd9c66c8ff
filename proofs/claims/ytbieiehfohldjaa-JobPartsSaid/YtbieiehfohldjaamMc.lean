/-
  Media: what is right, what is flushed, written, lost, shown.
-/
import Derived.Test.YtbieiehfohldjaamMd
namespace Go.Proofs.Ytbieiehfohldjaa
open Go
set_option linter.unusedVariables false
set_option linter.unusedSimpArgs false
set_option maxRecDepth 100000
set_option maxHeartbeats 4000000


noncomputable def inlNw : List IRow := [(80, Try.f80, 14, 4, 0), (78, Try.f78, 8, 0, 0)]
theorem inlNw_ok : IOk Try.prog (inlTab inlNw) := inl_ok (by
  unfold inlNw
  refine And.intro ⟨rfl, rfl, rfl, .inl rfl⟩ ?_
  refine And.intro ⟨rfl, rfl, rfl, .inl rfl⟩ ?_
  exact trivial)
noncomputable def inlNf : List IRow := [(88, Try.f88, 47, 0, 0), (78, Try.f78, 8, 0, 0)]
theorem inlNf_ok : IOk Try.prog (inlTab inlNf) := inl_ok (by
  unfold inlNf
  refine And.intro ⟨rfl, rfl, rfl, .inl rfl⟩ ?_
  refine And.intro ⟨rfl, rfl, rfl, .inl rfl⟩ ?_
  exact trivial)
def mFlush (q : Nat → Dty → Bool) (m : Med) : Med := mDone q (fun _ _ => true) m
theorem flush_len (q : Nat → Dty → Bool) (m : Med) : (mFlush q m).blocks.length = m.blocks.length := putF_len q m.dirty 0 m.blocks
theorem flush_dlen (q : Nat → Dty → Bool) (m : Med) : (mFlush q m).dirty.length ≤ m.dirty.length := keepF_len q _ m.dirty 0
theorem c_flush_every (m : Med) (hr : Side (mRight m = true)) : FnN Try.prog 78 [m.v, .fn 79 []] (.agg [.win 0 64 0 m.blocks.length m.blocks.length, .win 1 65 0 (mFlush q_every m).dirty.length (mFlush q_every m).dirty.length]) [(0, true, ⟨64, (mFlush q_every m).blocks.map Blk.row, false⟩), (1, true, ⟨65, (mFlush q_every m).dirty.map Dty.row, false⟩)] 2 := by
  have h := c_done_every m hr
  obtain ⟨bs, ds⟩ := m
  dsimp only [Med.v] at *
  refine fn_vcN (N := 8) (d := 4) tabOk mixed inlNf_ok 6 Try.func78 rfl rfl rfl rfl rfl ⟨by rw [rp_Blk]; trivial, by rw [rp_Dty]; trivial, trivial⟩ ?_
  repeat'
    (conv => whnf
     first
      | (exact trivial)
      | (refine And.intro (by with_reducible rfl) ?_)
      | (refine And.intro (drawI (by kernel_rfl)) ?_)
      | (refine andI ?_ ?_)
      | (refine condT (by assumption) ?_)
      | (refine condF (by assumption) ?_)
      | (refine decT (by assumption) ?_)
      | (refine decF (by assumption) ?_)
      | (refine eqT (by assumption) ?_)
      | (refine eqF (by assumption) ?_)
      | (refine neT (by assumption) ?_)
      | (refine neF (by assumption) ?_)
      | (refine cEq (fun h => ?_) (fun h => ?_))
      | (refine cNe (fun h => ?_) (fun h => ?_))
      | (refine cNot (fun h => ?_) (fun h => ?_))
      | (refine cDec (fun h => ?_) (fun h => ?_))
      | (refine condN_split (fun h => ?_) (fun h => ?_))
      | (refine Exists.intro _ (Exists.intro _ (Exists.intro _ (And.intro (h) ?_))))
      | (refine Exists.intro _ (And.intro rfl ?_))
      | (refine Or.inl (And.intro (by rfl : Nat.ble _ _ = true) ?_))
      | (refine Or.inl (And.intro Cl.lit ?_))
      | (refine Or.inr ?_)
      | (refine Exists.intro (1 : Nat) ?_)
      | (refine Exists.intro _ (And.intro rfl ?_))
      | (fail))
  all_goals try refine Side.mk ?_
  all_goals try dsimp only at *
  all_goals try refine eqI ?_
  all_goals first
    | rfl
    | (rw [rp_Blk]; trivial)
    | (rw [rp_Dty]; trivial)
def mdAll (m : Med) : List Blk := if mRight m = true then (mFlush q_every m).blocks else []
theorem c_all (m : Med) : FnC Try.prog 61 [m.v] [] (.sl 64 ((mdAll m).map Blk.row)) [] := by
  have hF := c_flush_every m
  have h0 := c_mRight m
  have l1 := flush_len q_every m
  have ha : mRight m = true → mdAll m = (mFlush q_every m).blocks := fun h => by unfold mdAll; rw [if_pos h]
  have hb : mRight m = false → mdAll m = [] := fun h => by unfold mdAll; rw [if_neg (by rw [h]; decide)]
  generalize mdAll m = a at *
  generalize mFlush q_every m = f at *
  obtain ⟨bs, ds⟩ := m
  obtain ⟨fb, fd⟩ := f
  dsimp only [Med.v] at *
  refine fn_vcI (N := 9) (d := 4) tabOk mixed inlNf_ok 6 Try.func61 rfl rfl rfl ?_
  repeat'
    (conv => whnf
     first
      | (exact trivial)
      | (refine And.intro (by with_reducible rfl) ?_)
      | (refine And.intro (drawI (by kernel_rfl)) ?_)
      | (refine andI ?_ ?_)
      | (refine condT (by assumption) ?_)
      | (refine condF (by assumption) ?_)
      | (refine decT (by assumption) ?_)
      | (refine decF (by assumption) ?_)
      | (refine eqT (by assumption) ?_)
      | (refine eqF (by assumption) ?_)
      | (refine neT (by assumption) ?_)
      | (refine neF (by assumption) ?_)
      | (refine cEq (fun h => ?_) (fun h => ?_))
      | (refine cNe (fun h => ?_) (fun h => ?_))
      | (refine cNot (fun h => ?_) (fun h => ?_))
      | (refine cDec (fun h => ?_) (fun h => ?_))
      | (refine condN_split (fun h => ?_) (fun h => ?_))
      | (refine Exists.intro _ (And.intro (h0) ?_))
      | (refine Exists.intro _ (Exists.intro _ (Exists.intro _ (And.intro (hF ?_) ?_))))
      | (refine Or.inl (And.intro (by rfl : Nat.ble _ _ = true) ?_))
      | (refine Or.inl (And.intro Cl.lit ?_))
      | (refine Or.inr ?_)
      | (refine Exists.intro (64 : Nat) ?_)
      | (refine Exists.intro _ (And.intro rfl ?_))
      | (fail))
  all_goals try refine Side.mk ?_
  all_goals try dsimp only at *
  all_goals try refine eqI ?_
  all_goals try simp only [List.length_map, Int.toNat_natCast, Nat.zero_add, List.drop_zero, decide_eq_true_eq, decide_eq_false_iff_not] at *
  all_goals try first
    | assumption
    | omega
    | exact Nat.le_refl _
    | (rw [rp_Blk]; trivial)
    | (rw [rp_Dty]; trivial)
    | (rw [rp_Sns]; trivial)
    | (rw [or_Blk]; trivial)
    | (rw [or_Dty]; trivial)
    | (rw [or_Sns]; trivial)
    | (refine rn_plain ?_; rw [rp_Blk]; trivial)
    | (refine rn_plain ?_; rw [rp_Dty]; trivial)
    | (refine rn_plain ?_; rw [rp_Sns]; trivial)
    | (refine or_all ?_; rfl)
    | (refine rp_all ?_; rfl)
    | (refine rn_plain (rp_all ?_); rfl)
  all_goals first
    | (rw [ha (by assumption), List.take_of_length_le (by rw [List.length_map]; omega)])
    | (rw [ha (by assumption)])
    | (rw [hb (by assumption)]; rfl)
theorem c_flush_wr (m : Med) (at_ : Int) (thr : Bool) (hr : Side (mRight m = true)) : FnN Try.prog 78 [m.v, .fn 81 [.ip [bV thr], .ip [i64 at_], .ip m.row]] (.agg [.win 0 64 0 m.blocks.length m.blocks.length, .win 1 65 0 (mFlush (q_wr m.dirty.length at_ thr) m).dirty.length (mFlush (q_wr m.dirty.length at_ thr) m).dirty.length]) [(0, true, ⟨64, (mFlush (q_wr m.dirty.length at_ thr) m).blocks.map Blk.row, false⟩), (1, true, ⟨65, (mFlush (q_wr m.dirty.length at_ thr) m).dirty.map Dty.row, false⟩)] 2 := by
  have h := c_done_wr m at_ thr hr
  obtain ⟨bs, ds⟩ := m
  dsimp only [Med.v, Med.row] at *
  refine fn_vcN (N := 8) (d := 4) tabOk mixed inlNf_ok 6 Try.func78 rfl rfl rfl rfl rfl ⟨by rw [rp_Blk]; trivial, by rw [rp_Dty]; trivial, trivial⟩ ?_
  repeat'
    (conv => whnf
     first
      | (exact trivial)
      | (refine And.intro (by with_reducible rfl) ?_)
      | (refine And.intro (drawI (by kernel_rfl)) ?_)
      | (refine andI ?_ ?_)
      | (refine condT (by assumption) ?_)
      | (refine condF (by assumption) ?_)
      | (refine decT (by assumption) ?_)
      | (refine decF (by assumption) ?_)
      | (refine eqT (by assumption) ?_)
      | (refine eqF (by assumption) ?_)
      | (refine neT (by assumption) ?_)
      | (refine neF (by assumption) ?_)
      | (refine cEq (fun h => ?_) (fun h => ?_))
      | (refine cNe (fun h => ?_) (fun h => ?_))
      | (refine cNot (fun h => ?_) (fun h => ?_))
      | (refine cDec (fun h => ?_) (fun h => ?_))
      | (refine condN_split (fun h => ?_) (fun h => ?_))
      | (refine Exists.intro _ (Exists.intro _ (Exists.intro _ (And.intro (h) ?_))))
      | (refine Exists.intro _ (And.intro rfl ?_))
      | (refine Or.inl (And.intro (by rfl : Nat.ble _ _ = true) ?_))
      | (refine Or.inl (And.intro Cl.lit ?_))
      | (refine Or.inr ?_)
      | (refine Exists.intro (1 : Nat) ?_)
      | (refine Exists.intro _ (And.intro rfl ?_))
      | (fail))
  all_goals try refine Side.mk ?_
  all_goals try dsimp only at *
  all_goals try refine eqI ?_
  all_goals first
    | rfl
    | (rw [rp_Blk]; trivial)
    | (rw [rp_Dty]; trivial)
def mNil : Med := ⟨[], []⟩
def mWrite (m : Med) (at_ : Int) (x : Blk) (thr : Bool) : Med × Int :=
  if mRight m = false then (mNil, 1) else if ¬ (0 ≤ at_ ∧ at_ < m.blocks.length) then (mNil, 5)
  else if thr = true then (⟨(mFlush (q_wr m.dirty.length at_ true) m).blocks.set at_.toNat x, (mFlush (q_wr m.dirty.length at_ true) m).dirty⟩, 0)
  else (⟨(mFlush (q_wr m.dirty.length at_ false) m).blocks, (mFlush (q_wr m.dirty.length at_ false) m).dirty ++ [⟨at_, x⟩]⟩, 0)
theorem c_cwrite (m : Med) (at_ : Int) (x : Blk) (thr : Bool) : FnC Try.prog 62 [m.v, i64 at_, .agg x.row, bV thr] [] (.tup [(mWrite m at_ x thr).1.v, i64 (mWrite m at_ x thr).2]) [] := by
  have hF := c_flush_wr m at_ thr
  have h0 := c_mRight m
  have l1 := flush_len (q_wr m.dirty.length at_ thr) m
  have l2 := flush_dlen (q_wr m.dirty.length at_ thr) m
  have e1 : mRight m = false → mWrite m at_ x thr = (mNil, 1) := fun h => by unfold mWrite; rw [if_pos h]
  have e2 : mRight m = true → ¬ (0 ≤ at_ ∧ at_ < m.blocks.length) → mWrite m at_ x thr = (mNil, 5) := fun h h2 => by unfold mWrite; rw [if_neg (by rw [h]; decide), if_pos h2]
  have e3 : mRight m = true → (0 ≤ at_ ∧ at_ < m.blocks.length) → mWrite m at_ x thr = if thr = true then (⟨(mFlush (q_wr m.dirty.length at_ thr) m).blocks.set at_.toNat x, (mFlush (q_wr m.dirty.length at_ thr) m).dirty⟩, 0)
      else (⟨(mFlush (q_wr m.dirty.length at_ thr) m).blocks, (mFlush (q_wr m.dirty.length at_ thr) m).dirty ++ [⟨at_, x⟩]⟩, 0) := fun h h2 => by
    unfold mWrite; rw [if_neg (by rw [h]; decide), if_neg (by simpa using h2)]; cases thr <;> rfl
  have hd := fun h => ((right_iff m).1 h).2.1
  generalize mWrite m at_ x thr = w at *
  cases thr
  all_goals generalize mFlush (q_wr m.dirty.length at_ _) m = f at *
  all_goals obtain ⟨bs, ds⟩ := m
  all_goals obtain ⟨fb, fd⟩ := f
  all_goals dsimp only [Med.v, Med.row] at *
  all_goals refine fn_vcI (N := 42) (d := 6) tabOk mixed inlNw_ok 6 Try.func62 rfl rfl rfl ?_
  repeat'
    (conv => whnf
     first
      | (exact trivial)
      | (refine And.intro (by with_reducible rfl) ?_)
      | (refine And.intro (drawI (by kernel_rfl)) ?_)
      | (refine andI ?_ ?_)
      | (refine condT (by assumption) ?_)
      | (refine condF (by assumption) ?_)
      | (refine decT (by assumption) ?_)
      | (refine decF (by assumption) ?_)
      | (refine eqT (by assumption) ?_)
      | (refine eqF (by assumption) ?_)
      | (refine neT (by assumption) ?_)
      | (refine neF (by assumption) ?_)
      | (refine cEq (fun h => ?_) (fun h => ?_))
      | (refine cNe (fun h => ?_) (fun h => ?_))
      | (refine cNot (fun h => ?_) (fun h => ?_))
      | (refine cDec (fun h => ?_) (fun h => ?_))
      | (refine condN_split (fun h => ?_) (fun h => ?_))
      | (refine Exists.intro _ (And.intro (h0) ?_))
      | (refine Exists.intro _ (Exists.intro _ (Exists.intro _ (And.intro (hF ?_) ?_))))
      | (refine Exists.intro _ (And.intro (map_get Blk.dflt ?_) ?_))
      | (refine Exists.intro _ (And.intro rfl ?_))
      | (refine Or.inl (And.intro (by rfl : Nat.ble _ _ = true) ?_))
      | (refine Or.inl (And.intro Cl.lit ?_))
      | (refine Or.inr ?_)
      | (refine Exists.intro (1 : Nat) ?_)
      | (refine Exists.intro _ (And.intro rfl ?_))
      | (fail))
  all_goals try refine Side.mk ?_
  all_goals try dsimp only at *
  all_goals try refine eqI ?_
  all_goals first
    | assumption
    | (rw [e1 (by assumption)]; rfl)
    | skip
  all_goals have hd := hd (by assumption)
  all_goals try simp only [List.length_map, Int.toNat_natCast, Nat.zero_add, List.drop_zero, decide_eq_true_eq, decide_eq_false_iff_not] at *
  all_goals try first
    | assumption
    | omega
    | exact Nat.le_refl _
    | (rw [rp_Blk]; trivial)
    | (rw [rp_Dty]; trivial)
    | (rw [rp_Sns]; trivial)
    | (rw [or_Blk]; trivial)
    | (rw [or_Dty]; trivial)
    | (rw [or_Sns]; trivial)
    | (refine rn_plain ?_; rw [rp_Blk]; trivial)
    | (refine rn_plain ?_; rw [rp_Dty]; trivial)
    | (refine rn_plain ?_; rw [rp_Sns]; trivial)
    | (refine or_all ?_; rfl)
    | (refine rp_all ?_; rfl)
    | (refine rn_plain (rp_all ?_); rfl)
  all_goals first
    | (rw [e2 (by assumption) (by omega)]; rfl)
    | (simp only [List.length_take, List.length_append, List.length_map, List.length_cons, List.length_nil]; omega)
    | (rw [rp_app, rp_Dty]; exact ⟨trivial, rp_all rfl⟩)
    | (refine rp_set ?_ rfl _; rw [rp_Blk]; trivial)
    | (rw [List.length_set, List.length_map]; omega)
    | (rw [e3 (by assumption) (by omega), if_neg (by decide), List.take_of_length_le (l := List.map Blk.row fb) (by rw [List.length_map]; omega), List.take_of_length_le (l := List.map Dty.row fd ++ _) (Nat.le_refl _)]; simp only [List.map_append]; rfl)
    | (rw [e3 (by assumption) (by omega), if_pos trivial, List.take_of_length_le (by rw [List.length_set, List.length_map]; omega), List.take_of_length_le (l := List.map Dty.row fd) (by rw [List.length_map]; exact Nat.le_refl _)]
       exact congrArg (fun l => V.tup [V.agg [V.sl 64 l, _], _]) (set_row _ _ _))
end Go.Proofs.Ytbieiehfohldjaa
