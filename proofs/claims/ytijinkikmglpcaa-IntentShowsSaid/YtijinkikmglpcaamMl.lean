/-
  Media: some blocks flushed, the power gone.
-/
import Derived.Test.YtijinkikmglpcaamSl
namespace Go.Proofs.Ytijinkikmglpcaa
open Go
set_option linter.unusedVariables false
set_option linter.unusedSimpArgs false
set_option maxRecDepth 100000
set_option maxHeartbeats 4000000

def q_fl (a n : Int) : Nat → Dty → Bool := fun _ d => decide (a ≤ d.pos) && decide (d.pos - a < n)
theorem c_done_fl (m : Med) (a n : Int) (hb : Side (0 ≤ a ∧ a ≤ 64)) (hr : Side (mRight m = true)) : FnN Try.prog 100 [m.v, .fn 101 [.ip [.fn 93 [.ip [i64 a], .ip [i64 n]]]], .fn 102 []] (.agg [.win 0 64 0 m.blocks.length m.blocks.length, .win 1 65 0 (mDone (q_fl a n) (fun _ _ => true) m).dirty.length (mDone (q_fl a n) (fun _ _ => true) m).dirty.length]) [(0, true, ⟨64, (mDone (q_fl a n) (fun _ _ => true) m).blocks.map Blk.row, false⟩), (1, true, ⟨65, (mDone (q_fl a n) (fun _ _ => true) m).dirty.map Dty.row, false⟩)] 2 := by
  have hr := (right_iff m).1 hr.h
  have hb := hb.h
  obtain ⟨bs, ds⟩ := m
  dsimp only [Med.v] at *
  obtain ⟨r1, r2, r3⟩ := hr
  refine fn_vcN (N := 47) (d := 6) tabOk mixed inlMd_ok 6 Try.func100 rfl rfl rfl rfl rfl ⟨by rw [rp_Blk]; trivial, by rw [rp_Dty]; trivial, trivial⟩ ?_
  repeat'
    (conv => whnf
     first
      | (exact trivial)
      | (refine And.intro (by with_reducible rfl) ?_)
      | (refine And.intro (drawI (by kernel_rfl)) ?_)
      | (refine andI ?_ ?_)
      | (refine condT (by assumption) ?_)
      | (refine condF (by assumption) ?_)
      | (refine decT (by assumption) ?_)
      | (refine decF (by assumption) ?_)
      | (refine eqT (by assumption) ?_)
      | (refine eqF (by assumption) ?_)
      | (refine neT (by assumption) ?_)
      | (refine neF (by assumption) ?_)
      | (refine cEq (fun h => ?_) (fun h => ?_))
      | (refine cNe (fun h => ?_) (fun h => ?_))
      | (refine cNot (fun h => ?_) (fun h => ?_))
      | (refine cDec (fun h => ?_) (fun h => ?_))
      | (refine condN_split (fun h => ?_) (fun h => ?_))
      | (refine Exists.intro _ (And.intro rfl ?_))
      | (refine Or.inl (And.intro (by rfl : Nat.ble _ _ = true) ?_))
      | (refine Or.inl (And.intro Cl.lit ?_))
      | (refine Or.inr ?_)
      | (refine Exists.intro (1 : Nat) ?_)
      | (refine Exists.intro _ (And.intro rfl ?_))
      | (fail))
  all_goals try refine Side.mk ?_
  all_goals try dsimp only at *
  all_goals try refine eqI ?_
  · rw [or_Blk]; trivial
  · rw [List.length_map]; omega
  · refine rn_plain ?_; rw [rp_Blk]; trivial
  conv => whnf
  refine loop_w tabOk (ceN_sound tabOk mixed inlMd_ok 6) mixed 18 (X := Nat) 0 (fun k => [(17, i64 (k : Nat))]) (fun k => [(4, true, ⟨65, (keepF (q_fl a n) (fun _ _ => true) 0 (ds.take k)).map Dty.row, false⟩), (3, false, ⟨2, [[.win 2 64 0 bs.length bs.length, .win 4 65 0 (keepF (q_fl a n) (fun _ _ => true) 0 (ds.take k)).length (keepF (q_fl a n) (fun _ _ => true) 0 (ds.take k)).length]], false⟩), (2, true, ⟨64, (putF (q_fl a n) 0 (ds.take k) bs).map Blk.row, false⟩), (1, false, ⟨2, [[.sls 64 [] false true, .sls 65 [] false true]], false⟩), (0, false, ⟨2, [[.sl 64 (bs.map Blk.row), .sl 65 (ds.map Dty.row)]], false⟩)]) 5 (fun k => k ≤ ds.length) (fun k => ds.length - k) (Nat.zero_le _) ?_ ?_
  · repeat'
      (conv => whnf
       first
        | (exact trivial)
        | (refine And.intro (by with_reducible rfl) ?_)
        | (refine And.intro (drawI (by kernel_rfl)) ?_)
        | (refine andI ?_ ?_)
        | (refine condT (by assumption) ?_)
        | (refine condF (by assumption) ?_)
        | (refine decT (by assumption) ?_)
        | (refine decF (by assumption) ?_)
        | (refine eqT (by assumption) ?_)
        | (refine eqF (by assumption) ?_)
        | (refine neT (by assumption) ?_)
        | (refine neF (by assumption) ?_)
        | (refine cEq (fun h => ?_) (fun h => ?_))
        | (refine cNe (fun h => ?_) (fun h => ?_))
        | (refine cNot (fun h => ?_) (fun h => ?_))
        | (refine cDec (fun h => ?_) (fun h => ?_))
        | (refine condN_split (fun h => ?_) (fun h => ?_))
        | (refine Or.inl (And.intro (by rfl : Nat.ble _ _ = true) ?_))
        | (refine Or.inl (And.intro Cl.lit ?_))
        | (refine Or.inr ?_)
        | (refine Exists.intro (1 : Nat) ?_)
        | (refine Exists.intro _ (And.intro rfl ?_))
        | (fail))
    all_goals try refine Side.mk ?_
    all_goals try dsimp only at *
    all_goals try refine eqI ?_
    all_goals (first | rfl | (rw [List.length_map]; done) | (rw [rp_Blk]; trivial) | (rw [rp_Dty]; trivial) | trace_state)
  · rintro k hk
    by_cases hkl : k < ds.length
    · obtain ⟨d, hd⟩ : ∃ d, ds[k]? = some d := ⟨_, List.getElem?_eq_getElem hkl⟩
      have hp := r3 d (List.mem_of_getElem? hd)
      have hlen := putF_len (q_fl a n) (ds.take k) 0 bs
      have hkp := keepF_len (q_fl a n) (fun _ _ => true) (ds.take k) 0
      rw [List.length_take] at hkp
      repeat'
        (conv => whnf
         first
          | (exact trivial)
          | (refine And.intro (by with_reducible rfl) ?_)
          | (refine And.intro (drawI (by kernel_rfl)) ?_)
          | (refine andI ?_ ?_)
          | (refine condT (by assumption) ?_)
          | (refine condF (by assumption) ?_)
          | (refine decT (by assumption) ?_)
          | (refine decF (by assumption) ?_)
          | (refine eqT (by assumption) ?_)
          | (refine eqF (by assumption) ?_)
          | (refine neT (by assumption) ?_)
          | (refine neF (by assumption) ?_)
          | (refine cEq (fun h => ?_) (fun h => ?_))
          | (refine cNe (fun h => ?_) (fun h => ?_))
          | (refine cNot (fun h => ?_) (fun h => ?_))
          | (refine cDec (fun h => ?_) (fun h => ?_))
          | (refine condN_split (fun h => ?_) (fun h => ?_))
          | (refine Exists.intro _ (And.intro (row_get hd) ?_))
          | (refine Exists.intro _ (And.intro (map_get Blk.dflt ?_) ?_))
          | (refine Exists.intro (k + 1) (andI ?_ (andI ?_ ?_)))
          | (refine Or.inl (And.intro (by rfl : Nat.ble _ _ = true) ?_))
          | (refine Or.inl (And.intro Cl.lit ?_))
          | (refine Or.inr ?_)
          | (refine Exists.intro (1 : Nat) ?_)
          | (refine Exists.intro _ (And.intro rfl ?_))
          | (fail))
      all_goals try refine Side.mk ?_
      all_goals try dsimp only at *
      all_goals try refine eqI ?_
      all_goals try rw [wrap64 (by omega) (by omega)] at *
      all_goals simp only [List.length_map, Int.toNat_natCast, Nat.zero_add, List.drop_zero] at *
      all_goals first
        | omega
        | (exfalso; omega)
        | (refine congrArg (Value.int IntKind.i64) ?_; rw [wrap64 (by omega) (by omega)]; omega)
        | (rw [rp_Dty]; trivial)
        | (rw [rp_Blk]; trivial)
        | (rw [or_Dty]; trivial)
        | (have hq : q_fl a n k d = true := by simp only [q_fl, Bool.and_eq_true, Bool.and_eq_false_iff, decide_eq_true_eq, decide_eq_false_iff_not]; try omega
           first
             | (rw [keep_yes hd hq]; done)
             | (rw [put_yes hd hq]; exact (set_row _ _ _).symm))
        | (have hq : q_fl a n k d = false := by simp only [q_fl, Bool.and_eq_true, Bool.and_eq_false_iff, decide_eq_true_eq, decide_eq_false_iff_not]; try omega
           first
             | (rw [put_no hd hq]; done)
             | (rw [keep_no hd hq rfl]; done)
             | (rw [keep_no hd hq rfl, List.map_append]; rfl)
             | (rw [keep_no hd hq rfl]; simp; done))
        | contradiction
        | (refine or_all ?_; rfl)
        | (refine rn_plain (rp_all ?_); rfl)
        | exact Nat.le_refl _
        | (simp; done)
        | (simp; omega)
        | (set_option pp.maxSteps 400 in trace_state; sorry)
    · have e1 : ds.take k = ds := List.take_of_length_le (by omega)
      have hlen := putF_len (q_fl a n) ds 0 bs
      have hkp := keepF_len (q_fl a n) (fun _ _ => true) ds 0
      repeat'
        (conv => whnf
         first
          | (exact trivial)
          | (refine And.intro (by with_reducible rfl) ?_)
          | (refine And.intro (drawI (by kernel_rfl)) ?_)
          | (refine andI ?_ ?_)
          | (refine condT (by assumption) ?_)
          | (refine condF (by assumption) ?_)
          | (refine decT (by assumption) ?_)
          | (refine decF (by assumption) ?_)
          | (refine eqT (by assumption) ?_)
          | (refine eqF (by assumption) ?_)
          | (refine neT (by assumption) ?_)
          | (refine neF (by assumption) ?_)
          | (refine cEq (fun h => ?_) (fun h => ?_))
          | (refine cNe (fun h => ?_) (fun h => ?_))
          | (refine cNot (fun h => ?_) (fun h => ?_))
          | (refine cDec (fun h => ?_) (fun h => ?_))
          | (refine condN_split (fun h => ?_) (fun h => ?_))
          | (refine Or.inl (And.intro (by rfl : Nat.ble _ _ = true) ?_))
          | (refine Or.inl (And.intro Cl.lit ?_))
          | (refine Or.inr ?_)
          | (refine Exists.intro (1 : Nat) ?_)
          | (refine Exists.intro _ (And.intro rfl ?_))
          | (fail))
      all_goals try refine Side.mk ?_
      all_goals try dsimp only at *
      all_goals try refine eqI ?_
      all_goals simp only [List.length_map, Int.toNat_natCast, Nat.zero_add, List.drop_zero, e1] at *
      all_goals first
        | omega
        | (exfalso; omega)
        | (rw [rp_Dty]; trivial)
        | (rw [rp_Blk]; trivial)
        | rfl
        | (set_option pp.maxSteps 400 in trace_state; sorry)

theorem c_flush_fl (m : Med) (a n : Int) (hb : Side (0 ≤ a ∧ a ≤ 64)) (hr : Side (mRight m = true)) : FnN Try.prog 86 [m.v, .fn 93 [.ip [i64 a], .ip [i64 n]]] (.agg [.win 0 64 0 m.blocks.length m.blocks.length, .win 1 65 0 (mFlush (q_fl a n) m).dirty.length (mFlush (q_fl a n) m).dirty.length]) [(0, true, ⟨64, (mFlush (q_fl a n) m).blocks.map Blk.row, false⟩), (1, true, ⟨65, (mFlush (q_fl a n) m).dirty.map Dty.row, false⟩)] 2 := by
  have h := c_done_fl m a n hb hr
  obtain ⟨bs, ds⟩ := m
  dsimp only [Med.v] at *
  refine fn_vcN (N := 8) (d := 4) tabOk mixed inlNf_ok 6 Try.func86 rfl rfl rfl rfl rfl ⟨by rw [rp_Blk]; trivial, by rw [rp_Dty]; trivial, trivial⟩ ?_
  repeat'
    (conv => whnf
     first
      | (exact trivial)
      | (refine And.intro (by with_reducible rfl) ?_)
      | (refine And.intro (drawI (by kernel_rfl)) ?_)
      | (refine andI ?_ ?_)
      | (refine condT (by assumption) ?_)
      | (refine condF (by assumption) ?_)
      | (refine decT (by assumption) ?_)
      | (refine decF (by assumption) ?_)
      | (refine eqT (by assumption) ?_)
      | (refine eqF (by assumption) ?_)
      | (refine neT (by assumption) ?_)
      | (refine neF (by assumption) ?_)
      | (refine cEq (fun h => ?_) (fun h => ?_))
      | (refine cNe (fun h => ?_) (fun h => ?_))
      | (refine cNot (fun h => ?_) (fun h => ?_))
      | (refine cDec (fun h => ?_) (fun h => ?_))
      | (refine condN_split (fun h => ?_) (fun h => ?_))
      | (refine Exists.intro _ (Exists.intro _ (Exists.intro _ (And.intro (h) ?_))))
      | (refine Exists.intro _ (And.intro rfl ?_))
      | (refine Or.inl (And.intro (by rfl : Nat.ble _ _ = true) ?_))
      | (refine Or.inl (And.intro Cl.lit ?_))
      | (refine Or.inr ?_)
      | (refine Exists.intro (1 : Nat) ?_)
      | (refine Exists.intro _ (And.intro rfl ?_))
      | (fail))
  all_goals try refine Side.mk ?_
  all_goals try dsimp only at *
  all_goals try refine eqI ?_
  all_goals first
    | rfl
    | (rw [rp_Blk]; trivial)
    | (rw [rp_Dty]; trivial)
    | (set_option pp.maxSteps 400 in trace_state; sorry)
def mFl (m : Med) (a n : Int) : Med × Int :=
  if mRight m = false then (mNil, 1) else if n < 0 ∨ a < 0 ∨ (m.blocks.length : Int) < a then (mNil, 5)
  else (mFlush (q_fl a (if n = 0 then m.blocks.length else n)) m, 0)
theorem c_cflush (m : Med) (a n : Int) (hn : Side (InI6 a)) : FnC Try.prog 68 [m.v, i64 a, i64 n] [] (.tup [(mFl m a n).1.v, i64 (mFl m a n).2]) [] := by
  have hn := hn.h
  dsimp only [InI6] at hn
  have hF := fun z => c_flush_fl m a z
  have h0 := c_mRight m
  have l1 := fun z => flush_len (q_fl a z) m
  have l2 := fun z => flush_dlen (q_fl a z) m
  have e1 : mRight m = false → mFl m a n = (mNil, 1) := fun h => by unfold mFl; rw [if_pos h]
  have e2 : mRight m = true → (n < 0 ∨ a < 0 ∨ (m.blocks.length : Int) < a) → mFl m a n = (mNil, 5) := fun h h2 => by unfold mFl; rw [if_neg (by rw [h]; decide), if_pos h2]
  have e3 : mRight m = true → ¬ (n < 0 ∨ a < 0 ∨ (m.blocks.length : Int) < a) → ∀ z, z = (if n = 0 then (m.blocks.length : Int) else n) → mFl m a n = (mFlush (q_fl a z) m, 0) := fun h h2 z hz => by
    unfold mFl; rw [if_neg (by rw [h]; decide), if_neg h2, hz]
  have hd := fun h => ((right_iff m).1 h)
  generalize mFl m a n = w at *
  generalize hf : (fun z => mFlush (q_fl a z) m) = f at *
  have hf2 : ∀ z, mFlush (q_fl a z) m = f z := fun z => by rw [← hf]
  simp only [hf2] at *
  clear hf hf2
  obtain ⟨bs, ds⟩ := m
  dsimp only [Med.v, Med.row] at *
  refine fn_vcI (N := 39) (d := 6) tabOk mixed inlNw_ok 6 Try.func68 rfl rfl rfl ?_
  repeat'
    (conv => whnf
     first
      | (exact trivial)
      | (refine And.intro (by with_reducible rfl) ?_)
      | (refine And.intro (drawI (by kernel_rfl)) ?_)
      | (refine andI ?_ ?_)
      | (refine condT (by assumption) ?_)
      | (refine condF (by assumption) ?_)
      | (refine decT (by assumption) ?_)
      | (refine decF (by assumption) ?_)
      | (refine eqT (by assumption) ?_)
      | (refine eqF (by assumption) ?_)
      | (refine neT (by assumption) ?_)
      | (refine neF (by assumption) ?_)
      | (refine cEq (fun h => ?_) (fun h => ?_))
      | (refine cNe (fun h => ?_) (fun h => ?_))
      | (refine cNot (fun h => ?_) (fun h => ?_))
      | (refine cDec (fun h => ?_) (fun h => ?_))
      | (refine condN_split (fun h => ?_) (fun h => ?_))
      | (refine Exists.intro _ (And.intro (h0) ?_))
      | (refine Exists.intro _ (Exists.intro _ (Exists.intro _ (And.intro (hF _ ?_ ?_) ?_))))
      | (refine Exists.intro _ (And.intro (c_within _ _ _ ?_ ?_) ?_))
      | (refine Exists.intro _ (And.intro rfl ?_))
      | (refine Or.inl (And.intro (by rfl : Nat.ble _ _ = true) ?_))
      | (refine Or.inl (And.intro Cl.lit ?_))
      | (refine Or.inr ?_)
      | (refine Exists.intro (1 : Nat) ?_)
      | (refine Exists.intro _ (And.intro rfl ?_))
      | (fail))
  all_goals try refine Side.mk ?_
  all_goals try dsimp only at *
  all_goals try refine eqI ?_
  all_goals first
    | assumption
    | (rw [e1 (by assumption)]; rfl)
    | skip
  all_goals have hd := hd (by assumption)
  all_goals obtain ⟨d1, d2, d3⟩ := hd
  all_goals try simp only [bWithin, List.length_map, decide_eq_true_eq, decide_eq_false_iff_not, wrapu64] at *
  all_goals try simp only [List.length_map, Int.toNat_natCast, Nat.zero_add, List.drop_zero, decide_eq_true_eq, decide_eq_false_iff_not] at *
  all_goals try first
    | assumption
    | omega
    | exact Nat.le_refl _
    | (rw [rp_Blk]; trivial)
    | (rw [rp_Dty]; trivial)
    | (rw [rp_Sns]; trivial)
    | (rw [or_Blk]; trivial)
    | (rw [or_Dty]; trivial)
    | (rw [or_Sns]; trivial)
    | (refine rn_plain ?_; rw [rp_Blk]; trivial)
    | (refine rn_plain ?_; rw [rp_Dty]; trivial)
    | (refine rn_plain ?_; rw [rp_Sns]; trivial)
    | (refine or_all ?_; rfl)
    | (refine rp_all ?_; rfl)
    | (refine rn_plain (rp_all ?_); rfl)
  all_goals try simp (disch := (first | omega | (simp only [List.length_map, List.length_take, List.length_append, List.length_drop, List.length_cons, List.length_nil, List.length_replicate, List.length_set, len_b, len_bls, Int.toNat_natCast, Nat.zero_add, l1]; omega))) only [List.take_of_length_le, List.drop_zero, List.nil_append, List.append_nil, Nat.zero_add, Int.toNat_natCast]
  all_goals first
    | rfl
    | assumption
    | omega
    | exact Nat.le_refl _
    | exact Nat.le_of_ble_eq_true rfl
    | (refine or_all ?_; rfl)
    | (refine rp_all ?_; rfl)
    | (refine rn_plain (rp_all ?_); rfl)
    | (rw [l1]; exact Nat.le_refl _)
    | (dsimp only [InI6]; omega)
    | (rw [e2 (by assumption) (by omega)]; rfl)
    | (rw [e3 (by assumption) (by omega) _ (by rw [if_pos (by omega)])]; first | done | rfl)
    | (rw [e3 (by assumption) (by omega) _ (by rw [if_neg (by omega)])]; first | done | rfl)
    | ((first | rw [rp_b] | rw [or_b] | rw [rp_bls] | rw [or_bls] | rw [rp_Blk] | rw [or_Blk] | rw [rp_Dty] | rw [or_Dty] | rw [rp_Sns] | rw [or_Sns]); trivial)
    | (refine rn_plain ?_; (first | rw [rp_b] | rw [rp_bls] | rw [rp_Blk] | rw [rp_Dty] | rw [rp_Sns]); trivial)
    | (rw [rp_app]; refine ⟨?_, ?_⟩ <;> first | (refine rp_all ?_; rfl) | ((first | rw [rp_b] | rw [rp_bls] | rw [rp_Blk] | rw [rp_Dty] | rw [rp_Sns]); trivial))
    | (intro h; cases h; done)
    | (simp only [List.length_map, List.length_take, List.length_append, List.length_drop, List.length_cons, List.length_nil, List.length_replicate, List.length_set, len_b, len_bls, Int.toNat_natCast, Nat.zero_add]; omega)
    | (refine congrArg (Value.int IntKind.i64) ?_; rw [wrap64 (by omega) (by omega)]; omega)
    | (set_option pp.maxSteps 600 in trace_state; sorry)
end Go.Proofs.Ytijinkikmglpcaa
