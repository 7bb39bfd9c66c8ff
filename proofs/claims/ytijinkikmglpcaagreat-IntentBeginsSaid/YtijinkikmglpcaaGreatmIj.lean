/-
  Layer 11: attentions added, some blocks flushed, by the document.
-/
import Derived.Test.YtijinkikmglpcaaGreatmIa
namespace Go.Proofs.YtijinkikmglpcaaGreat
open Go
set_option linter.unusedVariables false
set_option linter.unusedSimpArgs false
set_option maxRecDepth 100000
set_option maxHeartbeats 8000000

theorem c_refHas (l : List Sns) (s : Sns) (hl : Side (l.length ≤ 2 ^ 40)) : FnC Tryz.prog 93 [.sl 3 (l.map Sns.row), s.v] [] (bV (sHas l s)) [] := by
  have hl := hl.h
  refine fn_vcI (N := 18) (d := 5) tabOk mixed inlN0_ok 6 Tryz.func93 rfl rfl rfl ?_
  repeat'
    (conv => whnf
     first
      | (exact trivial)
      | (refine And.intro (by with_reducible rfl) ?_)
      | (refine And.intro (drawI (by kernel_rfl)) ?_)
      | (refine andI ?_ ?_)
      | (refine condT (by assumption) ?_)
      | (refine condF (by assumption) ?_)
      | (refine decT (by assumption) ?_)
      | (refine decF (by assumption) ?_)
      | (refine eqT (by assumption) ?_)
      | (refine eqF (by assumption) ?_)
      | (refine neT (by assumption) ?_)
      | (refine neF (by assumption) ?_)
      | (refine cEq (fun h => ?_) (fun h => ?_))
      | (refine cNe (fun h => ?_) (fun h => ?_))
      | (refine cNot (fun h => ?_) (fun h => ?_))
      | (refine cDec (fun h => ?_) (fun h => ?_))
      | (refine condN_split (fun h => ?_) (fun h => ?_))
      | (refine Exists.intro _ (And.intro rfl ?_))
      | (refine Or.inl (And.intro (by rfl : Nat.ble _ _ = true) ?_))
      | (refine Or.inl (And.intro Cl.lit ?_))
      | (refine Or.inr ?_)
      | (refine Exists.intro (1 : Nat) ?_)
      | (refine Exists.intro _ (And.intro rfl ?_))
      | (fail))
  all_goals try refine Side.mk ?_
  all_goals try dsimp only at *
  all_goals try refine eqI ?_
  conv => whnf
  refine loop_w tabOk (ceN_sound tabOk mixed inlN0_ok 6) mixed 6 (X := Nat) 0 (fun k => [(5, i64 (k : Nat))]) (fun k => [(0, false, ⟨3, [s.row], false⟩)]) 1 (fun k => k ≤ l.length ∧ ∀ j e, j < k → l[j]? = some e → decide (s = e) = false) (fun k => l.length - k) ⟨Nat.zero_le _, fun j e h => by omega⟩ ?_ ?_
  · repeat'
      (conv => whnf
       first
        | (exact trivial)
        | (refine And.intro (by with_reducible rfl) ?_)
        | (refine And.intro (drawI (by kernel_rfl)) ?_)
        | (refine andI ?_ ?_)
        | (refine condT (by assumption) ?_)
        | (refine condF (by assumption) ?_)
        | (refine decT (by assumption) ?_)
        | (refine decF (by assumption) ?_)
        | (refine eqT (by assumption) ?_)
        | (refine eqF (by assumption) ?_)
        | (refine neT (by assumption) ?_)
        | (refine neF (by assumption) ?_)
        | (refine cEq (fun h => ?_) (fun h => ?_))
        | (refine cNe (fun h => ?_) (fun h => ?_))
        | (refine cNot (fun h => ?_) (fun h => ?_))
        | (refine cDec (fun h => ?_) (fun h => ?_))
        | (refine condN_split (fun h => ?_) (fun h => ?_))
        | (refine Or.inl (And.intro (by rfl : Nat.ble _ _ = true) ?_))
        | (refine Or.inl (And.intro Cl.lit ?_))
        | (refine Or.inr ?_)
        | (refine Exists.intro (1 : Nat) ?_)
        | (refine Exists.intro _ (And.intro rfl ?_))
        | (fail))
    all_goals try refine Side.mk ?_
    all_goals try dsimp only at *
    all_goals try refine eqI ?_
    all_goals rfl
  · rintro k ⟨hk, hn⟩
    by_cases hkl : k < l.length
    · obtain ⟨d, hd⟩ : ∃ d, l[k]? = some d := ⟨_, List.getElem?_eq_getElem hkl⟩
      have key : ∀ q, eqS d s = q → decide (s = d) = q := fun q hq => by rw [← hq, eqS_eq]; exact decide_eq_decide.2 eq_comm
      repeat'
        (conv => whnf
         first
          | (exact trivial)
          | (refine And.intro (by with_reducible rfl) ?_)
          | (refine And.intro (drawI (by kernel_rfl)) ?_)
          | (refine andI ?_ ?_)
          | (refine condT (by assumption) ?_)
          | (refine condF (by assumption) ?_)
          | (refine decT (by assumption) ?_)
          | (refine decF (by assumption) ?_)
          | (refine eqT (by assumption) ?_)
          | (refine eqF (by assumption) ?_)
          | (refine neT (by assumption) ?_)
          | (refine neF (by assumption) ?_)
          | (refine cEq (fun h => ?_) (fun h => ?_))
          | (refine cNe (fun h => ?_) (fun h => ?_))
          | (refine cNot (fun h => ?_) (fun h => ?_))
          | (refine cDec (fun h => ?_) (fun h => ?_))
          | (refine condN_split (fun h => ?_) (fun h => ?_))
          | (refine Exists.intro _ (And.intro (row_get hd) ?_))
          | (refine Exists.intro _ (And.intro eq_sns ?_))
          | (refine Exists.intro (k + 1) (andI ?_ (andI ?_ ?_)))
          | (refine Or.inl (And.intro (by rfl : Nat.ble _ _ = true) ?_))
          | (refine Or.inl (And.intro Cl.lit ?_))
          | (refine Or.inr ?_)
          | (refine Exists.intro (1 : Nat) ?_)
          | (refine Exists.intro _ (And.intro rfl ?_))
          | (fail))
      all_goals try refine Side.mk ?_
      all_goals try dsimp only at *
      all_goals try refine eqI ?_
      all_goals try simp only [List.length_map, Int.toNat_natCast] at *
      all_goals first
        | omega
        | (refine congrArg (Value.int IntKind.i64) ?_; rw [wrap64 (by omega) (by omega)]; omega)
        | (have hq := key true (by assumption)
           refine bool_close ?_
           simp only [true_iff]
           unfold sHas
           exact List.any_eq_true.2 ⟨d, List.mem_of_getElem? hd, hq⟩)
        | (have hq := key false (by assumption)
           refine ⟨by omega, fun j e hj he => ?_⟩
           rcases Nat.lt_or_ge j k with q | q
           · exact hn j e q he
           · obtain rfl : j = k := by omega
             rw [hd] at he
             cases he
             exact hq)
        | (set_option pp.maxSteps 400 in trace_state; sorry)
    · repeat'
        (conv => whnf
         first
          | (exact trivial)
          | (refine And.intro (by with_reducible rfl) ?_)
          | (refine And.intro (drawI (by kernel_rfl)) ?_)
          | (refine andI ?_ ?_)
          | (refine condT (by assumption) ?_)
          | (refine condF (by assumption) ?_)
          | (refine decT (by assumption) ?_)
          | (refine decF (by assumption) ?_)
          | (refine eqT (by assumption) ?_)
          | (refine eqF (by assumption) ?_)
          | (refine neT (by assumption) ?_)
          | (refine neF (by assumption) ?_)
          | (refine cEq (fun h => ?_) (fun h => ?_))
          | (refine cNe (fun h => ?_) (fun h => ?_))
          | (refine cNot (fun h => ?_) (fun h => ?_))
          | (refine cDec (fun h => ?_) (fun h => ?_))
          | (refine condN_split (fun h => ?_) (fun h => ?_))
          | (refine Or.inl (And.intro (by rfl : Nat.ble _ _ = true) ?_))
          | (refine Or.inl (And.intro Cl.lit ?_))
          | (refine Or.inr ?_)
          | (refine Exists.intro (1 : Nat) ?_)
          | (refine Exists.intro _ (And.intro rfl ?_))
          | (fail))
      all_goals try refine Side.mk ?_
      all_goals try dsimp only at *
      all_goals try refine eqI ?_
      all_goals try simp only [List.length_map, Int.toNat_natCast] at *
      all_goals first
        | omega
        | (refine bool_close ?_
           simp only [Bool.false_eq_true, false_iff, Bool.not_eq_true]
           unfold sHas
           rw [List.any_eq_false]
           intro e he
           obtain ⟨j, hj, rfl⟩ := List.getElem_of_mem he
           rw [hn j _ (by omega) (List.getElem?_eq_getElem hj)]
           decide)
        | (set_option pp.maxSteps 400 in trace_state; sorry)
theorem c_refSadd (l : List Sns) (s : Sns) (hl : Side (l.length ≤ 2 ^ 40)) : FnC Tryz.prog 57 [.sl 3 (l.map Sns.row), s.v] [] (.sl 3 ((sAdd l s).map Sns.row)) [] := by
  have hI := c_refHas l s hl
  have hl := hl.h
  have key : ∀ q, eqS s sPow = q → decide (s = sPow) = q := fun q hq => by rw [← eqS_eq]; exact hq
  have f1 : sHas l s = true → sAdd l s = l := fun h => by unfold sAdd; rw [if_pos h]
  have f2 : sHas l s = false → s = sPow → sAdd l s = [s] := fun h h2 => by unfold sAdd; rw [if_neg (by rw [h]; decide), if_pos h2]
  have f3 : sHas l s = false → s ≠ sPow → 4 ≤ l.length → sAdd l s = l := fun h h2 h3 => by unfold sAdd; rw [if_neg (by rw [h]; decide), if_neg h2, if_pos h3]
  have f4 : sHas l s = false → s ≠ sPow → ¬ 4 ≤ l.length → sAdd l s = l ++ [s] := fun h h2 h3 => by unfold sAdd; rw [if_neg (by rw [h]; decide), if_neg h2, if_neg h3]
  generalize sAdd l s = r at *
  generalize sHas l s = g at *
  obtain ⟨a, b, c⟩ := s
  dsimp only [Sns.v] at *
  refine fn_vcI (N := 26) (d := 5) tabOk mixed inlSa_ok 6 Tryz.func57 rfl rfl rfl ?_
  repeat'
    (conv => whnf
     first
      | (exact trivial)
      | (refine And.intro (by with_reducible rfl) ?_)
      | (refine And.intro (drawI (by kernel_rfl)) ?_)
      | (refine andI ?_ ?_)
      | (refine condT (by assumption) ?_)
      | (refine condF (by assumption) ?_)
      | (refine decT (by assumption) ?_)
      | (refine decF (by assumption) ?_)
      | (refine eqT (by assumption) ?_)
      | (refine eqF (by assumption) ?_)
      | (refine neT (by assumption) ?_)
      | (refine neF (by assumption) ?_)
      | (refine cEq (fun h => ?_) (fun h => ?_))
      | (refine cNe (fun h => ?_) (fun h => ?_))
      | (refine cNot (fun h => ?_) (fun h => ?_))
      | (refine cDec (fun h => ?_) (fun h => ?_))
      | (refine condN_split (fun h => ?_) (fun h => ?_))
      | (refine Exists.intro _ (And.intro (hI) ?_))
      | (refine Exists.intro _ (And.intro eq_sns ?_))
      | (refine Exists.intro _ (And.intro rfl ?_))
      | (refine Or.inl (And.intro (by rfl : Nat.ble _ _ = true) ?_))
      | (refine Or.inl (And.intro Cl.lit ?_))
      | (refine Or.inr ?_)
      | (refine Exists.intro (1 : Nat) ?_)
      | (refine Exists.intro _ (And.intro rfl ?_))
      | (fail))
  all_goals try refine Side.mk ?_
  all_goals try dsimp only at *
  all_goals try refine eqI ?_
  all_goals try simp only [List.length_map] at *
  all_goals try simp (disch := (first | omega | (simp only [List.length_map, List.length_take, List.length_append, List.length_drop, List.length_cons, List.length_nil, List.length_replicate, List.length_set, len_b, len_bls, Int.toNat_natCast, Nat.zero_add]; omega))) only [List.take_of_length_le, List.drop_zero, List.nil_append, List.append_nil, Nat.zero_add, Int.toNat_natCast]
  all_goals first
    | rfl
    | assumption
    | omega
    | exact Nat.le_refl _
    | exact Nat.le_of_ble_eq_true rfl
    | (refine or_all ?_; rfl)
    | (refine rp_all ?_; rfl)
    | (refine rn_plain (rp_all ?_); rfl)
    | (rw [f1 (by assumption)])
    | (have hq := of_decide_eq_true (key true (by assumption)); rw [f2 (by assumption) hq]; first | done | rfl)
    | (have hq := of_decide_eq_false (key false (by assumption)); first | (rw [f3 (by assumption) hq (by omega)]; first | done | rfl) | (rw [f4 (by assumption) hq (by omega), List.map_append]; first | done | rfl))
    | ((first | rw [rp_b] | rw [or_b] | rw [rp_bls] | rw [or_bls] | rw [rp_Blk] | rw [or_Blk] | rw [rp_Dty] | rw [or_Dty] | rw [rp_Sns] | rw [or_Sns]); trivial)
    | (refine rn_plain ?_; (first | rw [rp_b] | rw [rp_bls] | rw [rp_Blk] | rw [rp_Dty] | rw [rp_Sns]); trivial)
    | (rw [rp_app]; refine ⟨?_, ?_⟩ <;> first | (refine rp_all ?_; rfl) | ((first | rw [rp_b] | rw [rp_bls] | rw [rp_Blk] | rw [rp_Dty] | rw [rp_Sns]); trivial))
    | (intro h; cases h; done)
    | (simp only [List.length_map, List.length_take, List.length_append, List.length_drop, List.length_cons, List.length_nil, List.length_replicate, List.length_set, len_b, len_bls, Int.toNat_natCast, Nat.zero_add]; omega)
    | (refine congrArg (Value.int IntKind.i64) ?_; rw [wrap64 (by omega) (by omega)]; omega)
    | (set_option pp.maxSteps 600 in trace_state; sorry)
theorem fl_ft (m : Med) (a n : Int) (hr : mRight m = true) (h0 : 0 ≤ a) (h1 : a ≤ m.blocks.length) (z : Int) (hz : z = a + (if n = 0 ∨ n > m.blocks.length - a then m.blocks.length - a else n)) (hn : 0 ≤ n) : mFl m a n = (mFlush (q_ft a z) m, 0) := by
  have hd := ((right_iff m).1 hr).2.2
  unfold mFl
  rw [if_neg (by rw [hr]; decide), if_neg (by omega)]
  refine congrArg (fun x => (x, (0 : Int))) (flush_congr fun j d hj => ?_)
  have := hd d hj
  simp only [q_fl, q_ft]
  rw [Bool.eq_iff_iff]
  simp only [Bool.and_eq_true, decide_eq_true_eq]
  split at hz <;> split <;> omega
theorem c_refCflush (m : Med) (a n : Int) (hn : Side (InI6 a)) : FnC Tryz.prog 63 [m.v, i64 a, i64 n] [] (.tup [(mFl m a n).1.v, i64 (mFl m a n).2]) [] := by
  have hn := hn.h
  dsimp only [InI6] at hn
  have hF := fun z => c_refFlushed m a z
  have h0 := c_refRight m
  have l1 := fun z => flush_len (q_ft a z) m
  have e1 : mRight m = false → mFl m a n = (mNil, 1) := fun h => by unfold mFl; rw [if_pos h]
  have e2 : mRight m = true → (n < 0 ∨ a < 0 ∨ (m.blocks.length : Int) < a) → mFl m a n = (mNil, 5) := fun h h2 => by unfold mFl; rw [if_neg (by rw [h]; decide), if_pos h2]
  have e3 := fun h h1 h2 z => fl_ft m a n h h1 h2 z
  have hd := fun h => ((right_iff m).1 h)
  generalize mFl m a n = w at *
  generalize hf : (fun z => mFlush (q_ft a z) m) = f at *
  have hf2 : ∀ z, mFlush (q_ft a z) m = f z := fun z => by rw [← hf]
  simp only [hf2] at *
  clear hf hf2
  obtain ⟨bs, ds⟩ := m
  dsimp only [Med.v, Med.row] at *
  refine fn_vcI (N := 48) (d := 6) tabOk mixed inlSl_ok 6 Tryz.func63 rfl rfl rfl ?_
  repeat'
    (conv => whnf
     first
      | (exact trivial)
      | (refine And.intro (by with_reducible rfl) ?_)
      | (refine And.intro (drawI (by kernel_rfl)) ?_)
      | (refine andI ?_ ?_)
      | (refine condT (by assumption) ?_)
      | (refine condF (by assumption) ?_)
      | (refine decT (by assumption) ?_)
      | (refine decF (by assumption) ?_)
      | (refine eqT (by assumption) ?_)
      | (refine eqF (by assumption) ?_)
      | (refine neT (by assumption) ?_)
      | (refine neF (by assumption) ?_)
      | (refine cEq (fun h => ?_) (fun h => ?_))
      | (refine cNe (fun h => ?_) (fun h => ?_))
      | (refine cNot (fun h => ?_) (fun h => ?_))
      | (refine cDec (fun h => ?_) (fun h => ?_))
      | (refine condN_split (fun h => ?_) (fun h => ?_))
      | (refine Exists.intro _ (And.intro (h0) ?_))
      | (refine Exists.intro _ (Exists.intro _ (Exists.intro _ (And.intro (hF _ ?_) ?_))))
      | (refine Exists.intro _ (And.intro rfl ?_))
      | (refine Or.inl (And.intro (by rfl : Nat.ble _ _ = true) ?_))
      | (refine Or.inl (And.intro Cl.lit ?_))
      | (refine Or.inr ?_)
      | (refine Exists.intro (1 : Nat) ?_)
      | (refine Exists.intro _ (And.intro rfl ?_))
      | (fail))
  all_goals try refine Side.mk ?_
  all_goals try dsimp only at *
  all_goals try refine eqI ?_
  all_goals first
    | assumption
    | (rw [e1 (by assumption)]; rfl)
    | skip
  all_goals have hd := hd (by assumption)
  all_goals obtain ⟨d1, d2, d3⟩ := hd
  all_goals try simp only [List.length_map] at *
  all_goals try simp (disch := (first | omega | (simp only [List.length_map, List.length_take, List.length_append, List.length_drop, List.length_cons, List.length_nil, List.length_replicate, List.length_set, len_b, len_bls, Int.toNat_natCast, Nat.zero_add, l1]; omega))) only [List.take_of_length_le, List.drop_zero, List.nil_append, List.append_nil, Nat.zero_add, Int.toNat_natCast]
  all_goals first
    | rfl
    | assumption
    | omega
    | exact Nat.le_refl _
    | exact Nat.le_of_ble_eq_true rfl
    | (refine or_all ?_; rfl)
    | (refine rp_all ?_; rfl)
    | (refine rn_plain (rp_all ?_); rfl)
    | (rw [l1]; exact Nat.le_refl _)
    | (rw [e2 (by assumption) (by omega)]; rfl)
    | (rw [e3 (by assumption) (by omega) (by omega) _ (by rw [if_pos (by omega)]; first | rfl | (rw [wrap64 (by omega) (by omega)] <;> omega)) (by omega)]; first | done | rfl)
    | (rw [e3 (by assumption) (by omega) (by omega) (IntKind.i64.wrap (a + IntKind.i64.wrap (bs.length - a))) (by rw [if_pos (by omega), wrap64 (n := (bs.length : Int) - a) (by omega) (by omega), wrap64 (by omega) (by omega)]) (by omega)]; first | done | rfl)
    | (rw [e3 (by assumption) (by omega) (by omega) (IntKind.i64.wrap (a + n)) (by rw [wrap64 (n := (bs.length : Int) - a) (by omega) (by omega)] at *; rw [if_neg (by omega), wrap64 (by omega) (by omega)]) (by omega)]; first | done | rfl)
    | (have hw : IntKind.i64.wrap ((bs.length : Int) - a) = bs.length - a := wrap64 (by omega) (by omega); rw [hw] at h ⊢; rw [e3 (by assumption) (by omega) (by omega) (IntKind.i64.wrap (a + ((bs.length : Int) - a))) (by rw [if_pos (by omega), wrap64 (by omega) (by omega)]) (by omega)]; first | done | rfl)
    | ((first | rw [rp_b] | rw [or_b] | rw [rp_bls] | rw [or_bls] | rw [rp_Blk] | rw [or_Blk] | rw [rp_Dty] | rw [or_Dty] | rw [rp_Sns] | rw [or_Sns]); trivial)
    | (refine rn_plain ?_; (first | rw [rp_b] | rw [rp_bls] | rw [rp_Blk] | rw [rp_Dty] | rw [rp_Sns]); trivial)
    | (rw [rp_app]; refine ⟨?_, ?_⟩ <;> first | (refine rp_all ?_; rfl) | ((first | rw [rp_b] | rw [rp_bls] | rw [rp_Blk] | rw [rp_Dty] | rw [rp_Sns]); trivial))
    | (intro h; cases h; done)
    | (simp only [List.length_map, List.length_take, List.length_append, List.length_drop, List.length_cons, List.length_nil, List.length_replicate, List.length_set, len_b, len_bls, Int.toNat_natCast, Nat.zero_add]; omega)
    | (refine congrArg (Value.int IntKind.i64) ?_; rw [wrap64 (by omega) (by omega)]; omega)
    | (set_option pp.maxSteps 600 in trace_state; sorry)
end Go.Proofs.YtijinkikmglpcaaGreat
