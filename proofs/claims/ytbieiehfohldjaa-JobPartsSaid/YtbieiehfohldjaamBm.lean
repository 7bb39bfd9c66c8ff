/-
  Media, by the document.
-/
import Derived.Test.YtbieiehfohldjaamBs
namespace Go.Proofs.Ytbieiehfohldjaa
open Go
set_option linter.unusedVariables false
set_option linter.unusedSimpArgs false
set_option maxRecDepth 100000
set_option maxHeartbeats 8000000

noncomputable def inlRm : List IRow := [(42, Try.f42, 6, 3, 0), (83, Try.f83, 50, 0, 0)]
theorem inlRm_ok : IOk Try.prog (inlTab inlRm) := inl_ok (by
  unfold inlRm
  refine And.intro ⟨rfl, rfl, rfl, .inl rfl⟩ ?_
  refine And.intro ⟨rfl, rfl, rfl, .inl rfl⟩ ?_
  exact trivial)
theorem c_refRight (m : Med) : FnC Try.prog 21 [m.v] [] (bV (mRight m)) [] := by
  obtain ⟨bs, ds⟩ := m
  dsimp only [Med.v] at *
  refine fn_vcI (N := 40) (d := 6) tabOk mixed inlN0_ok 6 Try.func21 rfl rfl rfl ?_
  repeat'
    (conv => whnf
     first
      | (exact trivial)
      | (refine And.intro (by with_reducible rfl) ?_)
      | (refine And.intro (drawI (by kernel_rfl)) ?_)
      | (refine andI ?_ ?_)
      | (refine condT (by assumption) ?_)
      | (refine condF (by assumption) ?_)
      | (refine decT (by assumption) ?_)
      | (refine decF (by assumption) ?_)
      | (refine eqT (by assumption) ?_)
      | (refine eqF (by assumption) ?_)
      | (refine neT (by assumption) ?_)
      | (refine neF (by assumption) ?_)
      | (refine cEq (fun h => ?_) (fun h => ?_))
      | (refine cNe (fun h => ?_) (fun h => ?_))
      | (refine cNot (fun h => ?_) (fun h => ?_))
      | (refine cDec (fun h => ?_) (fun h => ?_))
      | (refine condN_split (fun h => ?_) (fun h => ?_))
      | (refine Exists.intro _ (And.intro rfl ?_))
      | (refine Or.inl (And.intro (by rfl : Nat.ble _ _ = true) ?_))
      | (refine Or.inl (And.intro Cl.lit ?_))
      | (refine Or.inr ?_)
      | (refine Exists.intro (1 : Nat) ?_)
      | (refine Exists.intro _ (And.intro rfl ?_))
      | (fail))
  all_goals try refine Side.mk ?_
  all_goals try dsimp only at *
  all_goals try refine eqI ?_
  · refine bool_close ?_
    simp only [List.length_map] at h
    rw [right_iff]
    simp only [Bool.false_eq_true, false_iff]
    omega
  · refine bool_close ?_
    simp only [List.length_map] at h
    rw [right_iff]
    simp only [Bool.false_eq_true, false_iff]
    omega
  rename_i g1
  have g2 := h
  simp only [List.length_map] at g1 g2
  conv => whnf
  refine loop_k tabOk (ceN_sound tabOk mixed inlN0_ok 6) mixed 14 (X := Nat) 0 (fun k => [(3, i64 (k : Nat))]) (fun k => k ≤ ds.length ∧ ∀ j e, j < k → ds[j]? = some e → 0 ≤ e.pos ∧ e.pos < bs.length) (fun k => ds.length - k) ⟨Nat.zero_le _, fun j e h => by omega⟩ ?_ ?_
  · repeat'
      (conv => whnf
       first
        | (exact trivial)
        | (refine And.intro (by with_reducible rfl) ?_)
        | (refine And.intro (drawI (by kernel_rfl)) ?_)
        | (refine andI ?_ ?_)
        | (refine condT (by assumption) ?_)
        | (refine condF (by assumption) ?_)
        | (refine decT (by assumption) ?_)
        | (refine decF (by assumption) ?_)
        | (refine eqT (by assumption) ?_)
        | (refine eqF (by assumption) ?_)
        | (refine neT (by assumption) ?_)
        | (refine neF (by assumption) ?_)
        | (refine cEq (fun h => ?_) (fun h => ?_))
        | (refine cNe (fun h => ?_) (fun h => ?_))
        | (refine cNot (fun h => ?_) (fun h => ?_))
        | (refine cDec (fun h => ?_) (fun h => ?_))
        | (refine condN_split (fun h => ?_) (fun h => ?_))
        | (refine Or.inl (And.intro (by rfl : Nat.ble _ _ = true) ?_))
        | (refine Or.inl (And.intro Cl.lit ?_))
        | (refine Or.inr ?_)
        | (refine Exists.intro (1 : Nat) ?_)
        | (refine Exists.intro _ (And.intro rfl ?_))
        | (fail))
    all_goals try refine Side.mk ?_
    all_goals try dsimp only at *
    all_goals try refine eqI ?_
    all_goals rfl
  · rintro k ⟨hk, hn⟩
    by_cases hkl : k < ds.length
    · obtain ⟨d, hd⟩ : ∃ d, ds[k]? = some d := ⟨_, List.getElem?_eq_getElem hkl⟩
      have hm := List.mem_of_getElem? hd
      repeat'
        (conv => whnf
         first
          | (exact trivial)
          | (refine And.intro (by with_reducible rfl) ?_)
          | (refine And.intro (drawI (by kernel_rfl)) ?_)
          | (refine andI ?_ ?_)
          | (refine condT (by assumption) ?_)
          | (refine condF (by assumption) ?_)
          | (refine decT (by assumption) ?_)
          | (refine decF (by assumption) ?_)
          | (refine eqT (by assumption) ?_)
          | (refine eqF (by assumption) ?_)
          | (refine neT (by assumption) ?_)
          | (refine neF (by assumption) ?_)
          | (refine cEq (fun h => ?_) (fun h => ?_))
          | (refine cNe (fun h => ?_) (fun h => ?_))
          | (refine cNot (fun h => ?_) (fun h => ?_))
          | (refine cDec (fun h => ?_) (fun h => ?_))
          | (refine condN_split (fun h => ?_) (fun h => ?_))
          | (refine Exists.intro _ (And.intro (row_get hd) ?_))
          | (refine Exists.intro (k + 1) (andI ?_ (andI ?_ ?_)))
          | (refine Or.inl (And.intro (by rfl : Nat.ble _ _ = true) ?_))
          | (refine Or.inl (And.intro Cl.lit ?_))
          | (refine Or.inr ?_)
          | (refine Exists.intro (1 : Nat) ?_)
          | (refine Exists.intro _ (And.intro rfl ?_))
          | (fail))
      all_goals try refine Side.mk ?_
      all_goals try dsimp only at *
      all_goals try refine eqI ?_
      all_goals simp only [List.length_map, Int.toNat_natCast, decide_eq_true_eq, decide_eq_false_iff_not] at *
      all_goals first
        | omega
        | (exfalso; omega)
        | (refine congrArg (Value.int IntKind.i64) ?_; rw [wrap64 (by omega) (by omega)]; omega)
        | (refine bool_close ?_
           rw [right_iff]
           simp only [Bool.false_eq_true, false_iff]
           rintro ⟨_, _, q⟩
           have := q d hm
           try dsimp only at this
           omega)
        | (refine ⟨by omega, fun j e hj he => ?_⟩
           rcases Nat.lt_or_ge j k with q | q
           · exact hn j e q he
           · obtain rfl : j = k := by omega
             rw [hd] at he
             cases he
             omega)
    · repeat'
        (conv => whnf
         first
          | (exact trivial)
          | (refine And.intro (by with_reducible rfl) ?_)
          | (refine And.intro (drawI (by kernel_rfl)) ?_)
          | (refine andI ?_ ?_)
          | (refine condT (by assumption) ?_)
          | (refine condF (by assumption) ?_)
          | (refine decT (by assumption) ?_)
          | (refine decF (by assumption) ?_)
          | (refine eqT (by assumption) ?_)
          | (refine eqF (by assumption) ?_)
          | (refine neT (by assumption) ?_)
          | (refine neF (by assumption) ?_)
          | (refine cEq (fun h => ?_) (fun h => ?_))
          | (refine cNe (fun h => ?_) (fun h => ?_))
          | (refine cNot (fun h => ?_) (fun h => ?_))
          | (refine cDec (fun h => ?_) (fun h => ?_))
          | (refine condN_split (fun h => ?_) (fun h => ?_))
          | (refine Or.inl (And.intro (by rfl : Nat.ble _ _ = true) ?_))
          | (refine Or.inl (And.intro Cl.lit ?_))
          | (refine Or.inr ?_)
          | (refine Exists.intro (1 : Nat) ?_)
          | (refine Exists.intro _ (And.intro rfl ?_))
          | (fail))
      all_goals try refine Side.mk ?_
      all_goals try dsimp only at *
      all_goals try refine eqI ?_
      all_goals simp only [List.length_map, Int.toNat_natCast] at *
      all_goals first
        | omega
        | (exfalso; omega)
        | (refine bool_close ?_
           rw [right_iff]
           simp only [true_iff]
           refine ⟨by omega, by omega, fun d hd => ?_⟩
           obtain ⟨j, hj, rfl⟩ := List.getElem_of_mem hd
           exact hn j _ (by omega) (List.getElem?_eq_getElem hj))
theorem c_refAll (m : Med) : FnC Try.prog 22 [m.v] [] (.sl 64 ((mdAll m).map Blk.row)) [] := by
  have h0 := c_refRight m
  obtain ⟨bs, ds⟩ := m
  dsimp only [Med.v] at *
  have ha : mRight ⟨bs, ds⟩ = true → mdAll ⟨bs, ds⟩ = putF q_every 0 ds bs := fun h => by unfold mdAll; rw [if_pos h]; rfl
  have hb : mRight ⟨bs, ds⟩ = false → mdAll ⟨bs, ds⟩ = [] := fun h => by unfold mdAll; rw [if_neg (by rw [h]; decide)]
  have hc := (right_iff ⟨bs, ds⟩).1
  dsimp only at hc
  generalize mdAll ⟨bs, ds⟩ = a at *
  cases hr : mRight ⟨bs, ds⟩
  all_goals rw [hr] at h0
  · rw [hb hr]
    refine fn_vcI (N := 33) (d := 6) tabOk mixed inlRm_ok 6 Try.func22 rfl rfl rfl ?_
    repeat'
      (conv => whnf
       first
        | (exact trivial)
        | (refine And.intro (by with_reducible rfl) ?_)
        | (refine And.intro (drawI (by kernel_rfl)) ?_)
        | (refine andI ?_ ?_)
        | (refine condT (by assumption) ?_)
        | (refine condF (by assumption) ?_)
        | (refine decT (by assumption) ?_)
        | (refine decF (by assumption) ?_)
        | (refine eqT (by assumption) ?_)
        | (refine eqF (by assumption) ?_)
        | (refine neT (by assumption) ?_)
        | (refine neF (by assumption) ?_)
        | (refine cEq (fun h => ?_) (fun h => ?_))
        | (refine cNe (fun h => ?_) (fun h => ?_))
        | (refine cNot (fun h => ?_) (fun h => ?_))
        | (refine cDec (fun h => ?_) (fun h => ?_))
        | (refine condN_split (fun h => ?_) (fun h => ?_))
        | (refine Exists.intro _ (And.intro (h0) ?_))
        | (refine Or.inl (And.intro (by rfl : Nat.ble _ _ = true) ?_))
        | (refine Or.inl (And.intro Cl.lit ?_))
        | (refine Or.inr ?_)
        | (refine Exists.intro (64 : Nat) ?_)
        | (refine Exists.intro _ (And.intro rfl ?_))
        | (fail))
    all_goals try refine Side.mk ?_
    all_goals try dsimp only at *
    all_goals try refine eqI ?_
    all_goals rfl
  rw [ha hr]
  obtain ⟨r1, r2, r3⟩ := hc hr
  clear hc ha hb hr
  refine fn_vcI (N := 33) (d := 6) tabOk mixed inlRm_ok 6 Try.func22 rfl rfl rfl ?_
  repeat'
    (conv => whnf
     first
      | (exact trivial)
      | (refine And.intro (by with_reducible rfl) ?_)
      | (refine And.intro (drawI (by kernel_rfl)) ?_)
      | (refine andI ?_ ?_)
      | (refine condT (by assumption) ?_)
      | (refine condF (by assumption) ?_)
      | (refine decT (by assumption) ?_)
      | (refine decF (by assumption) ?_)
      | (refine eqT (by assumption) ?_)
      | (refine eqF (by assumption) ?_)
      | (refine neT (by assumption) ?_)
      | (refine neF (by assumption) ?_)
      | (refine cEq (fun h => ?_) (fun h => ?_))
      | (refine cNe (fun h => ?_) (fun h => ?_))
      | (refine cNot (fun h => ?_) (fun h => ?_))
      | (refine cDec (fun h => ?_) (fun h => ?_))
      | (refine condN_split (fun h => ?_) (fun h => ?_))
      | (refine Exists.intro _ (And.intro (h0) ?_))
      | (refine Or.inl (And.intro (by rfl : Nat.ble _ _ = true) ?_))
      | (refine Or.inl (And.intro Cl.lit ?_))
      | (refine Or.inr ?_)
      | (refine Exists.intro (64 : Nat) ?_)
      | (refine Exists.intro _ (And.intro rfl ?_))
      | (fail))
  all_goals try refine Side.mk ?_
  all_goals try dsimp only at *
  all_goals try refine eqI ?_
  · rfl
  · rw [or_Blk]; trivial
  · rw [List.length_map]; omega
  · refine rn_plain ?_; rw [List.nil_append, rp_Blk]; trivial
  conv => whnf
  refine loop_w tabOk (ceN_sound tabOk mixed inlRm_ok 6) mixed 11 (X := Nat) 0 (fun k => [(4, i64 (k : Nat))]) (fun k => [(2, true, ⟨64, (putF q_every 0 (ds.take k) bs).map Blk.row, false⟩), (0, false, ⟨2, [[.sl 64 (bs.map Blk.row), .sl 65 (ds.map Dty.row)]], false⟩)]) 3 (fun k => k ≤ ds.length) (fun k => ds.length - k) (Nat.zero_le _) ?_ ?_
  · repeat'
      (conv => whnf
       first
        | (exact trivial)
        | (refine And.intro (by with_reducible rfl) ?_)
        | (refine And.intro (drawI (by kernel_rfl)) ?_)
        | (refine andI ?_ ?_)
        | (refine condT (by assumption) ?_)
        | (refine condF (by assumption) ?_)
        | (refine decT (by assumption) ?_)
        | (refine decF (by assumption) ?_)
        | (refine eqT (by assumption) ?_)
        | (refine eqF (by assumption) ?_)
        | (refine neT (by assumption) ?_)
        | (refine neF (by assumption) ?_)
        | (refine cEq (fun h => ?_) (fun h => ?_))
        | (refine cNe (fun h => ?_) (fun h => ?_))
        | (refine cNot (fun h => ?_) (fun h => ?_))
        | (refine cDec (fun h => ?_) (fun h => ?_))
        | (refine condN_split (fun h => ?_) (fun h => ?_))
        | (refine Or.inl (And.intro (by rfl : Nat.ble _ _ = true) ?_))
        | (refine Or.inl (And.intro Cl.lit ?_))
        | (refine Or.inr ?_)
        | (refine Exists.intro (1 : Nat) ?_)
        | (refine Exists.intro _ (And.intro rfl ?_))
        | (fail))
    all_goals try refine Side.mk ?_
    all_goals try dsimp only at *
    all_goals try refine eqI ?_
    all_goals first
      | rfl
      | (rw [rp_Blk]; trivial)
  · rintro k hk
    have hlen := putF_len q_every (ds.take k) 0 bs
    by_cases hkl : k < ds.length
    · obtain ⟨d, hd⟩ : ∃ d, ds[k]? = some d := ⟨_, List.getElem?_eq_getElem hkl⟩
      have hp := r3 d (List.mem_of_getElem? hd)
      repeat'
        (conv => whnf
         first
          | (exact trivial)
          | (refine And.intro (by with_reducible rfl) ?_)
          | (refine And.intro (drawI (by kernel_rfl)) ?_)
          | (refine andI ?_ ?_)
          | (refine condT (by assumption) ?_)
          | (refine condF (by assumption) ?_)
          | (refine decT (by assumption) ?_)
          | (refine decF (by assumption) ?_)
          | (refine eqT (by assumption) ?_)
          | (refine eqF (by assumption) ?_)
          | (refine neT (by assumption) ?_)
          | (refine neF (by assumption) ?_)
          | (refine cEq (fun h => ?_) (fun h => ?_))
          | (refine cNe (fun h => ?_) (fun h => ?_))
          | (refine cNot (fun h => ?_) (fun h => ?_))
          | (refine cDec (fun h => ?_) (fun h => ?_))
          | (refine condN_split (fun h => ?_) (fun h => ?_))
          | (refine Exists.intro _ (And.intro (row_get hd) ?_))
          | (refine Exists.intro _ (And.intro (map_get Blk.dflt ?_) ?_))
          | (refine Exists.intro (k + 1) (andI ?_ (andI ?_ ?_)))
          | (refine Or.inl (And.intro (by rfl : Nat.ble _ _ = true) ?_))
          | (refine Or.inl (And.intro Cl.lit ?_))
          | (refine Or.inr ?_)
          | (refine Exists.intro (1 : Nat) ?_)
          | (refine Exists.intro _ (And.intro rfl ?_))
          | (fail))
      all_goals try refine Side.mk ?_
      all_goals try dsimp only at *
      all_goals try refine eqI ?_
      all_goals try simp only [List.length_map, Int.toNat_natCast, Nat.zero_add, List.drop_zero, decide_eq_true_eq, decide_eq_false_iff_not] at *
      all_goals try first
        | assumption
        | omega
        | exact Nat.le_refl _
        | (rw [rp_Blk]; trivial)
        | (rw [rp_Dty]; trivial)
        | (rw [rp_Sns]; trivial)
        | (rw [or_Blk]; trivial)
        | (rw [or_Dty]; trivial)
        | (rw [or_Sns]; trivial)
        | (refine rn_plain ?_; rw [rp_Blk]; trivial)
        | (refine rn_plain ?_; rw [rp_Dty]; trivial)
        | (refine rn_plain ?_; rw [rp_Sns]; trivial)
        | (refine or_all ?_; rfl)
        | (refine rp_all ?_; rfl)
        | (refine rn_plain (rp_all ?_); rfl)
      all_goals first
        | omega
        | (exfalso; simp only [List.nil_append, List.length_map] at *; omega)
        | (simp only [List.nil_append, List.length_map] at *; omega)
        | (refine congrArg (Value.int IntKind.i64) ?_; rw [wrap64 (by omega) (by omega)]; omega)
        | (rw [put_yes hd rfl]; exact (set_row _ _ _).symm)
    · have e1 : ds.take k = ds := List.take_of_length_le (by omega)
      rw [e1] at hlen
      repeat'
        (conv => whnf
         first
          | (exact trivial)
          | (refine And.intro (by with_reducible rfl) ?_)
          | (refine And.intro (drawI (by kernel_rfl)) ?_)
          | (refine andI ?_ ?_)
          | (refine condT (by assumption) ?_)
          | (refine condF (by assumption) ?_)
          | (refine decT (by assumption) ?_)
          | (refine decF (by assumption) ?_)
          | (refine eqT (by assumption) ?_)
          | (refine eqF (by assumption) ?_)
          | (refine neT (by assumption) ?_)
          | (refine neF (by assumption) ?_)
          | (refine cEq (fun h => ?_) (fun h => ?_))
          | (refine cNe (fun h => ?_) (fun h => ?_))
          | (refine cNot (fun h => ?_) (fun h => ?_))
          | (refine cDec (fun h => ?_) (fun h => ?_))
          | (refine condN_split (fun h => ?_) (fun h => ?_))
          | (refine Or.inl (And.intro (by rfl : Nat.ble _ _ = true) ?_))
          | (refine Or.inl (And.intro Cl.lit ?_))
          | (refine Or.inr ?_)
          | (refine Exists.intro (1 : Nat) ?_)
          | (refine Exists.intro _ (And.intro rfl ?_))
          | (fail))
      all_goals try refine Side.mk ?_
      all_goals try dsimp only at *
      all_goals try refine eqI ?_
      all_goals try simp only [List.length_map, Int.toNat_natCast, Nat.zero_add, List.drop_zero, decide_eq_true_eq, decide_eq_false_iff_not] at *
      all_goals try first
        | assumption
        | omega
        | exact Nat.le_refl _
        | (rw [rp_Blk]; trivial)
        | (rw [rp_Dty]; trivial)
        | (rw [rp_Sns]; trivial)
        | (rw [or_Blk]; trivial)
        | (rw [or_Dty]; trivial)
        | (rw [or_Sns]; trivial)
        | (refine rn_plain ?_; rw [rp_Blk]; trivial)
        | (refine rn_plain ?_; rw [rp_Dty]; trivial)
        | (refine rn_plain ?_; rw [rp_Sns]; trivial)
        | (refine or_all ?_; rfl)
        | (refine rp_all ?_; rfl)
        | (refine rn_plain (rp_all ?_); rfl)
      all_goals first
        | (exfalso; omega)
        | (simp only [List.nil_append, List.length_map, e1] at *; omega)
        | (rw [e1, List.take_of_length_le (by simp only [List.nil_append, List.length_map]; omega)])
def q_ft (a b : Int) : Nat → Dty → Bool := fun _ d => decide (a ≤ d.pos) && decide (d.pos < b)
theorem c_refFlushed (m : Med) (a b : Int) (hr : Side (mRight m = true)) : FnN Try.prog 83 [m.v, i64 a, i64 b] (.agg [.win 0 64 0 m.blocks.length m.blocks.length, .win 1 65 0 (mFlush (q_ft a b) m).dirty.length (mFlush (q_ft a b) m).dirty.length]) [(0, true, ⟨64, (mFlush (q_ft a b) m).blocks.map Blk.row, false⟩), (1, true, ⟨65, (mFlush (q_ft a b) m).dirty.map Dty.row, false⟩)] 2 := by
  have hr := (right_iff m).1 hr.h
  obtain ⟨bs, ds⟩ := m
  dsimp only [Med.v] at *
  obtain ⟨r1, r2, r3⟩ := hr
  refine fn_vcN (N := 50) (d := 6) tabOk mixed inlRm_ok 6 Try.func83 rfl rfl rfl rfl rfl ⟨by rw [rp_Blk]; trivial, by rw [rp_Dty]; trivial, trivial⟩ ?_
  repeat'
    (conv => whnf
     first
      | (exact trivial)
      | (refine And.intro (by with_reducible rfl) ?_)
      | (refine And.intro (drawI (by kernel_rfl)) ?_)
      | (refine andI ?_ ?_)
      | (refine condT (by assumption) ?_)
      | (refine condF (by assumption) ?_)
      | (refine decT (by assumption) ?_)
      | (refine decF (by assumption) ?_)
      | (refine eqT (by assumption) ?_)
      | (refine eqF (by assumption) ?_)
      | (refine neT (by assumption) ?_)
      | (refine neF (by assumption) ?_)
      | (refine cEq (fun h => ?_) (fun h => ?_))
      | (refine cNe (fun h => ?_) (fun h => ?_))
      | (refine cNot (fun h => ?_) (fun h => ?_))
      | (refine cDec (fun h => ?_) (fun h => ?_))
      | (refine condN_split (fun h => ?_) (fun h => ?_))
      | (refine Exists.intro _ (And.intro rfl ?_))
      | (refine Or.inl (And.intro (by rfl : Nat.ble _ _ = true) ?_))
      | (refine Or.inl (And.intro Cl.lit ?_))
      | (refine Or.inr ?_)
      | (refine Exists.intro (1 : Nat) ?_)
      | (refine Exists.intro _ (And.intro rfl ?_))
      | (fail))
  all_goals try refine Side.mk ?_
  all_goals try dsimp only at *
  all_goals try refine eqI ?_
  · rfl
  · rw [or_Blk]; trivial
  · rw [List.length_map]; omega
  · refine rn_plain ?_; rw [List.nil_append, rp_Blk]; trivial
  conv => whnf
  refine loop_w tabOk (ceN_sound tabOk mixed inlRm_ok 6) mixed 14 (X := Nat) 0 (fun k => [(8, i64 (k : Nat))]) (fun k => [(5, true, ⟨65, (keepF (q_ft a b) (fun _ _ => true) 0 (ds.take k)).map Dty.row, false⟩), (4, false, ⟨2, [[.win 3 64 0 bs.length bs.length, .win 5 65 0 (keepF (q_ft a b) (fun _ _ => true) 0 (ds.take k)).length (keepF (q_ft a b) (fun _ _ => true) 0 (ds.take k)).length]], false⟩), (3, true, ⟨64, (putF (q_ft a b) 0 (ds.take k) bs).map Blk.row, false⟩), (1, false, ⟨2, [[.sls 64 [] false true, .sls 65 [] false true]], false⟩), (0, false, ⟨2, [[.sl 64 (bs.map Blk.row), .sl 65 (ds.map Dty.row)]], false⟩)]) 6 (fun k => k ≤ ds.length) (fun k => ds.length - k) (Nat.zero_le _) ?_ ?_
  · repeat'
      (conv => whnf
       first
        | (exact trivial)
        | (refine And.intro (by with_reducible rfl) ?_)
        | (refine And.intro (drawI (by kernel_rfl)) ?_)
        | (refine andI ?_ ?_)
        | (refine condT (by assumption) ?_)
        | (refine condF (by assumption) ?_)
        | (refine decT (by assumption) ?_)
        | (refine decF (by assumption) ?_)
        | (refine eqT (by assumption) ?_)
        | (refine eqF (by assumption) ?_)
        | (refine neT (by assumption) ?_)
        | (refine neF (by assumption) ?_)
        | (refine cEq (fun h => ?_) (fun h => ?_))
        | (refine cNe (fun h => ?_) (fun h => ?_))
        | (refine cNot (fun h => ?_) (fun h => ?_))
        | (refine cDec (fun h => ?_) (fun h => ?_))
        | (refine condN_split (fun h => ?_) (fun h => ?_))
        | (refine Or.inl (And.intro (by rfl : Nat.ble _ _ = true) ?_))
        | (refine Or.inl (And.intro Cl.lit ?_))
        | (refine Or.inr ?_)
        | (refine Exists.intro (1 : Nat) ?_)
        | (refine Exists.intro _ (And.intro rfl ?_))
        | (fail))
    all_goals try refine Side.mk ?_
    all_goals try dsimp only at *
    all_goals try refine eqI ?_
    all_goals first
      | rfl
      | (rw [rp_Blk]; trivial)
      | (rw [rp_Dty]; trivial)
      | (simp; done)
  · rintro k hk
    have hlen := putF_len (q_ft a b) (ds.take k) 0 bs
    have hkp := keepF_len (q_ft a b) (fun _ _ => true) (ds.take k) 0
    rw [List.length_take] at hkp
    by_cases hkl : k < ds.length
    · obtain ⟨d, hd⟩ : ∃ d, ds[k]? = some d := ⟨_, List.getElem?_eq_getElem hkl⟩
      have hp := r3 d (List.mem_of_getElem? hd)
      try dsimp only at hp
      repeat'
        (conv => whnf
         first
          | (exact trivial)
          | (refine And.intro (by with_reducible rfl) ?_)
          | (refine And.intro (drawI (by kernel_rfl)) ?_)
          | (refine andI ?_ ?_)
          | (refine condT (by assumption) ?_)
          | (refine condF (by assumption) ?_)
          | (refine decT (by assumption) ?_)
          | (refine decF (by assumption) ?_)
          | (refine eqT (by assumption) ?_)
          | (refine eqF (by assumption) ?_)
          | (refine neT (by assumption) ?_)
          | (refine neF (by assumption) ?_)
          | (refine cEq (fun h => ?_) (fun h => ?_))
          | (refine cNe (fun h => ?_) (fun h => ?_))
          | (refine cNot (fun h => ?_) (fun h => ?_))
          | (refine cDec (fun h => ?_) (fun h => ?_))
          | (refine condN_split (fun h => ?_) (fun h => ?_))
          | (refine Exists.intro _ (And.intro (row_get hd) ?_))
          | (refine Exists.intro _ (And.intro (map_get Blk.dflt ?_) ?_))
          | (refine Exists.intro _ (And.intro rfl ?_))
          | (refine Exists.intro (k + 1) (andI ?_ (andI ?_ ?_)))
          | (refine Or.inl (And.intro (by rfl : Nat.ble _ _ = true) ?_))
          | (refine Or.inl (And.intro Cl.lit ?_))
          | (refine Or.inr ?_)
          | (refine Exists.intro (1 : Nat) ?_)
          | (refine Exists.intro _ (And.intro rfl ?_))
          | (fail))
      all_goals try refine Side.mk ?_
      all_goals try dsimp only at *
      all_goals try refine eqI ?_
      all_goals try simp only [List.length_map, Int.toNat_natCast, Nat.zero_add, List.drop_zero, decide_eq_true_eq, decide_eq_false_iff_not] at *
      all_goals first
        | omega
        | (exfalso; omega)
        | (refine congrArg (Value.int IntKind.i64) ?_; rw [wrap64 (by omega) (by omega)]; omega)
        | (rw [rp_Dty]; trivial)
        | (rw [rp_Blk]; trivial)
        | (have hq : q_ft a b k d = true := by simp only [q_ft, Bool.and_eq_true, decide_eq_true_eq]; omega
           first
             | (rw [keep_yes hd hq]; done)
             | (rw [put_yes hd hq]; exact (set_row _ _ _).symm))
        | (have hq : q_ft a b k d = false := by simp only [q_ft, Bool.and_eq_false_iff, decide_eq_false_iff_not]; omega
           first
             | (rw [put_no hd hq]; done)
             | (rw [keep_no hd hq rfl, List.map_append]; rfl)
             | (rw [keep_no hd hq rfl]; simp; done))
        | (refine or_all ?_; rfl)
        | (refine rn_plain (rp_all ?_); rfl)
        | exact Nat.le_refl _
        | (simp; done)
        | (simp; omega)
    · have e1 : ds.take k = ds := List.take_of_length_le (by omega)
      have hm : mFlush (q_ft a b) ⟨bs, ds⟩ = ⟨putF (q_ft a b) 0 ds bs, keepF (q_ft a b) (fun _ _ => true) 0 ds⟩ := rfl
      rw [e1] at hlen
      repeat'
        (conv => whnf
         first
          | (exact trivial)
          | (refine And.intro (by with_reducible rfl) ?_)
          | (refine And.intro (drawI (by kernel_rfl)) ?_)
          | (refine andI ?_ ?_)
          | (refine condT (by assumption) ?_)
          | (refine condF (by assumption) ?_)
          | (refine decT (by assumption) ?_)
          | (refine decF (by assumption) ?_)
          | (refine eqT (by assumption) ?_)
          | (refine eqF (by assumption) ?_)
          | (refine neT (by assumption) ?_)
          | (refine neF (by assumption) ?_)
          | (refine cEq (fun h => ?_) (fun h => ?_))
          | (refine cNe (fun h => ?_) (fun h => ?_))
          | (refine cNot (fun h => ?_) (fun h => ?_))
          | (refine cDec (fun h => ?_) (fun h => ?_))
          | (refine condN_split (fun h => ?_) (fun h => ?_))
          | (refine Or.inl (And.intro (by rfl : Nat.ble _ _ = true) ?_))
          | (refine Or.inl (And.intro Cl.lit ?_))
          | (refine Or.inr ?_)
          | (refine Exists.intro (1 : Nat) ?_)
          | (refine Exists.intro _ (And.intro rfl ?_))
          | (fail))
      all_goals try refine Side.mk ?_
      all_goals try dsimp only at *
      all_goals try refine eqI ?_
      all_goals try simp only [List.length_map, Int.toNat_natCast, Nat.zero_add, List.drop_zero, e1] at *
      all_goals first
        | rfl
        | omega
        | (exfalso; omega)
        | (rw [rp_Dty]; trivial)
        | (rw [rp_Blk]; trivial)
/-- the same writes -/
theorem putF_congr {q q' : Nat → Dty → Bool} : ∀ (l : List Dty) (i : Nat) (bs : List Blk), (∀ j d, d ∈ l → q j d = q' j d) → putF q i l bs = putF q' i l bs
  | [], i, bs, _ => rfl
  | e :: l, i, bs, h => by
    simp only [putF]
    rw [h i e (by simp), putF_congr l (i + 1) _ fun j d hd => h j d (by simp [hd])]
theorem keepF_congr {q q' s : Nat → Dty → Bool} : ∀ (l : List Dty) (i : Nat), (∀ j d, d ∈ l → q j d = q' j d) → keepF q s i l = keepF q' s i l
  | [], i, _ => rfl
  | e :: l, i, h => by
    simp only [keepF]
    rw [h i e (by simp), keepF_congr l (i + 1) fun j d hd => h j d (by simp [hd])]
theorem flush_congr {q q' : Nat → Dty → Bool} {m : Med} (h : ∀ j d, d ∈ m.dirty → q j d = q' j d) : mFlush q m = mFlush q' m := by
  unfold mFlush mDone
  rw [putF_congr _ _ _ h, keepF_congr _ _ h]
theorem flush_none {m : Med} : mFlush (fun _ _ => false) m = m := by
  obtain ⟨bs, ds⟩ := m
  have h1 : ∀ (l : List Dty) (i : Nat) (bs : List Blk), putF (fun _ _ => false) i l bs = bs := by
    intro l
    induction l with
    | nil => intro i bs; rfl
    | cons e l ih => intro i bs; simp only [putF, Bool.false_eq_true, if_false]; exact ih _ _
  have h2 : ∀ (l : List Dty) (i : Nat), keepF (fun _ _ => false) (fun _ _ => true) i l = l := by
    intro l
    induction l with
    | nil => intro i; rfl
    | cons e l ih => intro i; simp only [keepF, Bool.false_eq_true, if_false, if_true]; rw [ih]
  unfold mFlush mDone
  rw [h1, h2]
theorem flush_at (m : Med) (p : Int) : mFlush (q_wr m.dirty.length p true) m = mFlush (q_ft p (p + 1)) m := flush_congr fun j d _ => by
  rw [Bool.eq_iff_iff]
  simp [q_wr, q_ft]
  omega
theorem flush_full (m : Med) (p : Int) (h : m.dirty.length = 64) (hr : mRight m = true) : mFlush (q_wr m.dirty.length p false) m = mFlush (q_ft 0 m.blocks.length) m := flush_congr fun j d hd => by
  have := ((right_iff m).1 hr).2.2 d hd
  rw [Bool.eq_iff_iff]
  simp [q_wr, q_ft, h]
  omega
theorem flush_few (m : Med) (p : Int) (h : m.dirty.length ≠ 64) : mFlush (q_wr m.dirty.length p false) m = m := by
  refine (flush_congr fun j d _ => ?_).trans flush_none
  simp [q_wr]
  omega
end Go.Proofs.Ytbieiehfohldjaa
