/-
  Layer 11: the answer of an inquiry; capacity.
-/
import Derived.Test.YtijinkikmglpcaamIc
namespace Go.Proofs.Ytijinkikmglpcaa
open Go
set_option linter.unusedVariables false
set_option linter.unusedSimpArgs false
set_option maxRecDepth 100000
set_option maxHeartbeats 8000000

theorem sl_take {n : Nat} {L : List (List V)} {l : BS} (h : L = byteRows l) : V.sl 1 (L.take n) = bsV (l.take n) := by rw [h, take_b]
def iTher (l ls : Int) : Bool := decide (0 ≤ l) && decide (l < ls)
def iAns (c : Cmd) (l ls : Int) : BS × Sns := if c.op ≠ 0x12 then ([], sField) else if c.bits = 1 then ((iPage c.page l (iTher l ls)).1.take c.n.toNat, (iPage c.page l (iTher l ls)).2) else ((iStd (iTher l ls)).take c.n.toNat, sOk)
theorem iPage_len (n l : Int) (t : Bool) : (iPage n l t).1.length ≤ 64 := by
  have := iSer_len l
  unfold iPage
  (repeat' split) <;> simp [iVen] <;> omega
theorem iStd_len (t : Bool) : (iStd t).length = 36 := by cases t <;> rfl
theorem ther_eq (l ls : Int) : (decide (l ≥ 0) && decide (l < ls)) = iTher l ls := rfl
attribute [local irreducible] iPage iStd
theorem c_ianswer (c : Cmd) (l ls : Int) : FnC Try.prog 33 [c.v, i64 l, i64 ls] [] (.tup [bsV (iAns c l ls).1, (iAns c l ls).2.v]) [] := by
  have hP := fun t => c_ipage c.page l t
  have hS := fun t => c_std t
  have p1 := fun t => iPage_len c.page l t
  have p2 := iStd_len
  have f1 : c.op ≠ 0x12 → iAns c l ls = ([], sField) := fun h => by unfold iAns; rw [if_pos h]
  have f2 : c.op = 0x12 → c.bits = 1 → ∀ t, t = iTher l ls → iAns c l ls = ((iPage c.page l t).1.take c.n.toNat, (iPage c.page l t).2) := fun h h2 t ht => by unfold iAns; rw [if_neg (fun q => q h), if_pos h2, ht]
  have f3 : c.op = 0x12 → c.bits ≠ 1 → ∀ t, t = iTher l ls → iAns c l ls = ((iStd t).take c.n.toNat, sOk) := fun h h2 t ht => by unfold iAns; rw [if_neg (fun q => q h), if_neg h2, ht]
  generalize iAns c l ls = r at *
  have k1 : ∀ b, l ≥ 0 → (l < ls ↔ b = true) → b = iTher l ls := fun b h1 h2 => by unfold iTher; rw [Bool.eq_iff_iff, ← h2]; simp [h1]
  have k2 : ¬ l ≥ 0 → false = iTher l ls := fun h1 => by unfold iTher; rw [Bool.eq_iff_iff]; simp; try omega
  have k3 : l ≥ 0 → decide (l < ls) = iTher l ls := fun h1 => by unfold iTher; rw [Bool.eq_iff_iff]; simp [h1]; try omega
  generalize iTher l ls = t0 at *
  generalize hg : (fun t => iPage c.page l t) = g at *
  have hg2 : ∀ t, iPage c.page l t = g t := fun t => by rw [← hg]
  simp only [hg2] at *
  clear hg hg2
  generalize iStd = sd at *
  obtain ⟨op, pos, n, pg, bits⟩ := c
  dsimp only [Cmd.v] at *
  refine fn_vcI (N := 43) (d := 6) tabOk mixed inlIp_ok 6 Try.func33 rfl rfl rfl ?_
  repeat'
    (conv => whnf
     first
      | (exact trivial)
      | (refine And.intro (by with_reducible rfl) ?_)
      | (refine And.intro (drawI (by kernel_rfl)) ?_)
      | (refine andI ?_ ?_)
      | (refine condT (by assumption) ?_)
      | (refine condF (by assumption) ?_)
      | (refine decT (by assumption) ?_)
      | (refine decF (by assumption) ?_)
      | (refine eqT (by assumption) ?_)
      | (refine eqF (by assumption) ?_)
      | (refine neT (by assumption) ?_)
      | (refine neF (by assumption) ?_)
      | (refine cEq (fun h => ?_) (fun h => ?_))
      | (refine cNe (fun h => ?_) (fun h => ?_))
      | (refine cNot (fun h => ?_) (fun h => ?_))
      | (refine cDec (fun h => ?_) (fun h => ?_))
      | (refine condN_split (fun h => ?_) (fun h => ?_))
      | (refine Exists.intro _ (And.intro (hP _) ?_))
      | (refine Exists.intro _ (And.intro (hS _) ?_))
      | (refine Exists.intro _ (And.intro (fnC_args (c_cut _ _ ?_) (by first | rfl | ((conv => lhs; simp only [rp_bls, or_bls, len_bls, snoc_bls, rp_nil, rp_app, rp_b, or_nil, or_app, or_b, len_b, take_b, drop_b, rep_b, app_b, List.length_append, List.length_take, List.length_drop, List.length_nil, List.drop_zero, List.take_length, List.nil_append, List.append_nil, Int.toNat_natCast, toNat_min, take_min, and_true, true_and, and_self]) <;> rfl) | ((conv => lhs; simp only [rp_bls, or_bls, len_bls, snoc_bls, rp_nil, rp_app, rp_b, or_nil, or_app, or_b, len_b, take_b, drop_b, rep_b, app_b, List.length_append, List.length_take, List.length_drop, List.length_nil, List.drop_zero, List.take_length, List.nil_append, List.append_nil, Int.toNat_natCast, toNat_min, take_min, and_true, true_and, and_self, sl1_nil]) <;> rfl))) ?_))
      | (refine Exists.intro _ (And.intro rfl ?_))
      | (refine Or.inl (And.intro (by rfl : Nat.ble _ _ = true) ?_))
      | (refine Or.inl (And.intro Cl.lit ?_))
      | (refine Or.inr ?_)
      | (refine Exists.intro (1 : Nat) ?_)
      | (refine Exists.intro _ (And.intro rfl ?_))
      | (fail))
  all_goals try refine Side.mk ?_
  all_goals try dsimp only at *
  all_goals try refine eqI ?_
  all_goals first
    | (rw [len_b]; have := p1; have := p2; simp only [p2]; omega)
    | (rw [len_b]; refine Nat.le_trans (p1 _) ?_; decide)
    | (rw [f1 (by assumption)]; first | done | rfl)
    | (rw [f2 (by assumption) (by assumption) _ (k3 (by assumption)), take_b]; first | done | rfl)
    | (rw [f2 (by assumption) (by assumption) _ (k2 (by assumption)), take_b]; first | done | rfl)
    | (rw [f3 (by assumption) (by assumption) _ (k3 (by assumption)), take_b]; first | done | rfl)
    | (rw [f3 (by assumption) (by assumption) _ (k2 (by assumption)), take_b]; first | done | rfl)
    | (set_option pp.maxSteps 600 in trace_state; sorry)
/-- the last block's number, and how long one is -/
def cTold (n : Int) (w : Nat) : BS := putB w (IntKind.u64.wrap (IntKind.u64.wrap n - 1)).toNat ++ [0, 0, 0, 64]
theorem cTold_len (n : Int) (w : Nat) : (cTold n w).length = w + 4 := by simp [cTold, putB_len]
def cSix (n m : Int) : BS := (cTold n 8 ++ List.replicate 20 0).take m.toNat
def lunB (m : Nat) : BS := [0, 0, 0, UInt8.ofNat (8 * m), 0, 0, 0, 0] ++ (List.range m).flatMap fun i => [0, UInt8.ofNat i, 0, 0, 0, 0, 0, 0]
def cLun (l n : Int) : BS := (lunB (max 0 (min l 4)).toNat).take n.toNat
theorem c_pbz (w : Nat) (z : Int) (hw : Side (1 ≤ w ∧ w ≤ 8)) (h : 0 ≤ z ∧ z < 2 ^ 64) : FnC Try.prog 55 [u64 z, i64 (w : Int)] [] (bsV (putB w z.toNat)) [] := by
  have := c_putBig w z.toNat hw ⟨by omega⟩
  rw [Int.toNat_of_nonneg (by omega)] at this
  exact this
theorem u64b (z : Int) : 0 ≤ IntKind.u64.wrap z ∧ IntKind.u64.wrap z < 2 ^ 64 := by rw [wrapu64]; omega
theorem c_told (n : Int) (w : Nat) (hw : Side (1 ≤ w ∧ w ≤ 8)) : FnC Try.prog 88 [i64 n, i64 (w : Int)] [] (bsV (cTold n w)) [] := by
  have h1 := c_pbz w _ hw (u64b (IntKind.u64.wrap n - 1))
  have h2 : FnC Try.prog 55 [u64 64, i64 4] [] (bsV [0, 0, 0, 64]) [] := c_putBig 4 64 ⟨by omega⟩ ⟨by omega⟩
  have hw := hw.h
  unfold cTold
  have hl := putB_len w (IntKind.u64.wrap (IntKind.u64.wrap n - 1)).toNat
  generalize putB w (IntKind.u64.wrap (IntKind.u64.wrap n - 1)).toNat = p at *
  refine fn_vcI (N := 13) (d := 4) tabOk mixed inlIp_ok 6 Try.func88 rfl rfl rfl ?_
  repeat'
    (conv => whnf
     first
      | (exact trivial)
      | (refine And.intro (by with_reducible rfl) ?_)
      | (refine And.intro (drawI (by kernel_rfl)) ?_)
      | (refine andI ?_ ?_)
      | (refine condT (by assumption) ?_)
      | (refine condF (by assumption) ?_)
      | (refine decT (by assumption) ?_)
      | (refine decF (by assumption) ?_)
      | (refine eqT (by assumption) ?_)
      | (refine eqF (by assumption) ?_)
      | (refine neT (by assumption) ?_)
      | (refine neF (by assumption) ?_)
      | (refine cEq (fun h => ?_) (fun h => ?_))
      | (refine cNe (fun h => ?_) (fun h => ?_))
      | (refine cNot (fun h => ?_) (fun h => ?_))
      | (refine cDec (fun h => ?_) (fun h => ?_))
      | (refine condN_split (fun h => ?_) (fun h => ?_))
      | (refine Exists.intro _ (And.intro (h1) ?_))
      | (refine Exists.intro _ (And.intro (h2) ?_))
      | (refine Exists.intro _ (And.intro (c_concat _ _ ?_ ?_ ?_ ?_ ?_ ?_) ?_))
      | (refine Exists.intro _ (And.intro rfl ?_))
      | (refine Or.inl (And.intro (by rfl : Nat.ble _ _ = true) ?_))
      | (refine Or.inl (And.intro Cl.lit ?_))
      | (refine Or.inr ?_)
      | (refine Exists.intro (1 : Nat) ?_)
      | (refine Exists.intro _ (And.intro rfl ?_))
      | (fail))
  all_goals try refine Side.mk ?_
  all_goals try dsimp only at *
  all_goals try refine eqI ?_
  all_goals first
    | (rw [rp_b]; trivial)
    | (rw [or_b]; trivial)
    | exact Nat.le_refl _
    | (rw [len_b]; omega)
    | (rw [len_b]; decide)
    | (refine rp_all ?_; rfl)
    | rfl
    | (rw [app_b])
    | (set_option pp.maxSteps 600 in trace_state; sorry)
theorem c_six (n m : Int) : FnC Try.prog 64 [i64 n, i64 m] [] (bsV (cSix n m)) [] := by
  have h1 : FnC Try.prog 88 [i64 n, i64 8] [] (bsV (cTold n 8)) [] := c_told n 8 ⟨by omega⟩
  have hl := cTold_len n 8
  unfold cSix
  generalize cTold n 8 = p at *
  refine fn_vcI (N := 12) (d := 4) tabOk mixed inlIp_ok 6 Try.func64 rfl rfl rfl ?_
  repeat'
    (conv => whnf
     first
      | (exact trivial)
      | (refine And.intro (by with_reducible rfl) ?_)
      | (refine And.intro (drawI (by kernel_rfl)) ?_)
      | (refine andI ?_ ?_)
      | (refine condT (by assumption) ?_)
      | (refine condF (by assumption) ?_)
      | (refine decT (by assumption) ?_)
      | (refine decF (by assumption) ?_)
      | (refine eqT (by assumption) ?_)
      | (refine eqF (by assumption) ?_)
      | (refine neT (by assumption) ?_)
      | (refine neF (by assumption) ?_)
      | (refine cEq (fun h => ?_) (fun h => ?_))
      | (refine cNe (fun h => ?_) (fun h => ?_))
      | (refine cNot (fun h => ?_) (fun h => ?_))
      | (refine cDec (fun h => ?_) (fun h => ?_))
      | (refine condN_split (fun h => ?_) (fun h => ?_))
      | (refine Exists.intro _ (And.intro (h1) ?_))
      | (refine Exists.intro _ (And.intro (c_concat _ _ ?_ ?_ ?_ ?_ ?_ ?_) ?_))
      | (refine Exists.intro _ (And.intro (c_cut _ _ ?_) ?_))
      | (refine Exists.intro _ (And.intro rfl ?_))
      | (refine Or.inl (And.intro (by rfl : Nat.ble _ _ = true) ?_))
      | (refine Or.inl (And.intro Cl.lit ?_))
      | (refine Or.inr ?_)
      | (refine Exists.intro (1 : Nat) ?_)
      | (refine Exists.intro _ (And.intro rfl ?_))
      | (fail))
  all_goals try refine Side.mk ?_
  all_goals try dsimp only at *
  all_goals try refine eqI ?_
  all_goals first
    | (rw [rp_b]; trivial)
    | (rw [or_b]; trivial)
    | (rw [len_b]; omega)
    | (refine or_all ?_; rfl)
    | (refine rp_all ?_; rfl)
    | decide
    | exact Nat.le_of_ble_eq_true rfl
    | (simp only [len_b, List.length_append, hl]; decide)
    | (refine sl_take ?_; rw [← app_b]; rfl)
    | (set_option pp.maxSteps 600 in trace_state; sorry)
theorem c_luns (l n : Int) : FnC Try.prog 36 [i64 l, i64 n] [] (bsV (cLun l n)) [] := by
  have key : ∀ m : Int, m = max 0 (min l 4) → (m = 0 ∨ m = 1 ∨ m = 2 ∨ m = 3 ∨ m = 4) → FnC Try.prog 36 [i64 l, i64 n] [] (bsV ((lunB m.toNat).take n.toNat)) [] := by
    intro m hm hq
    rcases hq with rfl | rfl | rfl | rfl | rfl
    all_goals have h0 : FnC Try.prog 55 [u64 0, i64 4] [] (bsV [0, 0, 0, 0]) [] := c_putBig 4 0 ⟨by omega⟩ ⟨by omega⟩
    all_goals have h1 : FnC Try.prog 55 [u64 8, i64 4] [] (bsV [0, 0, 0, 8]) [] := c_putBig 4 8 ⟨by omega⟩ ⟨by omega⟩
    all_goals have h2 : FnC Try.prog 55 [u64 16, i64 4] [] (bsV [0, 0, 0, 16]) [] := c_putBig 4 16 ⟨by omega⟩ ⟨by omega⟩
    all_goals have h3 : FnC Try.prog 55 [u64 24, i64 4] [] (bsV [0, 0, 0, 24]) [] := c_putBig 4 24 ⟨by omega⟩ ⟨by omega⟩
    all_goals have h4 : FnC Try.prog 55 [u64 32, i64 4] [] (bsV [0, 0, 0, 32]) [] := c_putBig 4 32 ⟨by omega⟩ ⟨by omega⟩
    all_goals refine fn_vcI (N := 37) (d := 6) tabOk mixed inlBt_ok 6 Try.func36 rfl rfl rfl ?_
    repeat'
      (conv => whnf
       first
        | (exact trivial)
        | (refine And.intro (by with_reducible rfl) ?_)
        | (refine And.intro (drawI (by kernel_rfl)) ?_)
        | (refine andI ?_ ?_)
        | (refine condT (by assumption) ?_)
        | (refine condF (by assumption) ?_)
        | (refine decT (by assumption) ?_)
        | (refine decF (by assumption) ?_)
        | (refine eqT (by assumption) ?_)
        | (refine eqF (by assumption) ?_)
        | (refine neT (by assumption) ?_)
        | (refine neF (by assumption) ?_)
        | (refine cEq (fun h => ?_) (fun h => ?_))
        | (refine cNe (fun h => ?_) (fun h => ?_))
        | (refine cNot (fun h => ?_) (fun h => ?_))
        | (refine cDec (fun h => ?_) (fun h => ?_))
        | (refine condN_split (fun h => ?_) (fun h => ?_))
        | (refine Exists.intro _ (And.intro hm ?_))
        | (refine Exists.intro _ (And.intro (fnC_args h0 (by rfl)) ?_))
        | (refine Exists.intro _ (And.intro (fnC_args h1 (by rfl)) ?_))
        | (refine Exists.intro _ (And.intro (fnC_args h2 (by rfl)) ?_))
        | (refine Exists.intro _ (And.intro (fnC_args h3 (by rfl)) ?_))
        | (refine Exists.intro _ (And.intro (fnC_args h4 (by rfl)) ?_))
        | (refine Exists.intro _ (And.intro (c_cut _ _ ?_) ?_))
        | (refine Exists.intro _ (And.intro rfl ?_))
        | (refine loop_unr tabOk (ceN_sound tabOk mixed inlBt_ok _) mixed 6 ?_)
        | (refine Or.inl (And.intro (by rfl : Nat.ble _ _ = true) ?_))
        | (refine Or.inl (And.intro Cl.lit ?_))
        | (refine Or.inr ?_)
        | (refine Exists.intro (1 : Nat) ?_)
        | (refine Exists.intro _ (And.intro rfl ?_))
        | (fail))
    all_goals try refine Side.mk ?_
    all_goals try dsimp only at *
    all_goals try refine eqI ?_
    all_goals first
      | (exfalso; revert hm; decide)
      | (refine or_all ?_; rfl)
      | (refine rp_all ?_; rfl)
      | (refine rn_plain (rp_all ?_); rfl)
      | exact Nat.le_of_ble_eq_true rfl
      | decide
      | rfl
      | (refine sl_take ?_; rfl)
      | (set_option pp.maxSteps 600 in trace_state; sorry)
  exact key _ rfl (by omega)
noncomputable def inlPb : List IRow := []
theorem inlPb_ok : IOk Try.prog (inlTab inlPb) := inl_ok (by
  unfold inlPb
  exact trivial)
end Go.Proofs.Ytijinkikmglpcaa
