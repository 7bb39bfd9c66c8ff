/-
  Descriptors (layer 14): parts; the laws' functions.
-/
import Derived.Test.YtgkcdahnmkbldaaC14
namespace Go.Proofs.Ytgkcdahnmkbldaa
open Go
set_option linter.unusedVariables false
set_option linter.unusedSimpArgs false
set_option maxRecDepth 100000
set_option maxHeartbeats 2000000

def partsF : Nat → BS → Option (List BS)
  | 0, _ => some []
  | f + 1, b => if b.length = 0 then some [] else if (b[0]?.getD 0).toNat < 2 ∨ b.length < (b[0]?.getD 0).toNat then none else (partsF f (b.drop (b[0]?.getD 0).toNat)).map (b.take (b[0]?.getD 0).toNat :: ·)
def parts (b : BS) : Option (List BS) := partsF b.length b
theorem partsF_eq : ∀ (f : Nat) (b : BS), b.length ≤ f → partsF f b = parts b := by
  intro f
  induction f using Nat.strongRecOn with
  | _ f ih =>
    intro b hb
    unfold parts
    cases f with
    | zero =>
      have : b.length = 0 := by omega
      rw [this]
    | succ f =>
      cases hl : b.length with
      | zero => simp [partsF, hl]
      | succ m =>
        have e : ¬ (m + 1 = 0) := by omega
        simp only [partsF, hl, e, if_false]
        by_cases hc : (b[0]?.getD 0).toNat < 2 ∨ m + 1 < (b[0]?.getD 0).toNat
        · rw [if_pos hc, if_pos hc]
        · rw [if_neg hc, if_neg hc, ih f (by omega) _ (by simp; omega), ih m (by omega) _ (by simp; omega)]
theorem parts_nil : parts [] = some [] := rfl
theorem parts_step {b : BS} (h : 0 < b.length) : parts b = if (b[0]?.getD 0).toNat < 2 ∨ b.length < (b[0]?.getD 0).toNat then none else (parts (b.drop (b[0]?.getD 0).toNat)).map (b.take (b[0]?.getD 0).toNat :: ·) := by
  rw [← partsF_eq (b.length + 1) b (by omega)]
  simp only [partsF]
  rw [if_neg (by omega)]
  split
  · rfl
  · rw [partsF_eq _ _ (by simp)]
def dParts (b : BS) : List BS × Bool := match parts b with
  | some l => (l, true)
  | none => ([], false)
def PI (b0 : BS) (l : List BS) (b : BS) : Prop := parts b0 = (parts b).map (l ++ ·)
theorem PI.done {b0 : BS} {l : List BS} (h : PI b0 l []) : dParts b0 = (l, true) := by
  have h : parts b0 = some l := by rw [h, parts_nil]; simp
  simp [dParts, h]
theorem PI.bad {b0 b : BS} {l : List BS} (h : PI b0 l b) (h0 : 0 < b.length) (hb : (b[0]?.getD 0).toNat < 2 ∨ b.length < (b[0]?.getD 0).toNat) : dParts b0 = ([], false) := by
  have h : parts b0 = none := by rw [h, parts_step h0, if_pos hb]; rfl
  simp [dParts, h]
theorem PI.next {b0 b : BS} {l : List BS} (h : PI b0 l b) (h0 : 0 < b.length) (hb : ¬ ((b[0]?.getD 0).toNat < 2 ∨ b.length < (b[0]?.getD 0).toNat)) : PI b0 (l ++ [b.take (b[0]?.getD 0).toNat]) (b.drop (b[0]?.getD 0).toNat) := by
  unfold PI at *
  rw [h, parts_step h0, if_neg hb, Option.map_map]
  congr 1
  funext x
  simp
theorem parts_flat : ∀ (n : Nat) (b : BS), b.length ≤ n → ∀ l, parts b = some l → l.flatten = b ∧ l.length ≤ b.length := by
  intro n
  induction n with
  | zero =>
    intro b hb l h
    have : b = [] := List.length_eq_zero_iff.1 (by omega)
    subst this
    rw [parts_nil] at h
    cases h
    exact ⟨rfl, Nat.le_refl _⟩
  | succ n ih =>
    intro b hb l h
    by_cases h0 : 0 < b.length
    · rw [parts_step h0] at h
      split at h
      · cases h
      · rename_i hc
        rw [Option.map_eq_some_iff] at h
        obtain ⟨m, hm, rfl⟩ := h
        obtain ⟨i1, i2⟩ := ih _ (by simp; omega) m hm
        refine ⟨by rw [List.flatten_cons, i1, List.take_append_drop], ?_⟩
        simp at i2 ⊢
        omega
    · have : b = [] := List.length_eq_zero_iff.1 (by omega)
      subst this
      rw [parts_nil] at h
      cases h
      exact ⟨rfl, Nat.le_refl _⟩
theorem dParts_yes {b : BS} (h : (dParts b).2 = true) : (dParts b).1.flatten = b ∧ (dParts b).1.length ≤ b.length := by
  unfold dParts at *
  split
  · rename_i l hl; exact parts_flat _ b (Nat.le_refl _) l hl
  · rename_i hl; rw [hl] at h; cases h
theorem dParts_no {b : BS} (h : (dParts b).2 = false) : (dParts b).1 = [] := by
  unfold dParts at *
  split
  · rename_i l hl; rw [hl] at h; cases h
  · rfl
theorem dParts_len (b : BS) : (dParts b).1.length ≤ b.length := by
  cases h : (dParts b).2 with
  | true => exact (dParts_yes h).2
  | false => rw [dParts_no h]; exact Nat.zero_le _
theorem flat_take {l : List BS} {k : Nat} (h : k < l.length) : (l.take (k + 1)).flatten = (l.take k).flatten ++ l[k]?.getD [] := by
  rw [take_getD [] h]; simp
theorem flat_len {l : List BS} {b : BS} (h : l.flatten = b ∨ l = []) (k : Nat) : (l.take k).flatten.length ≤ b.length := by
  rcases h with rfl | rfl
  · conv => rhs; rw [← List.take_append_drop k l, List.flatten_append, List.length_append]
    omega
  · simp
theorem dParts_flat (b : BS) (k : Nat) : ((dParts b).1.take k).flatten.length ≤ b.length := flat_len (by
  cases h : (dParts b).2 with
  | true => exact .inl (dParts_yes h).1
  | false => exact .inr (dParts_no h)) k
structure PS where
  l : List BS
  b : BS
noncomputable def inlP : List IRow := [(21, Try.f21, 9, 4)]
theorem inlP_ok : IOk Try.prog (inlTab inlP) := inl_ok (by
  unfold inlP
  repeat' (first | exact trivial | refine And.intro (And.intro rfl (And.intro rfl rfl)) ?_))
theorem c_parts (b0 : BS) (hb : Side (b0.length ≤ 2 ^ 20)) : FnC Try.prog 12 [bsV b0] [] (.tup [.sl 1 (blsRows (dParts b0).1), bV (dParts b0).2]) [] := by
  have hb := hb.h
  refine fn_vcI (N := 31) (d := 5) tabOk mixed inlP_ok 2 Try.func12 rfl rfl rfl ?_
  repeat'
    (conv => whnf
     first
      | (exact trivial)
      | (refine And.intro (by with_reducible rfl) ?_)
      | (refine And.intro (drawI (by kernel_rfl)) ?_)
      | (refine andI ?_ ?_)
      | (refine condT (by assumption) ?_)
      | (refine condF (by assumption) ?_)
      | (refine decT (by assumption) ?_)
      | (refine decF (by assumption) ?_)
      | (refine eqT (by assumption) ?_)
      | (refine eqF (by assumption) ?_)
      | (refine neT (by assumption) ?_)
      | (refine neF (by assumption) ?_)
      | (refine cEq (fun h => ?_) (fun h => ?_))
      | (refine cNe (fun h => ?_) (fun h => ?_))
      | (refine cNot (fun h => ?_) (fun h => ?_))
      | (refine cDec (fun h => ?_) (fun h => ?_))
      | (refine condN_split (fun h => ?_) (fun h => ?_))
      | (refine Exists.intro _ (And.intro rfl ?_))
      | (refine Or.inl (And.intro Cl.lit ?_))
      | (refine Or.inr ?_)
      | (refine Exists.intro 1 ?_))
  all_goals try refine Side.mk ?_
  all_goals try dsimp only at *
  all_goals try refine eqI ?_
  conv => whnf
  refine loop_w tabOk (ceN_sound tabOk mixed inlP_ok 2) mixed 5 (X := PS) ⟨[], b0⟩ (fun ⟨l, b⟩ => [(0, bsV b), (2, .win 0 1 0 l.length l.length)]) (fun ⟨l, _⟩ => [(0, true, ⟨1, blsRows l, false⟩)]) 1 (fun x => x.b.length ≤ b0.length ∧ x.l.length + x.b.length ≤ b0.length ∧ PI b0 x.l x.b) (fun x => x.b.length) ⟨Nat.le_refl _, by simp, by simp [PI]⟩ ?_ ?_
  · repeat'
      (conv => whnf
       first
        | (exact trivial)
        | (refine And.intro (by with_reducible rfl) ?_)
        | (refine And.intro (drawI (by kernel_rfl)) ?_)
        | (refine andI ?_ ?_)
        | (refine condT (by assumption) ?_)
        | (refine condF (by assumption) ?_)
        | (refine decT (by assumption) ?_)
        | (refine decF (by assumption) ?_)
        | (refine eqT (by assumption) ?_)
        | (refine eqF (by assumption) ?_)
        | (refine neT (by assumption) ?_)
        | (refine neF (by assumption) ?_)
        | (refine cEq (fun h => ?_) (fun h => ?_))
        | (refine cNe (fun h => ?_) (fun h => ?_))
        | (refine cNot (fun h => ?_) (fun h => ?_))
        | (refine cDec (fun h => ?_) (fun h => ?_))
        | (refine condN_split (fun h => ?_) (fun h => ?_))
        | (refine Or.inl (And.intro Cl.lit ?_))
        | (refine Or.inr ?_)
        | (refine Exists.intro 1 ?_))
    all_goals try refine Side.mk ?_
    all_goals try dsimp only at *
    all_goals try refine eqI ?_
    all_goals rfl
  · rintro ⟨l, b⟩ ⟨h1, h2, h3⟩
    simp only at h1 h2 h3
    repeat'
      (conv => whnf
       first
        | (exact trivial)
        | (refine And.intro (by with_reducible rfl) ?_)
        | (refine And.intro (drawI (by kernel_rfl)) ?_)
        | (refine andI ?_ ?_)
        | (refine condT (by assumption) ?_)
        | (refine condF (by assumption) ?_)
        | (refine decT (by assumption) ?_)
        | (refine decF (by assumption) ?_)
        | (refine eqT (by assumption) ?_)
        | (refine eqF (by assumption) ?_)
        | (refine neT (by assumption) ?_)
        | (refine neF (by assumption) ?_)
        | (refine cEq (fun h => ?_) (fun h => ?_))
        | (refine cNe (fun h => ?_) (fun h => ?_))
        | (refine cNot (fun h => ?_) (fun h => ?_))
        | (refine cDec (fun h => ?_) (fun h => ?_))
        | (refine condN_split (fun h => ?_) (fun h => ?_))
        | (refine Exists.intro _ (And.intro (fnC_args (c_scloneB _ ?_) (by first | rfl | ((conv => lhs; simp only [rp_bls, or_bls, len_bls, snoc_bls, rp_nil, rp_app, rp_b, or_nil, or_app, or_b, len_b, take_b, drop_b, rep_b, app_b, List.length_append, List.length_take, List.length_drop, List.length_nil, List.drop_zero, List.take_length, List.nil_append, List.append_nil, Int.toNat_natCast, toNat_min, take_min, and_true, true_and, and_self]) <;> rfl) | ((conv => lhs; simp only [rp_bls, or_bls, len_bls, snoc_bls, rp_nil, rp_app, rp_b, or_nil, or_app, or_b, len_b, take_b, drop_b, rep_b, app_b, List.length_append, List.length_take, List.length_drop, List.length_nil, List.drop_zero, List.take_length, List.nil_append, List.append_nil, Int.toNat_natCast, toNat_min, take_min, and_true, true_and, and_self, sl1_nil]) <;> rfl))) ?_))
        | (refine Exists.intro _ (And.intro (bytes_get ?_) ?_))
        | (refine Exists.intro ⟨l ++ [b.take (b[0]?.getD 0).toNat], b.drop (b[0]?.getD 0).toNat⟩ (andI ?_ (andI ?_ ?_)))
        | (refine Or.inl (And.intro Cl.lit ?_))
        | (refine Or.inr ?_)
        | (refine Exists.intro 1 ?_))
    all_goals try refine Side.mk ?_
    all_goals try dsimp only at *
    all_goals try refine eqI ?_
    all_goals have hc := UInt8.toNat_lt (b[0]?.getD 0)
    all_goals try rfl
    all_goals try decide
    all_goals try refine rn_plain ?_
    all_goals try simp (disch := omega) only [wrap64, Int.zero_add, Int.sub_zero, Int.add_zero, List.take_succ_cons, List.take_zero, List.take_nil, List.cons_append, List.length_cons, List.length_nil, rp_cons, or_cons, List.all_cons, List.all_nil, kfc, V.one, one_int, one_bool, one_str, Bool.and_true, Bool.and_self, List.append_assoc, nil_b, rp_bls, or_bls, len_bls, snoc_bls, rp_nil, rp_app, rp_b, or_nil, or_app, or_b, len_b, take_b, drop_b, rep_b, app_b, List.length_append, List.length_take, List.length_drop, List.length_nil, List.drop_zero, List.take_length, List.nil_append, List.append_nil, Int.toNat_natCast, toNat_min, take_min, and_true, true_and, and_self, Int.toNat_zero, gt_iff_lt] at *
    all_goals try omega
    all_goals try rfl
    all_goals try (simp; done)
    all_goals try decide
    all_goals first
      | (rw [h3.bad (by omega) (by omega)]; rfl)
      | exact ⟨by omega, by omega, h3.next (by omega) (by omega)⟩
      | (have hb0 : b = [] := List.length_eq_zero_iff.1 (by omega)
         subst hb0
         rw [h3.done, List.take_of_length_le (by simp [blsRows])])
structure PR where
  l : List BS
  k : Nat
theorem drop_get (b : BS) (k : Nat) : (b.drop k)[0]?.getD 0 = b[k]?.getD 0 := by simp
theorem c_refParts (b0 : BS) (hb : Side (b0.length ≤ 2 ^ 20)) : FnC Try.prog 13 [bsV b0] [] (.tup [.sl 1 (blsRows (dParts b0).1), bV (dParts b0).2]) [] := by
  have hb := hb.h
  refine fn_vcI (N := 41) (d := 6) tabOk mixed inlP_ok 2 Try.func13 rfl rfl rfl ?_
  repeat'
    (conv => whnf
     first
      | (exact trivial)
      | (refine And.intro (by with_reducible rfl) ?_)
      | (refine And.intro (drawI (by kernel_rfl)) ?_)
      | (refine andI ?_ ?_)
      | (refine condT (by assumption) ?_)
      | (refine condF (by assumption) ?_)
      | (refine decT (by assumption) ?_)
      | (refine decF (by assumption) ?_)
      | (refine eqT (by assumption) ?_)
      | (refine eqF (by assumption) ?_)
      | (refine neT (by assumption) ?_)
      | (refine neF (by assumption) ?_)
      | (refine cEq (fun h => ?_) (fun h => ?_))
      | (refine cNe (fun h => ?_) (fun h => ?_))
      | (refine cNot (fun h => ?_) (fun h => ?_))
      | (refine cDec (fun h => ?_) (fun h => ?_))
      | (refine condN_split (fun h => ?_) (fun h => ?_))
      | (refine Exists.intro _ (And.intro rfl ?_))
      | (refine Or.inl (And.intro Cl.lit ?_))
      | (refine Or.inr ?_)
      | (refine Exists.intro 1 ?_))
  all_goals try refine Side.mk ?_
  all_goals try dsimp only at *
  all_goals try refine eqI ?_
  conv => whnf
  refine loop_w tabOk (ceN_sound tabOk mixed inlP_ok 2) mixed 7 (X := PR) ⟨[], 0⟩ (fun ⟨l, k⟩ => [(5, i64 (k : Nat)), (4, .win 0 1 0 l.length l.length)]) (fun ⟨l, _⟩ => [(0, true, ⟨1, blsRows l, false⟩)]) 1 (fun x => x.k ≤ b0.length ∧ x.l.length ≤ x.k ∧ PI b0 x.l (b0.drop x.k)) (fun x => b0.length - x.k) ⟨Nat.zero_le _, Nat.zero_le _, by simp [PI]⟩ ?_ ?_
  · repeat'
      (conv => whnf
       first
        | (exact trivial)
        | (refine And.intro (by with_reducible rfl) ?_)
        | (refine And.intro (drawI (by kernel_rfl)) ?_)
        | (refine andI ?_ ?_)
        | (refine condT (by assumption) ?_)
        | (refine condF (by assumption) ?_)
        | (refine decT (by assumption) ?_)
        | (refine decF (by assumption) ?_)
        | (refine eqT (by assumption) ?_)
        | (refine eqF (by assumption) ?_)
        | (refine neT (by assumption) ?_)
        | (refine neF (by assumption) ?_)
        | (refine cEq (fun h => ?_) (fun h => ?_))
        | (refine cNe (fun h => ?_) (fun h => ?_))
        | (refine cNot (fun h => ?_) (fun h => ?_))
        | (refine cDec (fun h => ?_) (fun h => ?_))
        | (refine condN_split (fun h => ?_) (fun h => ?_))
        | (refine Or.inl (And.intro Cl.lit ?_))
        | (refine Or.inr ?_)
        | (refine Exists.intro 1 ?_))
    all_goals try refine Side.mk ?_
    all_goals try dsimp only at *
    all_goals try refine eqI ?_
    all_goals rfl
  · rintro ⟨l, k⟩ ⟨h1, h2, h3⟩
    simp only at h1 h2 h3
    repeat'
      (conv => whnf
       first
        | (exact trivial)
        | (refine And.intro (by with_reducible rfl) ?_)
        | (refine And.intro (drawI (by kernel_rfl)) ?_)
        | (refine andI ?_ ?_)
        | (refine condT (by assumption) ?_)
        | (refine condF (by assumption) ?_)
        | (refine decT (by assumption) ?_)
        | (refine decF (by assumption) ?_)
        | (refine eqT (by assumption) ?_)
        | (refine eqF (by assumption) ?_)
        | (refine neT (by assumption) ?_)
        | (refine neF (by assumption) ?_)
        | (refine cEq (fun h => ?_) (fun h => ?_))
        | (refine cNe (fun h => ?_) (fun h => ?_))
        | (refine cNot (fun h => ?_) (fun h => ?_))
        | (refine cDec (fun h => ?_) (fun h => ?_))
        | (refine condN_split (fun h => ?_) (fun h => ?_))
        | (refine Exists.intro _ (And.intro (bytes_get ?_) ?_))
        | (refine Exists.intro ⟨l ++ [(b0.drop k).take (b0[k]?.getD 0).toNat], k + (b0[k]?.getD 0).toNat⟩ (andI ?_ (andI ?_ ?_)))
        | (refine Or.inl (And.intro Cl.lit ?_))
        | (refine Or.inr ?_)
        | (refine Exists.intro 1 ?_))
    all_goals try refine Side.mk ?_
    all_goals try dsimp only at *
    all_goals try refine eqI ?_
    all_goals have hc := UInt8.toNat_lt (b0[k]?.getD 0)
    all_goals try rfl
    all_goals try decide
    all_goals try refine rn_plain ?_
    all_goals try simp (disch := omega) only [wrap64, Int.zero_add, Int.sub_zero, Int.add_zero, List.take_succ_cons, List.take_zero, List.take_nil, List.cons_append, List.length_cons, List.length_nil, rp_cons, or_cons, List.all_cons, List.all_nil, kfc, V.one, one_int, one_bool, one_str, Bool.and_true, Bool.and_self, List.append_assoc, nil_b, rp_bls, or_bls, len_bls, snoc_bls, rp_nil, rp_app, rp_b, or_nil, or_app, or_b, len_b, take_b, drop_b, rep_b, app_b, List.length_append, List.length_take, List.length_drop, List.length_nil, List.drop_zero, List.take_length, List.nil_append, List.append_nil, Int.toNat_natCast, toNat_min, take_min, and_true, true_and, and_self, Int.toNat_natCast, gt_iff_lt] at *
    all_goals try omega
    all_goals try rfl
    all_goals try (simp; done)
    all_goals try decide
    all_goals first
      | (rw [h3.bad (by simp; omega) (by rw [drop_get]; simp; omega)]; rfl)
      | (refine ⟨by omega, by omega, ?_⟩
         have h4 := h3.next (by simp; omega) (by rw [drop_get]; simp; omega)
         rw [drop_get, List.drop_drop] at h4
         exact h4)
      | (rw [List.drop_eq_nil_of_le (by omega)] at h3
         rw [h3.done, List.take_of_length_le (by simp [blsRows])])
      | (have e1 : ((k : Int) + ((b0[k]?.getD 0).toNat : Int)).toNat = k + (b0[k]?.getD 0).toNat := by omega
         rw [e1, List.drop_take, List.take_take]
         congr 4
         omega)
theorem c_same (l : List BS) (hl : Side (l.length ≤ 2 ^ 20)) : FnC Try.prog 14 [.sl 1 (blsRows l), .sl 1 (blsRows l)] [] (bV true) [] := by
  have hl := hl.h
  refine fn_vcI (N := 28) (d := 5) tabOk mixed inlP_ok 2 Try.func14 rfl rfl rfl ?_
  repeat'
    (conv => whnf
     first
      | (exact trivial)
      | (refine And.intro (by with_reducible rfl) ?_)
      | (refine And.intro (drawI (by kernel_rfl)) ?_)
      | (refine andI ?_ ?_)
      | (refine condT (by assumption) ?_)
      | (refine condF (by assumption) ?_)
      | (refine decT (by assumption) ?_)
      | (refine decF (by assumption) ?_)
      | (refine eqT (by assumption) ?_)
      | (refine eqF (by assumption) ?_)
      | (refine neT (by assumption) ?_)
      | (refine neF (by assumption) ?_)
      | (refine cEq (fun h => ?_) (fun h => ?_))
      | (refine cNe (fun h => ?_) (fun h => ?_))
      | (refine cNot (fun h => ?_) (fun h => ?_))
      | (refine cDec (fun h => ?_) (fun h => ?_))
      | (refine condN_split (fun h => ?_) (fun h => ?_))
      | (refine Exists.intro _ (And.intro rfl ?_))
      | (refine Or.inl (And.intro Cl.lit ?_))
      | (refine Or.inr ?_)
      | (refine Exists.intro 1 ?_))
  all_goals try refine Side.mk ?_
  all_goals try dsimp only at *
  all_goals try refine eqI ?_
  all_goals try (exfalso; omega)
  conv => whnf
  refine loop_w tabOk (ceN_sound tabOk mixed inlP_ok 2) mixed 11 (X := Nat) 0 (fun k => [(5, i64 (k : Nat))]) (fun _ => []) 0 (fun k => k ≤ l.length) (fun k => l.length - k) (Nat.zero_le _) ?_ ?_
  · repeat'
      (conv => whnf
       first
        | (exact trivial)
        | (refine And.intro (by with_reducible rfl) ?_)
        | (refine And.intro (drawI (by kernel_rfl)) ?_)
        | (refine andI ?_ ?_)
        | (refine condT (by assumption) ?_)
        | (refine condF (by assumption) ?_)
        | (refine decT (by assumption) ?_)
        | (refine decF (by assumption) ?_)
        | (refine eqT (by assumption) ?_)
        | (refine eqF (by assumption) ?_)
        | (refine neT (by assumption) ?_)
        | (refine neF (by assumption) ?_)
        | (refine cEq (fun h => ?_) (fun h => ?_))
        | (refine cNe (fun h => ?_) (fun h => ?_))
        | (refine cNot (fun h => ?_) (fun h => ?_))
        | (refine cDec (fun h => ?_) (fun h => ?_))
        | (refine condN_split (fun h => ?_) (fun h => ?_))
        | (refine Or.inl (And.intro Cl.lit ?_))
        | (refine Or.inr ?_)
        | (refine Exists.intro 1 ?_))
    all_goals try refine Side.mk ?_
    all_goals try dsimp only at *
    all_goals try refine eqI ?_
    all_goals rfl
  · rintro k h1
    repeat'
      (conv => whnf
       first
        | (exact trivial)
        | (refine And.intro (by with_reducible rfl) ?_)
        | (refine And.intro (drawI (by kernel_rfl)) ?_)
        | (refine andI ?_ ?_)
        | (refine condT (by assumption) ?_)
        | (refine condF (by assumption) ?_)
        | (refine decT (by assumption) ?_)
        | (refine decF (by assumption) ?_)
        | (refine eqT (by assumption) ?_)
        | (refine eqF (by assumption) ?_)
        | (refine neT (by assumption) ?_)
        | (refine neF (by assumption) ?_)
        | (refine cEq (fun h => ?_) (fun h => ?_))
        | (refine cNe (fun h => ?_) (fun h => ?_))
        | (refine cNot (fun h => ?_) (fun h => ?_))
        | (refine cDec (fun h => ?_) (fun h => ?_))
        | (refine condN_split (fun h => ?_) (fun h => ?_))
        | (refine Exists.intro _ (And.intro (bls_get ?_) ?_))
        | (refine Exists.intro _ (And.intro (by first | rfl | ((conv => lhs; simp only [nil_b, rp_bls, or_bls, len_bls, snoc_bls, rp_nil, rp_app, rp_b, or_nil, or_app, or_b, len_b, take_b, drop_b, rep_b, app_b, List.length_append, List.length_take, List.length_drop, List.length_nil, List.drop_zero, List.take_length, List.nil_append, List.append_nil, Int.toNat_natCast, toNat_min, take_min, and_true, true_and, and_self]) <;> rfl)) ?_))
        | (refine Exists.intro (k + 1) (andI ?_ (andI ?_ ?_)))
        | (refine Or.inl (And.intro Cl.lit ?_))
        | (refine Or.inr ?_)
        | (refine Exists.intro 1 ?_))
    all_goals try refine Side.mk ?_
    all_goals try dsimp only at *
    all_goals try refine eqI ?_
    all_goals try rfl
    all_goals try decide
    all_goals try refine rn_plain ?_
    all_goals try simp (disch := omega) only [wrap64, Int.zero_add, Int.sub_zero, Int.add_zero, List.take_succ_cons, List.take_zero, List.take_nil, List.cons_append, List.length_cons, List.length_nil, rp_cons, or_cons, List.all_cons, List.all_nil, kfc, V.one, one_int, one_bool, one_str, Bool.and_true, Bool.and_self, List.append_assoc, nil_b, rp_bls, or_bls, len_bls, snoc_bls, rp_nil, rp_app, rp_b, or_nil, or_app, or_b, len_b, take_b, drop_b, rep_b, app_b, List.length_append, List.length_take, List.length_drop, List.length_nil, List.drop_zero, List.take_length, List.nil_append, List.append_nil, Int.toNat_natCast, toNat_min, take_min, and_true, true_and, and_self, Int.toNat_natCast, gt_iff_lt] at *
    all_goals try omega
    all_goals try rfl
    all_goals try (simp; done)
    all_goals try decide
    all_goals (exfalso; simp_all)
end Go.Proofs.Ytgkcdahnmkbldaa
