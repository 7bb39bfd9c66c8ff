/-
  Modes (layer 8): what is selected.
-/
import Derived.Test.YtbieiehfohldjaamL08
namespace Go.Proofs.Ytbieiehfohldjaa
open Go
set_option linter.unusedVariables false
set_option linter.unusedSimpArgs false
set_option maxRecDepth 100000
set_option maxHeartbeats 2000000

/-- is a text a part's length, and the part it is? -/
def sNo (b : BS) : Prop := b.length < 2 ∨ b.length < 2 + (b[1]?.getD 0).toNat
instance (b : BS) : Decidable (sNo b) := by unfold sNo; infer_instance
def sPg (b : BS) : BS := b.take (2 + (b[1]?.getD 0).toNat)
def sRest (b : BS) : BS := b.drop (2 + (b[1]?.getD 0).toNat)
def selF : Nat → BS → Bool → Bool × Sns
  | 0, _, c => (c, sOk)
  | f + 1, b, c => if b.length = 0 then (c, sOk) else if sNo b then (false, sShort) else if sPg b = mOne 4 then selF f (sRest b) true else if sPg b = mOne 0 then selF f (sRest b) false else if sPg b = mTwo then selF f (sRest b) c else (false, sBad)
def sel (b : BS) (c : Bool) : Bool × Sns := selF b.length b c
theorem sRest_len {b : BS} : (sRest b).length ≤ b.length - 2 := by unfold sRest; simp; omega
theorem selF_eq : ∀ (f : Nat) (b : BS) (c : Bool), b.length ≤ f → selF f b c = sel b c := by
  intro f
  induction f using Nat.strongRecOn with
  | _ f ih =>
    intro b c hb
    unfold sel
    cases f with
    | zero =>
      have : b.length = 0 := by omega
      rw [this]
    | succ f =>
      cases hl : b.length with
      | zero => simp [selF, hl]
      | succ m =>
        have h1 := sRest_len (b := b)
        simp only [selF, hl]
        rw [ih f (by omega) _ true (by omega), ih m (by omega) _ true (by omega), ih f (by omega) _ false (by omega), ih m (by omega) _ false (by omega), ih f (by omega) _ c (by omega), ih m (by omega) _ c (by omega)]
theorem sel_nil (c : Bool) : sel [] c = (c, sOk) := rfl
theorem sel_step {b : BS} (c : Bool) (h : 0 < b.length) : sel b c = if sNo b then (false, sShort) else if sPg b = mOne 4 then sel (sRest b) true else if sPg b = mOne 0 then sel (sRest b) false else if sPg b = mTwo then sel (sRest b) c else (false, sBad) := by
  have h1 := sRest_len (b := b)
  rw [← selF_eq (b.length + 1) b c (by omega)]
  simp only [selF]
  rw [if_neg (by omega), selF_eq _ _ _ (by omega), selF_eq _ _ _ (by omega), selF_eq _ _ _ (by omega)]
/-- how long a header is, and how much follows it -/
def hSz (ten : Bool) : Nat := if ten then 8 else 4
def hN (b : BS) (ten : Bool) : Nat := if ten then (b[6]?.getD 0).toNat * 256 + (b[7]?.getD 0).toNat else (b[3]?.getD 0).toNat
/-- what is behind a header -/
def mHead (b : BS) (ten : Bool) : BS × Sns := if b.length < hSz ten then ([], sShort) else if hN b ten ≠ 0 ∧ hN b ten ≠ 8 then ([], sBad) else if b.length < hSz ten + hN b ten then ([], sShort) else (b.drop (hSz ten + hN b ten), sOk)
theorem hN_lt (b : BS) (ten : Bool) : hN b ten < 65536 := by
  have h1 := UInt8.toNat_lt (b[6]?.getD 0)
  have h2 := UInt8.toNat_lt (b[7]?.getD 0)
  have h3 := UInt8.toNat_lt (b[3]?.getD 0)
  unfold hN
  split <;> omega
theorem beN_one (x : UInt8) : beN [x] = x.toNat := by simp [beN]
theorem beN_two (x y : UInt8) : beN [x, y] = x.toNat * 256 + y.toNat := by simp [beN]
theorem drop_one {b : BS} {k : Nat} (h : k < b.length) : (b.drop k).take 1 = [b[k]?.getD 0] := by
  rw [List.drop_eq_getElem_cons h, List.getElem?_eq_getElem h]; rfl
theorem drop_two {b : BS} {k : Nat} (h : k + 1 < b.length) : (b.drop k).take 2 = [b[k]?.getD 0, b[k+1]?.getD 0] := by
  rw [List.drop_eq_getElem_cons (by omega), List.drop_eq_getElem_cons h, List.getElem?_eq_getElem h, List.getElem?_eq_getElem (show k < b.length by omega)]; rfl
theorem nBig_ok {b : BS} {p w : Int} (h : ¬ nBad b p w) : nBig b p w = beN ((b.drop p.toNat).take w.toNat) := by unfold nBig nCut; rw [if_neg h]
theorem big4 {b : BS} (h : ¬ 4 > (b.length : Int)) : nBig (b.take (Int.toNat 4)) (4 - 1) 1 = hN b false := by
  rw [nBig_ok (by unfold nBad; simp; omega), show (4 - 1 : Int).toNat = 3 from rfl, show (1 : Int).toNat = 1 from rfl, show (4 : Int).toNat = 4 from rfl, List.drop_take, List.take_take, show min 1 (4 - 3) = 1 from rfl, drop_one (by omega), beN_one]
  rfl
theorem big8 {b : BS} (h : ¬ 8 > (b.length : Int)) : nBig (b.take (Int.toNat 8)) (8 - 2) 2 = hN b true := by
  rw [nBig_ok (by unfold nBad; simp; omega), show (8 - 2 : Int).toNat = 6 from rfl, show (2 : Int).toNat = 2 from rfl, show (8 : Int).toNat = 8 from rfl, List.drop_take, List.take_take, show min 2 (8 - 6) = 2 from rfl, drop_two (by omega), beN_two]
  rfl
theorem c_head (b : BS) (ten : Bool) (hb : Side (b.length ≤ 2 ^ 40)) : FnC Try.prog 53 [bsV b, bV ten] [] (.tup [bsV (mHead b ten).1, (mHead b ten).2.v]) [] := by
  have hb := hb.h
  have hlt := hN_lt b ten
  cases ten
  all_goals refine fn_vcI (N := 52) (d := 6) tabOk mixed inl08_ok 4 Try.func53 rfl rfl rfl ?_
  repeat'
    (conv => whnf
     first
      | (exact trivial)
      | (refine And.intro (by with_reducible rfl) ?_)
      | (refine And.intro (drawI (by kernel_rfl)) ?_)
      | (refine andI ?_ ?_)
      | (refine condT (by assumption) ?_)
      | (refine condF (by assumption) ?_)
      | (refine decT (by assumption) ?_)
      | (refine decF (by assumption) ?_)
      | (refine eqT (by assumption) ?_)
      | (refine eqF (by assumption) ?_)
      | (refine neT (by assumption) ?_)
      | (refine neF (by assumption) ?_)
      | (refine cEq (fun h => ?_) (fun h => ?_))
      | (refine cNe (fun h => ?_) (fun h => ?_))
      | (refine cNot (fun h => ?_) (fun h => ?_))
      | (refine cDec (fun h => ?_) (fun h => ?_))
      | (refine condN_split (fun h => ?_) (fun h => ?_))
      | (refine Exists.intro _ (And.intro (fnC_args (c_big _ _ _ ?_) (by first | rfl | ((conv => lhs; simp only [rp_bls, or_bls, len_bls, snoc_bls, rp_nil, rp_app, rp_b, or_nil, or_app, or_b, len_b, take_b, drop_b, rep_b, app_b, List.length_append, List.length_take, List.length_drop, List.length_nil, List.drop_zero, List.take_length, List.nil_append, List.append_nil, Int.toNat_natCast, toNat_min, take_min, and_true, true_and, and_self]) <;> rfl) | ((conv => lhs; simp only [rp_bls, or_bls, len_bls, snoc_bls, rp_nil, rp_app, rp_b, or_nil, or_app, or_b, len_b, take_b, drop_b, rep_b, app_b, List.length_append, List.length_take, List.length_drop, List.length_nil, List.drop_zero, List.take_length, List.nil_append, List.append_nil, Int.toNat_natCast, toNat_min, take_min, and_true, true_and, and_self, sl1_nil]) <;> rfl))) ?_))
      | (refine Exists.intro _ (And.intro rfl ?_))
      | (refine Or.inl (And.intro (by rfl : Nat.ble _ _ = true) ?_))
      | (refine Or.inl (And.intro Cl.lit ?_))
      | (refine Or.inr ?_)
      | (refine Exists.intro (1 : Nat) ?_)
      | (refine Exists.intro _ (And.intro rfl ?_))
      | (fail))
  all_goals try refine Side.mk ?_
  all_goals try dsimp only at *
  all_goals try refine eqI ?_
  all_goals try rfl
  all_goals try decide
  all_goals try refine rn_plain ?_
  all_goals try (first | (refine rp_all ?_; rfl) | (refine or_all ?_; rfl))
  all_goals try simp (disch := omega) only [wrap64, Int.zero_add, Int.sub_zero, Int.add_zero, List.take_succ_cons, List.take_zero, List.take_nil, List.cons_append, List.length_cons, List.length_nil, rp_cons, or_cons, List.all_cons, List.all_nil, kfc, V.one, one_int, one_bool, one_str, Bool.and_true, Bool.and_self, List.append_assoc, nil_b, rp_bls, or_bls, len_bls, snoc_bls, rp_nil, rp_app, rp_b, or_nil, or_app, or_b, len_b, take_b, drop_b, rep_b, app_b, List.length_append, List.length_take, List.length_drop, List.length_nil, List.drop_zero, List.take_length, List.nil_append, List.append_nil, Int.toNat_natCast, toNat_min, take_min, and_true, true_and, and_self] at *
  all_goals try omega
  all_goals try rfl
  all_goals try (simp; done)
  all_goals try decide
  all_goals try rw [big4 (by assumption)] at *
  all_goals try rw [big8 (by assumption)] at *
  all_goals try rw [wrap64 (by omega) (by omega)] at *
  all_goals try omega
  all_goals (generalize hm : mHead _ _ = m; unfold mHead at hm; (repeat' split at hm) <;> subst hm <;> first | rfl | (exfalso; simp only [hSz, if_true, if_false, Bool.false_eq_true] at *; omega) | skip)
  all_goals (rw [List.take_of_length_le (by simp), List.drop_drop, Int.toNat_natCast]; rfl)
def Sns.good (s : Sns) : Bool := (s.key == 0) && ((s.code == 0) && ((s.qual == 0) && true))
def mSel (b : BS) (ten c : Bool) : Bool × Sns := if b.length = 0 then (c, sOk) else if (mHead b ten).2.good = true then sel (mHead b ten).1 c else (false, (mHead b ten).2)
theorem c_pgOn : FnC Try.prog 55 [i64 8, i64 0, bV true] [] (.tup [bsV (mOne 4), bV true]) [] := c_page 8 0 true
theorem c_pgOff : FnC Try.prog 55 [i64 8, i64 0, bV false] [] (.tup [bsV (mOne 0), bV true]) [] := c_page 8 0 false
theorem c_pgTwo : FnC Try.prog 55 [i64 28, i64 0, bV false] [] (.tup [bsV mTwo, bV true]) [] := c_page 28 0 false
def nextC (l : BS) (d : Bool) : Bool := if sPg l = mOne 4 then true else if sPg l = mOne 0 then false else d
theorem sel_on {l : BS} {d : Bool} (h0 : 0 < l.length) (h : ¬ sNo l) (hp : sPg l = mOne 4 ∨ sPg l = mOne 0 ∨ sPg l = mTwo) : sel l d = sel (sRest l) (nextC l d) := by
  rw [sel_step d h0, if_neg h]
  unfold nextC
  split
  · rfl
  · split
    · rfl
    · rw [if_pos (by rcases hp with h | h | h <;> first | contradiction | exact h)]
theorem wrapA (x : UInt8) : IntKind.i64.wrap (2 + IntKind.i64.wrap (x.toNat : Int)) = 2 + x.toNat := by
  have := UInt8.toNat_lt x
  rw [wrap64 (n := (x.toNat : Int)) (by omega) (by omega), wrap64 (by omega) (by omega)]
theorem toNatA (x : UInt8) : (2 + (x.toNat : Int)).toNat = 2 + x.toNat := by omega
theorem pg_on {l : BS} (h : ((l.take (2 + (l[1]?.getD 0).toNat)) == mOne 4) = true) : sPg l = mOne 4 := by simpa [sPg] using h
structure SS where
  b : BS
  c : Bool
theorem mHead_len (b : BS) (ten : Bool) : (mHead b ten).1.length ≤ b.length := by
  unfold mHead
  split
  · exact Nat.zero_le _
  · split
    · exact Nat.zero_le _
    · split
      · exact Nat.zero_le _
      · simp
attribute [local irreducible] mHead mOne mTwo sel
theorem c_select (b : BS) (ten c : Bool) (hb : Side (b.length ≤ 2 ^ 20)) : FnC Try.prog 36 [bsV b, bV ten, bV c] [] (.tup [bV (mSel b ten c).1, (mSel b ten c).2.v]) [] := by
  have hb := hb.h
  have hh := mHead_len b ten
  refine fn_vcI (N := 74) (d := 7) tabOk mixed inl08_ok 4 Try.func36 rfl rfl rfl ?_
  repeat'
    (conv => whnf
     first
      | (exact trivial)
      | (refine And.intro (by with_reducible rfl) ?_)
      | (refine And.intro (drawI (by kernel_rfl)) ?_)
      | (refine andI ?_ ?_)
      | (refine condT (by assumption) ?_)
      | (refine condF (by assumption) ?_)
      | (refine decT (by assumption) ?_)
      | (refine decF (by assumption) ?_)
      | (refine eqT (by assumption) ?_)
      | (refine eqF (by assumption) ?_)
      | (refine neT (by assumption) ?_)
      | (refine neF (by assumption) ?_)
      | (refine cEq (fun h => ?_) (fun h => ?_))
      | (refine cNe (fun h => ?_) (fun h => ?_))
      | (refine cNot (fun h => ?_) (fun h => ?_))
      | (refine cDec (fun h => ?_) (fun h => ?_))
      | (refine condN_split (fun h => ?_) (fun h => ?_))
      | (refine Exists.intro _ (And.intro (c_head _ _ ?_) ?_))
      | (refine Exists.intro _ (And.intro eq_sns ?_))
      | (refine Exists.intro _ (And.intro rfl ?_))
      | (refine Or.inl (And.intro (by rfl : Nat.ble _ _ = true) ?_))
      | (refine Or.inl (And.intro Cl.lit ?_))
      | (refine Or.inr ?_)
      | (refine Exists.intro (1 : Nat) ?_)
      | (refine Exists.intro _ (And.intro rfl ?_))
      | (fail))
  all_goals try refine Side.mk ?_
  all_goals try dsimp only at *
  all_goals try refine eqI ?_
  all_goals try omega
  · simp only [len_b] at h
    rw [show mSel b ten c = (c, sOk) from by unfold mSel; rw [if_pos (by omega)]]
    rfl
  · rename_i h0
    simp only [len_b] at h0
    rw [show mSel b ten c = (false, (mHead b ten).2) from by unfold mSel; rw [if_neg (by omega), if_neg (by unfold Sns.good; rw [h]; decide)]]
    rfl
  rename_i h0
  simp only [len_b] at h0
  rw [show mSel b ten c = sel (mHead b ten).1 c from by unfold mSel; rw [if_neg (by omega), if_pos (by unfold Sns.good; rw [h])]]
  generalize mHead b ten = w at *
  obtain ⟨b0, wy⟩ := w
  simp only at hh h ⊢
  conv => whnf
  refine loop_k tabOk (ceN_sound tabOk mixed inl08_ok 4) mixed 33 (X := SS) ⟨b0, c⟩ (fun ⟨l, c⟩ => [(0, bsV l), (2, bV c)]) (fun x => x.b.length ≤ b0.length ∧ sel b0 c = sel x.b x.c) (fun x => x.b.length) ⟨Nat.le_refl _, rfl⟩ ?_ ?_
  · repeat'
      (conv => whnf
       first
        | (exact trivial)
        | (refine And.intro (by with_reducible rfl) ?_)
        | (refine And.intro (drawI (by kernel_rfl)) ?_)
        | (refine andI ?_ ?_)
        | (refine condT (by assumption) ?_)
        | (refine condF (by assumption) ?_)
        | (refine decT (by assumption) ?_)
        | (refine decF (by assumption) ?_)
        | (refine eqT (by assumption) ?_)
        | (refine eqF (by assumption) ?_)
        | (refine neT (by assumption) ?_)
        | (refine neF (by assumption) ?_)
        | (refine cEq (fun h => ?_) (fun h => ?_))
        | (refine cNe (fun h => ?_) (fun h => ?_))
        | (refine cNot (fun h => ?_) (fun h => ?_))
        | (refine cDec (fun h => ?_) (fun h => ?_))
        | (refine condN_split (fun h => ?_) (fun h => ?_))
        | (refine Or.inl (And.intro (by rfl : Nat.ble _ _ = true) ?_))
        | (refine Or.inl (And.intro Cl.lit ?_))
        | (refine Or.inr ?_)
        | (refine Exists.intro (1 : Nat) ?_)
        | (refine Exists.intro _ (And.intro rfl ?_))
        | (fail))
    all_goals try refine Side.mk ?_
    all_goals try dsimp only at *
    all_goals try refine eqI ?_
    all_goals rfl
  · rintro ⟨l, d⟩ ⟨h1, h2⟩
    simp only at h1 h2
    repeat'
      (conv => whnf
       first
        | (exact trivial)
        | (refine And.intro (by with_reducible rfl) ?_)
        | (refine And.intro (drawI (by kernel_rfl)) ?_)
        | (refine andI ?_ ?_)
        | (refine condT (by assumption) ?_)
        | (refine condF (by assumption) ?_)
        | (refine decT (by assumption) ?_)
        | (refine decF (by assumption) ?_)
        | (refine eqT (by assumption) ?_)
        | (refine eqF (by assumption) ?_)
        | (refine neT (by assumption) ?_)
        | (refine neF (by assumption) ?_)
        | (refine cEq (fun h => ?_) (fun h => ?_))
        | (refine cNe (fun h => ?_) (fun h => ?_))
        | (refine cNot (fun h => ?_) (fun h => ?_))
        | (refine cDec (fun h => ?_) (fun h => ?_))
        | (refine condN_split (fun h => ?_) (fun h => ?_))
        | (refine Exists.intro _ (And.intro (c_pgOn) ?_))
        | (refine Exists.intro _ (And.intro (c_pgOff) ?_))
        | (refine Exists.intro _ (And.intro (c_pgTwo) ?_))
        | (refine Exists.intro _ (And.intro (fnC_args (c_equal _ _ ?_) (by first | rfl | ((conv => lhs; simp only [rp_bls, or_bls, len_bls, snoc_bls, rp_nil, rp_app, rp_b, or_nil, or_app, or_b, len_b, take_b, drop_b, rep_b, app_b, List.length_append, List.length_take, List.length_drop, List.length_nil, List.drop_zero, List.take_length, List.nil_append, List.append_nil, Int.toNat_natCast, toNat_min, take_min, and_true, true_and, and_self]) <;> rfl) | ((conv => lhs; simp only [rp_bls, or_bls, len_bls, snoc_bls, rp_nil, rp_app, rp_b, or_nil, or_app, or_b, len_b, take_b, drop_b, rep_b, app_b, List.length_append, List.length_take, List.length_drop, List.length_nil, List.drop_zero, List.take_length, List.nil_append, List.append_nil, Int.toNat_natCast, toNat_min, take_min, and_true, true_and, and_self, sl1_nil]) <;> rfl))) ?_))
        | (refine Exists.intro _ (And.intro (bytes_get ?_) ?_))
        | (refine Exists.intro ⟨l.drop (2 + (l[1]?.getD 0).toNat), nextC l d⟩ (andI ?_ (andI ?_ ?_)))
        | (refine Or.inl (And.intro (by rfl : Nat.ble _ _ = true) ?_))
        | (refine Or.inl (And.intro Cl.lit ?_))
        | (refine Or.inr ?_)
        | (refine Exists.intro (1 : Nat) ?_)
        | (refine Exists.intro _ (And.intro rfl ?_))
        | (fail))
    all_goals try refine Side.mk ?_
    all_goals try dsimp only at *
    all_goals try refine eqI ?_
    all_goals have hc := UInt8.toNat_lt (l[1]?.getD 0)
    all_goals simp only [show Int.toNat 1 = 1 from rfl, wrapA, toNatA, Int.toNat_zero, Int.toNat_natCast, gt_iff_lt, beq_iff_eq, beq_eq_false_iff_ne] at *
    all_goals try rfl
    all_goals try decide
    all_goals try refine rn_plain ?_
    all_goals try (first | (refine rp_all ?_; rfl) | (refine or_all ?_; rfl))
    all_goals try simp (disch := omega) only [wrap64, Int.zero_add, Int.sub_zero, Int.add_zero, List.take_succ_cons, List.take_zero, List.take_nil, List.cons_append, List.length_cons, List.length_nil, rp_cons, or_cons, List.all_cons, List.all_nil, kfc, V.one, one_int, one_bool, one_str, Bool.and_true, Bool.and_self, List.append_assoc, nil_b, rp_bls, or_bls, len_bls, snoc_bls, rp_nil, rp_app, rp_b, or_nil, or_app, or_b, len_b, take_b, drop_b, rep_b, app_b, List.length_append, List.length_take, List.length_drop, List.length_nil, List.drop_zero, List.take_length, List.nil_append, List.append_nil, Int.toNat_natCast, toNat_min, take_min, and_true, true_and, and_self] at *
    all_goals try omega
    all_goals try rfl
    all_goals try (simp; done)
    all_goals try decide
    all_goals first
      | (rw [h2, sel_step d (by omega), if_pos (by unfold sNo; omega)]; rfl)
      | (rw [h2, sel_step d (by omega), if_neg (by unfold sNo; omega), if_neg (by assumption), if_neg (by assumption), if_neg (by assumption)]; rfl)
      | (refine ⟨by simp; omega, ?_⟩
         rw [h2, sel_on (by omega) (by unfold sNo; omega) (by first | exact .inl (by assumption) | exact .inr (.inl (by assumption)) | exact .inr (.inr (by assumption)))]
         rfl)
      | (refine congrArg Value.bool ?_; unfold nextC; rw [if_pos (by assumption)]; done)
      | (refine congrArg Value.bool ?_; unfold nextC; rw [if_neg (by assumption), if_pos (by assumption)]; done)
      | (refine congrArg Value.bool ?_; unfold nextC; rw [if_neg (by assumption), if_neg (by assumption)]; done)
      | (rw [h2, List.length_eq_zero_iff.1 (show l.length = 0 by omega), sel_nil]; rfl)
end Go.Proofs.Ytbieiehfohldjaa
