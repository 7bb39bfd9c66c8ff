/-
  Layer 11: the other laws.
-/
import Derived.Test.YtijinkikmglpcaamIs
import Derived.Test.YtijinkikmglpcaamMw
namespace Go.Proofs.Ytijinkikmglpcaa
open Go
set_option linter.unusedVariables false
set_option linter.unusedSimpArgs false
set_option maxRecDepth 100000
set_option maxHeartbeats 16000000

def Kinds (c : Cmd) (i : Itt) : Prop := (∃ s, i = iNone s) ∨ (∃ b, b ≠ [] ∧ i = ⟨1, b.length, b, Job.dflt, sOk⟩) ∨ ((jStart c).2 = true ∧ i = ⟨2, (jStart c).1.len, [], (jStart c).1, sOk⟩)
theorem kIn (c : Cmd) (b : BS) (s : Sns) : Kinds c (iIn b s) := by
  unfold iIn
  split
  · rename_i h; exact .inr (.inl ⟨b, h.2, rfl⟩)
  · exact .inl ⟨s, rfl⟩
theorem kOut (c : Cmd) (s : Sns) : Kinds c (iOut c s) := by
  unfold iOut
  split
  · rename_i h; exact .inr (.inr ⟨h.1, rfl⟩)
  · exact .inl ⟨s, rfl⟩
theorem kNone (c : Cmd) (s : Sns) : Kinds c (iNone s) := .inl ⟨s, rfl⟩
theorem begin_kinds (u : Unt) (l ls : Int) (c : Cmd) : Kinds c (iBegin u l ls c).2 := by
  unfold iBegin
  (repeat' split) <;> first | exact kNone _ _ | exact kIn _ _ _ | exact kOut _ _ | skip
  · unfold iStart; (repeat' split) <;> exact kNone _ _
  · unfold iBlocks; (repeat' split) <;> first | exact kNone _ _ | exact kIn _ _ _ | exact kOut _ _
theorem start_pos {c : Cmd} (h : (jStart c).2 = true) : 0 < (jStart c).1.len ∧ (jStart c).1.took = 0 ∧ (jStart c).1.cmd = c := by
  unfold jStart at *
  split at h
  · cases h
  · rename_i hn
    rw [if_neg hn]
    refine ⟨?_, rfl, rfl⟩
    have : jSize c = 1 ∨ jSize c = 64 := by
      unfold jSize at *
      (repeat' split) <;> simp_all
    dsimp only
    rcases this with e | e <;> rw [e] <;> omega
theorem c_intentMany (u : Unt) (l ls : Int) (c : Cmd) (hp : InU c.pos) (hn : InI6 c.n) : FnC Try.prog 3 [u.v, .agg [i64 l, i64 ls], c.v] [] (bV true) [] := by
  have hb := fun h => c_ibegin u l ls c ⟨hp⟩ ⟨hn⟩ h
  have hk := begin_kinds u l ls c
  have hj := start_pos (c := c)
  have hce : eqC c c = true := by rw [eqC_eq]; exact decide_eq_true rfl
  generalize hv : (iBegin u l ls c).1 = v at *
  generalize hi : (iBegin u l ls c).2 = i at *
  clear hv hi
  obtain ⟨⟨⟨bs1, ds1⟩, pr1, pt1, la1⟩, ca1, at1, ls1⟩ := v
  obtain ⟨⟨⟨bs, ds⟩, pr, pt, la⟩, ca, atts, lst⟩ := u
  rcases hk with ⟨s, rfl⟩ | ⟨b, hb0, rfl⟩ | ⟨h0, rfl⟩
  · obtain ⟨s1, s2, s3⟩ := s
    clear hj hce
    obtain ⟨op, pos, n, pg, bits⟩ := c
    dsimp only [Unt.v, Slt.v, Med.v, Cmd.v, iNone, Itt.v, Job.dflt] at *
    refine fn_vcI (N := 103) (d := 7) tabOk mixed inlIs_ok 6 Try.func3 rfl rfl rfl ?_
    repeat'
      (conv => whnf
       first
        | (exact trivial)
        | (refine And.intro (by with_reducible rfl) ?_)
        | (refine And.intro (drawI (by kernel_rfl)) ?_)
        | (refine andI ?_ ?_)
        | (refine condT (by assumption) ?_)
        | (refine condF (by assumption) ?_)
        | (refine decT (by assumption) ?_)
        | (refine decF (by assumption) ?_)
        | (refine eqT (by assumption) ?_)
        | (refine eqF (by assumption) ?_)
        | (refine neT (by assumption) ?_)
        | (refine neF (by assumption) ?_)
        | (refine cEq (fun h => ?_) (fun h => ?_))
        | (refine cNe (fun h => ?_) (fun h => ?_))
        | (refine cNot (fun h => ?_) (fun h => ?_))
        | (refine cDec (fun h => ?_) (fun h => ?_))
        | (refine condN_split (fun h => ?_) (fun h => ?_))
        | (refine Exists.intro _ (And.intro (c_alive11) ?_))
        | (refine Exists.intro _ (And.intro (hb ?_) ?_))
        | (refine Exists.intro _ (And.intro eq_sns ?_))
        | (refine Exists.intro _ (And.intro rfl ?_))
        | (refine Or.inl (And.intro (by rfl : Nat.ble _ _ = true) ?_))
        | (refine Or.inl (And.intro Cl.lit ?_))
        | (refine Or.inr ?_)
        | (refine Exists.intro (1 : Nat) ?_)
        | (refine Exists.intro _ (And.intro rfl ?_))
        | (fail))
    all_goals try refine Side.mk ?_
    all_goals try dsimp only
    all_goals try refine eqI ?_
    all_goals first
      | rfl
      | (simp only [List.length_map, len_b] at *; omega)
      | (set_option pp.maxSteps 400 in trace_state; sorry)
  · have hbl : 0 < b.length := List.length_pos_iff.2 hb0
    clear hj hce
    obtain ⟨op, pos, n, pg, bits⟩ := c
    dsimp only [Unt.v, Slt.v, Med.v, Cmd.v, Itt.v, Job.dflt, sOk] at *
    refine fn_vcI (N := 103) (d := 7) tabOk mixed inlIs_ok 6 Try.func3 rfl rfl rfl ?_
    repeat'
      (conv => whnf
       first
        | (exact trivial)
        | (refine And.intro (by with_reducible rfl) ?_)
        | (refine And.intro (drawI (by kernel_rfl)) ?_)
        | (refine andI ?_ ?_)
        | (refine condT (by assumption) ?_)
        | (refine condF (by assumption) ?_)
        | (refine decT (by assumption) ?_)
        | (refine decF (by assumption) ?_)
        | (refine eqT (by assumption) ?_)
        | (refine eqF (by assumption) ?_)
        | (refine neT (by assumption) ?_)
        | (refine neF (by assumption) ?_)
        | (refine cEq (fun h => ?_) (fun h => ?_))
        | (refine cNe (fun h => ?_) (fun h => ?_))
        | (refine cNot (fun h => ?_) (fun h => ?_))
        | (refine cDec (fun h => ?_) (fun h => ?_))
        | (refine condN_split (fun h => ?_) (fun h => ?_))
        | (refine Exists.intro _ (And.intro (c_alive11) ?_))
        | (refine Exists.intro _ (And.intro (hb ?_) ?_))
        | (refine Exists.intro _ (And.intro eq_sns ?_))
        | (refine Exists.intro _ (And.intro rfl ?_))
        | (refine Or.inl (And.intro (by rfl : Nat.ble _ _ = true) ?_))
        | (refine Or.inl (And.intro Cl.lit ?_))
        | (refine Or.inr ?_)
        | (refine Exists.intro (1 : Nat) ?_)
        | (refine Exists.intro _ (And.intro rfl ?_))
        | (fail))
    all_goals try refine Side.mk ?_
    all_goals try dsimp only
    all_goals try refine eqI ?_
    all_goals first
      | rfl
      | (simp only [List.length_map, len_b] at *; omega)
      | (exfalso; simp only [len_b] at *; omega)
      | (refine bool_close ?_; simp only [len_b, beq_iff_eq, decide_eq_true_eq, iff_true]; omega)
      | (set_option pp.maxSteps 400 in trace_state; sorry)
  · obtain ⟨j1, j2, j3⟩ := hj h0
    generalize (jStart c).1 = j at *
    obtain ⟨jc, len, took, rest, w1, w2, w3⟩ := j
    dsimp only at j1 j2 j3
    subst j2 j3
    obtain ⟨op, pos, n, pg, bits⟩ := jc
    unfold eqC at hce
    dsimp only [Unt.v, Slt.v, Med.v, Cmd.v, Itt.v, Job.v, Sns.v, sOk] at *
    refine fn_vcI (N := 103) (d := 7) tabOk mixed inlIs_ok 6 Try.func3 rfl rfl rfl ?_
    repeat'
      (conv => whnf
       first
        | (exact trivial)
        | (refine And.intro (by with_reducible rfl) ?_)
        | (refine And.intro (drawI (by kernel_rfl)) ?_)
        | (refine andI ?_ ?_)
        | (refine condT (by assumption) ?_)
        | (refine condF (by assumption) ?_)
        | (refine decT (by assumption) ?_)
        | (refine decF (by assumption) ?_)
        | (refine eqT (by assumption) ?_)
        | (refine eqF (by assumption) ?_)
        | (refine neT (by assumption) ?_)
        | (refine neF (by assumption) ?_)
        | (refine cEq (fun h => ?_) (fun h => ?_))
        | (refine cNe (fun h => ?_) (fun h => ?_))
        | (refine cNot (fun h => ?_) (fun h => ?_))
        | (refine cDec (fun h => ?_) (fun h => ?_))
        | (refine condN_split (fun h => ?_) (fun h => ?_))
        | (refine Exists.intro _ (And.intro (c_alive11) ?_))
        | (refine Exists.intro _ (And.intro (hb ?_) ?_))
        | (refine Exists.intro _ (And.intro eq_sns ?_))
        | (refine Exists.intro _ (And.intro eq_cmd ?_))
        | (refine Exists.intro _ (And.intro rfl ?_))
        | (refine Or.inl (And.intro (by rfl : Nat.ble _ _ = true) ?_))
        | (refine Or.inl (And.intro Cl.lit ?_))
        | (refine Or.inr ?_)
        | (refine Exists.intro (1 : Nat) ?_)
        | (refine Exists.intro _ (And.intro rfl ?_))
        | (fail))
    all_goals try refine Side.mk ?_
    all_goals try dsimp only
    all_goals try refine eqI ?_
    all_goals first
      | rfl
      | (simp only [List.length_map, len_b] at *; omega)
      | exact congrArg (fun b => V.lit (Value.bool b)) hce
      | (exfalso; simp only [beq_self_eq_true, Bool.true_and, Bool.and_true, Bool.true_eq_false, decide_true, decide_false, eq_self, not_true_eq_false, ne_eq, gt_iff_lt, j1] at *; done)
      | (exfalso; omega)
      | (set_option pp.maxSteps 400 in trace_state; sorry)
theorem iIn_same {b : BS} {s : Sns} (h : s.good = false → b = []) : (iIn b s).sense = s ∧ (iIn b s).data = b := by
  unfold iIn
  split
  · rename_i q
    exact ⟨((good_iff s).1 q.1).symm, rfl⟩
  · rename_i q
    refine ⟨rfl, ?_⟩
    show [] = b
    cases hg : s.good with
    | false => exact (h hg).symm
    | true =>
      cases b with
      | nil => rfl
      | cons x l => exact absurd ⟨hg, by simp⟩ q
theorem read_bad {s : Slt} {p n : Int} (h : (sRead s p n).2.good = false) : (sRead s p n).1 = [] := by
  unfold sRead at *
  split at h
  · rename_i q; rw [q] at h; cases h
  · rename_i q; rw [if_neg q]
theorem begin_read (u : Unt) (l ls : Int) (op p n b : Int) (h : op = 0x28 ∨ op = 0xa8 ∨ op = 0x88) : iBegin u l ls ⟨op, p, n, 0, b⟩ = (u, iIn (sRead u.slot p n).1 (sRead u.slot p n).2) := by
  have hc : clsN op = 1 := by rcases h with rfl | rfl | rfl <;> rfl
  rw [bgB (c := ⟨op, p, n, 0, b⟩) (by unfold opOther; dsimp only; omega) (by dsimp only; rw [hc]; decide), bk1 hc]
theorem c_intentReads (u : Unt) (p n : Int) (hp : InU p) (hn : 0 ≤ n ∧ n ≤ 255) : FnC Try.prog 5 [u.v, u64 p, .lit (.int .u8 n)] [] (bV true) [] := by
  have hI : InI6 n := by dsimp only [InI6]; omega
  have h1 := fun h => c_ibegin u 0 1 ⟨0x28, p, n, 0, 0⟩ ⟨hp⟩ ⟨hI⟩ h
  have h2 := fun h => c_ibegin u 0 1 ⟨0xa8, p, n, 0, 1⟩ ⟨hp⟩ ⟨hI⟩ h
  have h3 := fun h => c_ibegin u 0 1 ⟨0x88, p, n, 0, 0⟩ ⟨hp⟩ ⟨hI⟩ h
  rw [begin_read u 0 1 _ p n _ (by decide)] at h1
  rw [begin_read u 0 1 _ p n _ (by decide)] at h2
  rw [begin_read u 0 1 _ p n _ (by decide)] at h3
  have hR := c_refSread u.slot p n ⟨hp⟩ ⟨hI⟩
  have hS := fun h1 h2 h3 => c_uSame u u h1 h2 h3
  have hq := iIn_same (b := (sRead u.slot p n).1) (s := (sRead u.slot p n).2) read_bad
  have hw : IntKind.i64.wrap n = n := wrap64 (by omega) (by omega)
  dsimp only at h1 h2 h3
  generalize iIn (sRead u.slot p n).1 (sRead u.slot p n).2 = i at *
  generalize sRead u.slot p n = r at *
  obtain ⟨d, len, dat, ⟨⟨o1, o2, o3, o4, o5⟩, jl, jt, jr, x1, x2, x3⟩, s1, s2, s3⟩ := i
  obtain ⟨rb, w1, w2, w3⟩ := r
  dsimp only at hq
  obtain ⟨q1, q2⟩ := hq
  cases q1
  subst q2
  have he : ((s1 == s1) && ((s2 == s2) && ((s3 == s3) && true))) = true := by simp
  obtain ⟨⟨⟨bs, ds⟩, pr, pt, la⟩, ca, atts, lst⟩ := u
  dsimp only [Unt.v, Slt.v, Med.v, Cmd.v, Itt.v, Job.v, Sns.v] at *
  refine fn_vcI (N := 64) (d := 7) tabOk mixed inlIs_ok 6 Try.func5 rfl rfl rfl ?_
  repeat'
    (conv => whnf
     first
      | (exact trivial)
      | (refine And.intro (by with_reducible rfl) ?_)
      | (refine And.intro (drawI (by kernel_rfl)) ?_)
      | (refine andI ?_ ?_)
      | (refine condT (by assumption) ?_)
      | (refine condF (by assumption) ?_)
      | (refine decT (by assumption) ?_)
      | (refine decF (by assumption) ?_)
      | (refine eqT (by assumption) ?_)
      | (refine eqF (by assumption) ?_)
      | (refine neT (by assumption) ?_)
      | (refine neF (by assumption) ?_)
      | (refine cEq (fun h => ?_) (fun h => ?_))
      | (refine cNe (fun h => ?_) (fun h => ?_))
      | (refine cNot (fun h => ?_) (fun h => ?_))
      | (refine cDec (fun h => ?_) (fun h => ?_))
      | (refine condN_split (fun h => ?_) (fun h => ?_))
      | (refine Exists.intro _ (And.intro (c_alive11) ?_))
      | (refine Exists.intro _ (And.intro (fnC_args hR (by rw [hw])) ?_))
      | (refine Exists.intro _ (And.intro (fnC_args (h1 ?_) (by rw [hw]; rfl)) ?_))
      | (refine Exists.intro _ (And.intro (fnC_args (h2 ?_) (by rw [hw]; rfl)) ?_))
      | (refine Exists.intro _ (And.intro (fnC_args (h3 ?_) (by rw [hw]; rfl)) ?_))
      | (refine Exists.intro _ (And.intro (hS ?_ ?_ ?_) ?_))
      | (refine Exists.intro _ (And.intro (by first | rfl | ((conv => lhs; simp only [nil_b, rp_bls, or_bls, len_bls, snoc_bls, rp_nil, rp_app, rp_b, or_nil, or_app, or_b, len_b, take_b, drop_b, rep_b, app_b, List.length_append, List.length_take, List.length_drop, List.length_nil, List.drop_zero, List.take_length, List.nil_append, List.append_nil, Int.toNat_natCast, toNat_min, take_min, and_true, true_and, and_self]) <;> rfl)) ?_))
      | (refine Exists.intro _ (And.intro eq_sns ?_))
      | (refine Exists.intro _ (And.intro rfl ?_))
      | (refine loop_unr tabOk (ceN_sound tabOk mixed inlIs_ok _) mixed 5 ?_)
      | (refine Or.inl (And.intro (by rfl : Nat.ble _ _ = true) ?_))
      | (refine Or.inl (And.intro Cl.lit ?_))
      | (refine Or.inr ?_)
      | (refine Exists.intro (1 : Nat) ?_)
      | (refine Exists.intro _ (And.intro rfl ?_))
      | (fail))
  all_goals try refine Side.mk ?_
  all_goals try dsimp only
  all_goals try refine eqI ?_
  all_goals first
    | rfl
    | decide
    | (simp only [List.length_map, len_b] at *; omega)
    | (exfalso; simp only [beq_self_eq_true, Bool.true_and, Bool.and_true, Bool.not_true, decide_true, decide_eq_false_iff_not, not_true_eq_false, eq_self, Bool.true_eq_false, Bool.false_eq_true, ne_eq, bne_self_eq_false] at *; done)
    | (exfalso; simp_all; done)
    | (set_option pp.maxSteps 400 in trace_state; sorry)
theorem c_intentKinds (b : BS) (s : Sns) : FnC Try.prog 6 [bsV b, s.v] [] (bV true) [] := by
  have h1 := c_iIn b s
  have h2 := c_refIn11 b s
  have h3 := c_iSame (iIn b s) (iIn b s)
  have h4 := c_iSame (iNone s) (iNone s)
  rw [decide_eq_true rfl] at h3 h4
  generalize iIn b s = i at *
  obtain ⟨x1, x2, x3⟩ := s
  dsimp only [Sns.v, iNone, Itt.v, Job.dflt] at *
  refine fn_vcI (N := 24) (d := 5) tabOk mixed inlId_ok 6 Try.func6 rfl rfl rfl ?_
  repeat'
    (conv => whnf
     first
      | (exact trivial)
      | (refine And.intro (by with_reducible rfl) ?_)
      | (refine And.intro (drawI (by kernel_rfl)) ?_)
      | (refine andI ?_ ?_)
      | (refine condT (by assumption) ?_)
      | (refine condF (by assumption) ?_)
      | (refine decT (by assumption) ?_)
      | (refine decF (by assumption) ?_)
      | (refine eqT (by assumption) ?_)
      | (refine eqF (by assumption) ?_)
      | (refine neT (by assumption) ?_)
      | (refine neF (by assumption) ?_)
      | (refine cEq (fun h => ?_) (fun h => ?_))
      | (refine cNe (fun h => ?_) (fun h => ?_))
      | (refine cNot (fun h => ?_) (fun h => ?_))
      | (refine cDec (fun h => ?_) (fun h => ?_))
      | (refine condN_split (fun h => ?_) (fun h => ?_))
      | (refine Exists.intro _ (And.intro (c_alive11) ?_))
      | (refine Exists.intro _ (And.intro (h1) ?_))
      | (refine Exists.intro _ (And.intro (h2) ?_))
      | (refine Exists.intro _ (And.intro (h3) ?_))
      | (refine Exists.intro _ (And.intro (h4) ?_))
      | (refine Exists.intro _ (And.intro rfl ?_))
      | (refine Or.inl (And.intro (by rfl : Nat.ble _ _ = true) ?_))
      | (refine Or.inl (And.intro Cl.lit ?_))
      | (refine Or.inr ?_)
      | (refine Exists.intro (1 : Nat) ?_)
      | (refine Exists.intro _ (And.intro rfl ?_))
      | (fail))
  all_goals try refine Side.mk ?_
  all_goals try dsimp only
  all_goals try refine eqI ?_
  all_goals first
    | rfl
    | (set_option pp.maxSteps 400 in trace_state; sorry)
end Go.Proofs.Ytijinkikmglpcaa
