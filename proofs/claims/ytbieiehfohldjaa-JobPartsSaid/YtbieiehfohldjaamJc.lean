/-
  Jobs (layer 10): bytes taken: what is computed.
-/
import Derived.Test.YtbieiehfohldjaamJb
namespace Go.Proofs.Ytbieiehfohldjaa
open Go
set_option linter.unusedVariables false
set_option linter.unusedSimpArgs false
set_option maxRecDepth 100000
set_option maxHeartbeats 8000000

def jBk (u : Unt) (c : Cmd) (bad : Sns) (p : Int) (x : Blk) : Unt × Sns := ((jBlk u ⟨c, 0, 0, [], bad⟩ p x).1, (jBlk u ⟨c, 0, 0, [], bad⟩ p x).2.bad)
theorem jBlk_eq (u : Unt) (j : Job) (p : Int) (x : Blk) : jBlk u j p x = ((jBk u j.cmd j.bad p x).1, ⟨j.cmd, j.len, j.took, j.rest, (jBk u j.cmd j.bad p x).2⟩) := by
  unfold jBk jBlk
  dsimp only
  split
  · rfl
  · split <;> rfl
def jSt (u : Unt) (c : Cmd) (bad : Sns) (i0 : Int) (rest : BS) : Nat → Unt × Sns
  | 0 => (u, bad)
  | k + 1 => jBk (jSt u c bad i0 rest k).1 c (jSt u c bad i0 rest k).2 (jPos c (i0 + k)) (Blk.of (rest.drop (64 * k)))
def jRest (j : Job) (b : BS) : BS := j.rest ++ b.take (j.len - j.took).toNat
def jTook (j : Job) (b : BS) : Int := j.took + min (b.length : Int) (j.len - j.took)
def jTake (u : Unt) (j : Job) (b : BS) : Unt × Job :=
  if jRight j = false then (u, j)
  else if jSel j.cmd.op = true then (u, ⟨j.cmd, j.len, jTook j b, jRest j b, j.bad⟩)
  else ((jSt u j.cmd j.bad (j.took / 64) (jRest j b) ((jRest j b).length / 64)).1, ⟨j.cmd, j.len, jTook j b, (jRest j b).drop (64 * ((jRest j b).length / 64)), (jSt u j.cmd j.bad (j.took / 64) (jRest j b) ((jRest j b).length / 64)).2⟩)
theorem of_take (b : BS) : Blk.of (b.take 64) = Blk.of b := by
  unfold Blk.of
  congr 1
  funext i
  rw [List.getElem?_take, if_pos i.isLt]
theorem bs_take {b : BS} (h : 64 ≤ b.length) : (Blk.of b).bs = b.take 64 := by rw [← of_take, Blk.bs_of (by rw [List.length_take]; omega)]
theorem blk_ptr (b : BS) {l : List (List V)} (e : l = byteRows b) (h : Side (64 ≤ b.length)) : (Blk.of b).row.length = 64 ∧ ∀ (j : Nat) (v : V), (Blk.of b).row[j]? = some v → l[j]? = some [v] := by
  have h := h.h
  subst e
  refine ⟨rfl, fun j v hv => ?_⟩
  rw [Blk.row_bs, bs_take h, List.getElem?_map, List.getElem?_take] at hv
  split at hv
  · rw [get_b]
    obtain ⟨c, hc, rfl⟩ := Option.map_eq_some_iff.1 hv
    rw [hc]
    rfl
  · cases hv
theorem right_facts {j : Job} (h : jRight j = true) : 0 ≤ j.took ∧ j.took ≤ j.len ∧ j.len ≤ 274877906944 ∧ (j.rest.length : Int) ≤ j.took ∧ (jSel j.cmd.op = false → (j.rest.length : Int) = j.took % 64) ∧ (jSel j.cmd.op = true → (j.rest.length : Int) = j.took) := by
  unfold jRight at h
  simp only [Bool.and_eq_true, decide_eq_true_eq] at h
  obtain ⟨h1, ⟨h2, h3, h4⟩, h5⟩ := h
  have hlen : (jStart j.cmd).1.len ≤ 274877906944 := by
    unfold jStart
    split
    · exact (by decide : (0 : Int) ≤ 274877906944)
    · rename_i hq
      have : jSize j.cmd = 1 ∨ jSize j.cmd = 64 := by
        unfold jSize at *
        (repeat' split) <;> simp_all
      dsimp only
      rcases this with e | e <;> rw [e] <;> omega
  refine ⟨h3, h4, by omega, ?_, fun q => ?_, fun q => ?_⟩
  · split at h5 <;> omega
  · rw [q] at h5; simpa using h5
  · rw [q] at h5; simpa using h5
theorem c_join (a b : BS) (ha : Side (a.length ≤ 2 ^ 41)) (hb : Side (b.length ≤ 2 ^ 41)) : FnC Try.prog 20 [bsV a, bsV b] [] (bsV (a ++ b)) [] := by
  have ha := ha.h
  have hb := hb.h
  refine fn_vcI (N := 10) (d := 4) tabOk mixed inlJa_ok 6 Try.func20 rfl rfl rfl ?_
  repeat'
    (conv => whnf
     first
      | (exact trivial)
      | (refine And.intro (by with_reducible rfl) ?_)
      | (refine And.intro (drawI (by kernel_rfl)) ?_)
      | (refine andI ?_ ?_)
      | (refine condT (by assumption) ?_)
      | (refine condF (by assumption) ?_)
      | (refine decT (by assumption) ?_)
      | (refine decF (by assumption) ?_)
      | (refine eqT (by assumption) ?_)
      | (refine eqF (by assumption) ?_)
      | (refine neT (by assumption) ?_)
      | (refine neF (by assumption) ?_)
      | (refine cEq (fun h => ?_) (fun h => ?_))
      | (refine cNe (fun h => ?_) (fun h => ?_))
      | (refine cNot (fun h => ?_) (fun h => ?_))
      | (refine cDec (fun h => ?_) (fun h => ?_))
      | (refine condN_split (fun h => ?_) (fun h => ?_))
      | (refine Exists.intro _ (And.intro rfl ?_))
      | (refine Or.inl (And.intro (by rfl : Nat.ble _ _ = true) ?_))
      | (refine Or.inl (And.intro Cl.lit ?_))
      | (refine Or.inr ?_)
      | (refine Exists.intro (1 : Nat) ?_)
      | (refine Exists.intro _ (And.intro rfl ?_))
      | (fail))
  all_goals try refine Side.mk ?_
  all_goals try dsimp only at *
  all_goals try refine eqI ?_
  all_goals try simp only [List.nil_append, List.drop_zero, Nat.zero_add, app_b, len_b, List.length_append]
  all_goals first
    | rfl
    | omega
    | exact List.length_nil.symm
    | (rw [or_b]; trivial)
    | (rw [rp_b]; trivial)
    | (rw [List.take_of_length_le (by rw [len_b, List.length_append]; exact Nat.le_refl _)])
    | exact Nat.le_refl _
theorem c_bytesEq (a b : BS) : FnC Try.prog 47 [bsV a, bsV b] [] (bV (decide (a = b))) [] := by
  refine fn_vcI (N := 10) (d := 4) tabOk mixed inlJa_ok 6 Try.func47 rfl rfl rfl ?_
  repeat'
    (conv => whnf
     first
      | (exact trivial)
      | (refine And.intro (by with_reducible rfl) ?_)
      | (refine And.intro (drawI (by kernel_rfl)) ?_)
      | (refine andI ?_ ?_)
      | (refine condT (by assumption) ?_)
      | (refine condF (by assumption) ?_)
      | (refine decT (by assumption) ?_)
      | (refine decF (by assumption) ?_)
      | (refine eqT (by assumption) ?_)
      | (refine eqF (by assumption) ?_)
      | (refine neT (by assumption) ?_)
      | (refine neF (by assumption) ?_)
      | (refine cEq (fun h => ?_) (fun h => ?_))
      | (refine cNe (fun h => ?_) (fun h => ?_))
      | (refine cNot (fun h => ?_) (fun h => ?_))
      | (refine cDec (fun h => ?_) (fun h => ?_))
      | (refine condN_split (fun h => ?_) (fun h => ?_))
      | (refine Exists.intro _ (And.intro (by first | rfl | ((conv => lhs; simp only [nil_b, rp_bls, or_bls, len_bls, snoc_bls, rp_nil, rp_app, rp_b, or_nil, or_app, or_b, len_b, take_b, drop_b, rep_b, app_b, List.length_append, List.length_take, List.length_drop, List.length_nil, List.drop_zero, List.take_length, List.nil_append, List.append_nil, Int.toNat_natCast, toNat_min, take_min, and_true, true_and, and_self]) <;> rfl)) ?_))
      | (refine Exists.intro _ (And.intro rfl ?_))
      | (refine Or.inl (And.intro (by rfl : Nat.ble _ _ = true) ?_))
      | (refine Or.inl (And.intro Cl.lit ?_))
      | (refine Or.inr ?_)
      | (refine Exists.intro (1 : Nat) ?_)
      | (refine Exists.intro _ (And.intro rfl ?_))
      | (fail))
  all_goals try refine Side.mk ?_
  all_goals try dsimp only at *
  all_goals try refine eqI ?_
  all_goals (refine bool_close ?_; rw [eq_str]; simp)
theorem c_refTake (u : Unt) (j : Job) (b : BS) (hb : Side (b.length ≤ 2 ^ 40)) (hp : Side (InU j.cmd.pos)) : FnC Try.prog 11 [u.v, j.v, bsV b] [] (.tup [(jTake u j b).1.v, (jTake u j b).2.v]) [] := by
  have hb := hb.h
  have hR := c_refJright j
  have t0 : jRight j = false → jTake u j b = (u, j) := fun h => by unfold jTake; rw [if_pos h]
  have t1 : jRight j = true → jSel j.cmd.op = true → jTake u j b = (u, ⟨j.cmd, j.len, jTook j b, jRest j b, j.bad⟩) := fun h h2 => by unfold jTake; rw [if_neg (by rw [h]; decide), if_pos h2]
  have t2 : jRight j = true → jSel j.cmd.op = false → jTake u j b = ((jSt u j.cmd j.bad (j.took / 64) (jRest j b) ((jRest j b).length / 64)).1, ⟨j.cmd, j.len, jTook j b, (jRest j b).drop (64 * ((jRest j b).length / 64)), (jSt u j.cmd j.bad (j.took / 64) (jRest j b) ((jRest j b).length / 64)).2⟩) := fun h h2 => by unfold jTake; rw [if_neg (by rw [h]; decide), if_neg (by rw [h2]; decide)]
  have rf := right_facts (j := j)
  generalize jTake u j b = res at *
  cases hr : jRight j
  · rw [hr] at hR
    rw [t0 hr]
    obtain ⟨⟨⟨bs, ds⟩, pr, pt, la⟩, ca, atts, ls⟩ := u
    obtain ⟨⟨op, pos, n, pg, bits⟩, len, took, rest, b1, b2, b3⟩ := j
    dsimp only [Unt.v, Slt.v, Med.v, Job.v, Cmd.v, Sns.v] at *
    refine fn_vcI (N := 89) (d := 7) tabOk mixed inlJa_ok 6 Try.func11 rfl rfl rfl ?_
    repeat'
      (conv => whnf
       first
        | (exact trivial)
        | (refine And.intro (by with_reducible rfl) ?_)
        | (refine And.intro (drawI (by kernel_rfl)) ?_)
        | (refine andI ?_ ?_)
        | (refine condT (by assumption) ?_)
        | (refine condF (by assumption) ?_)
        | (refine decT (by assumption) ?_)
        | (refine decF (by assumption) ?_)
        | (refine eqT (by assumption) ?_)
        | (refine eqF (by assumption) ?_)
        | (refine neT (by assumption) ?_)
        | (refine neF (by assumption) ?_)
        | (refine cEq (fun h => ?_) (fun h => ?_))
        | (refine cNe (fun h => ?_) (fun h => ?_))
        | (refine cNot (fun h => ?_) (fun h => ?_))
        | (refine cDec (fun h => ?_) (fun h => ?_))
        | (refine condN_split (fun h => ?_) (fun h => ?_))
        | (refine Exists.intro _ (And.intro (hR) ?_))
        | (refine Exists.intro _ (And.intro rfl ?_))
        | (refine Or.inl (And.intro (by rfl : Nat.ble _ _ = true) ?_))
        | (refine Or.inl (And.intro Cl.lit ?_))
        | (refine Or.inr ?_)
        | (refine Exists.intro (1 : Nat) ?_)
        | (refine Exists.intro _ (And.intro rfl ?_))
        | (fail))
    all_goals try refine Side.mk ?_
    all_goals try dsimp only
    all_goals try refine eqI ?_
    all_goals rfl
  rw [hr] at hR
  have t1 := t1 hr
  have t2 := t2 hr
  obtain ⟨r1, r2, r3, r4, r5, r6⟩ := rf hr
  clear t0 rf
  obtain ⟨rs, hrs⟩ : ∃ rs, rs = jRest j b := ⟨_, rfl⟩
  rw [← hrs] at t1 t2
  unfold jRest at hrs
  unfold jTook at t1 t2
  obtain ⟨⟨⟨bs, ds⟩, pr, pt, la⟩, ca, atts, ls⟩ := u
  obtain ⟨⟨op, pos, n, pg, bits⟩, len, took, rest, b1, b2, b3⟩ := j
  dsimp only [Unt.v, Slt.v, Med.v, Job.v, Cmd.v, Sns.v] at *
  refine fn_vcI (N := 89) (d := 7) tabOk mixed inlJa_ok 6 Try.func11 rfl rfl rfl ?_
  have hJ : ∀ a c, Side (a ++ c = rs ∧ a.length ≤ 2 ^ 41 ∧ c.length ≤ 2 ^ 41) → FnC Try.prog 20 [bsV a, bsV c] [] (bsV rs) [] := fun a c h => by
    rw [← h.h.1]; exact c_join a c ⟨h.h.2.1⟩ ⟨h.h.2.2⟩
  have hJ0 : ∀ c : BS, Side (c.length ≤ 2 ^ 41) → FnC Try.prog 20 [.sl 1 [], bsV c] [] (bsV c) [] := fun c h => by
    have := c_join [] c ⟨Nat.zero_le _⟩ h
    exact this
  have hrl : rs.length ≤ 274877906944 := by rw [hrs, List.length_append, List.length_take]; omega
  have hn1 : ∀ z : Int, z = len - took → z < b.length → rest ++ b.take z.toNat = rs := fun z h _ => by rw [hrs, h]
  have hn2 : ¬ ((b.length : Int) > len - took) → rest ++ b = rs := fun h => by rw [hrs, List.take_of_length_le (by omega)]
  have wt : IntKind.i64.wrap (len - took) = len - took := wrap64 (by omega) (by omega)
  have wd : IntKind.i64.wrap (took.tdiv 64) = took / 64 := by rw [Int.tdiv_eq_ediv_of_nonneg r1]; exact wrap64 (by omega) (by omega)
  repeat'
    (conv => whnf
     first
      | (exact trivial)
      | (refine And.intro (by with_reducible rfl) ?_)
      | (refine And.intro (drawI (by kernel_rfl)) ?_)
      | (refine andI ?_ ?_)
      | (refine condT (by assumption) ?_)
      | (refine condF (by assumption) ?_)
      | (refine decT (by assumption) ?_)
      | (refine decF (by assumption) ?_)
      | (refine eqT (by assumption) ?_)
      | (refine eqF (by assumption) ?_)
      | (refine neT (by assumption) ?_)
      | (refine neF (by assumption) ?_)
      | (refine cEq (fun h => ?_) (fun h => ?_))
      | (refine cNe (fun h => ?_) (fun h => ?_))
      | (refine cNot (fun h => ?_) (fun h => ?_))
      | (refine cDec (fun h => ?_) (fun h => ?_))
      | (refine condN_split (fun h => ?_) (fun h => ?_))
      | (refine Exists.intro _ (And.intro (hR) ?_))
      | (refine Exists.intro _ (And.intro (fnC_args (hJ _ _ ?_) (by first | rfl | ((conv => lhs; simp only [rp_bls, or_bls, len_bls, snoc_bls, rp_nil, rp_app, rp_b, or_nil, or_app, or_b, len_b, take_b, drop_b, rep_b, app_b, List.length_append, List.length_take, List.length_drop, List.length_nil, List.drop_zero, List.take_length, List.nil_append, List.append_nil, Int.toNat_natCast, toNat_min, take_min, and_true, true_and, and_self]) <;> rfl) | ((conv => lhs; simp only [rp_bls, or_bls, len_bls, snoc_bls, rp_nil, rp_app, rp_b, or_nil, or_app, or_b, len_b, take_b, drop_b, rep_b, app_b, List.length_append, List.length_take, List.length_drop, List.length_nil, List.drop_zero, List.take_length, List.nil_append, List.append_nil, Int.toNat_natCast, toNat_min, take_min, and_true, true_and, and_self, sl1_nil]) <;> rfl))) ?_))
      | (refine Exists.intro _ (And.intro rfl ?_))
      | (refine Or.inl (And.intro (by rfl : Nat.ble _ _ = true) ?_))
      | (refine Or.inl (And.intro Cl.lit ?_))
      | (refine Or.inr ?_)
      | (refine Exists.intro (1 : Nat) ?_)
      | (refine Exists.intro _ (And.intro rfl ?_))
      | (fail))
  all_goals try refine Side.mk ?_
  all_goals try dsimp only
  all_goals try refine eqI ?_
  all_goals try simp only [wt, len_b, Int.toNat_natCast] at *
  all_goals first
    | omega
    | (refine ⟨?_, by omega, by first | omega | (rw [List.length_take]; omega)⟩
       first
         | (exact hn1 _ rfl (by omega))
         | (exact hn2 (by omega))
         | (rw [List.take_of_length_le (Nat.le_refl _)]; exact hn2 (by omega)))
    | (rw [t1 (by unfold jSel; simp [*])]
       rw [wrap64 (by omega) (by omega)]
       first
         | (rw [Int.min_eq_left (by omega)]; done)
         | (rw [Int.min_eq_right (by omega)]; done))
    | skip
  all_goals have t2 := t2 (by unfold jSel; simp [*])
  all_goals
    conv => whnf
    refine loop_w tabOk (ceN_sound tabOk mixed inlJa_ok 6) mixed 61 (X := Nat) 0 (fun k => [(11, i64 ((64 * k : Nat) : Int)), (9, i64 (took / 64 + (k : Int)))]) (fun k => [(0, false, ⟨10, [(jSt (Unt.mk ⟨⟨bs, ds⟩, pr, pt, la⟩ ca atts ls) (Cmd.mk op pos n pg bits) ⟨b1, b2, b3⟩ (took / 64) rs k).1.row], false⟩), (1, false, ⟨11, [Job.row ⟨(Cmd.mk op pos n pg bits), len, took + min (b.length : Int) (len - took), rest, (jSt (Unt.mk ⟨⟨bs, ds⟩, pr, pt, la⟩ ca atts ls) (Cmd.mk op pos n pg bits) ⟨b1, b2, b3⟩ (took / 64) rs k).2⟩], false⟩), (2, false, ⟨10, [[.sls 64 [] false true, .sls 65 [] false true, bV false, bV false, bV false, bV false, .sls 3 [] false true, i64 0, i64 0, i64 0]], false⟩), (3, false, ⟨11, [[i64 0, u64 0, i64 0, i64 0, i64 0, i64 0, i64 0, .sls 1 [] false true, i64 0, i64 0, i64 0]], false⟩)]) 4 (fun k => 64 * k ≤ rs.length) (fun k => rs.length - 64 * k) (Nat.zero_le _) ?_ ?_
    · repeat'
        (conv => whnf
         first
          | (exact trivial)
          | (refine And.intro (by with_reducible rfl) ?_)
          | (refine And.intro (drawI (by kernel_rfl)) ?_)
          | (refine andI ?_ ?_)
          | (refine condT (by assumption) ?_)
          | (refine condF (by assumption) ?_)
          | (refine decT (by assumption) ?_)
          | (refine decF (by assumption) ?_)
          | (refine eqT (by assumption) ?_)
          | (refine eqF (by assumption) ?_)
          | (refine neT (by assumption) ?_)
          | (refine neF (by assumption) ?_)
          | (refine cEq (fun h => ?_) (fun h => ?_))
          | (refine cNe (fun h => ?_) (fun h => ?_))
          | (refine cNot (fun h => ?_) (fun h => ?_))
          | (refine cDec (fun h => ?_) (fun h => ?_))
          | (refine condN_split (fun h => ?_) (fun h => ?_))
          | (refine Or.inl (And.intro (by rfl : Nat.ble _ _ = true) ?_))
          | (refine Or.inl (And.intro Cl.lit ?_))
          | (refine Or.inr ?_)
          | (refine Exists.intro (1 : Nat) ?_)
          | (refine Exists.intro _ (And.intro rfl ?_))
          | (fail))
      all_goals try refine Side.mk ?_
      all_goals try dsimp only at *
      all_goals try refine eqI ?_
      all_goals first
        | rfl
        | (refine congrArg (Value.int IntKind.i64) ?_
           first
             | (rw [wd]; omega)
             | (rw [wrap64 (by omega) (by omega)]; omega))
    · rintro k hk
      have hk1 : jSt (Unt.mk ⟨⟨bs, ds⟩, pr, pt, la⟩ ca atts ls) (Cmd.mk op pos n pg bits) ⟨b1, b2, b3⟩ (took / 64) rs (k + 1) = jBk (jSt (Unt.mk ⟨⟨bs, ds⟩, pr, pt, la⟩ ca atts ls) (Cmd.mk op pos n pg bits) ⟨b1, b2, b3⟩ (took / 64) rs k).1 (Cmd.mk op pos n pg bits) (jSt (Unt.mk ⟨⟨bs, ds⟩, pr, pt, la⟩ ca atts ls) (Cmd.mk op pos n pg bits) ⟨b1, b2, b3⟩ (took / 64) rs k).2 (jPos (Cmd.mk op pos n pg bits) (took / 64 + k)) (Blk.of (rs.drop (64 * k))) := rfl
      generalize hk0 : jSt (Unt.mk ⟨⟨bs, ds⟩, pr, pt, la⟩ ca atts ls) (Cmd.mk op pos n pg bits) ⟨b1, b2, b3⟩ (took / 64) rs k = st at *
      have hB := c_refJblock st.1 ⟨(Cmd.mk op pos n pg bits), len, took + min (b.length : Int) (len - took), rest, st.2⟩ (took / 64 + k) (Blk.of (rs.drop (64 * k))) ⟨by omega⟩ hp
      rw [jBlk_eq] at hB
      dsimp only at hB
      rw [← hk1] at hB
      generalize hk2 : jSt (Unt.mk ⟨⟨bs, ds⟩, pr, pt, la⟩ ca atts ls) (Cmd.mk op pos n pg bits) ⟨b1, b2, b3⟩ (took / 64) rs (k + 1) = s1 at *
      obtain ⟨⟨⟨⟨bs1, ds1⟩, pr1, pt1, la1⟩, ca1, at1, ls1⟩, c1, c2, c3⟩ := st
      obtain ⟨⟨⟨⟨bs2, ds2⟩, pr2, pt2, la2⟩, ca2, at2, ls2⟩, d1, d2, d3⟩ := s1
      dsimp only [Unt.v, Slt.v, Med.v, Job.v, Cmd.v, Sns.v] at *
      clear hk1
      by_cases hkl : 64 * k + 64 ≤ rs.length
      · have hO := c_refOf rs (64 * k) ⟨hkl, by omega⟩
        repeat'
          (conv => whnf
           first
            | (exact trivial)
            | (refine And.intro (by with_reducible rfl) ?_)
            | (refine And.intro (drawI (by kernel_rfl)) ?_)
            | (refine andI ?_ ?_)
            | (refine condT (by assumption) ?_)
            | (refine condF (by assumption) ?_)
            | (refine decT (by assumption) ?_)
            | (refine decF (by assumption) ?_)
            | (refine eqT (by assumption) ?_)
            | (refine eqF (by assumption) ?_)
            | (refine neT (by assumption) ?_)
            | (refine neF (by assumption) ?_)
            | (refine cEq (fun h => ?_) (fun h => ?_))
            | (refine cNe (fun h => ?_) (fun h => ?_))
            | (refine cNot (fun h => ?_) (fun h => ?_))
            | (refine cDec (fun h => ?_) (fun h => ?_))
            | (refine condN_split (fun h => ?_) (fun h => ?_))
            | (refine Exists.intro _ (And.intro (hO) ?_))
            | (refine Exists.intro _ (And.intro (hB) ?_))
            | (refine Exists.intro (k + 1) (andI ?_ (andI ?_ ?_)))
            | (refine Exists.intro _ (And.intro (fnC_args (hJ0 _ ?_) (by first | rfl | ((conv => lhs; simp only [rp_bls, or_bls, len_bls, snoc_bls, rp_nil, rp_app, rp_b, or_nil, or_app, or_b, len_b, take_b, drop_b, rep_b, app_b, List.length_append, List.length_take, List.length_drop, List.length_nil, List.drop_zero, List.take_length, List.nil_append, List.append_nil, Int.toNat_natCast, toNat_min, take_min, and_true, true_and, and_self]) <;> rfl) | ((conv => lhs; simp only [rp_bls, or_bls, len_bls, snoc_bls, rp_nil, rp_app, rp_b, or_nil, or_app, or_b, len_b, take_b, drop_b, rep_b, app_b, List.length_append, List.length_take, List.length_drop, List.length_nil, List.drop_zero, List.take_length, List.nil_append, List.append_nil, Int.toNat_natCast, toNat_min, take_min, and_true, true_and, and_self, sl1_nil]) <;> rfl))) ?_))
            | (refine Exists.intro _ (And.intro rfl ?_))
            | (refine Or.inl (And.intro (by rfl : Nat.ble _ _ = true) ?_))
            | (refine Or.inl (And.intro Cl.lit ?_))
            | (refine Or.inr ?_)
            | (refine Exists.intro (1 : Nat) ?_)
            | (refine Exists.intro _ (And.intro rfl ?_))
            | (fail))
        all_goals try refine Side.mk ?_
        all_goals try dsimp only
        all_goals try refine eqI ?_
        all_goals try rw [len_b] at h
        all_goals first
          | (rw [hk2]; done)
          | (refine congrArg (Value.int IntKind.i64) ?_; rw [wrap64 (by omega) (by omega)]; omega)
          | omega
          | (exfalso; rw [wrap64 (by omega) (by omega)] at h; omega)
      · have hk3 : rs.length / 64 = k := by omega
        rw [hk3, hk0] at t2
        repeat'
          (conv => whnf
           first
            | (exact trivial)
            | (refine And.intro (by with_reducible rfl) ?_)
            | (refine And.intro (drawI (by kernel_rfl)) ?_)
            | (refine andI ?_ ?_)
            | (refine condT (by assumption) ?_)
            | (refine condF (by assumption) ?_)
            | (refine decT (by assumption) ?_)
            | (refine decF (by assumption) ?_)
            | (refine eqT (by assumption) ?_)
            | (refine eqF (by assumption) ?_)
            | (refine neT (by assumption) ?_)
            | (refine neF (by assumption) ?_)
            | (refine cEq (fun h => ?_) (fun h => ?_))
            | (refine cNe (fun h => ?_) (fun h => ?_))
            | (refine cNot (fun h => ?_) (fun h => ?_))
            | (refine cDec (fun h => ?_) (fun h => ?_))
            | (refine condN_split (fun h => ?_) (fun h => ?_))
            | (refine Exists.intro _ (And.intro (fnC_args (hJ0 _ ?_) (by first | rfl | ((conv => lhs; simp only [rp_bls, or_bls, len_bls, snoc_bls, rp_nil, rp_app, rp_b, or_nil, or_app, or_b, len_b, take_b, drop_b, rep_b, app_b, List.length_append, List.length_take, List.length_drop, List.length_nil, List.drop_zero, List.take_length, List.nil_append, List.append_nil, Int.toNat_natCast, toNat_min, take_min, and_true, true_and, and_self]) <;> rfl) | ((conv => lhs; simp only [rp_bls, or_bls, len_bls, snoc_bls, rp_nil, rp_app, rp_b, or_nil, or_app, or_b, len_b, take_b, drop_b, rep_b, app_b, List.length_append, List.length_take, List.length_drop, List.length_nil, List.drop_zero, List.take_length, List.nil_append, List.append_nil, Int.toNat_natCast, toNat_min, take_min, and_true, true_and, and_self, sl1_nil]) <;> rfl))) ?_))
            | (refine Exists.intro _ (And.intro rfl ?_))
            | (refine Or.inl (And.intro (by rfl : Nat.ble _ _ = true) ?_))
            | (refine Or.inl (And.intro Cl.lit ?_))
            | (refine Or.inr ?_)
            | (refine Exists.intro (1 : Nat) ?_)
            | (refine Exists.intro _ (And.intro rfl ?_))
            | (fail))
        all_goals try refine Side.mk ?_
        all_goals try dsimp only
        all_goals try refine eqI ?_
        all_goals try rw [len_b] at h
        all_goals try simp only [len_b, drop_b, List.length_drop]
        all_goals first
          | (rw [t2]; done)
          | omega
          | (exfalso; rw [wrap64 (by omega) (by omega)] at h; omega)
          | (rw [t2, Int.toNat_natCast, List.take_of_length_le (by rw [List.length_drop]; omega)]; done)
end Go.Proofs.Ytbieiehfohldjaa
