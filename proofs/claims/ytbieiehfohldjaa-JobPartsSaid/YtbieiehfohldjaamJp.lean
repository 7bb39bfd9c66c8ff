/-
  Jobs (layer 10): the laws.
-/
import Derived.Test.YtbieiehfohldjaamJo
import Derived.Test.YtbieiehfohldjaamJd
import Derived.Test.YtbieiehfohldjaamJq
namespace Go.Proofs.Ytbieiehfohldjaa
open Go
set_option linter.unusedVariables false
set_option linter.unusedSimpArgs false
set_option maxRecDepth 100000
set_option maxHeartbeats 8000000
theorem c_alive10 : FnC Try.prog 7 [] [] (bV true) [] := c_alive10_of c_take

theorem c_jobStarts (c : Cmd) : FnC Try.prog 4 [c.v] [] (bV true) [] := by
  have s1 := c_start c
  have s2 := c_refStart c
  have s3 := c_jSame (jStart c).1 (jStart c).1
  generalize jStart c = st at *
  obtain ⟨⟨⟨o1, o2, o3, o4, o5⟩, len, took, rest, b1, b2, b3⟩, ok⟩ := st
  obtain ⟨op, pos, n, pg, bits⟩ := c
  dsimp only [Job.v, Cmd.v, Sns.v] at *
  refine fn_vcI (N := 27) (d := 5) tabOk mixed inlJl_ok 6 Try.func4 rfl rfl rfl ?_
  repeat'
    (conv => whnf
     first
      | (exact trivial)
      | (refine And.intro (by with_reducible rfl) ?_)
      | (refine And.intro (drawI (by kernel_rfl)) ?_)
      | (refine andI ?_ ?_)
      | (refine condT (by assumption) ?_)
      | (refine condF (by assumption) ?_)
      | (refine decT (by assumption) ?_)
      | (refine decF (by assumption) ?_)
      | (refine eqT (by assumption) ?_)
      | (refine eqF (by assumption) ?_)
      | (refine neT (by assumption) ?_)
      | (refine neF (by assumption) ?_)
      | (refine cEq (fun h => ?_) (fun h => ?_))
      | (refine cNe (fun h => ?_) (fun h => ?_))
      | (refine cNot (fun h => ?_) (fun h => ?_))
      | (refine cDec (fun h => ?_) (fun h => ?_))
      | (refine condN_split (fun h => ?_) (fun h => ?_))
      | (refine Exists.intro _ (And.intro (c_alive10) ?_))
      | (refine Exists.intro _ (And.intro (s1) ?_))
      | (refine Exists.intro _ (And.intro (s2) ?_))
      | (refine Exists.intro _ (And.intro (s3) ?_))
      | (refine Exists.intro _ (And.intro rfl ?_))
      | (refine Or.inl (And.intro (by rfl : Nat.ble _ _ = true) ?_))
      | (refine Or.inl (And.intro Cl.lit ?_))
      | (refine Or.inr ?_)
      | (refine Exists.intro (1 : Nat) ?_)
      | (refine Exists.intro _ (And.intro rfl ?_))
      | (fail))
  all_goals try refine Side.mk ?_
  all_goals try dsimp only
  all_goals try refine eqI ?_
  all_goals first
    | rfl
    | exact congrArg (fun b => V.lit (Value.bool b)) (decide_eq_true rfl)
    | exact congrArg (fun b => V.lit (Value.bool b)) (beq_self_eq_true _)
    | (simp only [List.length_map, len_b] at *; omega)
    | (exfalso; simp only [beq_self_eq_true, Bool.true_and, Bool.and_true, decide_true, decide_eq_false_iff_not, not_true_eq_false, eq_self, Bool.true_eq_false, ne_eq] at *; done)
theorem c_jobTakes (u : Unt) (j : Job) (b : BS) (hp : InU j.cmd.pos) : FnC Try.prog 3 [u.v, j.v, bsV b] [] (bV true) [] := by
  have F1 := take_few (u := u) (j := j) (b := b) hp.1
  have F2 := fin_few (u := u) (j := j)
  have hc := fun h1 h2 h3 => c_uCopy u h1 h2 h3
  have ht := fun h1 => c_take u j b h1 ⟨hp⟩
  have hrt := fun h1 => c_refTake u j b h1 ⟨hp⟩
  have hf := fun h1 => c_fin u j h1
  have hrf := fun h1 => c_refFin u j h1
  have hr := c_jRight j
  have hrr := c_refJright j
  have hr2 := c_jRight (jTake u j b).2
  rw [take_right] at hr2
  have e1 := fun h1 h2 h3 => c_uSame (jTake u j b).1 (jTake u j b).1 h1 h2 h3
  have e2 := c_jSame (jTake u j b).2 (jTake u j b).2
  have e3 := fun h1 h2 h3 => c_uSame (jFin u j).1 (jFin u j).1 h1 h2 h3
  have e4 := fun h1 h2 h3 => c_uSame u u h1 h2 h3
  unfold Few at F1 F2
  generalize jTake u j b = t at *
  generalize jFin u j = f at *
  generalize jRight j = g at *
  obtain ⟨⟨⟨⟨bs1, ds1⟩, pr1, pt1, la1⟩, ca1, at1, ls1⟩, ⟨op1, pos1, n1, pg1, bits1⟩, len1, took1, rest1, x1, x2, x3⟩ := t
  obtain ⟨⟨⟨⟨bs2, ds2⟩, pr2, pt2, la2⟩, ca2, at2, ls2⟩, y1, y2, y3⟩ := f
  obtain ⟨⟨⟨bs, ds⟩, pr, pt, la⟩, ca, atts, ls⟩ := u
  obtain ⟨⟨op, pos, n, pg, bits⟩, len, took, rest, b1, b2, b3⟩ := j
  dsimp only [Unt.v, Slt.v, Med.v, Job.v, Cmd.v, Sns.v] at *
  obtain ⟨p1, p2, p3, p4⟩ := F1
  obtain ⟨q1, q2, q3, q4⟩ := F2
  subst p3 q3
  refine fn_vcI (N := 85) (d := 7) tabOk mixed inlJl_ok 6 Try.func3 rfl rfl rfl ?_
  repeat'
    (conv => whnf
     first
      | (exact trivial)
      | (refine And.intro (by with_reducible rfl) ?_)
      | (refine And.intro (drawI (by kernel_rfl)) ?_)
      | (refine andI ?_ ?_)
      | (refine condT (by assumption) ?_)
      | (refine condF (by assumption) ?_)
      | (refine decT (by assumption) ?_)
      | (refine decF (by assumption) ?_)
      | (refine eqT (by assumption) ?_)
      | (refine eqF (by assumption) ?_)
      | (refine neT (by assumption) ?_)
      | (refine neF (by assumption) ?_)
      | (refine cEq (fun h => ?_) (fun h => ?_))
      | (refine cNe (fun h => ?_) (fun h => ?_))
      | (refine cNot (fun h => ?_) (fun h => ?_))
      | (refine cDec (fun h => ?_) (fun h => ?_))
      | (refine condN_split (fun h => ?_) (fun h => ?_))
      | (refine Exists.intro _ (And.intro (c_alive10) ?_))
      | (refine Exists.intro _ (And.intro (hc ?_ ?_ ?_) ?_))
      | (refine Exists.intro _ (And.intro (ht ?_) ?_))
      | (refine Exists.intro _ (And.intro (hrt ?_) ?_))
      | (refine Exists.intro _ (And.intro (hf ?_) ?_))
      | (refine Exists.intro _ (And.intro (hrf ?_) ?_))
      | (refine Exists.intro _ (And.intro (hr) ?_))
      | (refine Exists.intro _ (And.intro (hrr) ?_))
      | (refine Exists.intro _ (And.intro (hr2) ?_))
      | (refine Exists.intro _ (And.intro (e1 ?_ ?_ ?_) ?_))
      | (refine Exists.intro _ (And.intro (e2) ?_))
      | (refine Exists.intro _ (And.intro (e3 ?_ ?_ ?_) ?_))
      | (refine Exists.intro _ (And.intro (e4 ?_ ?_ ?_) ?_))
      | (refine Exists.intro _ (And.intro eq_sns ?_))
      | (refine Exists.intro _ (And.intro rfl ?_))
      | (refine Or.inl (And.intro (by rfl : Nat.ble _ _ = true) ?_))
      | (refine Or.inl (And.intro Cl.lit ?_))
      | (refine Or.inr ?_)
      | (refine Exists.intro (1 : Nat) ?_)
      | (refine Exists.intro _ (And.intro rfl ?_))
      | (fail))
  all_goals try refine Side.mk ?_
  all_goals try dsimp only
  all_goals try refine eqI ?_
  all_goals first
    | rfl
    | exact congrArg (fun b => V.lit (Value.bool b)) (decide_eq_true rfl)
    | exact congrArg (fun b => V.lit (Value.bool b)) (beq_self_eq_true _)
    | (simp only [List.length_map, len_b] at *; omega)
    | (exfalso; simp only [beq_self_eq_true, Bool.true_and, Bool.and_true, decide_true, decide_eq_false_iff_not, not_true_eq_false, eq_self, Bool.true_eq_false, ne_eq] at *; done)
theorem c_jobParts (u : Unt) (c : Cmd) (ps : List BS) (hp : InU c.pos) : FnC Try.prog 5 [u.v, c.v, .sl 1 (blsRows ps)] [] (bV true) [] := by
  have s1 := c_start c
  have sf := start_facts (c := c)
  cases hok : (jStart c).2 with
  | false =>
    rw [hok] at s1
    generalize (jStart c).1 = j at *
    obtain ⟨⟨⟨bs, ds⟩, pr, pt, la⟩, ca, atts, ls⟩ := u
    obtain ⟨⟨op1, pos1, n1, pg1, bits1⟩, len, took, rest, b1, b2, b3⟩ := j
    obtain ⟨op, pos, n, pg, bits⟩ := c
    dsimp only [Unt.v, Slt.v, Med.v, Job.v, Cmd.v, Sns.v] at *
    refine fn_vcI (N := 119) (d := 7) tabOk mixed inlJl_ok 6 Try.func5 rfl rfl rfl ?_
    repeat'
      (conv => whnf
       first
        | (exact trivial)
        | (refine And.intro (by with_reducible rfl) ?_)
        | (refine And.intro (drawI (by kernel_rfl)) ?_)
        | (refine andI ?_ ?_)
        | (refine condT (by assumption) ?_)
        | (refine condF (by assumption) ?_)
        | (refine decT (by assumption) ?_)
        | (refine decF (by assumption) ?_)
        | (refine eqT (by assumption) ?_)
        | (refine eqF (by assumption) ?_)
        | (refine neT (by assumption) ?_)
        | (refine neF (by assumption) ?_)
        | (refine cEq (fun h => ?_) (fun h => ?_))
        | (refine cNe (fun h => ?_) (fun h => ?_))
        | (refine cNot (fun h => ?_) (fun h => ?_))
        | (refine cDec (fun h => ?_) (fun h => ?_))
        | (refine condN_split (fun h => ?_) (fun h => ?_))
        | (refine Exists.intro _ (And.intro (c_alive10) ?_))
        | (refine Exists.intro _ (And.intro (s1) ?_))
        | (refine Exists.intro _ (And.intro rfl ?_))
        | (refine Or.inl (And.intro (by rfl : Nat.ble _ _ = true) ?_))
        | (refine Or.inl (And.intro Cl.lit ?_))
        | (refine Or.inr ?_)
        | (refine Exists.intro (1 : Nat) ?_)
        | (refine Exists.intro _ (And.intro rfl ?_))
        | (fail))
    all_goals try refine Side.mk ?_
    all_goals try dsimp only
    all_goals try refine eqI ?_
    all_goals rfl
  | true =>
    rw [hok] at s1
    obtain ⟨g1, g2, g3, g4, g5, _, _⟩ := sf hok
    clear sf
    generalize (jStart c).1 = j at *
    have hpj : InU j.cmd.pos := by rw [g4]; exact hp
    have hT : ∀ k b, Side (b.length ≤ 2 ^ 40) → FnC Try.prog 10 [(jTake u j (jCat ps k)).1.v, (jTake u j (jCat ps k)).2.v, bsV b] [] (.tup [(jTake u j (jCat ps k ++ b)).1.v, (jTake u j (jCat ps k ++ b)).2.v]) [] := fun k b hb => by
      rw [← take_app]
      exact c_take _ _ _ hb ⟨by rw [take_cmd]; exact hpj⟩
    have h0 : jTake u j (jCat ps 0) = (u, j) := take_nil g1 g2 g3
    have hE := fun x h => c_fin (jTake u j x).1 (jTake u j x).2 h
    have hr : ∀ x, (jTake u j x).2.rest.length ≤ x.length := fun x => by
      have := take_rest (u := u) (j := j) (b := x)
      rw [g2] at this
      simpa using this
    have hw : ∀ x, Few u (jTake u j x).1 := fun x => take_few hpj.1
    have hk : ∀ x, (jTake u j x).2.took = min (x.length : Int) j.len ∧ (jTake u j x).2.len = j.len := fun x => by
      rw [take_took g1, take_len]
      unfold jTook
      rw [g3]
      omega
    have hTu := fun x h => c_take u j x h ⟨hpj⟩
    have hfew := fun x => fin_few (u := (jTake u j x).1) (j := (jTake u j x).2)
    generalize hF : (fun b => jTake u j b) = F at *
    have hF2 : ∀ b, jTake u j b = F b := fun b => by rw [← hF]
    simp only [hF2] at *
    clear hF hF2
    have c1 : jCat ps ps.length = jCat ps ps.length := rfl
    obtain ⟨⟨⟨bs, ds⟩, pr, pt, la⟩, ca, atts, ls⟩ := u
    obtain ⟨⟨op1, pos1, n1, pg1, bits1⟩, len, took, rest, b1, b2, b3⟩ := j
    obtain ⟨op, pos, n, pg, bits⟩ := c
    dsimp only [Unt.v, Slt.v, Med.v, Job.v, Cmd.v, Sns.v, Few] at *
    refine fn_vcI (N := 119) (d := 7) tabOk mixed inlJl_ok 6 Try.func5 rfl rfl rfl ?_
    repeat'
      (conv => whnf
       first
        | (exact trivial)
        | (refine And.intro (by with_reducible rfl) ?_)
        | (refine And.intro (drawI (by kernel_rfl)) ?_)
        | (refine andI ?_ ?_)
        | (refine condT (by assumption) ?_)
        | (refine condF (by assumption) ?_)
        | (refine decT (by assumption) ?_)
        | (refine decF (by assumption) ?_)
        | (refine eqT (by assumption) ?_)
        | (refine eqF (by assumption) ?_)
        | (refine neT (by assumption) ?_)
        | (refine neF (by assumption) ?_)
        | (refine cEq (fun h => ?_) (fun h => ?_))
        | (refine cNe (fun h => ?_) (fun h => ?_))
        | (refine cNot (fun h => ?_) (fun h => ?_))
        | (refine cDec (fun h => ?_) (fun h => ?_))
        | (refine condN_split (fun h => ?_) (fun h => ?_))
        | (refine Exists.intro _ (And.intro (c_alive10) ?_))
        | (refine Exists.intro _ (And.intro (s1) ?_))
        | (refine Exists.intro _ (And.intro rfl ?_))
        | (refine Or.inl (And.intro (by rfl : Nat.ble _ _ = true) ?_))
        | (refine Or.inl (And.intro Cl.lit ?_))
        | (refine Or.inr ?_)
        | (refine Exists.intro (1 : Nat) ?_)
        | (refine Exists.intro _ (And.intro rfl ?_))
        | (fail))
    all_goals try refine Side.mk ?_
    all_goals try dsimp only
    all_goals try refine eqI ?_
    all_goals try simp only [len_bls, List.length_map, len_b] at *
    all_goals first
      | rfl
      | skip
    conv => whnf
    refine loop_w tabOk (ceN_sound tabOk mixed inlJl_ok 6) mixed 42 (X := Nat) 0 (fun k => [(12, i64 (k : Nat)), (9, bsV (jCat ps k))]) (fun k => [(7, false, ⟨11, [(F (jCat ps k)).2.row], false⟩), (6, false, ⟨10, [(F (jCat ps k)).1.row], false⟩), (2, false, ⟨11, [[i64 op1, u64 pos1, i64 n1, i64 pg1, i64 bits1, i64 len, i64 took, bsV rest, i64 b1, i64 b2, i64 b3]], false⟩), (1, false, ⟨5, [[i64 op, u64 pos, i64 n, i64 pg, i64 bits]], false⟩), (0, false, ⟨10, [[.sl 64 (bs.map Blk.row), .sl 65 (ds.map Dty.row), bV pr, bV pt, bV la, bV ca, .sl 3 (atts.map Sns.row), i64 ls.key, i64 ls.code, i64 ls.qual]], false⟩)]) 8 (fun k => k ≤ ps.length ∧ (jCat ps k).length ≤ 500 * k) (fun k => ps.length - k) ⟨Nat.zero_le _, Nat.zero_le _⟩ ?_ ?_
    · repeat'
        (conv => whnf
         first
          | (exact trivial)
          | (refine And.intro (by with_reducible rfl) ?_)
          | (refine And.intro (drawI (by kernel_rfl)) ?_)
          | (refine andI ?_ ?_)
          | (refine condT (by assumption) ?_)
          | (refine condF (by assumption) ?_)
          | (refine decT (by assumption) ?_)
          | (refine decF (by assumption) ?_)
          | (refine eqT (by assumption) ?_)
          | (refine eqF (by assumption) ?_)
          | (refine neT (by assumption) ?_)
          | (refine neF (by assumption) ?_)
          | (refine cEq (fun h => ?_) (fun h => ?_))
          | (refine cNe (fun h => ?_) (fun h => ?_))
          | (refine cNot (fun h => ?_) (fun h => ?_))
          | (refine cDec (fun h => ?_) (fun h => ?_))
          | (refine condN_split (fun h => ?_) (fun h => ?_))
          | (refine Or.inl (And.intro (by rfl : Nat.ble _ _ = true) ?_))
          | (refine Or.inl (And.intro Cl.lit ?_))
          | (refine Or.inr ?_)
          | (refine Exists.intro (1 : Nat) ?_)
          | (refine Exists.intro _ (And.intro rfl ?_))
          | (fail))
      all_goals try refine Side.mk ?_
      all_goals try dsimp only at *
      all_goals try refine eqI ?_
      all_goals first
        | rfl
        | (rw [h0]; done)
        | (rw [h0]; rfl)
    · rintro k ⟨hk1, hk2⟩
      by_cases hkl : k < ps.length
      · have e1 := jCat_succ hkl
        have hT := hT k (ps[k]?.getD [])
        have hJ := c_join (jCat ps k) (ps[k]?.getD [])
        rw [← e1] at hT hJ
        have hl1 : (jCat ps (k + 1)).length = (jCat ps k).length + (ps[k]?.getD []).length := by rw [e1, List.length_append]
        generalize hA : F (jCat ps k) = A at *
        generalize hB : F (jCat ps (k + 1)) = B at *
        obtain ⟨⟨⟨⟨bs1, ds1⟩, pr1, pt1, la1⟩, ca1, at1, ls1⟩, ⟨o1, o2, o3, o4, o5⟩, len1, took1, rest1, x1, x2, x3⟩ := A
        obtain ⟨⟨⟨⟨bs2, ds2⟩, pr2, pt2, la2⟩, ca2, at2, ls2⟩, ⟨q1, q2, q3, q4, q5⟩, len2, took2, rest2, y1, y2, y3⟩ := B
        dsimp only [Unt.v, Slt.v, Med.v, Job.v, Cmd.v, Sns.v] at hT
        repeat'
          (conv => whnf
           first
            | (exact trivial)
            | (refine And.intro (by with_reducible rfl) ?_)
            | (refine And.intro (drawI (by kernel_rfl)) ?_)
            | (refine andI ?_ ?_)
            | (refine condT (by assumption) ?_)
            | (refine condF (by assumption) ?_)
            | (refine decT (by assumption) ?_)
            | (refine decF (by assumption) ?_)
            | (refine eqT (by assumption) ?_)
            | (refine eqF (by assumption) ?_)
            | (refine neT (by assumption) ?_)
            | (refine neF (by assumption) ?_)
            | (refine cEq (fun h => ?_) (fun h => ?_))
            | (refine cNe (fun h => ?_) (fun h => ?_))
            | (refine cNot (fun h => ?_) (fun h => ?_))
            | (refine cDec (fun h => ?_) (fun h => ?_))
            | (refine condN_split (fun h => ?_) (fun h => ?_))
            | (refine Exists.intro _ (And.intro (bls_get ?_) ?_))
            | (refine Exists.intro _ (And.intro (hT ?_) ?_))
            | (refine Exists.intro _ (And.intro (hJ ?_ ?_) ?_))
            | (refine Exists.intro (k + 1) (andI ?_ (andI ?_ ?_)))
            | (refine Exists.intro _ (And.intro rfl ?_))
            | (refine Or.inl (And.intro (by rfl : Nat.ble _ _ = true) ?_))
            | (refine Or.inl (And.intro Cl.lit ?_))
            | (refine Or.inr ?_)
            | (refine Exists.intro (1 : Nat) ?_)
            | (refine Exists.intro _ (And.intro rfl ?_))
            | (fail))
        all_goals try refine Side.mk ?_
        all_goals try dsimp only
        all_goals try refine eqI ?_
        all_goals try simp only [len_bls, List.length_map, len_b, Int.toNat_natCast] at *
        all_goals first
          | rfl
          | omega
          | (refine congrArg (Value.int IntKind.i64) ?_; rw [wrap64 (by omega) (by omega)]; omega)
          | (rw [hB]; first | done | rfl)
      · have hk3 : k = ps.length := by omega
        have hTu := hTu (jCat ps k)
        have hE := hE (jCat ps k)
        have hr := hr (jCat ps k)
        have hw := hw (jCat ps k)
        have hkk := hk (jCat ps k)
        have hfw := hfew (jCat ps k)
        have e1 := fun h1 h2 h3 => c_uSame (F (jCat ps k)).1 (F (jCat ps k)).1 h1 h2 h3
        have e2 := c_jSame (F (jCat ps k)).2 (F (jCat ps k)).2
        have e3 := fun h1 h2 h3 => c_uSame (jFin (F (jCat ps k)).1 (F (jCat ps k)).2).1 (jFin (F (jCat ps k)).1 (F (jCat ps k)).2).1 h1 h2 h3
        generalize jFin (F (jCat ps k)).1 (F (jCat ps k)).2 = f at *
        generalize F (jCat ps k) = A at *
        obtain ⟨⟨⟨⟨bs2, ds2⟩, pr2, pt2, la2⟩, ca2, at2, ls2⟩, y1, y2, y3⟩ := f
        obtain ⟨⟨⟨⟨bs1, ds1⟩, pr1, pt1, la1⟩, ca1, at1, ls1⟩, ⟨o1, o2, o3, o4, o5⟩, len1, took1, rest1, x1, x2, x3⟩ := A
        dsimp only [Unt.v, Slt.v, Med.v, Job.v, Cmd.v, Sns.v] at *
        obtain ⟨p1, p2, p3, p4⟩ := hw
        obtain ⟨q1, q2, q3, q4⟩ := hfw
        subst q3 p3
        repeat'
          (conv => whnf
           first
            | (exact trivial)
            | (refine And.intro (by with_reducible rfl) ?_)
            | (refine And.intro (drawI (by kernel_rfl)) ?_)
            | (refine andI ?_ ?_)
            | (refine condT (by assumption) ?_)
            | (refine condF (by assumption) ?_)
            | (refine decT (by assumption) ?_)
            | (refine decF (by assumption) ?_)
            | (refine eqT (by assumption) ?_)
            | (refine eqF (by assumption) ?_)
            | (refine neT (by assumption) ?_)
            | (refine neF (by assumption) ?_)
            | (refine cEq (fun h => ?_) (fun h => ?_))
            | (refine cNe (fun h => ?_) (fun h => ?_))
            | (refine cNot (fun h => ?_) (fun h => ?_))
            | (refine cDec (fun h => ?_) (fun h => ?_))
            | (refine condN_split (fun h => ?_) (fun h => ?_))
            | (refine Exists.intro _ (And.intro (hTu ?_) ?_))
            | (refine Exists.intro _ (And.intro (hE ?_) ?_))
            | (refine Exists.intro _ (And.intro (e1 ?_ ?_ ?_) ?_))
            | (refine Exists.intro _ (And.intro (e2) ?_))
            | (refine Exists.intro _ (And.intro (e3 ?_ ?_ ?_) ?_))
            | (refine Exists.intro _ (And.intro eq_sns ?_))
            | (refine Exists.intro _ (And.intro rfl ?_))
            | (refine Or.inl (And.intro (by rfl : Nat.ble _ _ = true) ?_))
            | (refine Or.inl (And.intro Cl.lit ?_))
            | (refine Or.inr ?_)
            | (refine Exists.intro (1 : Nat) ?_)
            | (refine Exists.intro _ (And.intro rfl ?_))
            | (fail))
        all_goals try refine Side.mk ?_
        all_goals try dsimp only
        all_goals try refine eqI ?_
        all_goals try simp only [len_bls, List.length_map, len_b, Int.toNat_natCast] at *
        all_goals first
          | rfl
          | omega
          | exact congrArg (fun b => V.lit (Value.bool b)) (decide_eq_true rfl)
          | exact congrArg (fun b => V.lit (Value.bool b)) (beq_self_eq_true _)
          | (refine bool_close ?_; simp only [beq_iff_eq, iff_true]; omega)
          | (exfalso; simp only [beq_self_eq_true, Bool.true_and, Bool.and_true, decide_true, decide_eq_false_iff_not, not_true_eq_false, eq_self, Bool.true_eq_false, ne_eq] at *; done)
end Go.Proofs.Ytbieiehfohldjaa
