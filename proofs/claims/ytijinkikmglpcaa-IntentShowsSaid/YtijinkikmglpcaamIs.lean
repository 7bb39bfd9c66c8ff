/-
  Layer 11: intents held against each other; the fixed fact; the first law.
-/
import Derived.Test.YtijinkikmglpcaamIg
import Derived.Test.YtijinkikmglpcaamJf
namespace Go.Proofs.Ytijinkikmglpcaa
open Go
set_option linter.unusedVariables false
set_option linter.unusedSimpArgs false
set_option maxRecDepth 100000
set_option maxHeartbeats 16000000

noncomputable def inlIs : List IRow := [(24, Try.f24, 6, 3, 0), (22, Try.f22, 13, 4, 0), (8, Try.f8, 15, 4, 0), (21, Try.f21, 11, 4, 0)]
theorem inlIs_ok : IOk Try.prog (inlTab inlIs) := inl_ok (by
  unfold inlIs
  refine And.intro ⟨rfl, rfl, rfl, .inl rfl⟩ ?_
  refine And.intro ⟨rfl, rfl, rfl, .inl rfl⟩ ?_
  refine And.intro ⟨rfl, rfl, rfl, .inl rfl⟩ ?_
  refine And.intro ⟨rfl, rfl, rfl, .inl rfl⟩ ?_
  exact trivial)
theorem c_iSame (a b : Itt) : FnC Try.prog 15 [a.v, b.v] [] (bV (decide (a = b))) [] := by
  have hJ := c_jSame a.job b.job
  have k1 : ∀ q, eqS a.sense b.sense = q → decide (a.sense = b.sense) = q := fun q hq => by rw [← eqS_eq]; exact hq
  obtain ⟨d1, l1, b1, j1, s1⟩ := a
  obtain ⟨d2, l2, b2, j2, s2⟩ := b
  obtain ⟨⟨op, pos, n, pg, bits⟩, len, took, rest, w1, w2, w3⟩ := j1
  obtain ⟨⟨op', pos', n', pg', bits'⟩, len', took', rest', w1', w2', w3'⟩ := j2
  obtain ⟨x1, x2, x3⟩ := s1
  obtain ⟨y1, y2, y3⟩ := s2
  dsimp only [Itt.v, Job.v, Cmd.v, Sns.v] at *
  refine fn_vcI (N := 40) (d := 6) tabOk mixed inlIs_ok 6 Try.func15 rfl rfl rfl ?_
  repeat'
    (conv => whnf
     first
      | (exact trivial)
      | (refine And.intro (by with_reducible rfl) ?_)
      | (refine And.intro (drawI (by kernel_rfl)) ?_)
      | (refine andI ?_ ?_)
      | (refine condT (by assumption) ?_)
      | (refine condF (by assumption) ?_)
      | (refine decT (by assumption) ?_)
      | (refine decF (by assumption) ?_)
      | (refine eqT (by assumption) ?_)
      | (refine eqF (by assumption) ?_)
      | (refine neT (by assumption) ?_)
      | (refine neF (by assumption) ?_)
      | (refine cEq (fun h => ?_) (fun h => ?_))
      | (refine cNe (fun h => ?_) (fun h => ?_))
      | (refine cNot (fun h => ?_) (fun h => ?_))
      | (refine cDec (fun h => ?_) (fun h => ?_))
      | (refine condN_split (fun h => ?_) (fun h => ?_))
      | (refine Exists.intro _ (And.intro (by first | rfl | ((conv => lhs; simp only [nil_b, rp_bls, or_bls, len_bls, snoc_bls, rp_nil, rp_app, rp_b, or_nil, or_app, or_b, len_b, take_b, drop_b, rep_b, app_b, List.length_append, List.length_take, List.length_drop, List.length_nil, List.drop_zero, List.take_length, List.nil_append, List.append_nil, Int.toNat_natCast, toNat_min, take_min, and_true, true_and, and_self]) <;> rfl)) ?_))
      | (refine Exists.intro _ (And.intro (hJ) ?_))
      | (refine Exists.intro _ (And.intro eq_sns ?_))
      | (refine Exists.intro _ (And.intro rfl ?_))
      | (refine Or.inl (And.intro (by rfl : Nat.ble _ _ = true) ?_))
      | (refine Or.inl (And.intro Cl.lit ?_))
      | (refine Or.inr ?_)
      | (refine Exists.intro (1 : Nat) ?_)
      | (refine Exists.intro _ (And.intro rfl ?_))
      | (fail))
  all_goals try refine Side.mk ?_
  all_goals try dsimp only
  all_goals try refine eqI ?_
  all_goals try simp only [eq_str, beq_iff_eq, beq_eq_false_iff_ne, ne_eq] at *
  all_goals first
    | (refine congrArg (fun q => V.lit (Value.bool q)) ((k1 _ rfl).symm.trans ?_)
       rw [Bool.eq_iff_iff]
       simp only [decide_eq_true_eq, Itt.mk.injEq]
       simp_all; done)
    | (refine bool_close ?_
       simp only [decide_eq_true_eq, Itt.mk.injEq, Bool.false_eq_true, false_iff, not_and]
       intros
       first | assumption | contradiction | (simp_all; done))
    | (set_option pp.maxSteps 400 in trace_state; sorry)
def gU0 : Unt := ⟨⟨⟨[Blk.dflt, Blk.dflt, Blk.dflt], []⟩, true, false, false⟩, true, [], ⟨5, 0x21, 0⟩⟩
def gA : Unt × Itt := iBegin gU0 0 1 ⟨0x28, 1, 2, 0, 0⟩
def gB : Unt × Itt := iBegin gU0 0 1 ⟨0x28, 2, 2, 0, 0⟩
def gC : Unt × Itt := iBegin gU0 0 1 ⟨0x2a, 2, 1, 0, 0⟩
def gD : Unt × Itt := iBegin gU0 0 1 ⟨3, 0, 18, 0, 0⟩
def gE : Unt × Itt := iBegin gU0 0 1 ⟨0x1b, 0, 0, 0, 2⟩
def gF : Unt × Itt := iBegin gE.1 0 1 ⟨0x1b, 0, 0, 0, 3⟩
def gG : Unt × Itt := iBegin gE.1 0 1 ⟨0x25, 0, 0, 0, 0⟩
def gH : Unt × Itt := iBegin gF.1 0 1 ⟨0xff, 0, 0, 0, 0⟩
theorem gA_f : gA.2.dir = 1 ∧ gA.2.len = 128 ∧ gA.2.data.length = 128 := by decide +kernel
theorem gB_f : gB.2.dir = 0 ∧ gB.2.sense = ⟨5, 0x21, 0⟩ := by decide +kernel
theorem gC_f : gC.2.dir = 2 ∧ gC.2.len = 64 := by decide +kernel
theorem gD_f : gD.2.len = 18 ∧ gD.2.data.length = 18 ∧ (gD.2.data[12]?.getD 0).toNat = 33 ∧ gD.1.last = sOk := by decide +kernel
theorem gE_f : gE.1.slot.present = false ∧ gF.2 = gE.2 ∧ gF.1.slot.present = true ∧ gF.1.atts.length = 1 ∧ gE.1.atts.length = 0 := by decide +kernel
theorem gG_f : gG.2.sense = sNotReady := by decide +kernel
theorem gH_f : gH.2.sense = sUnk := by decide +kernel
theorem c_unit11 : FnC Try.prog 20 [] [] gU0.v [] := by
  refine fn_vcI (N := 6) (d := 3) tabOk mixed inlIs_ok 6 Try.func20 rfl rfl rfl ?_
  repeat'
    (conv => whnf
     first
      | (exact trivial)
      | (refine And.intro (by with_reducible rfl) ?_)
      | (refine And.intro (drawI (by kernel_rfl)) ?_)
      | (refine andI ?_ ?_)
      | (refine condT (by assumption) ?_)
      | (refine condF (by assumption) ?_)
      | (refine decT (by assumption) ?_)
      | (refine decF (by assumption) ?_)
      | (refine eqT (by assumption) ?_)
      | (refine eqF (by assumption) ?_)
      | (refine neT (by assumption) ?_)
      | (refine neF (by assumption) ?_)
      | (refine cEq (fun h => ?_) (fun h => ?_))
      | (refine cNe (fun h => ?_) (fun h => ?_))
      | (refine cNot (fun h => ?_) (fun h => ?_))
      | (refine cDec (fun h => ?_) (fun h => ?_))
      | (refine condN_split (fun h => ?_) (fun h => ?_))
      | (refine Exists.intro _ (And.intro rfl ?_))
      | (refine Or.inl (And.intro (by rfl : Nat.ble _ _ = true) ?_))
      | (refine Or.inl (And.intro Cl.lit ?_))
      | (refine Or.inr ?_)
      | (refine Exists.intro (1 : Nat) ?_)
      | (refine Exists.intro _ (And.intro rfl ?_))
      | (fail))
  all_goals try refine Side.mk ?_
  all_goals try dsimp only at *
  all_goals try refine eqI ?_
  all_goals first
    | rfl
    | decide
    | exact Nat.le_of_ble_eq_true rfl
    | (refine or_all ?_; rfl)
    | (refine rp_all ?_; rfl)
    | (set_option pp.maxSteps 400 in trace_state; sorry)
attribute [local irreducible] gU0 gA gB gC gD gE gF gG gH
theorem c_alive11 : FnC Try.prog 7 [] [] (bV true) [] := by
  have hU := c_unit11
  have uA : gU0.atts.length ≤ 2 ^ 40 := by rw [show gU0.atts = [] from by decide +kernel]; decide
  have tA : FnC Try.prog 9 [gU0.v, i64 0, i64 1, (Cmd.mk 0x28 1 2 0 0).v] [] (.tup [gA.1.v, gA.2.v]) [] := by unfold gA; exact c_ibegin _ _ _ _ ⟨by decide⟩ ⟨by decide⟩ ⟨uA⟩
  have tB : FnC Try.prog 9 [gU0.v, i64 0, i64 1, (Cmd.mk 0x28 2 2 0 0).v] [] (.tup [gB.1.v, gB.2.v]) [] := by unfold gB; exact c_ibegin _ _ _ _ ⟨by decide⟩ ⟨by decide⟩ ⟨uA⟩
  have tC : FnC Try.prog 9 [gU0.v, i64 0, i64 1, (Cmd.mk 0x2a 2 1 0 0).v] [] (.tup [gC.1.v, gC.2.v]) [] := by unfold gC; exact c_ibegin _ _ _ _ ⟨by decide⟩ ⟨by decide⟩ ⟨uA⟩
  have tD : FnC Try.prog 9 [gU0.v, i64 0, i64 1, (Cmd.mk 3 0 18 0 0).v] [] (.tup [gD.1.v, gD.2.v]) [] := by unfold gD; exact c_ibegin _ _ _ _ ⟨by decide⟩ ⟨by decide⟩ ⟨uA⟩
  have tE : FnC Try.prog 9 [gU0.v, i64 0, i64 1, (Cmd.mk 0x1b 0 0 0 2).v] [] (.tup [gE.1.v, gE.2.v]) [] := by unfold gE; exact c_ibegin _ _ _ _ ⟨by decide⟩ ⟨by decide⟩ ⟨uA⟩
  have tF : FnC Try.prog 9 [gE.1.v, i64 0, i64 1, (Cmd.mk 0x1b 0 0 0 3).v] [] (.tup [gF.1.v, gF.2.v]) [] := by unfold gF; exact c_ibegin _ _ _ _ ⟨by decide⟩ ⟨by decide⟩ ⟨by rw [gE_f.2.2.2.2]; decide⟩
  have tG : FnC Try.prog 9 [gE.1.v, i64 0, i64 1, (Cmd.mk 0x25 0 0 0 0).v] [] (.tup [gG.1.v, gG.2.v]) [] := by unfold gG; exact c_ibegin _ _ _ _ ⟨by decide⟩ ⟨by decide⟩ ⟨by rw [gE_f.2.2.2.2]; decide⟩
  have tH : FnC Try.prog 9 [gF.1.v, i64 0, i64 1, (Cmd.mk 0xff 0 0 0 0).v] [] (.tup [gH.1.v, gH.2.v]) [] := by unfold gH; exact c_ibegin _ _ _ _ ⟨by decide⟩ ⟨by decide⟩ ⟨by rw [gE_f.2.2.2.1]; decide⟩
  have hS := c_iSame gE.2 gF.2
  rw [gE_f.2.1, decide_eq_true rfl] at hS
  obtain ⟨a1, a2, a3⟩ := gA_f
  obtain ⟨b1, b2⟩ := gB_f
  obtain ⟨c1, c2⟩ := gC_f
  obtain ⟨d1, d2, d3, d4⟩ := gD_f
  obtain ⟨e1, e2, e3, e4, e5⟩ := gE_f
  have g1 := gG_f
  have h1 := gH_f
  generalize gU0 = U0 at *
  generalize gA = A at *
  generalize gB = B at *
  generalize gC = C at *
  generalize gD = D at *
  generalize gF = F at *
  generalize gE = E at *
  generalize gG = G at *
  generalize gH = H at *
  obtain ⟨uA, iA1, iA2, iA3, iA4, iA5⟩ := A
  obtain ⟨uB, iB1, iB2, iB3, iB4, iB5⟩ := B
  obtain ⟨uC, iC1, iC2, iC3, iC4, iC5⟩ := C
  obtain ⟨⟨uD1, uD2, uD3, uD4⟩, iD1, iD2, iD3, iD4, iD5⟩ := D
  obtain ⟨⟨⟨uE0, uE1, uE2, uE3⟩, uE4, uE5, uE6⟩, iE⟩ := E
  obtain ⟨⟨⟨uF0, uF1, uF2, uF3⟩, uF4, uF5, uF6⟩, iF⟩ := F
  obtain ⟨uG, iG1, iG2, iG3, iG4, iG5⟩ := G
  obtain ⟨uH, iH1, iH2, iH3, iH4, iH5⟩ := H
  dsimp only at *
  subst a1 a2 b1 b2 c1 c2 d1 d4 e1 e2 e3 g1 h1
  have a3 : ((byteRows iA3).length : Int) = 128 := by rw [len_b, a3]; rfl
  have d2' : ((byteRows iD3).length : Int) = 18 := by rw [len_b, d2]; rfl
  have d3 : ((iD3[12]?.getD 0).toNat : Int) = 33 := by rw [d3]; rfl
  have e4 : ((uF5.map Sns.row).length : Int) = 1 := by rw [List.length_map, e4]; rfl
  refine fn_vcI (N := 158) (d := 8) tabOk mixed inlIs_ok 6 Try.func7 rfl rfl rfl ?_
  repeat'
    (conv => whnf
     first
      | (exact trivial)
      | (refine And.intro (by with_reducible rfl) ?_)
      | (refine And.intro (drawI (by kernel_rfl)) ?_)
      | (refine andI ?_ ?_)
      | (refine condT (by assumption) ?_)
      | (refine condF (by assumption) ?_)
      | (refine decT (by assumption) ?_)
      | (refine decF (by assumption) ?_)
      | (refine eqT (by assumption) ?_)
      | (refine eqF (by assumption) ?_)
      | (refine neT (by assumption) ?_)
      | (refine neF (by assumption) ?_)
      | (refine cEq (fun h => ?_) (fun h => ?_))
      | (refine cNe (fun h => ?_) (fun h => ?_))
      | (refine cNot (fun h => ?_) (fun h => ?_))
      | (refine cDec (fun h => ?_) (fun h => ?_))
      | (refine condN_split (fun h => ?_) (fun h => ?_))
      | (refine Exists.intro _ (And.intro (hU) ?_))
      | (refine Exists.intro _ (And.intro (tA) ?_))
      | (refine Exists.intro _ (And.intro (tB) ?_))
      | (refine Exists.intro _ (And.intro (tC) ?_))
      | (refine Exists.intro _ (And.intro (tD) ?_))
      | (refine Exists.intro _ (And.intro (tE) ?_))
      | (refine Exists.intro _ (And.intro (tF) ?_))
      | (refine Exists.intro _ (And.intro (tG) ?_))
      | (refine Exists.intro _ (And.intro (tH) ?_))
      | (refine Exists.intro _ (And.intro (hS) ?_))
      | (refine Exists.intro _ (And.intro (bytes_get ?_) ?_))
      | (refine Exists.intro _ (And.intro eq_sns ?_))
      | (refine Exists.intro _ (And.intro rfl ?_))
      | (refine Or.inl (And.intro (by rfl : Nat.ble _ _ = true) ?_))
      | (refine Or.inl (And.intro Cl.lit ?_))
      | (refine Or.inr ?_)
      | (refine Exists.intro (1 : Nat) ?_)
      | (refine Exists.intro _ (And.intro rfl ?_))
      | (fail))
  all_goals try refine Side.mk ?_
  all_goals try dsimp only
  all_goals try refine eqI ?_
  all_goals first
    | rfl
    | decide
    | omega
    | (rw [len_b, d2]; decide)
    | (rw [d2]; decide)
    | (set_option pp.maxSteps 600 in trace_state; sorry)
/-- a unit that holds no more than another one, but for an attention -/
def Few2 (u v : Unt) : Prop := v.slot.med.blocks.length ≤ max u.slot.med.blocks.length 64 ∧ v.slot.med.dirty.length ≤ max u.slot.med.dirty.length 64 ∧ v.atts.length ≤ u.atts.length + 1
theorem few2_refl (u : Unt) : Few2 u u := ⟨by omega, by omega, by omega⟩
theorem sync_few (s : Slt) : (sSync s).med.blocks.length ≤ max s.med.blocks.length 64 ∧ (sSync s).med.dirty.length ≤ max s.med.dirty.length 64 := by
  have := mdAll_len s.med
  unfold sSync
  split
  · dsimp only; exact ⟨by omega, by simp⟩
  · exact ⟨by omega, by omega⟩
theorem begin_few (u : Unt) (l ls : Int) (c : Cmd) : Few2 u (iBegin u l ls c).1 := by
  have hs := sync_few u.slot
  have ha := sAdd_len u.atts sNew
  have r := few2_refl u
  have hf : (mFl u.slot.med c.pos c.n).1.blocks.length ≤ max u.slot.med.blocks.length 64 ∧ (mFl u.slot.med c.pos c.n).1.dirty.length ≤ max u.slot.med.dirty.length 64 := by
    unfold mFl
    split
    · exact ⟨by simp [mNil], by simp [mNil]⟩
    · split
      · exact ⟨by simp [mNil], by simp [mNil]⟩
      · dsimp only
        rw [flush_len]
        have := flush_dlen (q_fl c.pos (if c.n = 0 then (u.slot.med.blocks.length : Int) else c.n)) u.slot.med
        exact ⟨by omega, by omega⟩
  have hst : ∀ b, Few2 u (iStart u b).1 := fun b => by
    unfold iStart
    split
    · refine ⟨by dsimp only [sIns]; omega, by dsimp only [sIns]; omega, ?_⟩
      show (if _ then _ else _ : List Sns).length ≤ _
      split <;> omega
    · split
      · refine ⟨?_, ?_, Nat.le_succ _⟩
        · show (sUnload u.slot).1.med.blocks.length ≤ _
          unfold sUnload
          (repeat' split) <;> first | exact hs.1 | (show u.slot.med.blocks.length ≤ _; omega)
        · show (sUnload u.slot).1.med.dirty.length ≤ _
          unfold sUnload
          (repeat' split) <;> first | exact hs.2 | (show u.slot.med.dirty.length ≤ _; omega)
      · refine ⟨?_, ?_, Nat.le_succ _⟩
        · show (if _ then sSync u.slot else u.slot : Slt).med.blocks.length ≤ _
          split
          · exact hs.1
          · omega
        · show (if _ then sSync u.slot else u.slot : Slt).med.dirty.length ≤ _
          split
          · exact hs.2
          · omega
  have hkp : ∀ b, Few2 u ⟨(sKeep u.slot b).1, u.caching, u.atts, u.last⟩ := fun b => by
    unfold sKeep
    split <;> exact r
  have hbk : Few2 u (iBlocks u c).1 := by
    unfold iBlocks
    (repeat' split) <;> try exact r
    show Few2 u (iSync u c)
    unfold iSync
    split
    · exact ⟨hf.1, hf.2, Nat.le_succ _⟩
    · exact r
  unfold iBegin
  (repeat' split) <;> first | exact r | exact hst _ | exact hkp _ | exact hbk
end Go.Proofs.Ytijinkikmglpcaa
