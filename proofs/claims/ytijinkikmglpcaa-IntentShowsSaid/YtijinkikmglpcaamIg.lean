/-
  Layer 11: a command begun, by the program and by the document.
-/
import Derived.Test.YtijinkikmglpcaamIf
namespace Go.Proofs.Ytijinkikmglpcaa
open Go
set_option linter.unusedVariables false
set_option linter.unusedSimpArgs false
set_option maxRecDepth 100000
set_option maxHeartbeats 16000000

theorem sBytes_len (s : Sns) : (sBytes s).length = 18 := rfl
attribute [local irreducible] iIn iOut iBegin iBlocks iSync iStart sBytes iAns mAns cTold cSix cLun sAdd sReady sUnload sKeep sCheck sRead sSync mFl mdAll mRight clsN
noncomputable def inlIg : List IRow := [(23, Try.f23, 128, 8, 0), (37, Try.f37, 80, 7, 0), (39, Try.f39, 38, 6, 0), (32, Try.f32, 28, 5, 0), (41, Try.f41, 95, 7, 0), (18, Try.f18, 5, 3, 0), (59, Try.f59, 2, 2, 0), (42, Try.f42, 2, 2, 0), (69, Try.f69, 8, 4, 0), (30, Try.f30, 6, 3, 0), (40, Try.f40, 20, 5, 0), (63, Try.f63, 5, 3, 0), (19, Try.f19, 5, 3, 0), (21, Try.f21, 11, 4, 0)]
theorem inlIg_ok : IOk Try.prog (inlTab inlIg) := inl_ok (by
  unfold inlIg
  refine And.intro ⟨rfl, rfl, rfl, .inl rfl⟩ ?_
  refine And.intro ⟨rfl, rfl, rfl, .inl rfl⟩ ?_
  refine And.intro ⟨rfl, rfl, rfl, .inl rfl⟩ ?_
  refine And.intro ⟨rfl, rfl, rfl, .inl rfl⟩ ?_
  refine And.intro ⟨rfl, rfl, rfl, .inl rfl⟩ ?_
  refine And.intro ⟨rfl, rfl, rfl, .inl rfl⟩ ?_
  refine And.intro ⟨rfl, rfl, rfl, .inl rfl⟩ ?_
  refine And.intro ⟨rfl, rfl, rfl, .inl rfl⟩ ?_
  refine And.intro ⟨rfl, rfl, rfl, .inl rfl⟩ ?_
  refine And.intro ⟨rfl, rfl, rfl, .inl rfl⟩ ?_
  refine And.intro ⟨rfl, rfl, rfl, .inl rfl⟩ ?_
  refine And.intro ⟨rfl, rfl, rfl, .inl rfl⟩ ?_
  refine And.intro ⟨rfl, rfl, rfl, .inl rfl⟩ ?_
  refine And.intro ⟨rfl, rfl, rfl, .inl rfl⟩ ?_
  exact trivial)
theorem c_ibegin (u : Unt) (l ls : Int) (c : Cmd) (hp : Side (InU c.pos)) (hn : Side (InI6 c.n)) (ha : Side (u.atts.length ≤ 2 ^ 40)) : FnC Try.prog 9 [u.v, i64 l, i64 ls, c.v] [] (.tup [(iBegin u l ls c).1.v, (iBegin u l ls c).2.v]) [] := by
  have hp0 := hp.h
  have hn0 := hn.h
  dsimp only [InU, InI6] at hp0 hn0
  have hRd := c_ready u.slot
  have hAl := c_all u.slot.med
  have hUn := c_sunload u.slot
  have hIn := c_sins u.slot
  have hSy := c_ssync u.slot
  have hKp := fun b => c_skeep u.slot b
  have hAd := c_sadd u.atts sNew ha
  have hSb := c_sbytes u.last
  have hAn := c_ianswer c l ls
  have hMo := c_answer c u.caching u.slot.prot
  have hOu := fun s => c_iout c s
  have hsb := sBytes_len u.last
  have hLu := c_luns ls c.n
  have hTe : FnC Try.prog 88 [i64 (uN u), i64 4] [] (bsV (cTold (uN u) 4)) [] := c_told (uN u) 4 ⟨by omega⟩
  have hSi := c_six (uN u) c.n
  have hCk := fun w => c_scheck u.slot c.pos c.n w hn
  have hRe := c_sread u.slot c.pos c.n hp hn
  have hCl := c_class c.op
  have hFl : ∀ w, (sCheck u.slot c.pos c.n w).good = true → w = false → ∀ z, Side (z = c.pos) → FnC Try.prog 68 [u.slot.med.v, i64 z, i64 c.n] [] (.tup [(mFl u.slot.med c.pos c.n).1.v, i64 (mFl u.slot.med c.pos c.n).2]) [] := fun w h hw z hz => by
    subst hw
    rw [hz.h]
    have := mdAll_len u.slot.med
    have := chk_far2 h
    exact c_cflush u.slot.med c.pos c.n ⟨by dsimp only [InI6]; omega⟩
  have hFg := fun h => fl_good (s := u.slot) (p := c.pos) (n := c.n) h hp0.1
  have hps : (sCheck u.slot c.pos c.n false).good = true → c.pos ≤ 64 := fun h => by
    have := mdAll_len u.slot.med
    have := chk_far2 h
    omega
  have s1 : (sCheck u.slot c.pos c.n false).good = true → mRight u.slot.med = true → iSync u c = ⟨⟨(mFl u.slot.med c.pos c.n).1, u.slot.present, u.slot.prot, u.slot.latch⟩, u.caching, u.atts, u.last⟩ := fun h h2 => by unfold iSync; rw [if_pos ⟨h, h2⟩]
  have s2 : (sCheck u.slot c.pos c.n false).good = true → mRight u.slot.med = false → iSync u c = u := fun h h2 => by unfold iSync; rw [if_neg (by rw [h2]; simp)]
  have s3 : (sCheck u.slot c.pos c.n false).good = false → iSync u c = u := fun h => by unfold iSync; rw [if_neg (by rw [h]; simp)]
  have b0 := fun h => @bg0 u l ls c h
  have b1 := fun h => @bg1 u l ls c h
  have b2 := fun h => @bg2 u l ls c h
  have b3 := fun h => @bg3 u l ls c h
  have b4 := fun h => @bg4 u l ls c h
  have b5 := fun h => @bg5 u l ls c h
  have b6 := fun h => @bg6 u l ls c h
  have b7 := fun h => @bg7 u l ls c h
  have b8 := fun h => @bg8 u l ls c h
  have b9 := fun h => @bg9 u l ls c h
  have bA := fun h h2 => @bgA u l ls c h h2
  have bB := fun h h2 => @bgB u l ls c h h2
  have k1 := fun h => @bk1 u c h
  have k2 := fun h => @bk2 u c h
  have k3 := fun h => @bk3 u c h
  have k4 := fun h h2 h3 => @bk4 u c h h2 h3
  have t3 := fun h => @st3 u c h
  have t2 := fun h => @st2 u c h
  have t0 := fun h h2 => @st0 u c h h2
  have hsi : (sIns u.slot).1 = ⟨u.slot.med, true, u.slot.prot, u.slot.latch⟩ ∧ (sIns u.slot).2 = !u.slot.present := ⟨rfl, rfl⟩
  have oth : ∀ {op : Int}, op ≠ 0 → op ≠ 3 → op ≠ 0x12 → op ≠ 0x1a → op ≠ 0x5a → op ≠ 0x15 → op ≠ 0x55 → op ≠ 0x1b → op ≠ 0x1e → op ≠ 0x25 → op ≠ 0x9e → op ≠ 0xa0 → opOther op := fun a1 a2 a3 a4 a5 a6 a7 a8 a9 a10 a11 a12 => ⟨a1, a2, a3, a4, a5, a6, a7, a8, a9, a10, a11, a12⟩
  unfold uN at *
  generalize iBegin u l ls c = r at *
  generalize iBlocks u c = rb at *
  generalize iStart u c.bits = rs at *
  generalize iSync u c = ry at *
  generalize sReady u.slot = rd at *
  generalize mdAll u.slot.med = al at *
  generalize sUnload u.slot = rn at *
  generalize sIns u.slot = ri at *
  generalize sSync u.slot = rz at *
  generalize hkp : (fun b => sKeep u.slot b) = kp at *
  have hkp2 : ∀ b, sKeep u.slot b = kp b := fun b => by rw [← hkp]
  generalize sAdd u.atts sNew = ad at *
  generalize sBytes u.last = sb at *
  generalize iAns c l ls = an at *
  generalize mAns c u.caching u.slot.prot = mo at *
  generalize hck : (fun w => sCheck u.slot c.pos c.n w) = ck at *
  have hck2 : ∀ w, sCheck u.slot c.pos c.n w = ck w := fun b => by rw [← hck]
  simp only [hkp2, hck2] at *
  clear hkp hkp2 hck hck2
  generalize sRead u.slot c.pos c.n = re at *
  generalize mFl u.slot.med c.pos c.n = fl at *
  generalize mRight u.slot.med = mr at *
  generalize clsN c.op = cl at *
  obtain ⟨⟨⟨bs, ds⟩, pr, pt, la⟩, ca, atts, lst⟩ := u
  obtain ⟨op, pos, n, pg, bits⟩ := c
  dsimp only [Unt.v, Slt.v, Med.v, Cmd.v] at *
  refine fn_vcI (N := 25) (d := 5) tabOk mixed inlIg_ok 8 Try.func9 rfl rfl rfl ?_
  repeat'
    (conv => whnf
     first
      | (exact trivial)
      | (refine And.intro (by with_reducible rfl) ?_)
      | (refine And.intro (drawI (by kernel_rfl)) ?_)
      | (refine andI ?_ ?_)
      | (refine condT (by assumption) ?_)
      | (refine condF (by assumption) ?_)
      | (refine decT (by assumption) ?_)
      | (refine decF (by assumption) ?_)
      | (refine eqT (by assumption) ?_)
      | (refine eqF (by assumption) ?_)
      | (refine neT (by assumption) ?_)
      | (refine neF (by assumption) ?_)
      | (refine cEq (fun h => ?_) (fun h => ?_))
      | (refine cNe (fun h => ?_) (fun h => ?_))
      | (refine cNot (fun h => ?_) (fun h => ?_))
      | (refine cDec (fun h => ?_) (fun h => ?_))
      | (refine condN_split (fun h => ?_) (fun h => ?_))
      | (refine Exists.intro _ (And.intro (hRd) ?_))
      | (refine Exists.intro _ (And.intro (hAl) ?_))
      | (refine Exists.intro _ (And.intro (hUn) ?_))
      | (refine Exists.intro _ (And.intro (hIn) ?_))
      | (refine Exists.intro _ (And.intro (hSy) ?_))
      | (refine Exists.intro _ (And.intro (hKp _) ?_))
      | (refine Exists.intro _ (And.intro (hAd) ?_))
      | (refine Exists.intro _ (And.intro (hSb) ?_))
      | (refine Exists.intro _ (And.intro (fnC_args (c_cut _ _ ?_) (by first | rfl | ((conv => lhs; simp only [rp_bls, or_bls, len_bls, snoc_bls, rp_nil, rp_app, rp_b, or_nil, or_app, or_b, len_b, take_b, drop_b, rep_b, app_b, List.length_append, List.length_take, List.length_drop, List.length_nil, List.drop_zero, List.take_length, List.nil_append, List.append_nil, Int.toNat_natCast, toNat_min, take_min, and_true, true_and, and_self]) <;> rfl) | ((conv => lhs; simp only [rp_bls, or_bls, len_bls, snoc_bls, rp_nil, rp_app, rp_b, or_nil, or_app, or_b, len_b, take_b, drop_b, rep_b, app_b, List.length_append, List.length_take, List.length_drop, List.length_nil, List.drop_zero, List.take_length, List.nil_append, List.append_nil, Int.toNat_natCast, toNat_min, take_min, and_true, true_and, and_self, sl1_nil]) <;> rfl))) ?_))
      | (refine Exists.intro _ (And.intro (fnC_args (c_iIn _ sOk) (by first | rfl | ((conv => lhs; simp only [rp_bls, or_bls, len_bls, snoc_bls, rp_nil, rp_app, rp_b, or_nil, or_app, or_b, len_b, take_b, drop_b, rep_b, app_b, List.length_append, List.length_take, List.length_drop, List.length_nil, List.drop_zero, List.take_length, List.nil_append, List.append_nil, Int.toNat_natCast, toNat_min, take_min, and_true, true_and, and_self]) <;> rfl) | ((conv => lhs; simp only [rp_bls, or_bls, len_bls, snoc_bls, rp_nil, rp_app, rp_b, or_nil, or_app, or_b, len_b, take_b, drop_b, rep_b, app_b, List.length_append, List.length_take, List.length_drop, List.length_nil, List.drop_zero, List.take_length, List.nil_append, List.append_nil, Int.toNat_natCast, toNat_min, take_min, and_true, true_and, and_self, sl1_nil]) <;> rfl))) ?_))
      | (refine Exists.intro _ (And.intro (fnC_args (c_iIn _ _) (by first | rfl | ((conv => lhs; simp only [rp_bls, or_bls, len_bls, snoc_bls, rp_nil, rp_app, rp_b, or_nil, or_app, or_b, len_b, take_b, drop_b, rep_b, app_b, List.length_append, List.length_take, List.length_drop, List.length_nil, List.drop_zero, List.take_length, List.nil_append, List.append_nil, Int.toNat_natCast, toNat_min, take_min, and_true, true_and, and_self]) <;> rfl) | ((conv => lhs; simp only [rp_bls, or_bls, len_bls, snoc_bls, rp_nil, rp_app, rp_b, or_nil, or_app, or_b, len_b, take_b, drop_b, rep_b, app_b, List.length_append, List.length_take, List.length_drop, List.length_nil, List.drop_zero, List.take_length, List.nil_append, List.append_nil, Int.toNat_natCast, toNat_min, take_min, and_true, true_and, and_self, sl1_nil]) <;> rfl))) ?_))
      | (refine Exists.intro _ (And.intro (hAn) ?_))
      | (refine Exists.intro _ (And.intro (hMo) ?_))
      | (refine Exists.intro _ (And.intro (hOu sOk) ?_))
      | (refine Exists.intro _ (And.intro (hOu _) ?_))
      | (refine Exists.intro _ (And.intro (hLu) ?_))
      | (refine Exists.intro _ (And.intro (hTe) ?_))
      | (refine Exists.intro _ (And.intro (hSi) ?_))
      | (refine Exists.intro _ (And.intro (hCk _) ?_))
      | (refine Exists.intro _ (And.intro (hRe) ?_))
      | (refine Exists.intro _ (And.intro (hCl) ?_))
      | (refine Exists.intro _ (And.intro (hFl _ (by assumption) (by simp only [*, beq_eq_false_iff_ne, ne_eq, not_false_eq_true]) _ ?_) ?_))
      | (refine Exists.intro _ (And.intro eq_sns ?_))
      | (refine Exists.intro _ (And.intro rfl ?_))
      | (refine Or.inl (And.intro (by rfl : Nat.ble _ _ = true) ?_))
      | (refine Or.inl (And.intro Cl.lit ?_))
      | (refine Or.inr ?_)
      | (refine Exists.intro (1 : Nat) ?_)
      | (refine Exists.intro _ (And.intro rfl ?_))
      | (fail))
  all_goals try refine Side.mk ?_
  all_goals try dsimp only
  all_goals try refine eqI ?_
  all_goals try (have hc2 : (cl == 2) = false := by (rw [beq_eq_false_iff_ne]; assumption)
                 simp only [hc2] at *)
  all_goals try (have hc2 : (cl == 2) = true := by (rw [beq_iff_eq]; assumption)
                 simp only [hc2] at *)
  all_goals first
    | (rw [len_b]; omega)
    | (rw [b0 (by assumption)]; first | done | rfl)
    | (rw [b1 (by assumption)]; first | done | rfl)
    | (rw [b2 (by assumption)]; first | done | rfl)
    | (rw [b3 (.inl (by assumption))]; first | done | rfl)
    | (rw [b3 (.inr (by assumption))]; first | done | rfl)
    | (rw [b4 (.inl (by assumption))]; first | done | rfl)
    | (rw [b4 (.inr (by assumption))]; first | done | rfl)
    | (rw [b5 (by assumption), t3 (by assumption), if_pos (by assumption)]; first | done | rfl)
    | (rw [b5 (by assumption), t3 (by assumption), if_neg (by rw [Bool.not_eq_true]; assumption)]; first | done | rfl)
    | (rw [b5 (by assumption), t2 (by assumption)]; first | done | rfl)
    | (rw [b5 (by assumption), t0 (by assumption) (by assumption), if_pos ⟨by assumption, by assumption⟩]; first | done | rfl)
    | (rw [b5 (by assumption), t0 (by assumption) (by assumption), if_neg (fun q => by have q2 := q.2; contradiction)]; first | done | rfl)
    | (rw [b5 (by assumption), t0 (by assumption) (by assumption), if_neg (fun q => Bool.noConfusion (q.1.symm.trans (by assumption)))]; first | done | rfl)
    | (rw [b6 (by assumption)]; first | done | rfl)
    | (rw [b7 (by assumption)]; first | done | rfl)
    | (rw [b8 (by assumption)]; first | done | rfl)
    | (rw [b9 (by assumption)]; first | done | rfl)
    | skip
  all_goals have ho := oth (op := op) (by assumption) (by assumption) (by assumption) (by assumption) (by assumption) (by assumption) (by assumption) (by assumption) (by assumption) (by assumption) (by assumption) (by assumption)
  all_goals first
    | (rw [bA ho (by assumption)]; first | done | rfl)
    | (rw [bB ho (by assumption), k1 (by assumption)]; first | done | rfl)
    | (rw [bB ho (by assumption), k2 (by assumption)]; first | done | rfl)
    | (rw [bB ho (by assumption), k3 (by assumption)]; first | done | rfl)
    | (rw [bB ho (by assumption), k4 (by assumption) (by assumption) (by assumption), s3 (by assumption)]; first | done | rfl)
    | (have hg := hFg (by assumption)
       cases mr
       · rw [if_neg (by decide)] at hg
         first
           | (exfalso; omega)
           | (rw [bB ho (by assumption), k4 (by assumption) (by assumption) (by assumption), s2 (by assumption) rfl]; first | done | rfl)
       · rw [if_pos rfl] at hg
         first
           | (exfalso; omega)
           | (rw [bB ho (by assumption), k4 (by assumption) (by assumption) (by assumption), s1 (by assumption) rfl]; first | done | rfl))
    | (have hq := hps (by assumption); rw [wrap64 (by omega) (by omega)])
    | (have hq := hps (by assumption); exact wrap64 (by omega) (by omega))
    | (set_option pp.maxSteps 600 in trace_state; sorry)
end Go.Proofs.Ytijinkikmglpcaa
