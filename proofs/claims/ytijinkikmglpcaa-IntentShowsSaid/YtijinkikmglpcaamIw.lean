/-
  Layer 11: to begin a command changes nothing of what is shown.
-/
import Derived.Test.YtijinkikmglpcaamIv
namespace Go.Proofs.Ytijinkikmglpcaa
open Go
set_option linter.unusedVariables false
set_option linter.unusedSimpArgs false
set_option maxRecDepth 100000
set_option maxHeartbeats 16000000

structure Shows (u v : Unt) : Prop where
  all : mdAll v.slot.med = mdAll u.slot.med
  prot : v.slot.prot = u.slot.prot
  kept : u.slot.latch = true → u.slot.present = true → v.slot.present = true
  right : mRight v.slot.med = true
theorem shows_refl {u : Unt} (h : mRight u.slot.med = true) : Shows u u := ⟨rfl, rfl, fun _ h => h, h⟩
theorem chk_fl {s : Slt} {p n : Int} (h : (sCheck s p n false).good = true) (hp : 0 ≤ p) (hr : mRight s.med = true) : (mFl s.med p n).2 = 0 := by
  rw [fl_good h hp, if_pos hr]
theorem sync_shows {u : Unt} {c : Cmd} (hp : 0 ≤ c.pos) (h : mRight u.slot.med = true) : Shows u (iSync u c) := by
  unfold iSync
  split
  · rename_i q
    obtain ⟨a, b⟩ := fl_all u.slot.med c.pos c.n h (chk_fl q.1 hp h)
    exact ⟨b, rfl, fun _ h => h, a⟩
  · exact shows_refl h
theorem begin_shows (u : Unt) (l ls : Int) (c : Cmd) (hp : 0 ≤ c.pos) (h : mRight u.slot.med = true) : Shows u (iBegin u l ls c).1 := by
  have r := shows_refl h
  obtain ⟨s1, s2⟩ := sync_all u.slot h
  have hst : ∀ b, Shows u (iStart u b).1 := fun b => by
    unfold iStart
    split
    · exact ⟨rfl, rfl, fun _ _ => rfl, h⟩
    · split
      · unfold sUnload
        split
        · exact r
        · split
          · exact r
          · rename_i q
            exact ⟨s2, rfl, fun hl => absurd hl q, s1⟩
      · dsimp only
        split
        · refine ⟨s2, ?_, fun _ hq => ?_, s1⟩
          · show (sSync u.slot).prot = _; unfold sSync; split <;> rfl
          · show (sSync u.slot).present = _; unfold sSync; split <;> exact hq
        · exact r
  have hkp : ∀ b, Shows u ⟨(sKeep u.slot b).1, u.caching, u.atts, u.last⟩ := fun b => by
    unfold sKeep
    split
    · exact r
    · exact ⟨rfl, rfl, fun _ h => h, h⟩
  have hbk : Shows u (iBlocks u c).1 := by
    unfold iBlocks
    (repeat' split) <;> try exact r
    exact sync_shows hp h
  unfold iBegin
  (repeat' split) <;> first | exact r | exact ⟨rfl, rfl, fun _ h => h, h⟩ | exact hst _ | exact hkp _ | exact hbk
theorem keep_not {Q : Dty → Bool} {d : Dty} : ∀ (l : List Dty) (i : Nat), d ∈ keepF (fun _ d => Q d) (fun _ _ => true) i l → Q d = false
  | [], i, h => by simp [keepF] at h
  | e :: l, i, h => by
    simp only [keepF, if_true] at h
    split at h
    · exact keep_not l _ h
    · rename_i q
      rcases List.mem_cons.1 h with rfl | h
      · simpa using q
      · exact keep_not l _ h
theorem begin_gone (u : Unt) (l ls : Int) (c : Cmd) (hp : 0 ≤ c.pos) (h : mRight u.slot.med = true) (h4 : clsN c.op = 4) (hs : (iBegin u l ls c).2.sense.good = true) : c.pos ≤ 64 ∧ ∀ d ∈ (iBegin u l ls c).1.slot.med.dirty, 0 ≤ d.pos ∧ d.pos < 64 ∧ ¬ (c.pos ≤ d.pos ∧ (c.n = 0 ∨ d.pos - c.pos < c.n)) := by
  have ho : opOther c.op := by
    unfold opOther
    unfold clsN at h4
    (repeat' split at h4) <;> first | omega | cases h4
  have e : iBegin u l ls c = (iSync u c, iNone (sCheck u.slot c.pos c.n false)) := by
    rw [bgB ho (by rw [h4]; decide), bk4 (by omega) (by omega) (by omega)]
  rw [e] at hs ⊢
  have hg : (sCheck u.slot c.pos c.n false).good = true := hs
  have hl := mdAll_len u.slot.med
  have hf := chk_far2 hg
  obtain ⟨r1, r2, r3⟩ := (right_iff _).1 h
  refine ⟨by omega, fun d hd => ?_⟩
  have hd : d ∈ (iSync u c).slot.med.dirty := hd
  unfold iSync at hd
  rw [if_pos ⟨hg, h⟩] at hd
  have hd : d ∈ (mFl u.slot.med c.pos c.n).1.dirty := hd
  have h2 := chk_fl hg hp h
  unfold mFl at hd h2
  rw [if_neg (by rw [h]; decide)] at hd h2
  split at h2
  · cases h2
  · rename_i q
    rw [if_neg q] at hd
    have hm := r3 d (keep_mem _ _ hd)
    have hn := keep_not (Q := fun d => decide (c.pos ≤ d.pos) && decide (d.pos - c.pos < if c.n = 0 then (u.slot.med.blocks.length : Int) else c.n)) _ _ hd
    simp only [Bool.and_eq_false_iff, decide_eq_false_iff_not] at hn
    refine ⟨by omega, by omega, fun z => ?_⟩
    split at hn <;> omega
theorem c_intentShows (u : Unt) (l ls : Int) (c : Cmd) (hp : InU c.pos) (hn : InI6 c.n) : FnC Try.prog 4 [u.v, .agg [i64 l, i64 ls], c.v] [] (bV true) [] := by
  have hb := fun h => c_ibegin u l ls c ⟨hp⟩ ⟨hn⟩ h
  have hR := c_refRight u.slot.med
  have hA := c_refAll u.slot.med
  have hA2 := c_refAll (iBegin u l ls c).1.slot.med
  have hC := c_refClass c.op
  have hs := begin_shows u l ls c hp.1
  have hg := begin_gone u l ls c hp.1
  have hfw := begin_few u l ls c
  have hal := mdAll_len u.slot.med
  unfold Few2 at hfw
  dsimp only [InU, InI6] at hp hn
  generalize hv : (iBegin u l ls c).1 = v at *
  generalize hi : (iBegin u l ls c).2 = i at *
  clear hv hi
  cases hm : mRight u.slot.med with
  | false =>
    rw [hm] at hR
    clear hs hg hA hA2 hC
    obtain ⟨⟨⟨bs1, ds1⟩, pr1, pt1, la1⟩, ca1, at1, ls1⟩ := v
    obtain ⟨⟨⟨bs, ds⟩, pr, pt, la⟩, ca, atts, lst⟩ := u
    obtain ⟨op, pos, n, pg, bits⟩ := c
    dsimp only [Unt.v, Slt.v, Med.v, Cmd.v] at *
    refine fn_vcI (N := 136) (d := 8) tabOk mixed inlIs_ok 6 Try.func4 rfl rfl rfl ?_
    repeat'
      (conv => whnf
       first
        | (exact trivial)
        | (refine And.intro (by with_reducible rfl) ?_)
        | (refine And.intro (drawI (by kernel_rfl)) ?_)
        | (refine andI ?_ ?_)
        | (refine condT (by assumption) ?_)
        | (refine condF (by assumption) ?_)
        | (refine decT (by assumption) ?_)
        | (refine decF (by assumption) ?_)
        | (refine eqT (by assumption) ?_)
        | (refine eqF (by assumption) ?_)
        | (refine neT (by assumption) ?_)
        | (refine neF (by assumption) ?_)
        | (refine cEq (fun h => ?_) (fun h => ?_))
        | (refine cNe (fun h => ?_) (fun h => ?_))
        | (refine cNot (fun h => ?_) (fun h => ?_))
        | (refine cDec (fun h => ?_) (fun h => ?_))
        | (refine condN_split (fun h => ?_) (fun h => ?_))
        | (refine Exists.intro _ (And.intro (c_alive11) ?_))
        | (refine Exists.intro _ (And.intro (hR) ?_))
        | (refine Exists.intro _ (And.intro rfl ?_))
        | (refine Or.inl (And.intro (by rfl : Nat.ble _ _ = true) ?_))
        | (refine Or.inl (And.intro Cl.lit ?_))
        | (refine Or.inr ?_)
        | (refine Exists.intro (1 : Nat) ?_)
        | (refine Exists.intro _ (And.intro rfl ?_))
        | (fail))
    all_goals try refine Side.mk ?_
    all_goals try dsimp only
    all_goals try refine eqI ?_
    all_goals rfl
  | true =>
    rw [hm] at hR
    obtain ⟨a1, a2, a3, _⟩ := hs hm
    have hg := hg hm
    rw [a1] at hA2
    generalize mdAll u.slot.med = al at *
    obtain ⟨⟨⟨bs1, ds1⟩, pr1, pt1, la1⟩, ca1, at1, ls1⟩ := v
    obtain ⟨⟨⟨bs, ds⟩, pr, pt, la⟩, ca, atts, lst⟩ := u
    obtain ⟨i1, i2, i3, ⟨⟨j1, j2, j3, j4, j5⟩, jl, jt, jr, jb1, jb2, jb3⟩, s1, s2, s3⟩ := i
    obtain ⟨op, pos, n, pg, bits⟩ := c
    dsimp only at a2 a3 hg
    subst a2
    generalize clsN op = cl at *
    dsimp only [Unt.v, Slt.v, Med.v, Cmd.v, Itt.v, Job.v, Sns.v] at *
    obtain ⟨p1, p2, p3⟩ := hfw
    have h3 : (la = true ∧ pr = true ∧ pr1 = true) ∨ (la = true ∧ pr = false) ∨ la = false := by
      cases la <;> cases pr <;> simp_all
    rcases h3 with ⟨rfl, rfl, rfl⟩ | ⟨rfl, rfl⟩ | rfl
    · refine fn_vcI (N := 136) (d := 8) tabOk mixed inlIs_ok 6 Try.func4 rfl rfl rfl ?_
      repeat'
        (conv => whnf
         first
          | (exact trivial)
          | (refine And.intro (by with_reducible rfl) ?_)
          | (refine And.intro (drawI (by kernel_rfl)) ?_)
          | (refine andI ?_ ?_)
          | (refine condT (by assumption) ?_)
          | (refine condF (by assumption) ?_)
          | (refine decT (by assumption) ?_)
          | (refine decF (by assumption) ?_)
          | (refine eqT (by assumption) ?_)
          | (refine eqF (by assumption) ?_)
          | (refine neT (by assumption) ?_)
          | (refine neF (by assumption) ?_)
          | (refine cEq (fun h => ?_) (fun h => ?_))
          | (refine cNe (fun h => ?_) (fun h => ?_))
          | (refine cNot (fun h => ?_) (fun h => ?_))
          | (refine cDec (fun h => ?_) (fun h => ?_))
          | (refine condN_split (fun h => ?_) (fun h => ?_))
          | (refine Exists.intro _ (And.intro (c_alive11) ?_))
          | (refine Exists.intro _ (And.intro (hR) ?_))
          | (refine Exists.intro _ (And.intro (hA) ?_))
          | (refine Exists.intro _ (And.intro (hA2) ?_))
          | (refine Exists.intro _ (And.intro (hb ?_) ?_))
          | (refine Exists.intro _ (And.intro rfl ?_))
          | (refine Or.inl (And.intro (by rfl : Nat.ble _ _ = true) ?_))
          | (refine Or.inl (And.intro Cl.lit ?_))
          | (refine Or.inr ?_)
          | (refine Exists.intro (1 : Nat) ?_)
          | (refine Exists.intro _ (And.intro rfl ?_))
          | (fail))
      all_goals try refine Side.mk ?_
      all_goals try dsimp only
      all_goals try refine eqI ?_
      all_goals first
        | rfl
        | (simp only [List.length_map, len_b] at *; omega)
        | (exfalso; have := a3 (by assumption) (by assumption); simp_all; done)
        | (exfalso; simp_all; done)
        | skip
      all_goals
        conv => whnf
        refine loop_w tabOk (ceN_sound tabOk mixed inlIs_ok 6) mixed 74 (X := Nat) 0 (fun k => [(11, i64 (k : Nat))]) (fun _ => [(7, false, ⟨17, [[i64 i1, i64 i2, bsV i3, i64 j1, u64 j2, i64 j3, i64 j4, i64 j5, i64 jl, i64 jt, bsV jr, i64 jb1, i64 jb2, i64 jb3, i64 s1, i64 s2, i64 s3]], false⟩), (6, false, ⟨10, [[.sl 64 (bs1.map Blk.row), .sl 65 (ds1.map Dty.row), bV true, bV pt1, bV la1, bV ca1, .sl 3 (at1.map Sns.row), i64 ls1.key, i64 ls1.code, i64 ls1.qual]], false⟩), (2, false, ⟨5, [[i64 op, u64 pos, i64 n, i64 pg, i64 bits]], false⟩), (0, false, ⟨10, [[.sl 64 (bs.map Blk.row), .sl 65 (ds.map Dty.row), bV true, bV pt1, bV true, bV ca, .sl 3 (atts.map Sns.row), i64 lst.key, i64 lst.code, i64 lst.qual]], false⟩)]) 8 (fun k => k ≤ al.length) (fun k => al.length - k) (Nat.zero_le _) ?_ ?_
        · repeat'
            (conv => whnf
             first
              | (exact trivial)
              | (refine And.intro (by with_reducible rfl) ?_)
              | (refine And.intro (drawI (by kernel_rfl)) ?_)
              | (refine andI ?_ ?_)
              | (refine condT (by assumption) ?_)
              | (refine condF (by assumption) ?_)
              | (refine decT (by assumption) ?_)
              | (refine decF (by assumption) ?_)
              | (refine eqT (by assumption) ?_)
              | (refine eqF (by assumption) ?_)
              | (refine neT (by assumption) ?_)
              | (refine neF (by assumption) ?_)
              | (refine cEq (fun h => ?_) (fun h => ?_))
              | (refine cNe (fun h => ?_) (fun h => ?_))
              | (refine cNot (fun h => ?_) (fun h => ?_))
              | (refine cDec (fun h => ?_) (fun h => ?_))
              | (refine condN_split (fun h => ?_) (fun h => ?_))
              | (refine Or.inl (And.intro (by rfl : Nat.ble _ _ = true) ?_))
              | (refine Or.inl (And.intro Cl.lit ?_))
              | (refine Or.inr ?_)
              | (refine Exists.intro (1 : Nat) ?_)
              | (refine Exists.intro _ (And.intro rfl ?_))
              | (fail))
          all_goals try refine Side.mk ?_
          all_goals try dsimp only at *
          all_goals try refine eqI ?_
          all_goals first
            | rfl
            | (set_option pp.maxSteps 400 in trace_state; sorry)
        · rintro k hk
          by_cases hkl : k < al.length
          · obtain ⟨x, hx⟩ : ∃ x, al[k]? = some x := ⟨_, List.getElem?_eq_getElem hkl⟩
            have key : ∀ q, eqL x.bs x.bs = q → q = true := fun q hq => by rw [← hq, eqL_blk]; exact decide_eq_true rfl
            repeat'
              (conv => whnf
               first
                | (exact trivial)
                | (refine And.intro (by with_reducible rfl) ?_)
                | (refine And.intro (drawI (by kernel_rfl)) ?_)
                | (refine andI ?_ ?_)
                | (refine condT (by assumption) ?_)
                | (refine condF (by assumption) ?_)
                | (refine decT (by assumption) ?_)
                | (refine decF (by assumption) ?_)
                | (refine eqT (by assumption) ?_)
                | (refine eqF (by assumption) ?_)
                | (refine neT (by assumption) ?_)
                | (refine neF (by assumption) ?_)
                | (refine cEq (fun h => ?_) (fun h => ?_))
                | (refine cNe (fun h => ?_) (fun h => ?_))
                | (refine cNot (fun h => ?_) (fun h => ?_))
                | (refine cDec (fun h => ?_) (fun h => ?_))
                | (refine condN_split (fun h => ?_) (fun h => ?_))
                | (refine Exists.intro _ (And.intro (row_get hx) ?_))
                | (refine Exists.intro _ (And.intro eq_blk ?_))
                | (refine Exists.intro (k + 1) (andI ?_ (andI ?_ ?_)))
                | (refine Exists.intro _ (And.intro rfl ?_))
                | (refine Or.inl (And.intro (by rfl : Nat.ble _ _ = true) ?_))
                | (refine Or.inl (And.intro Cl.lit ?_))
                | (refine Or.inr ?_)
                | (refine Exists.intro (1 : Nat) ?_)
                | (refine Exists.intro _ (And.intro rfl ?_))
                | (fail))
            all_goals try refine Side.mk ?_
            all_goals try dsimp only
            all_goals try refine eqI ?_
            all_goals try simp only [List.length_map] at *
            all_goals first
              | rfl
              | omega
              | (exfalso; exact Bool.noConfusion (key false (by assumption)))
              | (refine congrArg (Value.int IntKind.i64) ?_; rw [wrap64 (by omega) (by omega)]; omega)
              | (set_option pp.maxSteps 400 in trace_state; sorry)
          · repeat'
              (conv => whnf
               first
                | (exact trivial)
                | (refine And.intro (by with_reducible rfl) ?_)
                | (refine And.intro (drawI (by kernel_rfl)) ?_)
                | (refine andI ?_ ?_)
                | (refine condT (by assumption) ?_)
                | (refine condF (by assumption) ?_)
                | (refine decT (by assumption) ?_)
                | (refine decF (by assumption) ?_)
                | (refine eqT (by assumption) ?_)
                | (refine eqF (by assumption) ?_)
                | (refine neT (by assumption) ?_)
                | (refine neF (by assumption) ?_)
                | (refine cEq (fun h => ?_) (fun h => ?_))
                | (refine cNe (fun h => ?_) (fun h => ?_))
                | (refine cNot (fun h => ?_) (fun h => ?_))
                | (refine cDec (fun h => ?_) (fun h => ?_))
                | (refine condN_split (fun h => ?_) (fun h => ?_))
                | (refine Exists.intro _ (And.intro (hC) ?_))
                | (refine Exists.intro _ (And.intro eq_sns ?_))
                | (refine Exists.intro _ (And.intro rfl ?_))
                | (refine Or.inl (And.intro (by rfl : Nat.ble _ _ = true) ?_))
                | (refine Or.inl (And.intro Cl.lit ?_))
                | (refine Or.inr ?_)
                | (refine Exists.intro (1 : Nat) ?_)
                | (refine Exists.intro _ (And.intro rfl ?_))
                | (fail))
            all_goals try refine Side.mk ?_
            all_goals try dsimp only
            all_goals try refine eqI ?_
            all_goals try simp only [List.length_map] at *
            all_goals first
              | rfl
              | (exfalso; omega)
              | skip
            have hgd := hg hm (by assumption) (by assumption)
            conv => whnf
            refine loop_w tabOk (ceN_sound tabOk mixed inlIs_ok 6) mixed 99 (X := Nat) 0 (fun k => [(12, i64 (k : Nat))]) (fun _ => [(6, false, ⟨10, [[.sl 64 (bs1.map Blk.row), .sl 65 (ds1.map Dty.row), bV true, bV pt1, bV la1, bV ca1, .sl 3 (at1.map Sns.row), i64 ls1.key, i64 ls1.code, i64 ls1.qual]], false⟩), (2, false, ⟨5, [[i64 op, u64 pos, i64 n, i64 pg, i64 bits]], false⟩)]) 8 (fun k => k ≤ ds1.length) (fun k => ds1.length - k) (Nat.zero_le _) ?_ ?_
            · repeat'
                (conv => whnf
                 first
                  | (exact trivial)
                  | (refine And.intro (by with_reducible rfl) ?_)
                  | (refine And.intro (drawI (by kernel_rfl)) ?_)
                  | (refine andI ?_ ?_)
                  | (refine condT (by assumption) ?_)
                  | (refine condF (by assumption) ?_)
                  | (refine decT (by assumption) ?_)
                  | (refine decF (by assumption) ?_)
                  | (refine eqT (by assumption) ?_)
                  | (refine eqF (by assumption) ?_)
                  | (refine neT (by assumption) ?_)
                  | (refine neF (by assumption) ?_)
                  | (refine cEq (fun h => ?_) (fun h => ?_))
                  | (refine cNe (fun h => ?_) (fun h => ?_))
                  | (refine cNot (fun h => ?_) (fun h => ?_))
                  | (refine cDec (fun h => ?_) (fun h => ?_))
                  | (refine condN_split (fun h => ?_) (fun h => ?_))
                  | (refine Or.inl (And.intro (by rfl : Nat.ble _ _ = true) ?_))
                  | (refine Or.inl (And.intro Cl.lit ?_))
                  | (refine Or.inr ?_)
                  | (refine Exists.intro (1 : Nat) ?_)
                  | (refine Exists.intro _ (And.intro rfl ?_))
                  | (fail))
              all_goals try refine Side.mk ?_
              all_goals try dsimp only at *
              all_goals try refine eqI ?_
              all_goals first
                | rfl
                | (set_option pp.maxSteps 400 in trace_state; sorry)
            · rintro k2 hk2
              by_cases hkl2 : k2 < ds1.length
              · obtain ⟨d, hd⟩ : ∃ d, ds1[k2]? = some d := ⟨_, List.getElem?_eq_getElem hkl2⟩
                obtain ⟨g1, g2⟩ := hgd
                have g3 := g2 d (List.mem_of_getElem? hd)
                have w1 : IntKind.u64.wrap d.pos = d.pos := by rw [wrapu64]; omega
                have w2 : IntKind.i64.wrap pos = pos := wrap64 (by omega) (by omega)
                have w3 : IntKind.i64.wrap (d.pos - IntKind.i64.wrap pos) = d.pos - pos := by rw [w2]; exact wrap64 (by omega) (by omega)
                repeat'
                  (conv => whnf
                   first
                    | (exact trivial)
                    | (refine And.intro (by with_reducible rfl) ?_)
                    | (refine And.intro (drawI (by kernel_rfl)) ?_)
                    | (refine andI ?_ ?_)
                    | (refine condT (by assumption) ?_)
                    | (refine condF (by assumption) ?_)
                    | (refine decT (by assumption) ?_)
                    | (refine decF (by assumption) ?_)
                    | (refine eqT (by assumption) ?_)
                    | (refine eqF (by assumption) ?_)
                    | (refine neT (by assumption) ?_)
                    | (refine neF (by assumption) ?_)
                    | (refine cEq (fun h => ?_) (fun h => ?_))
                    | (refine cNe (fun h => ?_) (fun h => ?_))
                    | (refine cNot (fun h => ?_) (fun h => ?_))
                    | (refine cDec (fun h => ?_) (fun h => ?_))
                    | (refine condN_split (fun h => ?_) (fun h => ?_))
                    | (refine Exists.intro _ (And.intro (row_get hd) ?_))
                    | (refine Exists.intro (k2 + 1) (andI ?_ (andI ?_ ?_)))
                    | (refine Exists.intro _ (And.intro rfl ?_))
                    | (refine Or.inl (And.intro (by rfl : Nat.ble _ _ = true) ?_))
                    | (refine Or.inl (And.intro Cl.lit ?_))
                    | (refine Or.inr ?_)
                    | (refine Exists.intro (1 : Nat) ?_)
                    | (refine Exists.intro _ (And.intro rfl ?_))
                    | (fail))
                all_goals try refine Side.mk ?_
                all_goals try dsimp only
                all_goals try refine eqI ?_
                all_goals try simp only [List.length_map, w1, w3] at *
                all_goals first
                  | rfl
                  | omega
                  | (exfalso; omega)
                  | (refine congrArg (Value.int IntKind.i64) ?_; rw [wrap64 (by omega) (by omega)]; omega)
                  | (set_option pp.maxSteps 400 in trace_state; sorry)
              · repeat'
                  (conv => whnf
                   first
                    | (exact trivial)
                    | (refine And.intro (by with_reducible rfl) ?_)
                    | (refine And.intro (drawI (by kernel_rfl)) ?_)
                    | (refine andI ?_ ?_)
                    | (refine condT (by assumption) ?_)
                    | (refine condF (by assumption) ?_)
                    | (refine decT (by assumption) ?_)
                    | (refine decF (by assumption) ?_)
                    | (refine eqT (by assumption) ?_)
                    | (refine eqF (by assumption) ?_)
                    | (refine neT (by assumption) ?_)
                    | (refine neF (by assumption) ?_)
                    | (refine cEq (fun h => ?_) (fun h => ?_))
                    | (refine cNe (fun h => ?_) (fun h => ?_))
                    | (refine cNot (fun h => ?_) (fun h => ?_))
                    | (refine cDec (fun h => ?_) (fun h => ?_))
                    | (refine condN_split (fun h => ?_) (fun h => ?_))
                    | (refine Exists.intro _ (And.intro rfl ?_))
                    | (refine Or.inl (And.intro (by rfl : Nat.ble _ _ = true) ?_))
                    | (refine Or.inl (And.intro Cl.lit ?_))
                    | (refine Or.inr ?_)
                    | (refine Exists.intro (1 : Nat) ?_)
                    | (refine Exists.intro _ (And.intro rfl ?_))
                    | (fail))
                all_goals try refine Side.mk ?_
                all_goals try dsimp only
                all_goals try refine eqI ?_
                all_goals try simp only [List.length_map] at *
                all_goals first
                  | rfl
                  | (exfalso; omega)
                  | (set_option pp.maxSteps 400 in trace_state; sorry)

    · refine fn_vcI (N := 136) (d := 8) tabOk mixed inlIs_ok 6 Try.func4 rfl rfl rfl ?_
      repeat'
        (conv => whnf
         first
          | (exact trivial)
          | (refine And.intro (by with_reducible rfl) ?_)
          | (refine And.intro (drawI (by kernel_rfl)) ?_)
          | (refine andI ?_ ?_)
          | (refine condT (by assumption) ?_)
          | (refine condF (by assumption) ?_)
          | (refine decT (by assumption) ?_)
          | (refine decF (by assumption) ?_)
          | (refine eqT (by assumption) ?_)
          | (refine eqF (by assumption) ?_)
          | (refine neT (by assumption) ?_)
          | (refine neF (by assumption) ?_)
          | (refine cEq (fun h => ?_) (fun h => ?_))
          | (refine cNe (fun h => ?_) (fun h => ?_))
          | (refine cNot (fun h => ?_) (fun h => ?_))
          | (refine cDec (fun h => ?_) (fun h => ?_))
          | (refine condN_split (fun h => ?_) (fun h => ?_))
          | (refine Exists.intro _ (And.intro (c_alive11) ?_))
          | (refine Exists.intro _ (And.intro (hR) ?_))
          | (refine Exists.intro _ (And.intro (hA) ?_))
          | (refine Exists.intro _ (And.intro (hA2) ?_))
          | (refine Exists.intro _ (And.intro (hb ?_) ?_))
          | (refine Exists.intro _ (And.intro rfl ?_))
          | (refine Or.inl (And.intro (by rfl : Nat.ble _ _ = true) ?_))
          | (refine Or.inl (And.intro Cl.lit ?_))
          | (refine Or.inr ?_)
          | (refine Exists.intro (1 : Nat) ?_)
          | (refine Exists.intro _ (And.intro rfl ?_))
          | (fail))
      all_goals try refine Side.mk ?_
      all_goals try dsimp only
      all_goals try refine eqI ?_
      all_goals first
        | rfl
        | (simp only [List.length_map, len_b] at *; omega)
        | (exfalso; have := a3 (by assumption) (by assumption); simp_all; done)
        | (exfalso; simp_all; done)
        | skip
      all_goals
        conv => whnf
        refine loop_w tabOk (ceN_sound tabOk mixed inlIs_ok 6) mixed 74 (X := Nat) 0 (fun k => [(11, i64 (k : Nat))]) (fun _ => [(7, false, ⟨17, [[i64 i1, i64 i2, bsV i3, i64 j1, u64 j2, i64 j3, i64 j4, i64 j5, i64 jl, i64 jt, bsV jr, i64 jb1, i64 jb2, i64 jb3, i64 s1, i64 s2, i64 s3]], false⟩), (6, false, ⟨10, [[.sl 64 (bs1.map Blk.row), .sl 65 (ds1.map Dty.row), bV pr1, bV pt1, bV la1, bV ca1, .sl 3 (at1.map Sns.row), i64 ls1.key, i64 ls1.code, i64 ls1.qual]], false⟩), (2, false, ⟨5, [[i64 op, u64 pos, i64 n, i64 pg, i64 bits]], false⟩), (0, false, ⟨10, [[.sl 64 (bs.map Blk.row), .sl 65 (ds.map Dty.row), bV false, bV pt1, bV true, bV ca, .sl 3 (atts.map Sns.row), i64 lst.key, i64 lst.code, i64 lst.qual]], false⟩)]) 8 (fun k => k ≤ al.length) (fun k => al.length - k) (Nat.zero_le _) ?_ ?_
        · repeat'
            (conv => whnf
             first
              | (exact trivial)
              | (refine And.intro (by with_reducible rfl) ?_)
              | (refine And.intro (drawI (by kernel_rfl)) ?_)
              | (refine andI ?_ ?_)
              | (refine condT (by assumption) ?_)
              | (refine condF (by assumption) ?_)
              | (refine decT (by assumption) ?_)
              | (refine decF (by assumption) ?_)
              | (refine eqT (by assumption) ?_)
              | (refine eqF (by assumption) ?_)
              | (refine neT (by assumption) ?_)
              | (refine neF (by assumption) ?_)
              | (refine cEq (fun h => ?_) (fun h => ?_))
              | (refine cNe (fun h => ?_) (fun h => ?_))
              | (refine cNot (fun h => ?_) (fun h => ?_))
              | (refine cDec (fun h => ?_) (fun h => ?_))
              | (refine condN_split (fun h => ?_) (fun h => ?_))
              | (refine Or.inl (And.intro (by rfl : Nat.ble _ _ = true) ?_))
              | (refine Or.inl (And.intro Cl.lit ?_))
              | (refine Or.inr ?_)
              | (refine Exists.intro (1 : Nat) ?_)
              | (refine Exists.intro _ (And.intro rfl ?_))
              | (fail))
          all_goals try refine Side.mk ?_
          all_goals try dsimp only at *
          all_goals try refine eqI ?_
          all_goals first
            | rfl
            | (set_option pp.maxSteps 400 in trace_state; sorry)
        · rintro k hk
          by_cases hkl : k < al.length
          · obtain ⟨x, hx⟩ : ∃ x, al[k]? = some x := ⟨_, List.getElem?_eq_getElem hkl⟩
            have key : ∀ q, eqL x.bs x.bs = q → q = true := fun q hq => by rw [← hq, eqL_blk]; exact decide_eq_true rfl
            repeat'
              (conv => whnf
               first
                | (exact trivial)
                | (refine And.intro (by with_reducible rfl) ?_)
                | (refine And.intro (drawI (by kernel_rfl)) ?_)
                | (refine andI ?_ ?_)
                | (refine condT (by assumption) ?_)
                | (refine condF (by assumption) ?_)
                | (refine decT (by assumption) ?_)
                | (refine decF (by assumption) ?_)
                | (refine eqT (by assumption) ?_)
                | (refine eqF (by assumption) ?_)
                | (refine neT (by assumption) ?_)
                | (refine neF (by assumption) ?_)
                | (refine cEq (fun h => ?_) (fun h => ?_))
                | (refine cNe (fun h => ?_) (fun h => ?_))
                | (refine cNot (fun h => ?_) (fun h => ?_))
                | (refine cDec (fun h => ?_) (fun h => ?_))
                | (refine condN_split (fun h => ?_) (fun h => ?_))
                | (refine Exists.intro _ (And.intro (row_get hx) ?_))
                | (refine Exists.intro _ (And.intro eq_blk ?_))
                | (refine Exists.intro (k + 1) (andI ?_ (andI ?_ ?_)))
                | (refine Exists.intro _ (And.intro rfl ?_))
                | (refine Or.inl (And.intro (by rfl : Nat.ble _ _ = true) ?_))
                | (refine Or.inl (And.intro Cl.lit ?_))
                | (refine Or.inr ?_)
                | (refine Exists.intro (1 : Nat) ?_)
                | (refine Exists.intro _ (And.intro rfl ?_))
                | (fail))
            all_goals try refine Side.mk ?_
            all_goals try dsimp only
            all_goals try refine eqI ?_
            all_goals try simp only [List.length_map] at *
            all_goals first
              | rfl
              | omega
              | (exfalso; exact Bool.noConfusion (key false (by assumption)))
              | (refine congrArg (Value.int IntKind.i64) ?_; rw [wrap64 (by omega) (by omega)]; omega)
              | (set_option pp.maxSteps 400 in trace_state; sorry)
          · repeat'
              (conv => whnf
               first
                | (exact trivial)
                | (refine And.intro (by with_reducible rfl) ?_)
                | (refine And.intro (drawI (by kernel_rfl)) ?_)
                | (refine andI ?_ ?_)
                | (refine condT (by assumption) ?_)
                | (refine condF (by assumption) ?_)
                | (refine decT (by assumption) ?_)
                | (refine decF (by assumption) ?_)
                | (refine eqT (by assumption) ?_)
                | (refine eqF (by assumption) ?_)
                | (refine neT (by assumption) ?_)
                | (refine neF (by assumption) ?_)
                | (refine cEq (fun h => ?_) (fun h => ?_))
                | (refine cNe (fun h => ?_) (fun h => ?_))
                | (refine cNot (fun h => ?_) (fun h => ?_))
                | (refine cDec (fun h => ?_) (fun h => ?_))
                | (refine condN_split (fun h => ?_) (fun h => ?_))
                | (refine Exists.intro _ (And.intro (hC) ?_))
                | (refine Exists.intro _ (And.intro eq_sns ?_))
                | (refine Exists.intro _ (And.intro rfl ?_))
                | (refine Or.inl (And.intro (by rfl : Nat.ble _ _ = true) ?_))
                | (refine Or.inl (And.intro Cl.lit ?_))
                | (refine Or.inr ?_)
                | (refine Exists.intro (1 : Nat) ?_)
                | (refine Exists.intro _ (And.intro rfl ?_))
                | (fail))
            all_goals try refine Side.mk ?_
            all_goals try dsimp only
            all_goals try refine eqI ?_
            all_goals try simp only [List.length_map] at *
            all_goals first
              | rfl
              | (exfalso; omega)
              | skip
            have hgd := hg hm (by assumption) (by assumption)
            conv => whnf
            refine loop_w tabOk (ceN_sound tabOk mixed inlIs_ok 6) mixed 99 (X := Nat) 0 (fun k => [(12, i64 (k : Nat))]) (fun _ => [(6, false, ⟨10, [[.sl 64 (bs1.map Blk.row), .sl 65 (ds1.map Dty.row), bV pr1, bV pt1, bV la1, bV ca1, .sl 3 (at1.map Sns.row), i64 ls1.key, i64 ls1.code, i64 ls1.qual]], false⟩), (2, false, ⟨5, [[i64 op, u64 pos, i64 n, i64 pg, i64 bits]], false⟩)]) 8 (fun k => k ≤ ds1.length) (fun k => ds1.length - k) (Nat.zero_le _) ?_ ?_
            · repeat'
                (conv => whnf
                 first
                  | (exact trivial)
                  | (refine And.intro (by with_reducible rfl) ?_)
                  | (refine And.intro (drawI (by kernel_rfl)) ?_)
                  | (refine andI ?_ ?_)
                  | (refine condT (by assumption) ?_)
                  | (refine condF (by assumption) ?_)
                  | (refine decT (by assumption) ?_)
                  | (refine decF (by assumption) ?_)
                  | (refine eqT (by assumption) ?_)
                  | (refine eqF (by assumption) ?_)
                  | (refine neT (by assumption) ?_)
                  | (refine neF (by assumption) ?_)
                  | (refine cEq (fun h => ?_) (fun h => ?_))
                  | (refine cNe (fun h => ?_) (fun h => ?_))
                  | (refine cNot (fun h => ?_) (fun h => ?_))
                  | (refine cDec (fun h => ?_) (fun h => ?_))
                  | (refine condN_split (fun h => ?_) (fun h => ?_))
                  | (refine Or.inl (And.intro (by rfl : Nat.ble _ _ = true) ?_))
                  | (refine Or.inl (And.intro Cl.lit ?_))
                  | (refine Or.inr ?_)
                  | (refine Exists.intro (1 : Nat) ?_)
                  | (refine Exists.intro _ (And.intro rfl ?_))
                  | (fail))
              all_goals try refine Side.mk ?_
              all_goals try dsimp only at *
              all_goals try refine eqI ?_
              all_goals first
                | rfl
                | (set_option pp.maxSteps 400 in trace_state; sorry)
            · rintro k2 hk2
              by_cases hkl2 : k2 < ds1.length
              · obtain ⟨d, hd⟩ : ∃ d, ds1[k2]? = some d := ⟨_, List.getElem?_eq_getElem hkl2⟩
                obtain ⟨g1, g2⟩ := hgd
                have g3 := g2 d (List.mem_of_getElem? hd)
                have w1 : IntKind.u64.wrap d.pos = d.pos := by rw [wrapu64]; omega
                have w2 : IntKind.i64.wrap pos = pos := wrap64 (by omega) (by omega)
                have w3 : IntKind.i64.wrap (d.pos - IntKind.i64.wrap pos) = d.pos - pos := by rw [w2]; exact wrap64 (by omega) (by omega)
                repeat'
                  (conv => whnf
                   first
                    | (exact trivial)
                    | (refine And.intro (by with_reducible rfl) ?_)
                    | (refine And.intro (drawI (by kernel_rfl)) ?_)
                    | (refine andI ?_ ?_)
                    | (refine condT (by assumption) ?_)
                    | (refine condF (by assumption) ?_)
                    | (refine decT (by assumption) ?_)
                    | (refine decF (by assumption) ?_)
                    | (refine eqT (by assumption) ?_)
                    | (refine eqF (by assumption) ?_)
                    | (refine neT (by assumption) ?_)
                    | (refine neF (by assumption) ?_)
                    | (refine cEq (fun h => ?_) (fun h => ?_))
                    | (refine cNe (fun h => ?_) (fun h => ?_))
                    | (refine cNot (fun h => ?_) (fun h => ?_))
                    | (refine cDec (fun h => ?_) (fun h => ?_))
                    | (refine condN_split (fun h => ?_) (fun h => ?_))
                    | (refine Exists.intro _ (And.intro (row_get hd) ?_))
                    | (refine Exists.intro (k2 + 1) (andI ?_ (andI ?_ ?_)))
                    | (refine Exists.intro _ (And.intro rfl ?_))
                    | (refine Or.inl (And.intro (by rfl : Nat.ble _ _ = true) ?_))
                    | (refine Or.inl (And.intro Cl.lit ?_))
                    | (refine Or.inr ?_)
                    | (refine Exists.intro (1 : Nat) ?_)
                    | (refine Exists.intro _ (And.intro rfl ?_))
                    | (fail))
                all_goals try refine Side.mk ?_
                all_goals try dsimp only
                all_goals try refine eqI ?_
                all_goals try simp only [List.length_map, w1, w3] at *
                all_goals first
                  | rfl
                  | omega
                  | (exfalso; omega)
                  | (refine congrArg (Value.int IntKind.i64) ?_; rw [wrap64 (by omega) (by omega)]; omega)
                  | (set_option pp.maxSteps 400 in trace_state; sorry)
              · repeat'
                  (conv => whnf
                   first
                    | (exact trivial)
                    | (refine And.intro (by with_reducible rfl) ?_)
                    | (refine And.intro (drawI (by kernel_rfl)) ?_)
                    | (refine andI ?_ ?_)
                    | (refine condT (by assumption) ?_)
                    | (refine condF (by assumption) ?_)
                    | (refine decT (by assumption) ?_)
                    | (refine decF (by assumption) ?_)
                    | (refine eqT (by assumption) ?_)
                    | (refine eqF (by assumption) ?_)
                    | (refine neT (by assumption) ?_)
                    | (refine neF (by assumption) ?_)
                    | (refine cEq (fun h => ?_) (fun h => ?_))
                    | (refine cNe (fun h => ?_) (fun h => ?_))
                    | (refine cNot (fun h => ?_) (fun h => ?_))
                    | (refine cDec (fun h => ?_) (fun h => ?_))
                    | (refine condN_split (fun h => ?_) (fun h => ?_))
                    | (refine Exists.intro _ (And.intro rfl ?_))
                    | (refine Or.inl (And.intro (by rfl : Nat.ble _ _ = true) ?_))
                    | (refine Or.inl (And.intro Cl.lit ?_))
                    | (refine Or.inr ?_)
                    | (refine Exists.intro (1 : Nat) ?_)
                    | (refine Exists.intro _ (And.intro rfl ?_))
                    | (fail))
                all_goals try refine Side.mk ?_
                all_goals try dsimp only
                all_goals try refine eqI ?_
                all_goals try simp only [List.length_map] at *
                all_goals first
                  | rfl
                  | (exfalso; omega)
                  | (set_option pp.maxSteps 400 in trace_state; sorry)

    · refine fn_vcI (N := 136) (d := 8) tabOk mixed inlIs_ok 6 Try.func4 rfl rfl rfl ?_
      repeat'
        (conv => whnf
         first
          | (exact trivial)
          | (refine And.intro (by with_reducible rfl) ?_)
          | (refine And.intro (drawI (by kernel_rfl)) ?_)
          | (refine andI ?_ ?_)
          | (refine condT (by assumption) ?_)
          | (refine condF (by assumption) ?_)
          | (refine decT (by assumption) ?_)
          | (refine decF (by assumption) ?_)
          | (refine eqT (by assumption) ?_)
          | (refine eqF (by assumption) ?_)
          | (refine neT (by assumption) ?_)
          | (refine neF (by assumption) ?_)
          | (refine cEq (fun h => ?_) (fun h => ?_))
          | (refine cNe (fun h => ?_) (fun h => ?_))
          | (refine cNot (fun h => ?_) (fun h => ?_))
          | (refine cDec (fun h => ?_) (fun h => ?_))
          | (refine condN_split (fun h => ?_) (fun h => ?_))
          | (refine Exists.intro _ (And.intro (c_alive11) ?_))
          | (refine Exists.intro _ (And.intro (hR) ?_))
          | (refine Exists.intro _ (And.intro (hA) ?_))
          | (refine Exists.intro _ (And.intro (hA2) ?_))
          | (refine Exists.intro _ (And.intro (hb ?_) ?_))
          | (refine Exists.intro _ (And.intro rfl ?_))
          | (refine Or.inl (And.intro (by rfl : Nat.ble _ _ = true) ?_))
          | (refine Or.inl (And.intro Cl.lit ?_))
          | (refine Or.inr ?_)
          | (refine Exists.intro (1 : Nat) ?_)
          | (refine Exists.intro _ (And.intro rfl ?_))
          | (fail))
      all_goals try refine Side.mk ?_
      all_goals try dsimp only
      all_goals try refine eqI ?_
      all_goals first
        | rfl
        | (simp only [List.length_map, len_b] at *; omega)
        | (exfalso; have := a3 (by assumption) (by assumption); simp_all; done)
        | (exfalso; simp_all; done)
        | skip
      all_goals
        conv => whnf
        refine loop_w tabOk (ceN_sound tabOk mixed inlIs_ok 6) mixed 74 (X := Nat) 0 (fun k => [(11, i64 (k : Nat))]) (fun _ => [(7, false, ⟨17, [[i64 i1, i64 i2, bsV i3, i64 j1, u64 j2, i64 j3, i64 j4, i64 j5, i64 jl, i64 jt, bsV jr, i64 jb1, i64 jb2, i64 jb3, i64 s1, i64 s2, i64 s3]], false⟩), (6, false, ⟨10, [[.sl 64 (bs1.map Blk.row), .sl 65 (ds1.map Dty.row), bV pr1, bV pt1, bV la1, bV ca1, .sl 3 (at1.map Sns.row), i64 ls1.key, i64 ls1.code, i64 ls1.qual]], false⟩), (2, false, ⟨5, [[i64 op, u64 pos, i64 n, i64 pg, i64 bits]], false⟩), (0, false, ⟨10, [[.sl 64 (bs.map Blk.row), .sl 65 (ds.map Dty.row), bV pr, bV pt1, bV false, bV ca, .sl 3 (atts.map Sns.row), i64 lst.key, i64 lst.code, i64 lst.qual]], false⟩)]) 8 (fun k => k ≤ al.length) (fun k => al.length - k) (Nat.zero_le _) ?_ ?_
        · repeat'
            (conv => whnf
             first
              | (exact trivial)
              | (refine And.intro (by with_reducible rfl) ?_)
              | (refine And.intro (drawI (by kernel_rfl)) ?_)
              | (refine andI ?_ ?_)
              | (refine condT (by assumption) ?_)
              | (refine condF (by assumption) ?_)
              | (refine decT (by assumption) ?_)
              | (refine decF (by assumption) ?_)
              | (refine eqT (by assumption) ?_)
              | (refine eqF (by assumption) ?_)
              | (refine neT (by assumption) ?_)
              | (refine neF (by assumption) ?_)
              | (refine cEq (fun h => ?_) (fun h => ?_))
              | (refine cNe (fun h => ?_) (fun h => ?_))
              | (refine cNot (fun h => ?_) (fun h => ?_))
              | (refine cDec (fun h => ?_) (fun h => ?_))
              | (refine condN_split (fun h => ?_) (fun h => ?_))
              | (refine Or.inl (And.intro (by rfl : Nat.ble _ _ = true) ?_))
              | (refine Or.inl (And.intro Cl.lit ?_))
              | (refine Or.inr ?_)
              | (refine Exists.intro (1 : Nat) ?_)
              | (refine Exists.intro _ (And.intro rfl ?_))
              | (fail))
          all_goals try refine Side.mk ?_
          all_goals try dsimp only at *
          all_goals try refine eqI ?_
          all_goals first
            | rfl
            | (set_option pp.maxSteps 400 in trace_state; sorry)
        · rintro k hk
          by_cases hkl : k < al.length
          · obtain ⟨x, hx⟩ : ∃ x, al[k]? = some x := ⟨_, List.getElem?_eq_getElem hkl⟩
            have key : ∀ q, eqL x.bs x.bs = q → q = true := fun q hq => by rw [← hq, eqL_blk]; exact decide_eq_true rfl
            repeat'
              (conv => whnf
               first
                | (exact trivial)
                | (refine And.intro (by with_reducible rfl) ?_)
                | (refine And.intro (drawI (by kernel_rfl)) ?_)
                | (refine andI ?_ ?_)
                | (refine condT (by assumption) ?_)
                | (refine condF (by assumption) ?_)
                | (refine decT (by assumption) ?_)
                | (refine decF (by assumption) ?_)
                | (refine eqT (by assumption) ?_)
                | (refine eqF (by assumption) ?_)
                | (refine neT (by assumption) ?_)
                | (refine neF (by assumption) ?_)
                | (refine cEq (fun h => ?_) (fun h => ?_))
                | (refine cNe (fun h => ?_) (fun h => ?_))
                | (refine cNot (fun h => ?_) (fun h => ?_))
                | (refine cDec (fun h => ?_) (fun h => ?_))
                | (refine condN_split (fun h => ?_) (fun h => ?_))
                | (refine Exists.intro _ (And.intro (row_get hx) ?_))
                | (refine Exists.intro _ (And.intro eq_blk ?_))
                | (refine Exists.intro (k + 1) (andI ?_ (andI ?_ ?_)))
                | (refine Exists.intro _ (And.intro rfl ?_))
                | (refine Or.inl (And.intro (by rfl : Nat.ble _ _ = true) ?_))
                | (refine Or.inl (And.intro Cl.lit ?_))
                | (refine Or.inr ?_)
                | (refine Exists.intro (1 : Nat) ?_)
                | (refine Exists.intro _ (And.intro rfl ?_))
                | (fail))
            all_goals try refine Side.mk ?_
            all_goals try dsimp only
            all_goals try refine eqI ?_
            all_goals try simp only [List.length_map] at *
            all_goals first
              | rfl
              | omega
              | (exfalso; exact Bool.noConfusion (key false (by assumption)))
              | (refine congrArg (Value.int IntKind.i64) ?_; rw [wrap64 (by omega) (by omega)]; omega)
              | (set_option pp.maxSteps 400 in trace_state; sorry)
          · repeat'
              (conv => whnf
               first
                | (exact trivial)
                | (refine And.intro (by with_reducible rfl) ?_)
                | (refine And.intro (drawI (by kernel_rfl)) ?_)
                | (refine andI ?_ ?_)
                | (refine condT (by assumption) ?_)
                | (refine condF (by assumption) ?_)
                | (refine decT (by assumption) ?_)
                | (refine decF (by assumption) ?_)
                | (refine eqT (by assumption) ?_)
                | (refine eqF (by assumption) ?_)
                | (refine neT (by assumption) ?_)
                | (refine neF (by assumption) ?_)
                | (refine cEq (fun h => ?_) (fun h => ?_))
                | (refine cNe (fun h => ?_) (fun h => ?_))
                | (refine cNot (fun h => ?_) (fun h => ?_))
                | (refine cDec (fun h => ?_) (fun h => ?_))
                | (refine condN_split (fun h => ?_) (fun h => ?_))
                | (refine Exists.intro _ (And.intro (hC) ?_))
                | (refine Exists.intro _ (And.intro eq_sns ?_))
                | (refine Exists.intro _ (And.intro rfl ?_))
                | (refine Or.inl (And.intro (by rfl : Nat.ble _ _ = true) ?_))
                | (refine Or.inl (And.intro Cl.lit ?_))
                | (refine Or.inr ?_)
                | (refine Exists.intro (1 : Nat) ?_)
                | (refine Exists.intro _ (And.intro rfl ?_))
                | (fail))
            all_goals try refine Side.mk ?_
            all_goals try dsimp only
            all_goals try refine eqI ?_
            all_goals try simp only [List.length_map] at *
            all_goals first
              | rfl
              | (exfalso; omega)
              | skip
            have hgd := hg hm (by assumption) (by assumption)
            conv => whnf
            refine loop_w tabOk (ceN_sound tabOk mixed inlIs_ok 6) mixed 99 (X := Nat) 0 (fun k => [(12, i64 (k : Nat))]) (fun _ => [(6, false, ⟨10, [[.sl 64 (bs1.map Blk.row), .sl 65 (ds1.map Dty.row), bV pr1, bV pt1, bV la1, bV ca1, .sl 3 (at1.map Sns.row), i64 ls1.key, i64 ls1.code, i64 ls1.qual]], false⟩), (2, false, ⟨5, [[i64 op, u64 pos, i64 n, i64 pg, i64 bits]], false⟩)]) 8 (fun k => k ≤ ds1.length) (fun k => ds1.length - k) (Nat.zero_le _) ?_ ?_
            · repeat'
                (conv => whnf
                 first
                  | (exact trivial)
                  | (refine And.intro (by with_reducible rfl) ?_)
                  | (refine And.intro (drawI (by kernel_rfl)) ?_)
                  | (refine andI ?_ ?_)
                  | (refine condT (by assumption) ?_)
                  | (refine condF (by assumption) ?_)
                  | (refine decT (by assumption) ?_)
                  | (refine decF (by assumption) ?_)
                  | (refine eqT (by assumption) ?_)
                  | (refine eqF (by assumption) ?_)
                  | (refine neT (by assumption) ?_)
                  | (refine neF (by assumption) ?_)
                  | (refine cEq (fun h => ?_) (fun h => ?_))
                  | (refine cNe (fun h => ?_) (fun h => ?_))
                  | (refine cNot (fun h => ?_) (fun h => ?_))
                  | (refine cDec (fun h => ?_) (fun h => ?_))
                  | (refine condN_split (fun h => ?_) (fun h => ?_))
                  | (refine Or.inl (And.intro (by rfl : Nat.ble _ _ = true) ?_))
                  | (refine Or.inl (And.intro Cl.lit ?_))
                  | (refine Or.inr ?_)
                  | (refine Exists.intro (1 : Nat) ?_)
                  | (refine Exists.intro _ (And.intro rfl ?_))
                  | (fail))
              all_goals try refine Side.mk ?_
              all_goals try dsimp only at *
              all_goals try refine eqI ?_
              all_goals first
                | rfl
                | (set_option pp.maxSteps 400 in trace_state; sorry)
            · rintro k2 hk2
              by_cases hkl2 : k2 < ds1.length
              · obtain ⟨d, hd⟩ : ∃ d, ds1[k2]? = some d := ⟨_, List.getElem?_eq_getElem hkl2⟩
                obtain ⟨g1, g2⟩ := hgd
                have g3 := g2 d (List.mem_of_getElem? hd)
                have w1 : IntKind.u64.wrap d.pos = d.pos := by rw [wrapu64]; omega
                have w2 : IntKind.i64.wrap pos = pos := wrap64 (by omega) (by omega)
                have w3 : IntKind.i64.wrap (d.pos - IntKind.i64.wrap pos) = d.pos - pos := by rw [w2]; exact wrap64 (by omega) (by omega)
                repeat'
                  (conv => whnf
                   first
                    | (exact trivial)
                    | (refine And.intro (by with_reducible rfl) ?_)
                    | (refine And.intro (drawI (by kernel_rfl)) ?_)
                    | (refine andI ?_ ?_)
                    | (refine condT (by assumption) ?_)
                    | (refine condF (by assumption) ?_)
                    | (refine decT (by assumption) ?_)
                    | (refine decF (by assumption) ?_)
                    | (refine eqT (by assumption) ?_)
                    | (refine eqF (by assumption) ?_)
                    | (refine neT (by assumption) ?_)
                    | (refine neF (by assumption) ?_)
                    | (refine cEq (fun h => ?_) (fun h => ?_))
                    | (refine cNe (fun h => ?_) (fun h => ?_))
                    | (refine cNot (fun h => ?_) (fun h => ?_))
                    | (refine cDec (fun h => ?_) (fun h => ?_))
                    | (refine condN_split (fun h => ?_) (fun h => ?_))
                    | (refine Exists.intro _ (And.intro (row_get hd) ?_))
                    | (refine Exists.intro (k2 + 1) (andI ?_ (andI ?_ ?_)))
                    | (refine Exists.intro _ (And.intro rfl ?_))
                    | (refine Or.inl (And.intro (by rfl : Nat.ble _ _ = true) ?_))
                    | (refine Or.inl (And.intro Cl.lit ?_))
                    | (refine Or.inr ?_)
                    | (refine Exists.intro (1 : Nat) ?_)
                    | (refine Exists.intro _ (And.intro rfl ?_))
                    | (fail))
                all_goals try refine Side.mk ?_
                all_goals try dsimp only
                all_goals try refine eqI ?_
                all_goals try simp only [List.length_map, w1, w3] at *
                all_goals first
                  | rfl
                  | omega
                  | (exfalso; omega)
                  | (refine congrArg (Value.int IntKind.i64) ?_; rw [wrap64 (by omega) (by omega)]; omega)
                  | (set_option pp.maxSteps 400 in trace_state; sorry)
              · repeat'
                  (conv => whnf
                   first
                    | (exact trivial)
                    | (refine And.intro (by with_reducible rfl) ?_)
                    | (refine And.intro (drawI (by kernel_rfl)) ?_)
                    | (refine andI ?_ ?_)
                    | (refine condT (by assumption) ?_)
                    | (refine condF (by assumption) ?_)
                    | (refine decT (by assumption) ?_)
                    | (refine decF (by assumption) ?_)
                    | (refine eqT (by assumption) ?_)
                    | (refine eqF (by assumption) ?_)
                    | (refine neT (by assumption) ?_)
                    | (refine neF (by assumption) ?_)
                    | (refine cEq (fun h => ?_) (fun h => ?_))
                    | (refine cNe (fun h => ?_) (fun h => ?_))
                    | (refine cNot (fun h => ?_) (fun h => ?_))
                    | (refine cDec (fun h => ?_) (fun h => ?_))
                    | (refine condN_split (fun h => ?_) (fun h => ?_))
                    | (refine Exists.intro _ (And.intro rfl ?_))
                    | (refine Or.inl (And.intro (by rfl : Nat.ble _ _ = true) ?_))
                    | (refine Or.inl (And.intro Cl.lit ?_))
                    | (refine Or.inr ?_)
                    | (refine Exists.intro (1 : Nat) ?_)
                    | (refine Exists.intro _ (And.intro rfl ?_))
                    | (fail))
                all_goals try refine Side.mk ?_
                all_goals try dsimp only
                all_goals try refine eqI ?_
                all_goals try simp only [List.length_map] at *
                all_goals first
                  | rfl
                  | (exfalso; omega)
                  | (set_option pp.maxSteps 400 in trace_state; sorry)

end Go.Proofs.Ytijinkikmglpcaa
