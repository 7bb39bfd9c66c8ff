/-
  What every device answers (layer 18): what is kept, what is told, addresses.
-/
import Derived.Test.YtgaginflocpcfaaU18
namespace Go.Proofs.Ytgaginflocpcfaa
open Go
set_option linter.unusedVariables false
set_option linter.unusedSimpArgs false
set_option maxRecDepth 100000
set_option maxHeartbeats 8000000

theorem ask_no {d : Dev} {r : Req} {luns halted : Int} (hi : InI r.idx) (h : mayOk (d0 d) r = false) : FnC Try.prog 9 [d.v, i64 luns, i64 halted, r.v] [] (.tup [Dev.v ⟨d.addr, 0, false, d.conf, d.alt⟩, Efc.v ⟨0, 0⟩, bsV [], bV false]) [] :=
  ask_eq hi (by unfold askD; rw [h]; rfl) (by unfold askE; rw [h]; rfl) (by unfold askB; rw [h]; rfl) h
theorem ask_yes {d : Dev} {r : Req} {luns halted : Int} (hi : InI r.idx) (h : mayOk (d0 d) r = true) : FnC Try.prog 9 [d.v, i64 luns, i64 halted, r.v] [] (.tup [(devK (askOf r.ty r.code) d r).v, (effK (askOf r.ty r.code) r).v, bsV (dataK (askOf r.ty r.code) (d0 d) luns halted r), bV true]) [] :=
  ask_eq hi (by unfold askD; rw [h]; rfl) (by unfold askE; rw [h]; rfl) (by unfold askB; rw [h]; rfl) h
theorem ask09 : askOf 0 9 = 7 := by decide +kernel
theorem ask1b : askOf 1 11 = 9 := by decide +kernel
theorem ask05 : askOf 0 5 = 4 := by decide +kernel
theorem ask86 : askOf 128 6 = 5 := by decide +kernel
theorem askOf7 {t c : Int} (h : askOf t c = 7) : t = 0 ∧ c = 9 := by
  by_cases q : anyAsk t c
  · rcases q with ⟨rfl, rfl⟩ | ⟨rfl, rfl⟩ | ⟨rfl, rfl⟩ | ⟨rfl, rfl⟩ | ⟨rfl, rfl⟩ | ⟨rfl, rfl⟩ | ⟨rfl, rfl⟩ | ⟨rfl, rfl⟩ | ⟨rfl, rfl⟩ | ⟨rfl, rfl⟩ | ⟨rfl, rfl⟩ | ⟨rfl, rfl⟩ | ⟨rfl, rfl⟩
    all_goals first | exact ⟨rfl, rfl⟩ | exact absurd h (by decide +kernel)
  · rw [askOf_none q] at h; exact absurd h (by decide)
theorem askOf9 {t c : Int} (h : askOf t c = 9) : t = 1 ∧ c = 11 := by
  by_cases q : anyAsk t c
  · rcases q with ⟨rfl, rfl⟩ | ⟨rfl, rfl⟩ | ⟨rfl, rfl⟩ | ⟨rfl, rfl⟩ | ⟨rfl, rfl⟩ | ⟨rfl, rfl⟩ | ⟨rfl, rfl⟩ | ⟨rfl, rfl⟩ | ⟨rfl, rfl⟩ | ⟨rfl, rfl⟩ | ⟨rfl, rfl⟩ | ⟨rfl, rfl⟩ | ⟨rfl, rfl⟩
    all_goals first | exact ⟨rfl, rfl⟩ | exact absurd h (by decide +kernel)
  · rw [askOf_none q] at h; exact absurd h (by decide)
theorem askOf4 {t c : Int} (h : askOf t c = 4) : t = 0 ∧ c = 5 := by
  by_cases q : anyAsk t c
  · rcases q with ⟨rfl, rfl⟩ | ⟨rfl, rfl⟩ | ⟨rfl, rfl⟩ | ⟨rfl, rfl⟩ | ⟨rfl, rfl⟩ | ⟨rfl, rfl⟩ | ⟨rfl, rfl⟩ | ⟨rfl, rfl⟩ | ⟨rfl, rfl⟩ | ⟨rfl, rfl⟩ | ⟨rfl, rfl⟩ | ⟨rfl, rfl⟩ | ⟨rfl, rfl⟩
    all_goals first | exact ⟨rfl, rfl⟩ | exact absurd h (by decide +kernel)
  · rw [askOf_none q] at h; exact absurd h (by decide)
theorem dev_other {k : Int} {d : Dev} {r : Req} (h4 : k ≠ 4) (h7 : k ≠ 7) (h9 : k ≠ 9) : devK k d r = ⟨d.addr, 0, false, d.conf, d.alt⟩ := by
  unfold devK
  rw [if_neg h4, if_neg h7, if_neg h9]
theorem halt_in (kd a : Int) (h1 : 0 ≤ kd) (h2 : kd ≤ 2) : (haltE kd a).kind ≠ 3 ∧ 0 ≤ (haltE kd a).kind ∧ (haltE kd a).kind ≤ 4 ∧ 0 ≤ (haltE kd a).ep ∧ (haltE kd a).ep ≤ 4 := by
  unfold haltE
  have := dPlace_in a
  split
  · decide
  · dsimp only; omega
theorem eff_other {k : Int} {r : Req} (h7 : k ≠ 7) (h9 : k ≠ 9) : (effK k r).kind ≠ 3 ∧ 0 ≤ (effK k r).kind ∧ (effK k r).kind ≤ 4 ∧ 0 ≤ (effK k r).ep ∧ (effK k r).ep ≤ 4 := by
  unfold effK
  split
  · exact halt_in 1 _ (by decide) (by decide)
  · split
    · exact halt_in 2 _ (by decide) (by decide)
    · rw [if_neg (by omega)]
      split <;> decide
theorem may9 {d : Dev} {r : Req} (h : mayOk (d0 d) r = true) (h1 : askOf r.ty r.code = 9) : d.conf = 1 := by
  unfold mayOk at h
  rw [h1] at h
  simp [mayK, d0] at h
  exact (of_decide_eq_true h).2.2.2
attribute [local irreducible] askD askE askB mayOk doneD dHas dPlace d0 devK effK dataK askOf dGet
theorem c_deviceKeeps (d : Dev) (r : Req) (h : How) (hi : InI r.idx) : FnC Try.prog 6 [d.v, r.v, h.v] [] (bV true) [] := by
  obtain ⟨luns, halted⟩ := h
  cases hok : mayOk (d0 d) r with
  | false =>
    have hA := ask_no (luns := luns) (halted := halted) hi hok
    obtain ⟨ad, nx, cm, cf, al⟩ := d
    obtain ⟨t, c, v, i, l⟩ := r
    dsimp only [Dev.v, Req.v, How.v] at *
    refine fn_vcI (N := 130) (d := 8) tabOk mixed inl18l_ok 2 Try.func6 rfl rfl rfl ?_
    repeat'
      (conv => whnf
       first
        | (exact trivial)
        | (refine And.intro (by with_reducible rfl) ?_)
        | (refine And.intro (drawI (by kernel_rfl)) ?_)
        | (refine andI ?_ ?_)
        | (refine condT (by assumption) ?_)
        | (refine condF (by assumption) ?_)
        | (refine decT (by assumption) ?_)
        | (refine decF (by assumption) ?_)
        | (refine eqT (by assumption) ?_)
        | (refine eqF (by assumption) ?_)
        | (refine neT (by assumption) ?_)
        | (refine neF (by assumption) ?_)
        | (refine cEq (fun h => ?_) (fun h => ?_))
        | (refine cNe (fun h => ?_) (fun h => ?_))
        | (refine cNot (fun h => ?_) (fun h => ?_))
        | (refine cDec (fun h => ?_) (fun h => ?_))
        | (refine condN_split (fun h => ?_) (fun h => ?_))
        | (refine Exists.intro _ (And.intro (c_alive18) ?_))
        | (refine Exists.intro _ (And.intro (hA) ?_))
        | (refine Exists.intro _ (And.intro eq_dev ?_))
        | (refine Exists.intro _ (And.intro eq_efc ?_))
        | (refine Or.inl (And.intro (by kernel_rfl : Nat.ble _ _ = true) ?_))
        | (refine Or.inl (And.intro Cl.lit ?_))
        | (refine Or.inr ?_)
        | (refine Exists.intro (1 : Nat) ?_)
        | (fail))
    all_goals try refine Side.mk ?_
    all_goals try dsimp only at *
    all_goals try refine eqI ?_
    all_goals first
      | rfl
      | (exfalso; simp_all; done)
      | (simp; done)
  | true =>
    have hA := ask_yes (luns := luns) (halted := halted) hi hok
    by_cases h7 : askOf r.ty r.code = 7
    · rw [h7] at hA
      obtain ⟨ht, hc⟩ := askOf7 h7
      obtain ⟨ad, nx, cm, cf, al⟩ := d
      obtain ⟨t, c, v, i, l⟩ := r
      dsimp only at ht hc
      subst ht hc
      rw [show devK 7 (Dev.mk ad nx cm cf al) (Req.mk 0 9 v i l) = ⟨ad, 0, false, v, 0⟩ from by unfold devK; rfl, show effK 7 (Req.mk 0 9 v i l) = ⟨3, 0⟩ from by unfold effK; rfl, show ∀ D, dataK 7 D luns halted (Req.mk 0 9 v i l) = [] from fun D => by unfold dataK; rfl] at hA
      dsimp only [Dev.v, Req.v, How.v] at *
      refine fn_vcI (N := 130) (d := 8) tabOk mixed inl18l_ok 2 Try.func6 rfl rfl rfl ?_
      repeat'
        (conv => whnf
         first
          | (exact trivial)
          | (refine And.intro (by with_reducible rfl) ?_)
          | (refine And.intro (drawI (by kernel_rfl)) ?_)
          | (refine andI ?_ ?_)
          | (refine condT (by assumption) ?_)
          | (refine condF (by assumption) ?_)
          | (refine decT (by assumption) ?_)
          | (refine decF (by assumption) ?_)
          | (refine eqT (by assumption) ?_)
          | (refine eqF (by assumption) ?_)
          | (refine neT (by assumption) ?_)
          | (refine neF (by assumption) ?_)
          | (refine cEq (fun h => ?_) (fun h => ?_))
          | (refine cNe (fun h => ?_) (fun h => ?_))
          | (refine cNot (fun h => ?_) (fun h => ?_))
          | (refine cDec (fun h => ?_) (fun h => ?_))
          | (refine condN_split (fun h => ?_) (fun h => ?_))
          | (refine Exists.intro _ (And.intro (c_alive18) ?_))
          | (refine Exists.intro _ (And.intro (hA) ?_))
          | (refine Exists.intro _ (And.intro eq_dev ?_))
          | (refine Exists.intro _ (And.intro eq_efc ?_))
          | (refine Or.inl (And.intro (by kernel_rfl : Nat.ble _ _ = true) ?_))
          | (refine Or.inl (And.intro Cl.lit ?_))
          | (refine Or.inr ?_)
          | (refine Exists.intro (1 : Nat) ?_)
          | (fail))
      all_goals try refine Side.mk ?_
      all_goals try dsimp only at *
      all_goals try refine eqI ?_
      all_goals first
        | rfl
        | (exfalso; simp_all; done)
        | (simp; done)
    · by_cases h9 : askOf r.ty r.code = 9
      · rw [h9] at hA
        have h1 := may9 hok h9
        obtain ⟨ht, hc⟩ := askOf9 h9
        obtain ⟨ad, nx, cm, cf, al⟩ := d
        obtain ⟨t, c, v, i, l⟩ := r
        dsimp only at ht hc h1
        subst ht hc h1
        rw [show devK 9 (Dev.mk ad nx cm 1 al) (Req.mk 1 11 v i l) = ⟨ad, 0, false, 1, v⟩ from by unfold devK; rfl, show effK 9 (Req.mk 1 11 v i l) = ⟨3, 0⟩ from by unfold effK; rfl, show ∀ D, dataK 9 D luns halted (Req.mk 1 11 v i l) = [] from fun D => by unfold dataK; rfl] at hA
        dsimp only [Dev.v, Req.v, How.v] at *
        refine fn_vcI (N := 130) (d := 8) tabOk mixed inl18l_ok 2 Try.func6 rfl rfl rfl ?_
        repeat'
          (conv => whnf
           first
            | (exact trivial)
            | (refine And.intro (by with_reducible rfl) ?_)
            | (refine And.intro (drawI (by kernel_rfl)) ?_)
            | (refine andI ?_ ?_)
            | (refine condT (by assumption) ?_)
            | (refine condF (by assumption) ?_)
            | (refine decT (by assumption) ?_)
            | (refine decF (by assumption) ?_)
            | (refine eqT (by assumption) ?_)
            | (refine eqF (by assumption) ?_)
            | (refine neT (by assumption) ?_)
            | (refine neF (by assumption) ?_)
            | (refine cEq (fun h => ?_) (fun h => ?_))
            | (refine cNe (fun h => ?_) (fun h => ?_))
            | (refine cNot (fun h => ?_) (fun h => ?_))
            | (refine cDec (fun h => ?_) (fun h => ?_))
            | (refine condN_split (fun h => ?_) (fun h => ?_))
            | (refine Exists.intro _ (And.intro (c_alive18) ?_))
            | (refine Exists.intro _ (And.intro (hA) ?_))
            | (refine Exists.intro _ (And.intro eq_dev ?_))
            | (refine Exists.intro _ (And.intro eq_efc ?_))
            | (refine Or.inl (And.intro (by kernel_rfl : Nat.ble _ _ = true) ?_))
            | (refine Or.inl (And.intro Cl.lit ?_))
            | (refine Or.inr ?_)
            | (refine Exists.intro (1 : Nat) ?_)
            | (fail))
        all_goals try refine Side.mk ?_
        all_goals try dsimp only at *
        all_goals try refine eqI ?_
        all_goals first
          | rfl
          | (exfalso; simp_all; done)
          | (simp; done)
      · obtain ⟨e1, e2, e3, e4, e5⟩ := eff_other (r := r) h7 h9
        have n7 : ¬ (r.ty = 0 ∧ r.code = 9) := fun q => h7 (by rw [q.1, q.2]; exact ask09)
        have n9 : ¬ (r.ty = 1 ∧ r.code = 11) := fun q => h9 (by rw [q.1, q.2]; exact ask1b)
        by_cases h4 : askOf r.ty r.code = 4
        · rw [h4] at hA e1 e2 e3 e4 e5
          obtain ⟨ht, hc⟩ := askOf4 h4
          obtain ⟨ad, nx, cm, cf, al⟩ := d
          obtain ⟨t, c, v, i, l⟩ := r
          dsimp only at ht hc
          subst ht hc
          rw [show devK 4 (Dev.mk ad nx cm cf al) (Req.mk 0 5 v i l) = ⟨ad, v, true, cf, al⟩ from by unfold devK; rfl] at hA
          dsimp only [Dev.v, Req.v, How.v] at *
          generalize effK 4 _ = E at *
          obtain ⟨ek, ee⟩ := E
          dsimp only [Efc.v] at *
          refine fn_vcI (N := 130) (d := 8) tabOk mixed inl18l_ok 2 Try.func6 rfl rfl rfl ?_
          repeat'
            (conv => whnf
             first
              | (exact trivial)
              | (refine And.intro (by with_reducible rfl) ?_)
              | (refine And.intro (drawI (by kernel_rfl)) ?_)
              | (refine andI ?_ ?_)
              | (refine condT (by assumption) ?_)
              | (refine condF (by assumption) ?_)
              | (refine decT (by assumption) ?_)
              | (refine decF (by assumption) ?_)
              | (refine eqT (by assumption) ?_)
              | (refine eqF (by assumption) ?_)
              | (refine neT (by assumption) ?_)
              | (refine neF (by assumption) ?_)
              | (refine cEq (fun h => ?_) (fun h => ?_))
              | (refine cNe (fun h => ?_) (fun h => ?_))
              | (refine cNot (fun h => ?_) (fun h => ?_))
              | (refine cDec (fun h => ?_) (fun h => ?_))
              | (refine condN_split (fun h => ?_) (fun h => ?_))
              | (refine Exists.intro _ (And.intro (c_alive18) ?_))
              | (refine Exists.intro _ (And.intro (hA) ?_))
              | (refine Exists.intro _ (And.intro eq_dev ?_))
              | (refine Exists.intro _ (And.intro eq_efc ?_))
              | (refine Or.inl (And.intro (by kernel_rfl : Nat.ble _ _ = true) ?_))
              | (refine Or.inl (And.intro Cl.lit ?_))
              | (refine Or.inr ?_)
              | (refine Exists.intro (1 : Nat) ?_)
              | (fail))
          all_goals try refine Side.mk ?_
          all_goals try dsimp only at *
          all_goals try refine eqI ?_
          all_goals first
            | rfl
            | (exfalso; simp_all; done)
            | (refine bool_close ?_; simp [*]; done)
            | (exfalso; simp at *; omega)
        · rw [dev_other h4 h7 h9] at hA
          have n4 : ¬ (r.ty = 0 ∧ r.code = 5) := fun q => h4 (by rw [q.1, q.2]; exact ask05)
          obtain ⟨ad, nx, cm, cf, al⟩ := d
          obtain ⟨t, c, v, i, l⟩ := r
          dsimp only [Dev.v, Req.v, How.v] at *
          clear hok h7 h9 h4
          generalize effK _ _ = E at *
          obtain ⟨ek, ee⟩ := E
          dsimp only [Efc.v] at *
          refine fn_vcI (N := 130) (d := 8) tabOk mixed inl18l_ok 2 Try.func6 rfl rfl rfl ?_
          repeat'
            (conv => whnf
             first
              | (exact trivial)
              | (refine And.intro (by with_reducible rfl) ?_)
              | (refine And.intro (drawI (by kernel_rfl)) ?_)
              | (refine andI ?_ ?_)
              | (refine condT (by assumption) ?_)
              | (refine condF (by assumption) ?_)
              | (refine decT (by assumption) ?_)
              | (refine decF (by assumption) ?_)
              | (refine eqT (by assumption) ?_)
              | (refine eqF (by assumption) ?_)
              | (refine neT (by assumption) ?_)
              | (refine neF (by assumption) ?_)
              | (refine cEq (fun h => ?_) (fun h => ?_))
              | (refine cNe (fun h => ?_) (fun h => ?_))
              | (refine cNot (fun h => ?_) (fun h => ?_))
              | (refine cDec (fun h => ?_) (fun h => ?_))
              | (refine condN_split (fun h => ?_) (fun h => ?_))
              | (refine Exists.intro _ (And.intro (c_alive18) ?_))
              | (refine Exists.intro _ (And.intro (hA) ?_))
              | (refine Exists.intro _ (And.intro eq_dev ?_))
              | (refine Exists.intro _ (And.intro eq_efc ?_))
              | (refine Or.inl (And.intro (by kernel_rfl : Nat.ble _ _ = true) ?_))
              | (refine Or.inl (And.intro Cl.lit ?_))
              | (refine Or.inr ?_)
              | (refine Exists.intro (1 : Nat) ?_)
              | (fail))
          all_goals try refine Side.mk ?_
          all_goals try dsimp only at *
          all_goals try refine eqI ?_
          all_goals first
            | rfl
            | (exfalso; omega)
            | (exfalso; simp_all; done)
            | (refine bool_close ?_; simp [*]; done)
def dLng (k i : Int) : Int := if k = 3 ∧ i > 0 then 0x409 else 0
theorem lang_eq {k i : Int} (hk : 0 ≤ k ∧ k ≤ 255) (hi : 0 ≤ i ∧ i ≤ 255) : dLang (256 * k + i) = dLng k i := by
  unfold dLang dLng
  (repeat' split) <;> omega
theorem val_div {k i : Int} (hi : 0 ≤ i ∧ i ≤ 255) : (256 * k + i) / 256 = k ∧ (256 * k + i) % 256 = i := by omega
theorem may_desc (d : Dev) (k i x : Int) (hk : 0 ≤ k ∧ k ≤ 255) (hi : 0 ≤ i ∧ i ≤ 255) : mayOk (d0 d) ⟨128, 6, 256 * k + i, x, 255⟩ = ((dGet k i).2 && decide (x = dLng k i)) := by
  unfold mayOk
  rw [show askOf (Req.mk 128 6 (256 * k + i) x 255).ty (Req.mk 128 6 (256 * k + i) x 255).code = 5 from ask86, may5, (val_div hi).1, (val_div hi).2, lang_eq hk hi]
theorem get_no {k i : Int} (h : (dGet k i).2 = false) : (dGet k i).1 = [] := by
  unfold dGet at *
  (repeat' split at h) <;> first | (exact absurd h (by decide)) | skip
  all_goals simp_all
end Go.Proofs.Ytgaginflocpcfaa
