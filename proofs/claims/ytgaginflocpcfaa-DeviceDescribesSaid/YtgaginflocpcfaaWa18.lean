/-
  What every device answers (layer 18): addresses.
-/
import Derived.Test.YtgaginflocpcfaaV18
namespace Go.Proofs.Ytgaginflocpcfaa
open Go
set_option linter.unusedVariables false
set_option linter.unusedSimpArgs false
set_option maxRecDepth 100000
set_option maxHeartbeats 8000000

theorem row_get {α : Type} {f : α → List V} {l : List α} {j : Nat} {r : α} (h : l[j]? = some r) : (l.map f)[(j : Int).toNat]? = some (f r) := by
  rw [Int.toNat_natCast, List.getElem?_map, h]
  rfl
theorem ask_adr (d : Dev) (r : Req) : (askD d r).addr = d.addr := by unfold askD devK d0; (repeat' split) <;> rfl
theorem ask_com (d : Dev) (r : Req) : (askD d r).coming = (mayOk (d0 d) r && decide (r.ty = 0) && decide (r.code = 5)) := by
  unfold askD
  by_cases h4 : askOf r.ty r.code = 4
  · obtain ⟨e1, e2⟩ := askOf4 h4
    rw [h4, decide_eq_true e1, decide_eq_true e2]
    cases mayOk (d0 d) r <;> rfl
  · have n4 : ¬ (r.ty = 0 ∧ r.code = 5) := fun q => h4 (by rw [q.1, q.2]; exact ask05)
    rw [show (mayOk (d0 d) r && decide (r.ty = 0) && decide (r.code = 5)) = false from by simp; intro _ q; exact fun p => n4 ⟨q, p⟩]
    split
    · unfold devK; rw [if_neg h4]; (repeat' split) <;> rfl
    · rfl
theorem ask_nxt (d : Dev) (r : Req) (h : (askD d r).coming = true) : (askD d r).next = r.val := by
  unfold askD devK d0 at *
  (repeat' split at h) <;> simp_all
theorem done_com (d : Dev) : (doneD d).coming = false := by unfold doneD d0; split <;> rfl
theorem done_adr (d : Dev) : (doneD d).addr = if d.coming = true then d.next else d.addr := by unfold doneD d0; split <;> rfl
attribute [local irreducible] askD askE askB mayOk doneD dHas dPlace d0 devK effK dataK askOf dGet
theorem c_deviceAddresses (d : Dev) (l : List Req) (done : List Bool) (hl : ∀ y ∈ l, InI y.idx) : FnC Try.prog 5 [d.v, .sl 5 (l.map Req.row), .sl 1 (done.map fun b => [bV b])] [] (bV true) [] := by
  refine fn_vcI (N := 120) (d := 7) tabOk mixed inl18l_ok 2 Try.func5 rfl rfl rfl ?_
  repeat'
    (conv => whnf
     first
      | (exact trivial)
      | (refine And.intro (by with_reducible rfl) ?_)
      | (refine And.intro (drawI (by kernel_rfl)) ?_)
      | (refine andI ?_ ?_)
      | (refine condT (by assumption) ?_)
      | (refine condF (by assumption) ?_)
      | (refine decT (by assumption) ?_)
      | (refine decF (by assumption) ?_)
      | (refine eqT (by assumption) ?_)
      | (refine eqF (by assumption) ?_)
      | (refine neT (by assumption) ?_)
      | (refine neF (by assumption) ?_)
      | (refine cEq (fun h => ?_) (fun h => ?_))
      | (refine cNe (fun h => ?_) (fun h => ?_))
      | (refine cNot (fun h => ?_) (fun h => ?_))
      | (refine cDec (fun h => ?_) (fun h => ?_))
      | (refine condN_split (fun h => ?_) (fun h => ?_))
      | (refine Exists.intro _ (And.intro (c_alive18) ?_))
      | (refine Or.inl (And.intro (by kernel_rfl : Nat.ble _ _ = true) ?_))
      | (refine Or.inl (And.intro Cl.lit ?_))
      | (refine Or.inr ?_)
      | (refine Exists.intro (1 : Nat) ?_)
      | (fail))
  all_goals try refine Side.mk ?_
  all_goals try dsimp only at *
  all_goals try refine eqI ?_
  · rfl
  · conv => whnf
    refine loop_w tabOk (ceN_sound tabOk mixed inl18l_ok 2) mixed 18 (X := Nat × Int × Int × Bool × Int × Int) (0, d.addr, d.next, d.coming, d.conf, d.alt) (fun x => [(7, i64 (x.1 : Nat))]) (fun x => [(0, false, ⟨5, [[i64 x.2.1, i64 x.2.2.1, bV x.2.2.2.1, i64 x.2.2.2.2.1, i64 x.2.2.2.2.2]], false⟩)]) 1 (fun x => x.1 ≤ l.length) (fun x => l.length - x.1) (Nat.zero_le _) ?_ ?_
    · repeat'
        (conv => whnf
         first
          | (exact trivial)
          | (refine And.intro (by with_reducible rfl) ?_)
          | (refine And.intro (drawI (by kernel_rfl)) ?_)
          | (refine andI ?_ ?_)
          | (refine condT (by assumption) ?_)
          | (refine condF (by assumption) ?_)
          | (refine decT (by assumption) ?_)
          | (refine decF (by assumption) ?_)
          | (refine eqT (by assumption) ?_)
          | (refine eqF (by assumption) ?_)
          | (refine neT (by assumption) ?_)
          | (refine neF (by assumption) ?_)
          | (refine cEq (fun h => ?_) (fun h => ?_))
          | (refine cNe (fun h => ?_) (fun h => ?_))
          | (refine cNot (fun h => ?_) (fun h => ?_))
          | (refine cDec (fun h => ?_) (fun h => ?_))
          | (refine condN_split (fun h => ?_) (fun h => ?_))
          | (refine Or.inl (And.intro (by kernel_rfl : Nat.ble _ _ = true) ?_))
          | (refine Or.inl (And.intro Cl.lit ?_))
          | (refine Or.inr ?_)
          | (refine Exists.intro (1 : Nat) ?_)
          | (fail))
      all_goals try refine Side.mk ?_
      all_goals try dsimp only at *
      all_goals try refine eqI ?_
      all_goals rfl
    · rintro ⟨k, ad, nx, cm, cf, al⟩ hk
      by_cases hkl : k < l.length
      · obtain ⟨r, hr⟩ : ∃ r, l[k]? = some r := ⟨_, List.getElem?_eq_getElem hkl⟩
        have hi := hl r (List.mem_of_getElem? hr)
        have f1 := ask_adr ⟨ad, nx, cm, cf, al⟩ r
        have f2 := ask_com ⟨ad, nx, cm, cf, al⟩ r
        have f3 := ask_nxt ⟨ad, nx, cm, cf, al⟩ r
        have f4 := done_com (askD ⟨ad, nx, cm, cf, al⟩ r)
        have f5 := done_adr (askD ⟨ad, nx, cm, cf, al⟩ r)
        have hA := c_ask ⟨ad, nx, cm, cf, al⟩ 1 0 r ⟨hi⟩
        have hD := c_done (askD ⟨ad, nx, cm, cf, al⟩ r)
        generalize askD ⟨ad, nx, cm, cf, al⟩ r = D at *
        generalize doneD D = G at *
        obtain ⟨t, c, v, i, le⟩ := r
        obtain ⟨ad1, nx1, cm1, cf1, al1⟩ := D
        obtain ⟨ad2, nx2, cm2, cf2, al2⟩ := G
        dsimp only [Dev.row, Dev.v, Req.v] at *
        subst f1 f4
        repeat'
          (conv => whnf
           first
            | (exact trivial)
            | (refine And.intro (by with_reducible rfl) ?_)
            | (refine And.intro (drawI (by kernel_rfl)) ?_)
            | (refine andI ?_ ?_)
            | (refine condT (by assumption) ?_)
            | (refine condF (by assumption) ?_)
            | (refine decT (by assumption) ?_)
            | (refine decF (by assumption) ?_)
            | (refine eqT (by assumption) ?_)
            | (refine eqF (by assumption) ?_)
            | (refine neT (by assumption) ?_)
            | (refine neF (by assumption) ?_)
            | (refine cEq (fun h => ?_) (fun h => ?_))
            | (refine cNe (fun h => ?_) (fun h => ?_))
            | (refine cNot (fun h => ?_) (fun h => ?_))
            | (refine cDec (fun h => ?_) (fun h => ?_))
            | (refine condN_split (fun h => ?_) (fun h => ?_))
            | (refine Exists.intro _ (And.intro (row_get hr) ?_))
            | (refine Exists.intro _ (And.intro (map_get false ?_) ?_))
            | (refine Exists.intro _ (And.intro (hA) ?_))
            | (refine Exists.intro _ (And.intro (hD) ?_))
            | (refine Exists.intro (k + 1, ?_, ?_, ?_, ?_, ?_) (andI ?_ (andI ?_ ?_)))
            | (refine Or.inl (And.intro (by kernel_rfl : Nat.ble _ _ = true) ?_))
            | (refine Or.inl (And.intro Cl.lit ?_))
            | (refine Or.inr ?_)
            | (refine Exists.intro (1 : Nat) ?_)
            | (fail))
        all_goals try refine Side.mk ?_
        all_goals try dsimp only at *
        all_goals try refine eqI ?_
        all_goals clear hA hD hl
        all_goals generalize mayOk _ _ = ok at *
        all_goals simp only [List.length_map, Int.toNat_natCast] at *
        all_goals first
          | rfl
          | omega
          | (rw [wrap64 (by omega) (by omega)]; rfl)
          | (exfalso; exact absurd (f3 (by assumption)) (by assumption))
          | (clear hr hi; exfalso; subst t; by_cases hc : c = 5 <;> cases cm1 <;> cases ok <;> simp [hc] at * <;> done)
          | (clear hr hi; exfalso; by_cases ht : t = 0 <;> by_cases hc : c = 5 <;> cases cm1 <;> cases ok <;> simp [hc, ht] at * <;> done)
          | (clear hr hi; exfalso; by_cases ht : t = 0 <;> by_cases hc : c = 5 <;> cases cm1 <;> cases ok <;> simp [hc, ht] at * <;> omega)
          | skip
      · repeat'
          (conv => whnf
           first
            | (exact trivial)
            | (refine And.intro (by with_reducible rfl) ?_)
            | (refine And.intro (drawI (by kernel_rfl)) ?_)
            | (refine andI ?_ ?_)
            | (refine condT (by assumption) ?_)
            | (refine condF (by assumption) ?_)
            | (refine decT (by assumption) ?_)
            | (refine decF (by assumption) ?_)
            | (refine eqT (by assumption) ?_)
            | (refine eqF (by assumption) ?_)
            | (refine neT (by assumption) ?_)
            | (refine neF (by assumption) ?_)
            | (refine cEq (fun h => ?_) (fun h => ?_))
            | (refine cNe (fun h => ?_) (fun h => ?_))
            | (refine cNot (fun h => ?_) (fun h => ?_))
            | (refine cDec (fun h => ?_) (fun h => ?_))
            | (refine condN_split (fun h => ?_) (fun h => ?_))
            | (refine Or.inl (And.intro (by kernel_rfl : Nat.ble _ _ = true) ?_))
            | (refine Or.inl (And.intro Cl.lit ?_))
            | (refine Or.inr ?_)
            | (refine Exists.intro (1 : Nat) ?_)
            | (fail))
        all_goals try refine Side.mk ?_
        all_goals try dsimp only at *
        all_goals try refine eqI ?_
        all_goals first | rfl | (exfalso; simp only [List.length_map] at h; omega)
end Go.Proofs.Ytgaginflocpcfaa
