/-
  Blocks read, by the document.
-/
import Derived.Test.YtbieiehfohldjaamSv
namespace Go.Proofs.Ytbieiehfohldjaa
open Go
set_option linter.unusedVariables false
set_option linter.unusedSimpArgs false
set_option maxRecDepth 100000
set_option maxHeartbeats 8000000

/-- what is left of a check that is not reckoned out -/
theorem chk_to {b : Bool} {X : Prop} (h : Side (b = true)) (x : X) : chkK b X := by rw [h.h]; exact x
theorem fV_to {v v' : V} {K : V → Prop} (e : v = v') (h : fV v' K) : fV v K := e ▸ h
theorem fCs_to {l l' : List V} {K : List V → Prop} (e : l = l') (h : fCs l' K) : fCs l K := e ▸ h
theorem blk_ld (x : Blk) {i : TI} {k : Nat} (hi : i.agg = false) (h : Side (k < 64)) : ldV i (x.row.drop k) = u8V (x.bs[k]?.getD 0) := by
  have h := h.h
  have hl : k < x.bs.length := h
  rw [Blk.row_bs, ← List.map_drop, List.drop_eq_getElem_cons hl, List.getElem?_eq_getElem hl]
  unfold ldV
  rw [hi]
  rfl
theorem ble_to {a b : Nat} (h : Side (a ≤ b)) : Nat.ble a b = true := Nat.ble_eq_true_of_le h.h
theorem take_bs (x : Blk) {k : Nat} (h : k < 64) : x.bs.take (k + 1) = x.bs.take k ++ [x.bs[k]?.getD 0] := take_getD 0 h
theorem c_refBread (l : List Blk) (p n : Int) (hl : Side (l.length ≤ 2 ^ 40)) (hp : Side (InU p)) (hn : Side (InI6 n)) : FnC Try.prog 65 [.sl 64 (l.map Blk.row), u64 p, i64 n] [] (.tup [bsV (bBytes (bSome l p n).1), i64 (bSome l p n).2]) [] := by
  have hl := hl.h
  have hp := hp.h
  have hn := hn.h
  dsimp only [InI6, InU] at *
  have b1 : l.length > 64 → bSome l p n = ([], 4) := fun h => by unfold bSome; rw [if_pos h]
  have b2 : ¬ l.length > 64 → bWithin l.length p n = false → bSome l p n = ([], 5) := fun h h2 => by unfold bSome; rw [if_neg h, if_pos h2]
  have b3 : ¬ l.length > 64 → bWithin l.length p n = true → bSome l p n = ((l.drop p.toNat).take n.toNat, 0) := fun h h2 => by unfold bSome; rw [if_neg h, if_neg (by rw [h2]; decide)]
  generalize bSome l p n = s at *
  refine fn_vcI (N := 44) (d := 6) tabOk mixed inlSl_ok 6 Try.func65 rfl rfl rfl ?_
  repeat'
    (conv => whnf
     first
      | (exact trivial)
      | (refine And.intro (by with_reducible rfl) ?_)
      | (refine And.intro (drawI (by kernel_rfl)) ?_)
      | (refine andI ?_ ?_)
      | (refine condT (by assumption) ?_)
      | (refine condF (by assumption) ?_)
      | (refine decT (by assumption) ?_)
      | (refine decF (by assumption) ?_)
      | (refine eqT (by assumption) ?_)
      | (refine eqF (by assumption) ?_)
      | (refine neT (by assumption) ?_)
      | (refine neF (by assumption) ?_)
      | (refine cEq (fun h => ?_) (fun h => ?_))
      | (refine cNe (fun h => ?_) (fun h => ?_))
      | (refine cNot (fun h => ?_) (fun h => ?_))
      | (refine cDec (fun h => ?_) (fun h => ?_))
      | (refine condN_split (fun h => ?_) (fun h => ?_))
      | (refine Exists.intro _ (And.intro (c_refWithin _ _ _ ?_ ?_) ?_))
      | (refine Exists.intro _ (And.intro rfl ?_))
      | (refine Or.inl (And.intro (by rfl : Nat.ble _ _ = true) ?_))
      | (refine Or.inl (And.intro Cl.lit ?_))
      | (refine Or.inr ?_)
      | (refine Exists.intro (1 : Nat) ?_)
      | (refine Exists.intro _ (And.intro rfl ?_))
      | (fail))
  all_goals try refine Side.mk ?_
  all_goals try dsimp only at *
  all_goals try refine eqI ?_
  · simp only [List.length_map] at h
    rw [b1 (by omega)]; rfl
  · simp only [List.length_map] at *; omega
  · exact hn
  · rename_i h0
    simp only [List.length_map] at *
    rw [b2 (by omega) h]; rfl
  rename_i h0
  simp only [List.length_map] at h0 h
  rw [b3 (by omega) h]
  simp only [bWithin, decide_eq_true_eq] at h
  obtain ⟨w1, w2, w3⟩ := h
  clear b1 b2 b3
  generalize hq : (l.drop p.toNat).take n.toNat = q
  have hql : q.length = n.toNat := by rw [← hq, List.length_take, List.length_drop]; omega
  conv => whnf
  refine loop_w tabOk (ceN_sound tabOk mixed inlSl_ok 6) mixed 21 (X := Nat) 0 (fun k => [(9, i64 (k : Nat)), (8, .win 0 1 0 (bBytes (q.take k)).length (bBytes (q.take k)).length)]) (fun k => [(0, true, ⟨1, byteRows (bBytes (q.take k)), false⟩)]) 1 (fun k => k ≤ q.length) (fun k => q.length - k) (Nat.zero_le _) ?_ ?_
  · repeat'
      (conv => whnf
       first
        | (exact trivial)
        | (refine And.intro (by with_reducible rfl) ?_)
        | (refine And.intro (drawI (by kernel_rfl)) ?_)
        | (refine andI ?_ ?_)
        | (refine condT (by assumption) ?_)
        | (refine condF (by assumption) ?_)
        | (refine decT (by assumption) ?_)
        | (refine decF (by assumption) ?_)
        | (refine eqT (by assumption) ?_)
        | (refine eqF (by assumption) ?_)
        | (refine neT (by assumption) ?_)
        | (refine neF (by assumption) ?_)
        | (refine cEq (fun h => ?_) (fun h => ?_))
        | (refine cNe (fun h => ?_) (fun h => ?_))
        | (refine cNot (fun h => ?_) (fun h => ?_))
        | (refine cDec (fun h => ?_) (fun h => ?_))
        | (refine condN_split (fun h => ?_) (fun h => ?_))
        | (refine Or.inl (And.intro (by rfl : Nat.ble _ _ = true) ?_))
        | (refine Or.inl (And.intro Cl.lit ?_))
        | (refine Or.inr ?_)
        | (refine Exists.intro (1 : Nat) ?_)
        | (refine Exists.intro _ (And.intro rfl ?_))
        | (fail))
    all_goals try refine Side.mk ?_
    all_goals try dsimp only at *
    all_goals try refine eqI ?_
    all_goals (first | rfl | (rw [rp_b]; trivial))
  · rintro k hk
    by_cases hkl : k < q.length
    · obtain ⟨x, hx⟩ : ∃ x, q[k]? = some x := ⟨_, List.getElem?_eq_getElem hkl⟩
      have hx2 : l[p.toNat + k]? = some x := by
        rw [← hq, List.getElem?_take, if_pos (by omega), List.getElem?_drop] at hx
        exact hx
      have e1 : q.take (k + 1) = q.take k ++ [x] := by rw [take_getD x hkl, hx]; rfl
      have e2 := bBytes_snoc (q.take k) x
      have l1 := bBytes_len (q.take k)
      rw [List.length_take] at l1
      have w4 : IntKind.i64.wrap (IntKind.i64.wrap p + (k : Int)) = ((p.toNat + k : Nat) : Int) := by
        rw [wrap64 (n := p) (by omega) (by omega), wrap64 (by omega) (by omega)]; omega
      repeat'
        (conv => whnf
         first
          | (exact trivial)
          | (refine And.intro (by with_reducible rfl) ?_)
          | (refine And.intro (drawI (by kernel_rfl)) ?_)
          | (refine andI ?_ ?_)
          | (refine condT (by assumption) ?_)
          | (refine condF (by assumption) ?_)
          | (refine decT (by assumption) ?_)
          | (refine decF (by assumption) ?_)
          | (refine eqT (by assumption) ?_)
          | (refine eqF (by assumption) ?_)
          | (refine neT (by assumption) ?_)
          | (refine neF (by assumption) ?_)
          | (refine cEq (fun h => ?_) (fun h => ?_))
          | (refine cNe (fun h => ?_) (fun h => ?_))
          | (refine cNot (fun h => ?_) (fun h => ?_))
          | (refine cDec (fun h => ?_) (fun h => ?_))
          | (refine condN_split (fun h => ?_) (fun h => ?_))
          | (refine Exists.intro _ (And.intro (row_at hx2 ?_) ?_))
          | (refine Exists.intro _ (And.intro rfl ?_))
          | (refine Or.inl (And.intro (by rfl : Nat.ble _ _ = true) ?_))
          | (refine Or.inl (And.intro Cl.lit ?_))
          | (refine Or.inr ?_)
          | (refine Exists.intro (1 : Nat) ?_)
          | (refine Exists.intro _ (And.intro rfl ?_))
          | (fail))
      all_goals try refine Side.mk ?_
      all_goals try dsimp only at *
      all_goals try refine eqI ?_
      rotate_left 4
      · exfalso; omega
      · exfalso; omega
      · exfalso; omega
      · rw [w4]; omega
      · rw [w4, List.length_map]; omega
      · exact w4
      conv => whnf
      refine loop_w tabOk (ceN_sound tabOk mixed inlSl_ok 6) mixed 33 (X := Nat) 0 (fun j => [(11, i64 (j : Nat)), (8, .win 0 1 0 (64 * k + j) (64 * k + j))]) (fun j => [(1, false, ⟨64, [x.row], false⟩), (0, true, ⟨1, byteRows (bBytes (q.take k) ++ x.bs.take j), false⟩)]) 2 (fun j => j ≤ 64) (fun j => 64 - j) (by omega) ?_ ?_
      · repeat'
          (conv => whnf
           first
            | (exact trivial)
            | (refine And.intro (by with_reducible rfl) ?_)
            | (refine And.intro (drawI (by kernel_rfl)) ?_)
            | (refine andI ?_ ?_)
            | (refine condT (by assumption) ?_)
            | (refine condF (by assumption) ?_)
            | (refine decT (by assumption) ?_)
            | (refine decF (by assumption) ?_)
            | (refine eqT (by assumption) ?_)
            | (refine eqF (by assumption) ?_)
            | (refine neT (by assumption) ?_)
            | (refine neF (by assumption) ?_)
            | (refine cEq (fun h => ?_) (fun h => ?_))
            | (refine cNe (fun h => ?_) (fun h => ?_))
            | (refine cNot (fun h => ?_) (fun h => ?_))
            | (refine cDec (fun h => ?_) (fun h => ?_))
            | (refine condN_split (fun h => ?_) (fun h => ?_))
            | (refine Or.inl (And.intro (by rfl : Nat.ble _ _ = true) ?_))
            | (refine Or.inl (And.intro Cl.lit ?_))
            | (refine Or.inr ?_)
            | (refine Exists.intro (1 : Nat) ?_)
            | (refine Exists.intro _ (And.intro rfl ?_))
            | (fail))
        all_goals try refine Side.mk ?_
        all_goals try dsimp only at *
        all_goals try refine eqI ?_
        all_goals first
          | rfl
          | omega
          | (rw [rp_b]; trivial)
          | (rw [List.take_zero, List.append_nil])
      · rintro j hj
        have e3 := fun h => take_bs x (k := j) h
        by_cases hj2 : j < 64
        · have hble : Nat.ble (0 + (Int.toNat (j : Int)) * 1 + 1) x.row.length = true := Nat.ble_eq_true_of_le (by show _ ≤ 64; omega)
          repeat'
            (conv => whnf
             first
              | (exact trivial)
              | (refine And.intro (by with_reducible rfl) ?_)
              | (refine And.intro (drawI (by kernel_rfl)) ?_)
              | (refine andI ?_ ?_)
              | (refine condT (by assumption) ?_)
              | (refine condF (by assumption) ?_)
              | (refine decT (by assumption) ?_)
              | (refine decF (by assumption) ?_)
              | (refine eqT (by assumption) ?_)
              | (refine eqF (by assumption) ?_)
              | (refine neT (by assumption) ?_)
              | (refine neF (by assumption) ?_)
              | (refine cEq (fun h => ?_) (fun h => ?_))
              | (refine cNe (fun h => ?_) (fun h => ?_))
              | (refine cNot (fun h => ?_) (fun h => ?_))
              | (refine cDec (fun h => ?_) (fun h => ?_))
              | (refine condN_split (fun h => ?_) (fun h => ?_))
              | (refine Exists.intro _ (And.intro rfl ?_))
              | (refine Exists.intro (j + 1) (andI ?_ (andI ?_ ?_)))
              | (refine Or.inl (And.intro (by rfl : Nat.ble _ _ = true) ?_))
              | (refine Or.inl (And.intro Cl.lit ?_))
              | (refine Or.inr ?_)
              | (refine Exists.intro (1 : Nat) ?_)
              | (refine Exists.intro _ (And.intro rfl ?_))
              | (fail))
          all_goals try refine Side.mk ?_
          all_goals try dsimp only at *
          all_goals try refine eqI ?_
          rotate_left 2
          refine fV_to (blk_ld x rfl ⟨by omega⟩) ?_
          repeat'
            (conv => whnf
             first
              | (exact trivial)
              | (refine And.intro (by with_reducible rfl) ?_)
              | (refine And.intro (drawI (by kernel_rfl)) ?_)
              | (refine andI ?_ ?_)
              | (refine condT (by assumption) ?_)
              | (refine condF (by assumption) ?_)
              | (refine decT (by assumption) ?_)
              | (refine decF (by assumption) ?_)
              | (refine eqT (by assumption) ?_)
              | (refine eqF (by assumption) ?_)
              | (refine neT (by assumption) ?_)
              | (refine neF (by assumption) ?_)
              | (refine cEq (fun h => ?_) (fun h => ?_))
              | (refine cNe (fun h => ?_) (fun h => ?_))
              | (refine cNot (fun h => ?_) (fun h => ?_))
              | (refine cDec (fun h => ?_) (fun h => ?_))
              | (refine condN_split (fun h => ?_) (fun h => ?_))
              | (refine Exists.intro _ (And.intro rfl ?_))
              | (refine Exists.intro (j + 1) (andI ?_ (andI ?_ ?_)))
              | (refine Or.inl (And.intro (by rfl : Nat.ble _ _ = true) ?_))
              | (refine Or.inl (And.intro Cl.lit ?_))
              | (refine Or.inr ?_)
              | (refine Exists.intro (1 : Nat) ?_)
              | (refine Exists.intro _ (And.intro rfl ?_))
              | (fail))
          all_goals try refine Side.mk ?_
          all_goals try dsimp only at *
          all_goals try refine eqI ?_
          all_goals first
            | rfl
            | omega
            | (exfalso; omega)
            | (rw [hble] at h; cases h; done)
            | (refine or_all ?_; rfl)
            | (rw [rp_b]; trivial)
            | (refine congrArg (Value.int IntKind.i64) ?_; rw [wrap64 (by omega) (by omega)]; omega)
            | (rw [len_b, List.length_append, List.length_take, Blk.bs_len]; omega)
            | (simp only [len_b, List.length_append, List.length_take, List.length_cons, List.length_nil, List.drop_zero, Blk.bs_len]; omega)
            | (rw [e3 hj2, ← List.append_assoc, ← app_b]
               refine congrArg (fun z => byteRows (bBytes (q.take k) ++ x.bs.take j) ++ z) ?_
               show byteRows [x.bs[j]?.getD 0] = [[u8V (x.bs[0 + j * 1]?.getD 0)]]
               rw [Nat.zero_add, Nat.mul_one]
               rfl)
        · have e4 : x.bs.take j = x.bs := List.take_of_length_le (by rw [Blk.bs_len]; omega)
          repeat'
            (conv => whnf
             first
              | (exact trivial)
              | (refine And.intro (by with_reducible rfl) ?_)
              | (refine And.intro (drawI (by kernel_rfl)) ?_)
              | (refine andI ?_ ?_)
              | (refine condT (by assumption) ?_)
              | (refine condF (by assumption) ?_)
              | (refine decT (by assumption) ?_)
              | (refine decF (by assumption) ?_)
              | (refine eqT (by assumption) ?_)
              | (refine eqF (by assumption) ?_)
              | (refine neT (by assumption) ?_)
              | (refine neF (by assumption) ?_)
              | (refine cEq (fun h => ?_) (fun h => ?_))
              | (refine cNe (fun h => ?_) (fun h => ?_))
              | (refine cNot (fun h => ?_) (fun h => ?_))
              | (refine cDec (fun h => ?_) (fun h => ?_))
              | (refine condN_split (fun h => ?_) (fun h => ?_))
              | (refine Exists.intro _ (And.intro rfl ?_))
              | (refine Exists.intro (k + 1) (andI ?_ (andI ?_ ?_)))
              | (refine Or.inl (And.intro (by rfl : Nat.ble _ _ = true) ?_))
              | (refine Or.inl (And.intro Cl.lit ?_))
              | (refine Or.inr ?_)
              | (refine Exists.intro (1 : Nat) ?_)
              | (refine Exists.intro _ (And.intro rfl ?_))
              | (fail))
          all_goals try refine Side.mk ?_
          all_goals try dsimp only at *
          all_goals try refine eqI ?_
          all_goals first
            | rfl
            | omega
            | (exfalso; omega)
            | (rw [rp_b]; trivial)
            | (refine congrArg (Value.int IntKind.i64) ?_; rw [wrap64 (by omega) (by omega)]; omega)
            | (rw [e1, e2, List.length_append, Blk.bs_len]; omega)
            | (rw [e1, e2, e4])
    · have e1 : q.take k = q := List.take_of_length_le (by omega)
      repeat'
        (conv => whnf
         first
          | (exact trivial)
          | (refine And.intro (by with_reducible rfl) ?_)
          | (refine And.intro (drawI (by kernel_rfl)) ?_)
          | (refine andI ?_ ?_)
          | (refine condT (by assumption) ?_)
          | (refine condF (by assumption) ?_)
          | (refine decT (by assumption) ?_)
          | (refine decF (by assumption) ?_)
          | (refine eqT (by assumption) ?_)
          | (refine eqF (by assumption) ?_)
          | (refine neT (by assumption) ?_)
          | (refine neF (by assumption) ?_)
          | (refine cEq (fun h => ?_) (fun h => ?_))
          | (refine cNe (fun h => ?_) (fun h => ?_))
          | (refine cNot (fun h => ?_) (fun h => ?_))
          | (refine cDec (fun h => ?_) (fun h => ?_))
          | (refine condN_split (fun h => ?_) (fun h => ?_))
          | (refine Or.inl (And.intro (by rfl : Nat.ble _ _ = true) ?_))
          | (refine Or.inl (And.intro Cl.lit ?_))
          | (refine Or.inr ?_)
          | (refine Exists.intro (1 : Nat) ?_)
          | (refine Exists.intro _ (And.intro rfl ?_))
          | (fail))
      all_goals try refine Side.mk ?_
      all_goals try dsimp only at *
      all_goals try refine eqI ?_
      all_goals try simp only [List.length_map] at *
      all_goals first
        | omega
        | (exfalso; omega)
        | (rw [rp_b]; trivial)
        | (rw [len_b]; omega)
        | (rw [e1, List.drop_zero, List.take_of_length_le (by rw [len_b]; exact Nat.le_refl _)])
end Go.Proofs.Ytbieiehfohldjaa
