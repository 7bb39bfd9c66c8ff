/-
  Modes (layer 8): one bit of a page turned.
-/
import Derived.Test.YtcpbohlbekmjnaaG08
namespace Go.Proofs.Ytcpbohlbekmjnaa
open Go
set_option linter.unusedVariables false
set_option linter.unusedSimpArgs false
set_option maxRecDepth 100000
set_option maxHeartbeats 4000000

/-- a byte with one bit turned -/
def xv (p : Int) (I : Nat) : Int := bits .xor .u8 p (IntKind.u8.wrap (1 * 2 ^ min I IntKind.u8.bits))
def chL (c : Bool) (K I : Nat) : BS := ([0, 0, 0, 0] ++ mOne (mBit 0 c)).set (4 + K) (UInt8.ofNat (xv (((mOne (mBit 0 c))[K]?.getD 0).toNat : Int) I).toNat)
def onIt (K I : Nat) : Bool := decide (K = 2) && decide (I = 2)
theorem ch_byte : ∀ c : Bool, ∀ K : Fin 20, ∀ I : Fin 8, xv (((mOne (mBit 0 c))[K.val]?.getD 0).toNat : Int) I.val = ((UInt8.ofNat (xv (((mOne (mBit 0 c))[K.val]?.getD 0).toNat : Int) I.val).toNat).toNat : Int) := by decide +kernel
theorem ch_sel : ∀ c : Bool, ∀ K : Fin 18, ∀ I : Fin 8, (mSel (chL c (K.val + 2) I.val) false c).1 = (onIt (K.val + 2) I.val && !c) ∧ (mSel (chL c (K.val + 2) I.val) false c).2.key = (if onIt (K.val + 2) I.val = true then 0 else 5) ∧ (mSel (chL c (K.val + 2) I.val) false c).2.code = (if onIt (K.val + 2) I.val = true then 0 else 0x26) ∧ (mSel (chL c (K.val + 2) I.val) false c).2.qual = 0 := by decide +kernel
theorem ch_mask : ∀ c : Bool, ∀ K : Fin 18, ∀ I : Fin 8, (bits .and .u8 ((((mOne (mBit 1 c))[K.val + 2]?.getD 0).toNat : Int).fdiv (2 ^ min I.val IntKind.u8.bits)) 1 = 0) ↔ onIt (K.val + 2) I.val = false := by decide +kernel
theorem c_chSel (K I : Nat) (c : Bool) (hK : 2 ≤ K ∧ K < 20) (hI : I < 8) : FnC Try.prog 13 [bsV (chL c K I), bV false, bV c] [] (.tup [bV (onIt K I && !c), .agg [i64 (if onIt K I = true then 0 else 5), i64 (if onIt K I = true then 0 else 0x26), i64 0]]) [] := by
  have h := c_select (chL c K I) false c ⟨by unfold chL; simp [mOne]⟩
  have hs := ch_sel c ⟨K - 2, by omega⟩ ⟨I, hI⟩
  simp only [show K - 2 + 2 = K by omega] at hs
  obtain ⟨e1, e2, e3, e4⟩ := hs
  unfold Sns.v at h
  rw [e1, e2, e3, e4] at h
  exact h
theorem set_b (l : BS) (n : Nat) (x : UInt8) : (byteRows l).set n [u8V x] = byteRows (l.set n x) := by simp [byteRows, List.map_set]
theorem ch_rows {c : Bool} {K I : Nat} (hb : xv (((mOne (mBit 0 c))[K]?.getD 0).toNat : Int) I = ((UInt8.ofNat (xv (((mOne (mBit 0 c))[K]?.getD 0).toNat : Int) I).toNat).toNat : Int)) :
    ([V.lit (Value.int IntKind.u8 0)] :: [V.lit (Value.int IntKind.u8 0)] :: [V.lit (Value.int IntKind.u8 0)] :: [V.lit (Value.int IntKind.u8 0)] :: byteRows (mOne (mBit 0 c))).set (0 + (4 + (K : Int)).toNat) [V.lit (Value.int IntKind.u8 (bits BinOp.xor IntKind.u8 (((mOne (mBit 0 c))[K]?.getD 0).toNat : Int) (IntKind.u8.wrap (1 * 2 ^ min I IntKind.u8.bits))))] = byteRows (chL c K I) := by
  rw [show (0 + (4 + (K : Int)).toNat) = 4 + K by omega]
  unfold chL
  rw [← set_b]
  show (byteRows ([0, 0, 0, 0] ++ mOne (mBit 0 c))).set (4 + K) [V.lit (Value.int IntKind.u8 (xv _ I))] = _
  unfold u8V
  rw [← hb]
theorem ch_args {c : Bool} {K I : Nat} (hb : xv (((mOne (mBit 0 c))[K]?.getD 0).toNat : Int) I = ((UInt8.ofNat (xv (((mOne (mBit 0 c))[K]?.getD 0).toNat : Int) I).toNat).toNat : Int)) :
    [V.sl 1 (List.take (20 + 1 + 1 + 1 + 1) (([V.lit (Value.int IntKind.u8 0)] :: [V.lit (Value.int IntKind.u8 0)] :: [V.lit (Value.int IntKind.u8 0)] :: [V.lit (Value.int IntKind.u8 0)] :: byteRows (mOne (mBit 0 c))).set (0 + (4 + (K : Int)).toNat) [V.lit (Value.int IntKind.u8 (bits BinOp.xor IntKind.u8 (((mOne (mBit 0 c))[K]?.getD 0).toNat : Int) (IntKind.u8.wrap (1 * 2 ^ min I IntKind.u8.bits))))])), V.lit (Value.bool false), V.lit (Value.bool c)] = [bsV (chL c K I), bV false, bV c] := by
  rw [ch_rows hb, List.take_of_length_le (by rw [len_b]; unfold chL; simp [mOne])]
theorem c_chg (at' bit : Int) (c : Bool) (K I : Nat) (hk : IntKind.i64.wrap (2 + (IntKind.i64.wrap at').tmod 18) = K) (hi : bit.tmod 8 = I) (hK : 2 ≤ K ∧ K < 20) (hI : I < 8) : FnC Try.prog 6 [.lit (.int .u8 at'), .lit (.int .u8 bit), bV c] [] (bV true) [] := by
  have hb := ch_byte c ⟨K, hK.2⟩ ⟨I, hI⟩
  have hm := ch_mask c ⟨K - 2, by omega⟩ ⟨I, hI⟩
  simp only [show K - 2 + 2 = K by omega] at hb hm
  refine fn_vcI (N := 92) (d := 7) tabOk mixed inl8a_ok 2 Try.func6 rfl rfl rfl ?_
  repeat'
    (conv => whnf
     first
      | (exact trivial)
      | (refine And.intro (by with_reducible rfl) ?_)
      | (refine And.intro (drawI (by kernel_rfl)) ?_)
      | (refine andI ?_ ?_)
      | (refine condT (by assumption) ?_)
      | (refine condF (by assumption) ?_)
      | (refine decT (by assumption) ?_)
      | (refine decF (by assumption) ?_)
      | (refine eqT (by assumption) ?_)
      | (refine eqF (by assumption) ?_)
      | (refine neT (by assumption) ?_)
      | (refine neF (by assumption) ?_)
      | (refine cEq (fun h => ?_) (fun h => ?_))
      | (refine cNe (fun h => ?_) (fun h => ?_))
      | (refine cNot (fun h => ?_) (fun h => ?_))
      | (refine cDec (fun h => ?_) (fun h => ?_))
      | (refine condN_split (fun h => ?_) (fun h => ?_))
      | (refine Exists.intro _ (And.intro (c_alive8) ?_))
      | (refine Exists.intro _ (And.intro (c_pg8 _ _) ?_))
      | (refine Exists.intro _ (And.intro eq_sns ?_))
      | (refine Exists.intro _ (And.intro (by first | rfl | ((conv => lhs; simp only [nil_b, rp_bls, or_bls, len_bls, snoc_bls, rp_nil, rp_app, rp_b, or_nil, or_app, or_b, len_b, take_b, drop_b, rep_b, app_b, List.length_append, List.length_take, List.length_drop, List.length_nil, List.drop_zero, List.take_length, List.nil_append, List.append_nil, Int.toNat_natCast, toNat_min, take_min, and_true, true_and, and_self]) <;> rfl)) ?_))
      | (refine Exists.intro _ (And.intro (bytes_get (l := [0, 0, 0, 0] ++ mOne (mBit 0 c)) ?_) ?_))
      | (refine Exists.intro _ (And.intro (bytes_get ?_) ?_))
      | (refine Or.inl (And.intro (by kernel_rfl : Nat.ble _ _ = true) ?_))
      | (refine Or.inl (And.intro Cl.lit ?_))
      | (refine Or.inr ?_)
      | (refine Exists.intro (1 : Nat) ?_)
      | (fail))
  all_goals try refine Side.mk ?_
  all_goals try dsimp only at *
  all_goals try refine eqI ?_
  all_goals try rw [hk]
  all_goals try rw [hi]
  all_goals clear hk
  all_goals try rfl
  all_goals try decide
  all_goals try refine rn_plain ?_
  all_goals try (first | (refine rp_all ?_; rfl) | (refine or_all ?_; rfl))
  all_goals try simp (disch := omega) only [wrap64, Int.zero_add, Int.sub_zero, Int.add_zero, List.take_succ_cons, List.take_zero, List.take_nil, List.cons_append, List.length_cons, List.length_nil, rp_cons, or_cons, List.all_cons, List.all_nil, kfc, V.one, one_int, one_bool, one_str, Bool.and_true, Bool.and_self, List.append_assoc, nil_b, rp_bls, or_bls, len_bls, snoc_bls, rp_nil, rp_app, rp_b, or_nil, or_app, or_b, len_b, take_b, drop_b, rep_b, app_b, List.length_append, List.length_take, List.length_drop, List.length_nil, List.drop_zero, List.take_length, List.nil_append, List.append_nil, Int.toNat_natCast, toNat_min, take_min, and_true, true_and, and_self, len_mOne] at *
  all_goals try omega
  all_goals try rfl
  all_goals try (simp; done)
  all_goals try decide
  all_goals conv => whnf
  all_goals try (refine Nat.le_of_eq ?_; simp [byteRows, mOne]; done)
  all_goals try (show rowsPlain _; rw [ch_rows hb]; simp only [rp_b]; done)
  repeat'
    (conv => whnf
     first
      | (exact trivial)
      | (refine And.intro (by with_reducible rfl) ?_)
      | (refine And.intro (drawI (by kernel_rfl)) ?_)
      | (refine andI ?_ ?_)
      | (refine condT (by assumption) ?_)
      | (refine condF (by assumption) ?_)
      | (refine decT (by assumption) ?_)
      | (refine decF (by assumption) ?_)
      | (refine eqT (by assumption) ?_)
      | (refine eqF (by assumption) ?_)
      | (refine neT (by assumption) ?_)
      | (refine neF (by assumption) ?_)
      | (refine cEq (fun h => ?_) (fun h => ?_))
      | (refine cNe (fun h => ?_) (fun h => ?_))
      | (refine cNot (fun h => ?_) (fun h => ?_))
      | (refine cDec (fun h => ?_) (fun h => ?_))
      | (refine condN_split (fun h => ?_) (fun h => ?_))
      | (refine Exists.intro _ (And.intro (fnC_args (c_chSel K I c hK hI) (ch_args hb)) ?_))
      | (refine Exists.intro _ (And.intro eq_sns ?_))
      | (refine Exists.intro _ (And.intro (bytes_get ?_) ?_))
      | (refine Or.inl (And.intro (by kernel_rfl : Nat.ble _ _ = true) ?_))
      | (refine Or.inl (And.intro Cl.lit ?_))
      | (refine Or.inr ?_)
      | (refine Exists.intro (1 : Nat) ?_)
      | (fail))
  all_goals try refine Side.mk ?_
  all_goals try dsimp only at *
  all_goals try refine eqI ?_
  all_goals try rw [hi] at *
  all_goals simp only [Int.toNat_natCast, len_b, len_mOne] at *
  all_goals try omega
  all_goals cases ho : onIt K I
  all_goals cases c
  all_goals first | (exfalso; omega) | (simp_all; done)
theorem c_modeChanges (at' bit : Int) (c : Bool) (h1 : 0 ≤ at' ∧ at' ≤ 255) (h2 : 0 ≤ bit ∧ bit ≤ 255) : FnC Try.prog 6 [.lit (.int .u8 at'), .lit (.int .u8 bit), bV c] [] (bV true) [] := by
  have e1 : at'.tmod 18 = at' % 18 := Int.tmod_eq_emod_of_nonneg h1.1
  have e2 : bit.tmod 8 = bit % 8 := Int.tmod_eq_emod_of_nonneg h2.1
  refine c_chg at' bit c (2 + (at' % 18).toNat) (bit % 8).toNat ?_ (by rw [e2]; omega) (by omega) (by omega)
  rw [wrap64 (n := at') (by omega) (by omega), e1, wrap64 (by omega) (by omega)]
  omega
end Go.Proofs.Ytcpbohlbekmjnaa
