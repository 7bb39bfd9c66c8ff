/-
  Layer 11: what a unit tells of itself (inquiry).
-/
import Derived.Test.YtijinkikmglpcaamIb
import Derived.Test.YtijinkikmglpcaamL15
namespace Go.Proofs.Ytijinkikmglpcaa
open Go
set_option linter.unusedVariables false
set_option linter.unusedSimpArgs false
set_option maxRecDepth 100000
set_option maxHeartbeats 8000000

noncomputable def inlBt : List IRow := []
theorem inlBt_ok : IOk Try.prog (inlTab inlBt) := inl_ok (by
  unfold inlBt
  exact trivial)
noncomputable def inlIp : List IRow := [(21, Try.f21, 11, 4, 0), (71, Try.f71, 4, 3, 0), (49, Try.f49, 2, 2, 0), (69, Try.f69, 8, 4, 0)]
theorem inlIp_ok : IOk Try.prog (inlTab inlIp) := inl_ok (by
  unfold inlIp
  refine And.intro ⟨rfl, rfl, rfl, .inl rfl⟩ ?_
  refine And.intro ⟨rfl, rfl, rfl, .inl rfl⟩ ?_
  refine And.intro ⟨rfl, rfl, rfl, .inl rfl⟩ ?_
  refine And.intro ⟨rfl, rfl, rfl, .inl rfl⟩ ?_
  exact trivial)
noncomputable def inlIb : List IRow := [(53, Try.f53, 36, 6, 0), (75, Try.f75, 27, 5, 0), (21, Try.f21, 11, 4, 0), (71, Try.f71, 4, 3, 0), (49, Try.f49, 2, 2, 0), (69, Try.f69, 8, 4, 0)]
theorem inlIb_ok : IOk Try.prog (inlTab inlIb) := inl_ok (by
  unfold inlIb
  refine And.intro ⟨rfl, rfl, rfl, .inl rfl⟩ ?_
  refine And.intro ⟨rfl, rfl, rfl, .inl rfl⟩ ?_
  refine And.intro ⟨rfl, rfl, rfl, .inl rfl⟩ ?_
  refine And.intro ⟨rfl, rfl, rfl, .inl rfl⟩ ?_
  refine And.intro ⟨rfl, rfl, rfl, .inl rfl⟩ ?_
  refine And.intro ⟨rfl, rfl, rfl, .inl rfl⟩ ?_
  exact trivial)
def iSer (l : Int) : BS := [82, 84, 48, 48, 48, 48, 48, UInt8.ofNat (48 + (l % 8).toNat)]
theorem d8 (z : Int) : ∃ d : Nat, (z % 8).toNat = d ∧ (d = 0 ∨ d = 1 ∨ d = 2 ∨ d = 3 ∨ d = 4 ∨ d = 5 ∨ d = 6 ∨ d = 7) := ⟨_, rfl, by omega⟩
theorem u64m8 (z : Int) : (IntKind.u64.wrap z).toNat % 8 = (z % 8).toNat := by rw [wrapu64]; omega
theorem u64nat (z : Int) : IntKind.u64.wrap z = (((IntKind.u64.wrap z).toNat : Nat) : Int) ∧ (IntKind.u64.wrap z).toNat < 2 ^ 64 := by rw [wrapu64]; omega
theorem c_serial (l : Int) : FnC Try.prog 73 [i64 l] [] (.lit (.string ⟨(iSer l).toArray⟩)) [] := by
  obtain ⟨e, h⟩ := u64nat l
  have hB := c_bits (IntKind.u64.wrap l).toNat 0 3 (by decide) (by decide) h
  rw [← e, show (2 : Nat) ^ 0 = 1 from rfl, Nat.div_one, show (2 : Nat) ^ 3 = 8 from rfl, u64m8] at hB
  unfold iSer
  obtain ⟨d, hd, hq⟩ := d8 l
  rw [hd] at hB ⊢
  rcases hq with rfl | rfl | rfl | rfl | rfl | rfl | rfl | rfl
  all_goals refine fn_vcI (N := 10) (d := 4) tabOk mixed inlN0_ok 6 Try.func73 rfl rfl rfl ?_
  repeat'
    (conv => whnf
     first
      | (exact trivial)
      | (refine And.intro (by with_reducible rfl) ?_)
      | (refine And.intro (drawI (by kernel_rfl)) ?_)
      | (refine andI ?_ ?_)
      | (refine condT (by assumption) ?_)
      | (refine condF (by assumption) ?_)
      | (refine decT (by assumption) ?_)
      | (refine decF (by assumption) ?_)
      | (refine eqT (by assumption) ?_)
      | (refine eqF (by assumption) ?_)
      | (refine neT (by assumption) ?_)
      | (refine neF (by assumption) ?_)
      | (refine cEq (fun h => ?_) (fun h => ?_))
      | (refine cNe (fun h => ?_) (fun h => ?_))
      | (refine cNot (fun h => ?_) (fun h => ?_))
      | (refine cDec (fun h => ?_) (fun h => ?_))
      | (refine condN_split (fun h => ?_) (fun h => ?_))
      | (refine Exists.intro _ (And.intro (hB) ?_))
      | (refine Exists.intro _ (And.intro rfl ?_))
      | (refine Or.inl (And.intro (by rfl : Nat.ble _ _ = true) ?_))
      | (refine Or.inl (And.intro Cl.lit ?_))
      | (refine Or.inr ?_)
      | (refine Exists.intro (1 : Nat) ?_)
      | (refine Exists.intro _ (And.intro rfl ?_))
      | (fail))
  all_goals try refine Side.mk ?_
  all_goals try dsimp only at *
  all_goals try refine eqI ?_
  all_goals first
    | rfl
    | decide
    | (set_option pp.maxSteps 600 in trace_state; sorry)
def iVen : BS := [82, 69, 84, 73, 67, 85, 76, 69]
def iPro : BS := [71, 65, 68, 71, 69, 84, 32, 68, 73, 83, 75, 32, 32, 32, 32, 32]
def iRel : BS := [48, 48, 48, 49]
def iKind (t : Bool) : UInt8 := if t then 0 else 127
def iStd (t : Bool) : BS := [iKind t, 0x80, 6, 2, 31, 0, 0, 2] ++ (iVen ++ (iPro ++ iRel))
def iPage (n l : Int) (t : Bool) : BS × Sns :=
  if n = 0 then ([iKind t, 0, 0, 4, 0, 0x80, 0x83, 0xb0], sOk)
  else if n = 0x80 then ([iKind t, 0x80, 0, 8] ++ iSer l, sOk)
  else if n = 0x83 then ([iKind t, 0x83, 0, 20, 2, 1, 0, 16] ++ (iVen ++ iSer l), sOk)
  else if n = 0xb0 then ([iKind t, 0xb0, 0, 60, 0, 0, 0, 0, 0, 0, 0, 64] ++ List.replicate 52 0, sOk)
  else ([], sField)
theorem c_txt1 : FnC Try.prog 72 [.lit (.string ⟨#[82, 69, 84, 73, 67, 85, 76, 69]⟩), i64 8] [] (bsV iVen) [] := by
  refine fn_vcI (N := 27) (d := 5) tabOk mixed inlBt_ok 6 Try.func72 rfl rfl rfl ?_
  repeat'
    (conv => whnf
     first
      | (exact trivial)
      | (refine And.intro (by with_reducible rfl) ?_)
      | (refine And.intro (drawI (by kernel_rfl)) ?_)
      | (refine andI ?_ ?_)
      | (refine condT (by assumption) ?_)
      | (refine condF (by assumption) ?_)
      | (refine decT (by assumption) ?_)
      | (refine decF (by assumption) ?_)
      | (refine eqT (by assumption) ?_)
      | (refine eqF (by assumption) ?_)
      | (refine neT (by assumption) ?_)
      | (refine neF (by assumption) ?_)
      | (refine cEq (fun h => ?_) (fun h => ?_))
      | (refine cNe (fun h => ?_) (fun h => ?_))
      | (refine cNot (fun h => ?_) (fun h => ?_))
      | (refine cDec (fun h => ?_) (fun h => ?_))
      | (refine condN_split (fun h => ?_) (fun h => ?_))
      | (refine Exists.intro _ (And.intro rfl ?_))
      | (refine loop_unr tabOk (ceN_sound tabOk mixed inlBt_ok _) mixed 3 ?_)
      | (refine Or.inl (And.intro (by rfl : Nat.ble _ _ = true) ?_))
      | (refine Or.inl (And.intro Cl.lit ?_))
      | (refine Or.inr ?_)
      | (refine Exists.intro (1 : Nat) ?_)
      | (refine Exists.intro _ (And.intro rfl ?_))
      | (fail))
  all_goals try refine Side.mk ?_
  all_goals try dsimp only at *
  all_goals try refine eqI ?_
  all_goals first
    | decide
    | rfl
    | exact Nat.le_of_ble_eq_true rfl
    | (refine or_all ?_; rfl)
    | (refine rp_all ?_; rfl)
    | (set_option pp.maxSteps 600 in trace_state; sorry)
theorem c_txt2 : FnC Try.prog 72 [.lit (.string ⟨#[71, 65, 68, 71, 69, 84, 32, 68, 73, 83, 75]⟩), i64 16] [] (bsV iPro) [] := by
  refine fn_vcI (N := 27) (d := 5) tabOk mixed inlBt_ok 6 Try.func72 rfl rfl rfl ?_
  repeat'
    (conv => whnf
     first
      | (exact trivial)
      | (refine And.intro (by with_reducible rfl) ?_)
      | (refine And.intro (drawI (by kernel_rfl)) ?_)
      | (refine andI ?_ ?_)
      | (refine condT (by assumption) ?_)
      | (refine condF (by assumption) ?_)
      | (refine decT (by assumption) ?_)
      | (refine decF (by assumption) ?_)
      | (refine eqT (by assumption) ?_)
      | (refine eqF (by assumption) ?_)
      | (refine neT (by assumption) ?_)
      | (refine neF (by assumption) ?_)
      | (refine cEq (fun h => ?_) (fun h => ?_))
      | (refine cNe (fun h => ?_) (fun h => ?_))
      | (refine cNot (fun h => ?_) (fun h => ?_))
      | (refine cDec (fun h => ?_) (fun h => ?_))
      | (refine condN_split (fun h => ?_) (fun h => ?_))
      | (refine Exists.intro _ (And.intro rfl ?_))
      | (refine loop_unr tabOk (ceN_sound tabOk mixed inlBt_ok _) mixed 8 ?_)
      | (refine Or.inl (And.intro (by rfl : Nat.ble _ _ = true) ?_))
      | (refine Or.inl (And.intro Cl.lit ?_))
      | (refine Or.inr ?_)
      | (refine Exists.intro (1 : Nat) ?_)
      | (refine Exists.intro _ (And.intro rfl ?_))
      | (fail))
  all_goals try refine Side.mk ?_
  all_goals try dsimp only at *
  all_goals try refine eqI ?_
  all_goals first
    | decide
    | rfl
    | exact Nat.le_of_ble_eq_true rfl
    | (refine or_all ?_; rfl)
    | (refine rp_all ?_; rfl)
    | (set_option pp.maxSteps 600 in trace_state; sorry)
theorem c_txt3 : FnC Try.prog 72 [.lit (.string ⟨#[48, 48, 48, 49]⟩), i64 4] [] (bsV iRel) [] := by
  refine fn_vcI (N := 27) (d := 5) tabOk mixed inlBt_ok 6 Try.func72 rfl rfl rfl ?_
  repeat'
    (conv => whnf
     first
      | (exact trivial)
      | (refine And.intro (by with_reducible rfl) ?_)
      | (refine And.intro (drawI (by kernel_rfl)) ?_)
      | (refine andI ?_ ?_)
      | (refine condT (by assumption) ?_)
      | (refine condF (by assumption) ?_)
      | (refine decT (by assumption) ?_)
      | (refine decF (by assumption) ?_)
      | (refine eqT (by assumption) ?_)
      | (refine eqF (by assumption) ?_)
      | (refine neT (by assumption) ?_)
      | (refine neF (by assumption) ?_)
      | (refine cEq (fun h => ?_) (fun h => ?_))
      | (refine cNe (fun h => ?_) (fun h => ?_))
      | (refine cNot (fun h => ?_) (fun h => ?_))
      | (refine cDec (fun h => ?_) (fun h => ?_))
      | (refine condN_split (fun h => ?_) (fun h => ?_))
      | (refine Exists.intro _ (And.intro rfl ?_))
      | (refine loop_unr tabOk (ceN_sound tabOk mixed inlBt_ok _) mixed 3 ?_)
      | (refine Or.inl (And.intro (by rfl : Nat.ble _ _ = true) ?_))
      | (refine Or.inl (And.intro Cl.lit ?_))
      | (refine Or.inr ?_)
      | (refine Exists.intro (1 : Nat) ?_)
      | (refine Exists.intro _ (And.intro rfl ?_))
      | (fail))
  all_goals try refine Side.mk ?_
  all_goals try dsimp only at *
  all_goals try refine eqI ?_
  all_goals first
    | decide
    | rfl
    | exact Nat.le_of_ble_eq_true rfl
    | (refine or_all ?_; rfl)
    | (refine rp_all ?_; rfl)
    | (set_option pp.maxSteps 600 in trace_state; sorry)
theorem c_pb2z (z : Int) (h : Side (0 ≤ z ∧ z < 2 ^ 64)) : FnC Try.prog 55 [u64 z, i64 2] [] (bsV (putB 2 z.toNat)) [] := by
  have h := h.h
  have := c_putBig 2 z.toNat ⟨by omega⟩ ⟨by omega⟩
  rw [Int.toNat_of_nonneg (by omega)] at this
  exact this
theorem c_pb8k : FnC Try.prog 55 [u64 64, i64 8] [] (bsV [0, 0, 0, 0, 0, 0, 0, 64]) [] := c_putBig 8 64 ⟨by omega⟩ ⟨by omega⟩
theorem iSer_len (l : Int) : (iSer l).length = 8 := rfl
attribute [local irreducible] iSer
theorem c_std (t : Bool) : FnC Try.prog 48 [bV t] [] (bsV (iStd t)) [] := by
  cases t
  all_goals refine fn_vcI (N := 11) (d := 4) tabOk mixed inlIb_ok 6 Try.func48 rfl rfl rfl ?_
  repeat'
    (conv => whnf
     first
      | (exact trivial)
      | (refine And.intro (by with_reducible rfl) ?_)
      | (refine And.intro (drawI (by kernel_rfl)) ?_)
      | (refine andI ?_ ?_)
      | (refine condT (by assumption) ?_)
      | (refine condF (by assumption) ?_)
      | (refine decT (by assumption) ?_)
      | (refine decF (by assumption) ?_)
      | (refine eqT (by assumption) ?_)
      | (refine eqF (by assumption) ?_)
      | (refine neT (by assumption) ?_)
      | (refine neF (by assumption) ?_)
      | (refine cEq (fun h => ?_) (fun h => ?_))
      | (refine cNe (fun h => ?_) (fun h => ?_))
      | (refine cNot (fun h => ?_) (fun h => ?_))
      | (refine cDec (fun h => ?_) (fun h => ?_))
      | (refine condN_split (fun h => ?_) (fun h => ?_))
      | (refine Exists.intro _ (And.intro (c_txt1) ?_))
      | (refine Exists.intro _ (And.intro (c_txt2) ?_))
      | (refine Exists.intro _ (And.intro (c_txt3) ?_))
      | (refine Exists.intro _ (And.intro rfl ?_))
      | (refine loop_unr tabOk (ceN_sound tabOk mixed inlIb_ok _) mixed 8 ?_)
      | (refine Or.inl (And.intro (by rfl : Nat.ble _ _ = true) ?_))
      | (refine Or.inl (And.intro Cl.lit ?_))
      | (refine Or.inr ?_)
      | (refine Exists.intro (1 : Nat) ?_)
      | (refine Exists.intro _ (And.intro rfl ?_))
      | (fail))
  all_goals try refine Side.mk ?_
  all_goals try dsimp only at *
  all_goals try refine eqI ?_
  all_goals first
    | rfl
    | decide
    | exact Nat.le_of_ble_eq_true rfl
    | (refine or_all ?_; rfl)
    | (refine rp_all ?_; rfl)
    | (refine rn_plain (rp_all ?_); rfl)
    | (set_option pp.maxSteps 600 in trace_state; sorry)
theorem c_ipage (n l : Int) (t : Bool) : FnC Try.prog 50 [i64 n, i64 l, bV t] [] (.tup [bsV (iPage n l t).1, (iPage n l t).2.v]) [] := by
  have hS := c_serial l
  have hl := iSer_len l
  unfold iPage
  generalize iSer l = s at *
  have hsl : s.toArray.toList = s := rfl
  cases t
  all_goals refine fn_vcI (N := 47) (d := 6) tabOk mixed inlIp_ok 6 Try.func50 rfl rfl rfl ?_
  repeat'
    (conv => whnf
     first
      | (exact trivial)
      | (refine And.intro (by with_reducible rfl) ?_)
      | (refine And.intro (drawI (by kernel_rfl)) ?_)
      | (refine andI ?_ ?_)
      | (refine condT (by assumption) ?_)
      | (refine condF (by assumption) ?_)
      | (refine decT (by assumption) ?_)
      | (refine decF (by assumption) ?_)
      | (refine eqT (by assumption) ?_)
      | (refine eqF (by assumption) ?_)
      | (refine neT (by assumption) ?_)
      | (refine neF (by assumption) ?_)
      | (refine cEq (fun h => ?_) (fun h => ?_))
      | (refine cNe (fun h => ?_) (fun h => ?_))
      | (refine cNot (fun h => ?_) (fun h => ?_))
      | (refine cDec (fun h => ?_) (fun h => ?_))
      | (refine condN_split (fun h => ?_) (fun h => ?_))
      | (refine Exists.intro _ (And.intro (hS) ?_))
      | (refine Exists.intro _ (And.intro (c_txt1) ?_))
      | (refine Exists.intro _ (And.intro (c_pb8k) ?_))
      | (refine Exists.intro _ (And.intro (c_pb2z _ ?_) ?_))
      | (refine Exists.intro _ (And.intro (c_concat _ _ ?_ ?_ ?_ ?_ ?_ ?_) ?_))
      | (refine Exists.intro _ (And.intro (c_concat3 _ _ _ ?_ ?_ ?_ ?_ ?_ ?_ ?_ ?_ ?_) ?_))
      | (refine Exists.intro _ (And.intro rfl ?_))
      | (refine Or.inl (And.intro (by rfl : Nat.ble _ _ = true) ?_))
      | (refine Or.inl (And.intro Cl.lit ?_))
      | (refine Or.inr ?_)
      | (refine Exists.intro (1 : Nat) ?_)
      | (refine Exists.intro _ (And.intro rfl ?_))
      | (fail))
  all_goals try refine Side.mk ?_
  all_goals try dsimp only at *
  all_goals try refine eqI ?_
  all_goals try subst h
  all_goals try subst_vars
  all_goals first
    | decide
    | exact Nat.le_of_ble_eq_true rfl
    | (refine or_all ?_; rfl)
    | (refine rp_all ?_; rfl)
    | (rw [rp_b]; trivial)
    | (rw [or_b]; trivial)
    | (rw [len_b, hl]; decide)
    | (rw [len_b]; decide)
    | (simp only [len_b, List.length_append, hl]; decide)
    | rfl
    | (simp only [len_b, hl, List.length_append, List.length_take, List.length_drop, List.length_cons, List.length_nil]; rfl)
    | (simp only [rp_app, rp_b, and_true]; exact rp_all rfl)
    | (simp only [or_app, or_b, and_true]; exact or_all rfl)
    | (simp only [*, if_false]; rfl)
    | (set_option pp.maxSteps 600 in trace_state; sorry)
end Go.Proofs.Ytijinkikmglpcaa
