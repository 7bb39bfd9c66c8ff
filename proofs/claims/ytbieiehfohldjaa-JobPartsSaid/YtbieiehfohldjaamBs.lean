/-
  Blocks, senses, media held against each other, by the document.
-/
import Derived.Test.YtbieiehfohldjaamBo
namespace Go.Proofs.Ytbieiehfohldjaa
open Go
set_option linter.unusedVariables false
set_option linter.unusedSimpArgs false
set_option maxRecDepth 100000
set_option maxHeartbeats 8000000

theorem same_iff {α : Type} {a b : List α} (d : α) (h : a.length = b.length) : (∀ j < a.length, a[j]?.getD d = b[j]?.getD d) ↔ a = b := by
  constructor
  · intro g
    refine List.ext_getElem h fun j h1 h2 => ?_
    have := g j h1
    rwa [List.getElem?_eq_getElem h1, List.getElem?_eq_getElem h2] at this
  · rintro rfl j _
    rfl
instance : DecidableEq Sns := fun x y => decidable_of_decidable_of_iff (p := x.key = y.key ∧ x.code = y.code ∧ x.qual = y.qual) (by cases x; cases y; simp)
instance : DecidableEq Cmd := fun x y => decidable_of_decidable_of_iff (p := x.op = y.op ∧ x.pos = y.pos ∧ x.n = y.n ∧ x.page = y.page ∧ x.bits = y.bits) (by cases x; cases y; simp)
instance : DecidableEq Dty := fun x y => decidable_of_decidable_of_iff (p := x.pos = y.pos ∧ x.data = y.data) (by cases x; cases y; simp)
instance : DecidableEq Med := fun x y => decidable_of_decidable_of_iff (p := x.blocks = y.blocks ∧ x.dirty = y.dirty) (by cases x; cases y; simp)
instance : DecidableEq Slt := fun x y => decidable_of_decidable_of_iff (p := x.med = y.med ∧ x.present = y.present ∧ x.prot = y.prot ∧ x.latch = y.latch) (by cases x; cases y; simp)
instance : DecidableEq Unt := fun x y => decidable_of_decidable_of_iff (p := x.slot = y.slot ∧ x.caching = y.caching ∧ x.atts = y.atts ∧ x.last = y.last) (by cases x; cases y; simp)
instance : DecidableEq Job := fun x y => decidable_of_decidable_of_iff (p := x.cmd = y.cmd ∧ x.len = y.len ∧ x.took = y.took ∧ x.rest = y.rest ∧ x.bad = y.bad) (by cases x; cases y; simp)
instance : DecidableEq Itt := fun x y => decidable_of_decidable_of_iff (p := x.dir = y.dir ∧ x.len = y.len ∧ x.data = y.data ∧ x.job = y.job ∧ x.sense = y.sense) (by cases x; cases y; simp)
/-- senses, number by number -/
def eqS (x y : Sns) : Bool := (x.key == y.key) && ((x.code == y.code) && ((x.qual == y.qual) && true))
theorem eqS_eq (x y : Sns) : eqS x y = decide (x = y) := by
  obtain ⟨a, b, c⟩ := x
  obtain ⟨d, e, f⟩ := y
  rw [Bool.eq_iff_iff, decide_eq_true_eq]
  simp [eqS]
def eqD (x y : Dty) : Bool := (x.pos == y.pos) && eqL x.data.bs y.data.bs
theorem eqD_eq (x y : Dty) : eqD x y = decide (x = y) := by
  obtain ⟨a, b⟩ := x
  obtain ⟨d, e⟩ := y
  rw [Bool.eq_iff_iff, decide_eq_true_eq]
  simp [eqD, eqL_blk]
def eqC (x y : Cmd) : Bool := (x.op == y.op) && ((x.pos == y.pos) && ((x.n == y.n) && ((x.page == y.page) && ((x.bits == y.bits) && true))))
theorem eqC_eq (x y : Cmd) : eqC x y = decide (x = y) := by
  obtain ⟨a, b, c, d, e⟩ := x
  obtain ⟨a', b', c', d', e'⟩ := y
  rw [Bool.eq_iff_iff, decide_eq_true_eq]
  simp [eqC]
theorem c_bSame (a b : List Blk) (ha : Side (a.length ≤ 2 ^ 40)) : FnC Try.prog 71 [.sl 64 (a.map Blk.row), .sl 64 (b.map Blk.row)] [] (bV (decide (a = b))) [] := by
  have ha := ha.h
  refine fn_vcI (N := 26) (d := 5) tabOk mixed inlN0_ok 6 Try.func71 rfl rfl rfl ?_
  repeat'
    (conv => whnf
     first
      | (exact trivial)
      | (refine And.intro (by with_reducible rfl) ?_)
      | (refine And.intro (drawI (by kernel_rfl)) ?_)
      | (refine andI ?_ ?_)
      | (refine condT (by assumption) ?_)
      | (refine condF (by assumption) ?_)
      | (refine decT (by assumption) ?_)
      | (refine decF (by assumption) ?_)
      | (refine eqT (by assumption) ?_)
      | (refine eqF (by assumption) ?_)
      | (refine neT (by assumption) ?_)
      | (refine neF (by assumption) ?_)
      | (refine cEq (fun h => ?_) (fun h => ?_))
      | (refine cNe (fun h => ?_) (fun h => ?_))
      | (refine cNot (fun h => ?_) (fun h => ?_))
      | (refine cDec (fun h => ?_) (fun h => ?_))
      | (refine condN_split (fun h => ?_) (fun h => ?_))
      | (refine Exists.intro _ (And.intro rfl ?_))
      | (refine Or.inl (And.intro (by rfl : Nat.ble _ _ = true) ?_))
      | (refine Or.inl (And.intro Cl.lit ?_))
      | (refine Or.inr ?_)
      | (refine Exists.intro (1 : Nat) ?_)
      | (refine Exists.intro _ (And.intro rfl ?_))
      | (fail))
  all_goals try refine Side.mk ?_
  all_goals try dsimp only at *
  all_goals try refine eqI ?_
  · refine bool_close ?_
    simp only [List.length_map] at h
    simp only [Bool.false_eq_true, false_iff, decide_eq_true_eq]
    rintro rfl
    exact h rfl
  have hab : a.length = b.length := by simpa only [List.length_map, Int.natCast_inj] using h
  conv => whnf
  refine loop_w tabOk (ceN_sound tabOk mixed inlN0_ok 6) mixed 11 (X := Nat) 0 (fun k => [(5, i64 (k : Nat))]) (fun _ => []) 0 (fun k => k ≤ a.length ∧ ∀ j < k, a[j]?.getD Blk.dflt = b[j]?.getD Blk.dflt) (fun k => a.length - k) ⟨Nat.zero_le _, fun j h => by omega⟩ ?_ ?_
  · repeat'
      (conv => whnf
       first
        | (exact trivial)
        | (refine And.intro (by with_reducible rfl) ?_)
        | (refine And.intro (drawI (by kernel_rfl)) ?_)
        | (refine andI ?_ ?_)
        | (refine condT (by assumption) ?_)
        | (refine condF (by assumption) ?_)
        | (refine decT (by assumption) ?_)
        | (refine decF (by assumption) ?_)
        | (refine eqT (by assumption) ?_)
        | (refine eqF (by assumption) ?_)
        | (refine neT (by assumption) ?_)
        | (refine neF (by assumption) ?_)
        | (refine cEq (fun h => ?_) (fun h => ?_))
        | (refine cNe (fun h => ?_) (fun h => ?_))
        | (refine cNot (fun h => ?_) (fun h => ?_))
        | (refine cDec (fun h => ?_) (fun h => ?_))
        | (refine condN_split (fun h => ?_) (fun h => ?_))
        | (refine Or.inl (And.intro (by rfl : Nat.ble _ _ = true) ?_))
        | (refine Or.inl (And.intro Cl.lit ?_))
        | (refine Or.inr ?_)
        | (refine Exists.intro (1 : Nat) ?_)
        | (refine Exists.intro _ (And.intro rfl ?_))
        | (fail))
    all_goals try refine Side.mk ?_
    all_goals try dsimp only at *
    all_goals try refine eqI ?_
    all_goals rfl
  · rintro k ⟨h1, h2⟩
    repeat'
      (conv => whnf
       first
        | (exact trivial)
        | (refine And.intro (by with_reducible rfl) ?_)
        | (refine And.intro (drawI (by kernel_rfl)) ?_)
        | (refine andI ?_ ?_)
        | (refine condT (by assumption) ?_)
        | (refine condF (by assumption) ?_)
        | (refine decT (by assumption) ?_)
        | (refine decF (by assumption) ?_)
        | (refine eqT (by assumption) ?_)
        | (refine eqF (by assumption) ?_)
        | (refine neT (by assumption) ?_)
        | (refine neF (by assumption) ?_)
        | (refine cEq (fun h => ?_) (fun h => ?_))
        | (refine cNe (fun h => ?_) (fun h => ?_))
        | (refine cNot (fun h => ?_) (fun h => ?_))
        | (refine cDec (fun h => ?_) (fun h => ?_))
        | (refine condN_split (fun h => ?_) (fun h => ?_))
        | (refine Exists.intro _ (And.intro (map_get Blk.dflt ?_) ?_))
        | (refine Exists.intro _ (And.intro eq_blk ?_))
        | (refine Exists.intro (k + 1) (andI ?_ (andI ?_ ?_)))
        | (refine Or.inl (And.intro (by rfl : Nat.ble _ _ = true) ?_))
        | (refine Or.inl (And.intro Cl.lit ?_))
        | (refine Or.inr ?_)
        | (refine Exists.intro (1 : Nat) ?_)
        | (refine Exists.intro _ (And.intro rfl ?_))
        | (fail))
    all_goals try refine Side.mk ?_
    all_goals try dsimp only at *
    all_goals try refine eqI ?_
    all_goals have key : ∀ q, eqL (a[k]?.getD Blk.dflt).bs (b[k]?.getD Blk.dflt).bs  = q → decide (a[k]?.getD Blk.dflt = b[k]?.getD Blk.dflt) = q := fun q hq => by rw [← eqL_blk]; exact hq
    all_goals try simp only [List.length_map, Int.toNat_natCast] at *
    all_goals first
      | omega
      | (refine congrArg (Value.int IntKind.i64) ?_; rw [wrap64 (by omega) (by omega)]; omega)
      | (have hq := key false (by assumption)
         refine bool_close ?_
         simp only [Bool.false_eq_true, false_iff, decide_eq_true_eq, decide_eq_false_iff_not] at hq ⊢
         rintro rfl
         exact hq rfl)
      | (have hq := key true (by assumption)
         simp only [decide_eq_true_eq] at hq
         refine ⟨by omega, fun j hj => ?_⟩
         rcases Nat.lt_or_ge j k with q | q
         · exact h2 j q
         · obtain rfl : j = k := by omega
           exact hq)
      | (refine bool_close ?_
         simp only [true_iff, decide_eq_true_eq]
         exact (same_iff Blk.dflt hab).1 fun j hj => h2 j (by omega))
theorem c_sSame (a b : List Sns) (ha : Side (a.length ≤ 2 ^ 40)) : FnC Try.prog 39 [.sl 3 (a.map Sns.row), .sl 3 (b.map Sns.row)] [] (bV (decide (a = b))) [] := by
  have ha := ha.h
  refine fn_vcI (N := 26) (d := 5) tabOk mixed inlN0_ok 6 Try.func39 rfl rfl rfl ?_
  repeat'
    (conv => whnf
     first
      | (exact trivial)
      | (refine And.intro (by with_reducible rfl) ?_)
      | (refine And.intro (drawI (by kernel_rfl)) ?_)
      | (refine andI ?_ ?_)
      | (refine condT (by assumption) ?_)
      | (refine condF (by assumption) ?_)
      | (refine decT (by assumption) ?_)
      | (refine decF (by assumption) ?_)
      | (refine eqT (by assumption) ?_)
      | (refine eqF (by assumption) ?_)
      | (refine neT (by assumption) ?_)
      | (refine neF (by assumption) ?_)
      | (refine cEq (fun h => ?_) (fun h => ?_))
      | (refine cNe (fun h => ?_) (fun h => ?_))
      | (refine cNot (fun h => ?_) (fun h => ?_))
      | (refine cDec (fun h => ?_) (fun h => ?_))
      | (refine condN_split (fun h => ?_) (fun h => ?_))
      | (refine Exists.intro _ (And.intro rfl ?_))
      | (refine Or.inl (And.intro (by rfl : Nat.ble _ _ = true) ?_))
      | (refine Or.inl (And.intro Cl.lit ?_))
      | (refine Or.inr ?_)
      | (refine Exists.intro (1 : Nat) ?_)
      | (refine Exists.intro _ (And.intro rfl ?_))
      | (fail))
  all_goals try refine Side.mk ?_
  all_goals try dsimp only at *
  all_goals try refine eqI ?_
  · refine bool_close ?_
    simp only [List.length_map] at h
    simp only [Bool.false_eq_true, false_iff, decide_eq_true_eq]
    rintro rfl
    exact h rfl
  have hab : a.length = b.length := by simpa only [List.length_map, Int.natCast_inj] using h
  conv => whnf
  refine loop_w tabOk (ceN_sound tabOk mixed inlN0_ok 6) mixed 11 (X := Nat) 0 (fun k => [(5, i64 (k : Nat))]) (fun _ => []) 0 (fun k => k ≤ a.length ∧ ∀ j < k, a[j]?.getD Sns.dflt = b[j]?.getD Sns.dflt) (fun k => a.length - k) ⟨Nat.zero_le _, fun j h => by omega⟩ ?_ ?_
  · repeat'
      (conv => whnf
       first
        | (exact trivial)
        | (refine And.intro (by with_reducible rfl) ?_)
        | (refine And.intro (drawI (by kernel_rfl)) ?_)
        | (refine andI ?_ ?_)
        | (refine condT (by assumption) ?_)
        | (refine condF (by assumption) ?_)
        | (refine decT (by assumption) ?_)
        | (refine decF (by assumption) ?_)
        | (refine eqT (by assumption) ?_)
        | (refine eqF (by assumption) ?_)
        | (refine neT (by assumption) ?_)
        | (refine neF (by assumption) ?_)
        | (refine cEq (fun h => ?_) (fun h => ?_))
        | (refine cNe (fun h => ?_) (fun h => ?_))
        | (refine cNot (fun h => ?_) (fun h => ?_))
        | (refine cDec (fun h => ?_) (fun h => ?_))
        | (refine condN_split (fun h => ?_) (fun h => ?_))
        | (refine Or.inl (And.intro (by rfl : Nat.ble _ _ = true) ?_))
        | (refine Or.inl (And.intro Cl.lit ?_))
        | (refine Or.inr ?_)
        | (refine Exists.intro (1 : Nat) ?_)
        | (refine Exists.intro _ (And.intro rfl ?_))
        | (fail))
    all_goals try refine Side.mk ?_
    all_goals try dsimp only at *
    all_goals try refine eqI ?_
    all_goals rfl
  · rintro k ⟨h1, h2⟩
    repeat'
      (conv => whnf
       first
        | (exact trivial)
        | (refine And.intro (by with_reducible rfl) ?_)
        | (refine And.intro (drawI (by kernel_rfl)) ?_)
        | (refine andI ?_ ?_)
        | (refine condT (by assumption) ?_)
        | (refine condF (by assumption) ?_)
        | (refine decT (by assumption) ?_)
        | (refine decF (by assumption) ?_)
        | (refine eqT (by assumption) ?_)
        | (refine eqF (by assumption) ?_)
        | (refine neT (by assumption) ?_)
        | (refine neF (by assumption) ?_)
        | (refine cEq (fun h => ?_) (fun h => ?_))
        | (refine cNe (fun h => ?_) (fun h => ?_))
        | (refine cNot (fun h => ?_) (fun h => ?_))
        | (refine cDec (fun h => ?_) (fun h => ?_))
        | (refine condN_split (fun h => ?_) (fun h => ?_))
        | (refine Exists.intro _ (And.intro (map_get Sns.dflt ?_) ?_))
        | (refine Exists.intro _ (And.intro eq_sns ?_))
        | (refine Exists.intro (k + 1) (andI ?_ (andI ?_ ?_)))
        | (refine Or.inl (And.intro (by rfl : Nat.ble _ _ = true) ?_))
        | (refine Or.inl (And.intro Cl.lit ?_))
        | (refine Or.inr ?_)
        | (refine Exists.intro (1 : Nat) ?_)
        | (refine Exists.intro _ (And.intro rfl ?_))
        | (fail))
    all_goals try refine Side.mk ?_
    all_goals try dsimp only at *
    all_goals try refine eqI ?_
    all_goals have key : ∀ q, eqS (a[k]?.getD Sns.dflt) (b[k]?.getD Sns.dflt)  = q → decide (a[k]?.getD Sns.dflt = b[k]?.getD Sns.dflt) = q := fun q hq => by rw [← eqS_eq]; exact hq
    all_goals try simp only [List.length_map, Int.toNat_natCast] at *
    all_goals first
      | omega
      | (refine congrArg (Value.int IntKind.i64) ?_; rw [wrap64 (by omega) (by omega)]; omega)
      | (have hq := key false (by assumption)
         refine bool_close ?_
         simp only [Bool.false_eq_true, false_iff, decide_eq_true_eq, decide_eq_false_iff_not] at hq ⊢
         rintro rfl
         exact hq rfl)
      | (have hq := key true (by assumption)
         simp only [decide_eq_true_eq] at hq
         refine ⟨by omega, fun j hj => ?_⟩
         rcases Nat.lt_or_ge j k with q | q
         · exact h2 j q
         · obtain rfl : j = k := by omega
           exact hq)
      | (refine bool_close ?_
         simp only [true_iff, decide_eq_true_eq]
         exact (same_iff Sns.dflt hab).1 fun j hj => h2 j (by omega))
theorem c_mSame (a b : Med) (h1 : Side (a.blocks.length ≤ 2 ^ 40)) (h2 : Side (a.dirty.length ≤ 2 ^ 40)) : FnC Try.prog 58 [a.v, b.v] [] (bV (decide (a = b))) [] := by
  have hb := c_bSame a.blocks b.blocks h1
  have h2 := h2.h
  obtain ⟨ab, a⟩ := a
  obtain ⟨bb, b⟩ := b
  dsimp only [Med.v] at *
  refine fn_vcI (N := 39) (d := 6) tabOk mixed inlN0_ok 6 Try.func58 rfl rfl rfl ?_
  repeat'
    (conv => whnf
     first
      | (exact trivial)
      | (refine And.intro (by with_reducible rfl) ?_)
      | (refine And.intro (drawI (by kernel_rfl)) ?_)
      | (refine andI ?_ ?_)
      | (refine condT (by assumption) ?_)
      | (refine condF (by assumption) ?_)
      | (refine decT (by assumption) ?_)
      | (refine decF (by assumption) ?_)
      | (refine eqT (by assumption) ?_)
      | (refine eqF (by assumption) ?_)
      | (refine neT (by assumption) ?_)
      | (refine neF (by assumption) ?_)
      | (refine cEq (fun h => ?_) (fun h => ?_))
      | (refine cNe (fun h => ?_) (fun h => ?_))
      | (refine cNot (fun h => ?_) (fun h => ?_))
      | (refine cDec (fun h => ?_) (fun h => ?_))
      | (refine condN_split (fun h => ?_) (fun h => ?_))
      | (refine Exists.intro _ (And.intro (hb) ?_))
      | (refine Exists.intro _ (And.intro rfl ?_))
      | (refine Or.inl (And.intro (by rfl : Nat.ble _ _ = true) ?_))
      | (refine Or.inl (And.intro Cl.lit ?_))
      | (refine Or.inr ?_)
      | (refine Exists.intro (1 : Nat) ?_)
      | (refine Exists.intro _ (And.intro rfl ?_))
      | (fail))
  all_goals try refine Side.mk ?_
  all_goals try dsimp only at *
  all_goals try refine eqI ?_
  · refine bool_close ?_
    simp only [decide_eq_false_iff_not] at h
    simp only [Bool.false_eq_true, false_iff, decide_eq_true_eq, Med.mk.injEq, not_and]
    exact fun q => absurd q h
  · refine bool_close ?_
    simp only [List.length_map] at h
    simp only [Bool.false_eq_true, false_iff, decide_eq_true_eq, Med.mk.injEq, not_and]
    rintro _ rfl
    exact h rfl
  rename_i hbs
  simp only [decide_eq_true_eq] at hbs
  subst hbs
  have hab : a.length = b.length := by simpa only [List.length_map, Int.natCast_inj] using h
  conv => whnf
  refine loop_k tabOk (ceN_sound tabOk mixed inlN0_ok 6) mixed 21 (X := Nat) 0 (fun k => [(5, i64 (k : Nat))]) (fun k => k ≤ a.length ∧ ∀ j < k, a[j]?.getD Dty.dflt = b[j]?.getD Dty.dflt) (fun k => a.length - k) ⟨Nat.zero_le _, fun j h => by omega⟩ ?_ ?_
  · repeat'
      (conv => whnf
       first
        | (exact trivial)
        | (refine And.intro (by with_reducible rfl) ?_)
        | (refine And.intro (drawI (by kernel_rfl)) ?_)
        | (refine andI ?_ ?_)
        | (refine condT (by assumption) ?_)
        | (refine condF (by assumption) ?_)
        | (refine decT (by assumption) ?_)
        | (refine decF (by assumption) ?_)
        | (refine eqT (by assumption) ?_)
        | (refine eqF (by assumption) ?_)
        | (refine neT (by assumption) ?_)
        | (refine neF (by assumption) ?_)
        | (refine cEq (fun h => ?_) (fun h => ?_))
        | (refine cNe (fun h => ?_) (fun h => ?_))
        | (refine cNot (fun h => ?_) (fun h => ?_))
        | (refine cDec (fun h => ?_) (fun h => ?_))
        | (refine condN_split (fun h => ?_) (fun h => ?_))
        | (refine Or.inl (And.intro (by rfl : Nat.ble _ _ = true) ?_))
        | (refine Or.inl (And.intro Cl.lit ?_))
        | (refine Or.inr ?_)
        | (refine Exists.intro (1 : Nat) ?_)
        | (refine Exists.intro _ (And.intro rfl ?_))
        | (fail))
    all_goals try refine Side.mk ?_
    all_goals try dsimp only at *
    all_goals try refine eqI ?_
    all_goals rfl
  · rintro k ⟨h1, h2⟩
    repeat'
      (conv => whnf
       first
        | (exact trivial)
        | (refine And.intro (by with_reducible rfl) ?_)
        | (refine And.intro (drawI (by kernel_rfl)) ?_)
        | (refine andI ?_ ?_)
        | (refine condT (by assumption) ?_)
        | (refine condF (by assumption) ?_)
        | (refine decT (by assumption) ?_)
        | (refine decF (by assumption) ?_)
        | (refine eqT (by assumption) ?_)
        | (refine eqF (by assumption) ?_)
        | (refine neT (by assumption) ?_)
        | (refine neF (by assumption) ?_)
        | (refine cEq (fun h => ?_) (fun h => ?_))
        | (refine cNe (fun h => ?_) (fun h => ?_))
        | (refine cNot (fun h => ?_) (fun h => ?_))
        | (refine cDec (fun h => ?_) (fun h => ?_))
        | (refine condN_split (fun h => ?_) (fun h => ?_))
        | (refine Exists.intro _ (And.intro (map_get Dty.dflt ?_) ?_))
        | (refine Exists.intro _ (And.intro eq_dty ?_))
        | (refine Exists.intro (k + 1) (andI ?_ (andI ?_ ?_)))
        | (refine Or.inl (And.intro (by rfl : Nat.ble _ _ = true) ?_))
        | (refine Or.inl (And.intro Cl.lit ?_))
        | (refine Or.inr ?_)
        | (refine Exists.intro (1 : Nat) ?_)
        | (refine Exists.intro _ (And.intro rfl ?_))
        | (fail))
    all_goals try refine Side.mk ?_
    all_goals try dsimp only at *
    all_goals try refine eqI ?_
    all_goals have key : ∀ q, eqD (a[k]?.getD Dty.dflt) (b[k]?.getD Dty.dflt) = q → decide (a[k]?.getD Dty.dflt = b[k]?.getD Dty.dflt) = q := fun q hq => by rw [← eqD_eq]; exact hq
    all_goals try simp only [List.length_map, Int.toNat_natCast] at *
    all_goals first
      | omega
      | (refine congrArg (Value.int IntKind.i64) ?_; rw [wrap64 (by omega) (by omega)]; omega)
      | (have hq := key false (by assumption)
         refine bool_close ?_
         simp only [Bool.false_eq_true, false_iff, decide_eq_true_eq, decide_eq_false_iff_not, Med.mk.injEq, true_and] at hq ⊢
         rintro rfl
         exact hq rfl)
      | (have hq := key true (by assumption)
         simp only [decide_eq_true_eq] at hq
         refine ⟨by omega, fun j hj => ?_⟩
         rcases Nat.lt_or_ge j k with q | q
         · exact h2 j q
         · obtain rfl : j = k := by omega
           exact hq)
      | (refine bool_close ?_
         simp only [true_iff, decide_eq_true_eq, Med.mk.injEq, true_and]
         exact (same_iff Dty.dflt hab).1 fun j hj => h2 j (by omega))
end Go.Proofs.Ytbieiehfohldjaa
