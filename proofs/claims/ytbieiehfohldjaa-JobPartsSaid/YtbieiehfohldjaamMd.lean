/-
  Media: what is right, what is flushed, written, lost, shown.
-/
import Derived.Test.YtbieiehfohldjaaQi
namespace Go.Proofs.Ytbieiehfohldjaa
open Go
set_option linter.unusedVariables false
set_option linter.unusedSimpArgs false
set_option maxRecDepth 100000
set_option maxHeartbeats 4000000

theorem row_get {α : Type} {f : α → List V} {l : List α} {j : Nat} {r : α} (h : l[j]? = some r) : (l.map f)[(j : Int).toNat]? = some (f r) := by
  rw [Int.toNat_natCast, List.getElem?_map, h]
  rfl
theorem rp_set {l : List (List V)} (h : rowsPlain l) {r : List V} (hr : r.all kfc = true) (j : Nat) : rowsPlain (l.set j r) := fun x hx => by
  rcases List.mem_or_eq_of_mem_set hx with hx | rfl
  · exact h x hx
  · exact hr
theorem set_row {α : Type} {f : α → List V} (l : List α) (j : Nat) (x : α) : (l.map f).set j (f x) = (l.set j x).map f := (List.map_set).symm
noncomputable def inlN0 : List IRow := []
theorem inlN0_ok : IOk Try.prog (inlTab inlN0) := inl_ok (by
  unfold inlN0
  exact trivial)
noncomputable def inlMd : List IRow := [(80, Try.f80, 14, 4, 0), (79, Try.f79, 3, 2, 0), (89, Try.f89, 10, 4, 0), (90, Try.f90, 5, 3, 0), (81, Try.f81, 22, 5, 0), (86, Try.f86, 9, 4, 0), (87, Try.f87, 9, 4, 0), (92, Try.f92, 8, 4, 64)]
theorem inlMd_ok : IOk Try.prog (inlTab inlMd) := inl_ok (by
  unfold inlMd
  refine And.intro ⟨rfl, rfl, rfl, .inl rfl⟩ ?_
  refine And.intro ⟨rfl, rfl, rfl, .inl rfl⟩ ?_
  refine And.intro ⟨rfl, rfl, rfl, .inl rfl⟩ ?_
  refine And.intro ⟨rfl, rfl, rfl, .inl rfl⟩ ?_
  refine And.intro ⟨rfl, rfl, rfl, .inl rfl⟩ ?_
  refine And.intro ⟨rfl, rfl, rfl, .inl rfl⟩ ?_
  refine And.intro ⟨rfl, rfl, rfl, .inl rfl⟩ ?_
  refine And.intro ⟨rfl, rfl, rfl, .inr cl_92⟩ ?_
  exact trivial)
def dThere (m : Med) (d : Dty) : Bool := decide (0 ≤ d.pos) && decide (d.pos < m.blocks.length)
def mRight (m : Med) : Bool := decide (m.blocks.length ≤ 64) && (decide (m.dirty.length ≤ 64) && m.dirty.all (dThere m))
theorem right_iff (m : Med) : mRight m = true ↔ m.blocks.length ≤ 64 ∧ m.dirty.length ≤ 64 ∧ ∀ d ∈ m.dirty, 0 ≤ d.pos ∧ d.pos < m.blocks.length := by
  simp [mRight, dThere]
/-- the blocks behind writes -/
def putF (q : Nat → Dty → Bool) : Nat → List Dty → List Blk → List Blk
  | _, [], bs => bs
  | i, d :: ds, bs => putF q (i + 1) ds (if q i d = true then bs.set d.pos.toNat d.data else bs)
/-- the writes that stay -/
def keepF (q s : Nat → Dty → Bool) : Nat → List Dty → List Dty
  | _, [] => []
  | i, d :: ds => if q i d = true then keepF q s (i + 1) ds else if s i d = true then d :: keepF q s (i + 1) ds else keepF q s (i + 1) ds
def mDone (q s : Nat → Dty → Bool) (m : Med) : Med := ⟨putF q 0 m.dirty m.blocks, keepF q s 0 m.dirty⟩
theorem putF_snoc (q : Nat → Dty → Bool) (d : Dty) : ∀ (l : List Dty) (i : Nat) (bs : List Blk), putF q i (l ++ [d]) bs = if q (i + l.length) d = true then (putF q i l bs).set d.pos.toNat d.data else putF q i l bs
  | [], i, bs => rfl
  | e :: l, i, bs => by
    have e1 : i + 1 + l.length = i + (e :: l).length := by simp; omega
    simp only [List.cons_append, putF]
    rw [putF_snoc q d l (i + 1), e1]
theorem keepF_snoc (q s : Nat → Dty → Bool) (d : Dty) : ∀ (l : List Dty) (i : Nat), keepF q s i (l ++ [d]) = keepF q s i l ++ (if q (i + l.length) d = true then [] else if s (i + l.length) d = true then [d] else [])
  | [], i => by simp [keepF]
  | e :: l, i => by
    have e1 : i + 1 + l.length = i + (e :: l).length := by simp; omega
    simp only [List.cons_append, keepF]
    rw [keepF_snoc q s d l (i + 1), e1]
    by_cases a1 : q i e = true
    · rw [if_pos a1, if_pos a1]
    · rw [if_neg a1, if_neg a1]
      by_cases a2 : s i e = true
      · rw [if_pos a2, if_pos a2]; rfl
      · rw [if_neg a2, if_neg a2]
theorem putF_len (q : Nat → Dty → Bool) : ∀ (l : List Dty) (i : Nat) (bs : List Blk), (putF q i l bs).length = bs.length
  | [], i, bs => rfl
  | e :: l, i, bs => by
    simp only [putF]
    rw [putF_len q l]
    split <;> simp
theorem keepF_len (q s : Nat → Dty → Bool) : ∀ (l : List Dty) (i : Nat), (keepF q s i l).length ≤ l.length
  | [], i => Nat.le_refl _
  | e :: l, i => by
    have := keepF_len q s l (i + 1)
    simp only [keepF]
    (repeat' split) <;> simp <;> omega
section
variable {q s : Nat → Dty → Bool} {ds : List Dty} {bs : List Blk} {k : Nat} {d : Dty}
theorem put_yes (h : ds[k]? = some d) (hq : q k d = true) : putF q 0 (ds.take (k + 1)) bs = (putF q 0 (ds.take k) bs).set d.pos.toNat d.data := by
  have hk := (List.getElem?_eq_some_iff.1 h).1
  rw [take_getD d hk, h, Option.getD_some, putF_snoc, if_pos (by rw [List.length_take, show 0 + min k ds.length = k by omega]; exact hq)]
theorem put_no (h : ds[k]? = some d) (hq : q k d = false) : putF q 0 (ds.take (k + 1)) bs = putF q 0 (ds.take k) bs := by
  have hk := (List.getElem?_eq_some_iff.1 h).1
  rw [take_getD d hk, h, Option.getD_some, putF_snoc, if_neg (by rw [List.length_take, show 0 + min k ds.length = k by omega, hq]; decide)]
theorem keep_yes (h : ds[k]? = some d) (hq : q k d = true) : keepF q s 0 (ds.take (k + 1)) = keepF q s 0 (ds.take k) := by
  have hk := (List.getElem?_eq_some_iff.1 h).1
  rw [take_getD d hk, h, Option.getD_some, keepF_snoc, if_pos (by rw [List.length_take, show 0 + min k ds.length = k by omega]; exact hq), List.append_nil]
theorem keep_no (h : ds[k]? = some d) (hq : q k d = false) (hs : s k d = true) : keepF q s 0 (ds.take (k + 1)) = keepF q s 0 (ds.take k) ++ [d] := by
  have hk := (List.getElem?_eq_some_iff.1 h).1
  rw [take_getD d hk, h, Option.getD_some, keepF_snoc, if_neg (by rw [List.length_take, show 0 + min k ds.length = k by omega, hq]; decide), if_pos (by rw [List.length_take, show 0 + min k ds.length = k by omega]; exact hs)]
theorem keep_off (h : ds[k]? = some d) (hq : q k d = false) (hs : s k d = false) : keepF q s 0 (ds.take (k + 1)) = keepF q s 0 (ds.take k) := by
  have hk := (List.getElem?_eq_some_iff.1 h).1
  rw [take_getD d hk, h, Option.getD_some, keepF_snoc, if_neg (by rw [List.length_take, show 0 + min k ds.length = k by omega, hq]; decide), if_neg (by rw [List.length_take, show 0 + min k ds.length = k by omega, hs]; decide), List.append_nil]
end

/-- where the first one is -/
def ixN {α : Type} (p : α → Bool) : Nat → List α → Int
  | _, [] => -1
  | i, d :: ds => if p d = true then (i : Int) else ixN p (i + 1) ds
theorem ix_yes {α : Type} {p : α → Bool} : ∀ (l : List α) (i k : Nat) (d : α), l[k]? = some d → p d = true → (∀ j e, j < k → l[j]? = some e → p e = false) → ixN p i l = ((i + k : Nat) : Int)
  | [], i, k, d, h, _, _ => by simp at h
  | a :: l, i, 0, d, h, hp, _ => by
    simp only [List.getElem?_cons_zero, Option.some.injEq] at h
    subst h
    simp only [ixN, hp, if_true]
    rfl
  | a :: l, i, k + 1, d, h, hp, hn => by
    have h0 := hn 0 a (by omega) rfl
    simp only [ixN, h0, Bool.false_eq_true, if_false]
    rw [ix_yes l (i + 1) k d (by simpa using h) hp (fun j e hj he => hn (j + 1) e (by omega) (by simpa using he)), show i + 1 + k = i + (k + 1) by omega]
theorem ix_no {α : Type} {p : α → Bool} : ∀ (l : List α) (i : Nat), (∀ e ∈ l, p e = false) → ixN p i l = -1
  | [], i, _ => rfl
  | a :: l, i, h => by
    simp only [ixN, h a (by simp), Bool.false_eq_true, if_false]
    exact ix_no l (i + 1) fun e he => h e (by simp [he])
theorem ix_any0 {α : Type} {p : α → Bool} : ∀ (l : List α) (i : Nat), 0 ≤ ixN p i l ↔ l.any p = true
  | [], i => by simp [ixN]
  | a :: l, i => by
    have ih := ix_any0 (p := p) l (i + 1)
    by_cases hp : p a = true
    · simp [ixN, hp]
    · rw [Bool.not_eq_true] at hp
      simp [ixN, hp, ih]
theorem ix_any {α : Type} {p : α → Bool} (l : List α) (i : Nat) : decide (0 ≤ ixN p i l) = l.any p := by
  rw [Bool.eq_iff_iff, decide_eq_true_eq, ix_any0]
theorem c_index (m : Med) (ds : List Dty) (hl : Side (ds.length ≤ 2 ^ 40)) : FnC Try.prog 91 [.sl 65 (ds.map Dty.row), .fn 86 [.ip m.row]] [] (i64 (ixN (fun d => !dThere m d) 0 ds)) [] := by
  have hl := hl.h
  obtain ⟨bs, es⟩ := m
  dsimp only [Med.row] at *
  refine fn_vcI (N := 19) (d := 5) tabOk mixed inlMd_ok 6 Try.func91 rfl rfl rfl ?_
  repeat'
    (conv => whnf
     first
      | (exact trivial)
      | (refine And.intro (by with_reducible rfl) ?_)
      | (refine And.intro (drawI (by kernel_rfl)) ?_)
      | (refine andI ?_ ?_)
      | (refine condT (by assumption) ?_)
      | (refine condF (by assumption) ?_)
      | (refine decT (by assumption) ?_)
      | (refine decF (by assumption) ?_)
      | (refine eqT (by assumption) ?_)
      | (refine eqF (by assumption) ?_)
      | (refine neT (by assumption) ?_)
      | (refine neF (by assumption) ?_)
      | (refine cEq (fun h => ?_) (fun h => ?_))
      | (refine cNe (fun h => ?_) (fun h => ?_))
      | (refine cNot (fun h => ?_) (fun h => ?_))
      | (refine cDec (fun h => ?_) (fun h => ?_))
      | (refine condN_split (fun h => ?_) (fun h => ?_))
      | (refine Exists.intro _ (And.intro rfl ?_))
      | (refine Or.inl (And.intro (by rfl : Nat.ble _ _ = true) ?_))
      | (refine Or.inl (And.intro Cl.lit ?_))
      | (refine Or.inr ?_)
      | (refine Exists.intro (1 : Nat) ?_)
      | (refine Exists.intro _ (And.intro rfl ?_))
      | (fail))
  all_goals try refine Side.mk ?_
  all_goals try dsimp only at *
  all_goals try refine eqI ?_
  conv => whnf
  refine loop_w tabOk (ceN_sound tabOk mixed inlMd_ok 6) mixed 9 (X := Nat) 0 (fun k => [(8, i64 (k : Nat))]) (fun k => []) 0 (fun k => k ≤ ds.length ∧ ∀ j e, j < k → ds[j]? = some e → dThere ⟨bs, es⟩ e = true) (fun k => ds.length - k) ⟨Nat.zero_le _, fun j e h => by omega⟩ ?_ ?_
  · repeat'
      (conv => whnf
       first
        | (exact trivial)
        | (refine And.intro (by with_reducible rfl) ?_)
        | (refine And.intro (drawI (by kernel_rfl)) ?_)
        | (refine andI ?_ ?_)
        | (refine condT (by assumption) ?_)
        | (refine condF (by assumption) ?_)
        | (refine decT (by assumption) ?_)
        | (refine decF (by assumption) ?_)
        | (refine eqT (by assumption) ?_)
        | (refine eqF (by assumption) ?_)
        | (refine neT (by assumption) ?_)
        | (refine neF (by assumption) ?_)
        | (refine cEq (fun h => ?_) (fun h => ?_))
        | (refine cNe (fun h => ?_) (fun h => ?_))
        | (refine cNot (fun h => ?_) (fun h => ?_))
        | (refine cDec (fun h => ?_) (fun h => ?_))
        | (refine condN_split (fun h => ?_) (fun h => ?_))
        | (refine Or.inl (And.intro (by rfl : Nat.ble _ _ = true) ?_))
        | (refine Or.inl (And.intro Cl.lit ?_))
        | (refine Or.inr ?_)
        | (refine Exists.intro (1 : Nat) ?_)
        | (refine Exists.intro _ (And.intro rfl ?_))
        | (fail))
    all_goals try refine Side.mk ?_
    all_goals try dsimp only at *
    all_goals try refine eqI ?_
    all_goals rfl
  · rintro k ⟨hk, hn⟩
    by_cases hkl : k < ds.length
    · obtain ⟨d, hd⟩ : ∃ d, ds[k]? = some d := ⟨_, List.getElem?_eq_getElem hkl⟩
      repeat'
        (conv => whnf
         first
          | (exact trivial)
          | (refine And.intro (by with_reducible rfl) ?_)
          | (refine And.intro (drawI (by kernel_rfl)) ?_)
          | (refine andI ?_ ?_)
          | (refine condT (by assumption) ?_)
          | (refine condF (by assumption) ?_)
          | (refine decT (by assumption) ?_)
          | (refine decF (by assumption) ?_)
          | (refine eqT (by assumption) ?_)
          | (refine eqF (by assumption) ?_)
          | (refine neT (by assumption) ?_)
          | (refine neF (by assumption) ?_)
          | (refine cEq (fun h => ?_) (fun h => ?_))
          | (refine cNe (fun h => ?_) (fun h => ?_))
          | (refine cNot (fun h => ?_) (fun h => ?_))
          | (refine cDec (fun h => ?_) (fun h => ?_))
          | (refine condN_split (fun h => ?_) (fun h => ?_))
          | (refine Exists.intro _ (And.intro (row_get hd) ?_))
          | (refine Exists.intro (k + 1) (andI ?_ (andI ?_ ?_)))
          | (refine Or.inl (And.intro (by rfl : Nat.ble _ _ = true) ?_))
          | (refine Or.inl (And.intro Cl.lit ?_))
          | (refine Or.inr ?_)
          | (refine Exists.intro (1 : Nat) ?_)
          | (refine Exists.intro _ (And.intro rfl ?_))
          | (fail))
      all_goals try refine Side.mk ?_
      all_goals try dsimp only at *
      all_goals try refine eqI ?_
      all_goals simp only [List.length_map, Int.toNat_natCast, decide_eq_true_eq, decide_eq_false_iff_not] at *
      all_goals first
        | omega
        | (exfalso; omega)
        | (refine congrArg (Value.int IntKind.i64) ?_; rw [wrap64 (by omega) (by omega)]; omega)
        | (refine congrArg (fun n => V.lit (Value.int IntKind.i64 n)) ?_
           rw [ix_yes ds 0 k d hd (by simp only [dThere, Bool.not_eq_true', Bool.and_eq_false_iff, decide_eq_false_iff_not]; omega) (fun j e hj he => by simp only [hn j e hj he, Bool.not_true]), Nat.zero_add])
        | (refine ⟨by omega, fun j e hj he => ?_⟩
           rcases Nat.lt_or_ge j k with q | q
           · exact hn j e q he
           · obtain rfl : j = k := by omega
             rw [hd] at he
             cases he
             simp only [dThere, Bool.and_eq_true, decide_eq_true_eq]
             omega)
    · repeat'
        (conv => whnf
         first
          | (exact trivial)
          | (refine And.intro (by with_reducible rfl) ?_)
          | (refine And.intro (drawI (by kernel_rfl)) ?_)
          | (refine andI ?_ ?_)
          | (refine condT (by assumption) ?_)
          | (refine condF (by assumption) ?_)
          | (refine decT (by assumption) ?_)
          | (refine decF (by assumption) ?_)
          | (refine eqT (by assumption) ?_)
          | (refine eqF (by assumption) ?_)
          | (refine neT (by assumption) ?_)
          | (refine neF (by assumption) ?_)
          | (refine cEq (fun h => ?_) (fun h => ?_))
          | (refine cNe (fun h => ?_) (fun h => ?_))
          | (refine cNot (fun h => ?_) (fun h => ?_))
          | (refine cDec (fun h => ?_) (fun h => ?_))
          | (refine condN_split (fun h => ?_) (fun h => ?_))
          | (refine Or.inl (And.intro (by rfl : Nat.ble _ _ = true) ?_))
          | (refine Or.inl (And.intro Cl.lit ?_))
          | (refine Or.inr ?_)
          | (refine Exists.intro (1 : Nat) ?_)
          | (refine Exists.intro _ (And.intro rfl ?_))
          | (fail))
      all_goals try refine Side.mk ?_
      all_goals try dsimp only at *
      all_goals try refine eqI ?_
      all_goals simp only [List.length_map, Int.toNat_natCast] at *
      all_goals first
        | omega
        | (exfalso; omega)
        | (refine congrArg (fun n => V.lit (Value.int IntKind.i64 n)) ?_
           rw [ix_no ds 0 (fun e he => by
             obtain ⟨j, hj, rfl⟩ := List.getElem_of_mem he
             rw [hn j _ (by omega) (List.getElem?_eq_getElem hj)]; rfl)])
theorem c_cont (m : Med) (ds : List Dty) (hl : Side (ds.length ≤ 2 ^ 40)) : FnC Try.prog 87 [.sl 65 (ds.map Dty.row), .fn 86 [.ip m.row]] [] (bV (ds.any fun d => !dThere m d)) [] := by
  rw [← ix_any ds 0]
  refine fn_vcI (N := 9) (d := 4) tabOk mixed inlN0_ok 6 Try.func87 rfl rfl rfl ?_
  repeat'
    (conv => whnf
     first
      | (exact trivial)
      | (refine And.intro (by with_reducible rfl) ?_)
      | (refine And.intro (drawI (by kernel_rfl)) ?_)
      | (refine andI ?_ ?_)
      | (refine condT (by assumption) ?_)
      | (refine condF (by assumption) ?_)
      | (refine decT (by assumption) ?_)
      | (refine decF (by assumption) ?_)
      | (refine eqT (by assumption) ?_)
      | (refine eqF (by assumption) ?_)
      | (refine neT (by assumption) ?_)
      | (refine neF (by assumption) ?_)
      | (refine cEq (fun h => ?_) (fun h => ?_))
      | (refine cNe (fun h => ?_) (fun h => ?_))
      | (refine cNot (fun h => ?_) (fun h => ?_))
      | (refine cDec (fun h => ?_) (fun h => ?_))
      | (refine condN_split (fun h => ?_) (fun h => ?_))
      | (refine Exists.intro _ (And.intro (c_index m _ hl) ?_))
      | (refine Exists.intro _ (And.intro rfl ?_))
      | (refine Or.inl (And.intro (by rfl : Nat.ble _ _ = true) ?_))
      | (refine Or.inl (And.intro Cl.lit ?_))
      | (refine Or.inr ?_)
      | (refine Exists.intro (1 : Nat) ?_)
      | (refine Exists.intro _ (And.intro rfl ?_))
      | (fail))
  all_goals try refine Side.mk ?_
  all_goals try dsimp only at *
  all_goals try refine eqI ?_
  all_goals rfl
theorem c_mRight (m : Med) : FnC Try.prog 77 [m.v] [] (bV (mRight m)) [] := by
  obtain ⟨bs, ds⟩ := m
  dsimp only [Med.v] at *
  refine fn_vcI (N := 22) (d := 5) tabOk mixed inlN0_ok 6 Try.func77 rfl rfl rfl ?_
  repeat'
    (conv => whnf
     first
      | (exact trivial)
      | (refine And.intro (by with_reducible rfl) ?_)
      | (refine And.intro (drawI (by kernel_rfl)) ?_)
      | (refine andI ?_ ?_)
      | (refine condT (by assumption) ?_)
      | (refine condF (by assumption) ?_)
      | (refine decT (by assumption) ?_)
      | (refine decF (by assumption) ?_)
      | (refine eqT (by assumption) ?_)
      | (refine eqF (by assumption) ?_)
      | (refine neT (by assumption) ?_)
      | (refine neF (by assumption) ?_)
      | (refine cEq (fun h => ?_) (fun h => ?_))
      | (refine cNe (fun h => ?_) (fun h => ?_))
      | (refine cNot (fun h => ?_) (fun h => ?_))
      | (refine cDec (fun h => ?_) (fun h => ?_))
      | (refine condN_split (fun h => ?_) (fun h => ?_))
      | (refine Exists.intro _ (And.intro (c_cont ⟨bs, ds⟩ ds ?_) ?_))
      | (refine Exists.intro _ (And.intro rfl ?_))
      | (refine Or.inl (And.intro (by rfl : Nat.ble _ _ = true) ?_))
      | (refine Or.inl (And.intro Cl.lit ?_))
      | (refine Or.inr ?_)
      | (refine Exists.intro (1 : Nat) ?_)
      | (refine Exists.intro _ (And.intro rfl ?_))
      | (fail))
  all_goals try refine Side.mk ?_
  all_goals try dsimp only at *
  all_goals try refine eqI ?_
  all_goals simp only [List.length_map] at *
  all_goals first
    | omega
    | (refine bool_close ?_
       rw [right_iff]
       simp [dThere]
       first | done | omega | exact ⟨fun h => ⟨by omega, by omega, h⟩, fun h => h.2.2⟩)
def q_every : Nat → Dty → Bool := fun _ _ => true
theorem c_done_every (m : Med) (hr : Side (mRight m = true)) : FnN Try.prog 88 [m.v, .fn 89 [.ip [.fn 79 []]], .fn 90 []] (.agg [.win 0 64 0 m.blocks.length m.blocks.length, .win 1 65 0 (mDone (q_every) (fun _ _ => true) m).dirty.length (mDone (q_every) (fun _ _ => true) m).dirty.length]) [(0, true, ⟨64, (mDone (q_every) (fun _ _ => true) m).blocks.map Blk.row, false⟩), (1, true, ⟨65, (mDone (q_every) (fun _ _ => true) m).dirty.map Dty.row, false⟩)] 2 := by
  have hr := (right_iff m).1 hr.h
  obtain ⟨bs, ds⟩ := m
  dsimp only [Med.v] at *
  obtain ⟨r1, r2, r3⟩ := hr
  refine fn_vcN (N := 47) (d := 6) tabOk mixed inlMd_ok 6 Try.func88 rfl rfl rfl rfl rfl ⟨by rw [rp_Blk]; trivial, by rw [rp_Dty]; trivial, trivial⟩ ?_
  repeat'
    (conv => whnf
     first
      | (exact trivial)
      | (refine And.intro (by with_reducible rfl) ?_)
      | (refine And.intro (drawI (by kernel_rfl)) ?_)
      | (refine andI ?_ ?_)
      | (refine condT (by assumption) ?_)
      | (refine condF (by assumption) ?_)
      | (refine decT (by assumption) ?_)
      | (refine decF (by assumption) ?_)
      | (refine eqT (by assumption) ?_)
      | (refine eqF (by assumption) ?_)
      | (refine neT (by assumption) ?_)
      | (refine neF (by assumption) ?_)
      | (refine cEq (fun h => ?_) (fun h => ?_))
      | (refine cNe (fun h => ?_) (fun h => ?_))
      | (refine cNot (fun h => ?_) (fun h => ?_))
      | (refine cDec (fun h => ?_) (fun h => ?_))
      | (refine condN_split (fun h => ?_) (fun h => ?_))
      | (refine Exists.intro _ (And.intro rfl ?_))
      | (refine Or.inl (And.intro (by rfl : Nat.ble _ _ = true) ?_))
      | (refine Or.inl (And.intro Cl.lit ?_))
      | (refine Or.inr ?_)
      | (refine Exists.intro (1 : Nat) ?_)
      | (refine Exists.intro _ (And.intro rfl ?_))
      | (fail))
  all_goals try refine Side.mk ?_
  all_goals try dsimp only at *
  all_goals try refine eqI ?_
  · rw [or_Blk]; trivial
  · rw [List.length_map]; omega
  · refine rn_plain ?_; rw [rp_Blk]; trivial
  conv => whnf
  refine loop_w tabOk (ceN_sound tabOk mixed inlMd_ok 6) mixed 18 (X := Nat) 0 (fun k => [(17, i64 (k : Nat))]) (fun k => [(4, true, ⟨65, (keepF (q_every) (fun _ _ => true) 0 (ds.take k)).map Dty.row, false⟩), (3, false, ⟨2, [[.win 2 64 0 bs.length bs.length, .win 4 65 0 (keepF (q_every) (fun _ _ => true) 0 (ds.take k)).length (keepF (q_every) (fun _ _ => true) 0 (ds.take k)).length]], false⟩), (2, true, ⟨64, (putF (q_every) 0 (ds.take k) bs).map Blk.row, false⟩), (1, false, ⟨2, [[.sls 64 [] false true, .sls 65 [] false true]], false⟩), (0, false, ⟨2, [[.sl 64 (bs.map Blk.row), .sl 65 (ds.map Dty.row)]], false⟩)]) 5 (fun k => k ≤ ds.length) (fun k => ds.length - k) (Nat.zero_le _) ?_ ?_
  · repeat'
      (conv => whnf
       first
        | (exact trivial)
        | (refine And.intro (by with_reducible rfl) ?_)
        | (refine And.intro (drawI (by kernel_rfl)) ?_)
        | (refine andI ?_ ?_)
        | (refine condT (by assumption) ?_)
        | (refine condF (by assumption) ?_)
        | (refine decT (by assumption) ?_)
        | (refine decF (by assumption) ?_)
        | (refine eqT (by assumption) ?_)
        | (refine eqF (by assumption) ?_)
        | (refine neT (by assumption) ?_)
        | (refine neF (by assumption) ?_)
        | (refine cEq (fun h => ?_) (fun h => ?_))
        | (refine cNe (fun h => ?_) (fun h => ?_))
        | (refine cNot (fun h => ?_) (fun h => ?_))
        | (refine cDec (fun h => ?_) (fun h => ?_))
        | (refine condN_split (fun h => ?_) (fun h => ?_))
        | (refine Or.inl (And.intro (by rfl : Nat.ble _ _ = true) ?_))
        | (refine Or.inl (And.intro Cl.lit ?_))
        | (refine Or.inr ?_)
        | (refine Exists.intro (1 : Nat) ?_)
        | (refine Exists.intro _ (And.intro rfl ?_))
        | (fail))
    all_goals try refine Side.mk ?_
    all_goals try dsimp only at *
    all_goals try refine eqI ?_
    all_goals (first | rfl | (rw [List.length_map]; done) | (rw [rp_Blk]; trivial) | (rw [rp_Dty]; trivial))
  · rintro k hk
    by_cases hkl : k < ds.length
    · obtain ⟨d, hd⟩ : ∃ d, ds[k]? = some d := ⟨_, List.getElem?_eq_getElem hkl⟩
      have hp := r3 d (List.mem_of_getElem? hd)
      have hlen := putF_len (q_every) (ds.take k) 0 bs
      have hkp := keepF_len (q_every) (fun _ _ => true) (ds.take k) 0
      rw [List.length_take] at hkp
      repeat'
        (conv => whnf
         first
          | (exact trivial)
          | (refine And.intro (by with_reducible rfl) ?_)
          | (refine And.intro (drawI (by kernel_rfl)) ?_)
          | (refine andI ?_ ?_)
          | (refine condT (by assumption) ?_)
          | (refine condF (by assumption) ?_)
          | (refine decT (by assumption) ?_)
          | (refine decF (by assumption) ?_)
          | (refine eqT (by assumption) ?_)
          | (refine eqF (by assumption) ?_)
          | (refine neT (by assumption) ?_)
          | (refine neF (by assumption) ?_)
          | (refine cEq (fun h => ?_) (fun h => ?_))
          | (refine cNe (fun h => ?_) (fun h => ?_))
          | (refine cNot (fun h => ?_) (fun h => ?_))
          | (refine cDec (fun h => ?_) (fun h => ?_))
          | (refine condN_split (fun h => ?_) (fun h => ?_))
          | (refine Exists.intro _ (And.intro (row_get hd) ?_))
          | (refine Exists.intro _ (And.intro (map_get Blk.dflt ?_) ?_))
          | (refine Exists.intro (k + 1) (andI ?_ (andI ?_ ?_)))
          | (refine Or.inl (And.intro (by rfl : Nat.ble _ _ = true) ?_))
          | (refine Or.inl (And.intro Cl.lit ?_))
          | (refine Or.inr ?_)
          | (refine Exists.intro (1 : Nat) ?_)
          | (refine Exists.intro _ (And.intro rfl ?_))
          | (fail))
      all_goals try refine Side.mk ?_
      all_goals try dsimp only at *
      all_goals try refine eqI ?_
      
      all_goals simp only [List.length_map, Int.toNat_natCast, Nat.zero_add, List.drop_zero] at *
      all_goals first
        | omega
        | (exfalso; omega)
        | (refine congrArg (Value.int IntKind.i64) ?_; rw [wrap64 (by omega) (by omega)]; omega)
        | (rw [rp_Dty]; trivial)
        | (rw [rp_Blk]; trivial)
        | (rw [or_Dty]; trivial)
        | (have hq : q_every k d = true := by rfl
           first
             | (rw [keep_yes hd hq]; done)
             | (rw [put_yes hd hq]; exact (set_row _ _ _).symm))
        | (have hq : q_every k d = false := by rfl
           first
             | (rw [put_no hd hq]; done)
             | (rw [keep_no hd hq rfl]; done)
             | (rw [keep_no hd hq rfl, List.map_append]; rfl)
             | (rw [keep_no hd hq rfl]; simp; done))
        | contradiction
        | (refine or_all ?_; rfl)
        | (refine rn_plain (rp_all ?_); rfl)
        | exact Nat.le_refl _
        | (simp; done)
        | (simp; omega)
    · have e1 : ds.take k = ds := List.take_of_length_le (by omega)
      have hlen := putF_len (q_every) ds 0 bs
      have hkp := keepF_len (q_every) (fun _ _ => true) ds 0
      repeat'
        (conv => whnf
         first
          | (exact trivial)
          | (refine And.intro (by with_reducible rfl) ?_)
          | (refine And.intro (drawI (by kernel_rfl)) ?_)
          | (refine andI ?_ ?_)
          | (refine condT (by assumption) ?_)
          | (refine condF (by assumption) ?_)
          | (refine decT (by assumption) ?_)
          | (refine decF (by assumption) ?_)
          | (refine eqT (by assumption) ?_)
          | (refine eqF (by assumption) ?_)
          | (refine neT (by assumption) ?_)
          | (refine neF (by assumption) ?_)
          | (refine cEq (fun h => ?_) (fun h => ?_))
          | (refine cNe (fun h => ?_) (fun h => ?_))
          | (refine cNot (fun h => ?_) (fun h => ?_))
          | (refine cDec (fun h => ?_) (fun h => ?_))
          | (refine condN_split (fun h => ?_) (fun h => ?_))
          | (refine Or.inl (And.intro (by rfl : Nat.ble _ _ = true) ?_))
          | (refine Or.inl (And.intro Cl.lit ?_))
          | (refine Or.inr ?_)
          | (refine Exists.intro (1 : Nat) ?_)
          | (refine Exists.intro _ (And.intro rfl ?_))
          | (fail))
      all_goals try refine Side.mk ?_
      all_goals try dsimp only at *
      all_goals try refine eqI ?_
      all_goals simp only [List.length_map, Int.toNat_natCast, Nat.zero_add, List.drop_zero, e1] at *
      all_goals first
        | omega
        | (exfalso; omega)
        | (rw [rp_Dty]; trivial)
        | (rw [rp_Blk]; trivial)
        | rfl
def q_wr (n at_ : Int) (thr : Bool) : Nat → Dty → Bool := fun _ d => (thr && d.pos == at_) || (!thr && decide (n = 64))
theorem c_done_wr (m : Med) (at_ : Int) (thr : Bool) (hr : Side (mRight m = true)) : FnN Try.prog 88 [m.v, .fn 89 [.ip [.fn 81 [.ip [bV thr], .ip [i64 at_], .ip m.row]]], .fn 90 []] (.agg [.win 0 64 0 m.blocks.length m.blocks.length, .win 1 65 0 (mDone (q_wr m.dirty.length at_ thr) (fun _ _ => true) m).dirty.length (mDone (q_wr m.dirty.length at_ thr) (fun _ _ => true) m).dirty.length]) [(0, true, ⟨64, (mDone (q_wr m.dirty.length at_ thr) (fun _ _ => true) m).blocks.map Blk.row, false⟩), (1, true, ⟨65, (mDone (q_wr m.dirty.length at_ thr) (fun _ _ => true) m).dirty.map Dty.row, false⟩)] 2 := by
  have hr := (right_iff m).1 hr.h
  obtain ⟨bs, ds⟩ := m
  dsimp only [Med.v, Med.row] at *
  obtain ⟨r1, r2, r3⟩ := hr
  refine fn_vcN (N := 47) (d := 6) tabOk mixed inlMd_ok 6 Try.func88 rfl rfl rfl rfl rfl ⟨by rw [rp_Blk]; trivial, by rw [rp_Dty]; trivial, trivial⟩ ?_
  repeat'
    (conv => whnf
     first
      | (exact trivial)
      | (refine And.intro (by with_reducible rfl) ?_)
      | (refine And.intro (drawI (by kernel_rfl)) ?_)
      | (refine andI ?_ ?_)
      | (refine condT (by assumption) ?_)
      | (refine condF (by assumption) ?_)
      | (refine decT (by assumption) ?_)
      | (refine decF (by assumption) ?_)
      | (refine eqT (by assumption) ?_)
      | (refine eqF (by assumption) ?_)
      | (refine neT (by assumption) ?_)
      | (refine neF (by assumption) ?_)
      | (refine cEq (fun h => ?_) (fun h => ?_))
      | (refine cNe (fun h => ?_) (fun h => ?_))
      | (refine cNot (fun h => ?_) (fun h => ?_))
      | (refine cDec (fun h => ?_) (fun h => ?_))
      | (refine condN_split (fun h => ?_) (fun h => ?_))
      | (refine Exists.intro _ (And.intro rfl ?_))
      | (refine Or.inl (And.intro (by rfl : Nat.ble _ _ = true) ?_))
      | (refine Or.inl (And.intro Cl.lit ?_))
      | (refine Or.inr ?_)
      | (refine Exists.intro (1 : Nat) ?_)
      | (refine Exists.intro _ (And.intro rfl ?_))
      | (fail))
  all_goals try refine Side.mk ?_
  all_goals try dsimp only at *
  all_goals try refine eqI ?_
  · rw [or_Blk]; trivial
  · rw [List.length_map]; omega
  · refine rn_plain ?_; rw [rp_Blk]; trivial
  conv => whnf
  refine loop_w tabOk (ceN_sound tabOk mixed inlMd_ok 6) mixed 18 (X := Nat) 0 (fun k => [(17, i64 (k : Nat))]) (fun k => [(4, true, ⟨65, (keepF (q_wr ds.length at_ thr) (fun _ _ => true) 0 (ds.take k)).map Dty.row, false⟩), (3, false, ⟨2, [[.win 2 64 0 bs.length bs.length, .win 4 65 0 (keepF (q_wr ds.length at_ thr) (fun _ _ => true) 0 (ds.take k)).length (keepF (q_wr ds.length at_ thr) (fun _ _ => true) 0 (ds.take k)).length]], false⟩), (2, true, ⟨64, (putF (q_wr ds.length at_ thr) 0 (ds.take k) bs).map Blk.row, false⟩), (1, false, ⟨2, [[.sls 64 [] false true, .sls 65 [] false true]], false⟩), (0, false, ⟨2, [[.sl 64 (bs.map Blk.row), .sl 65 (ds.map Dty.row)]], false⟩)]) 5 (fun k => k ≤ ds.length) (fun k => ds.length - k) (Nat.zero_le _) ?_ ?_
  · repeat'
      (conv => whnf
       first
        | (exact trivial)
        | (refine And.intro (by with_reducible rfl) ?_)
        | (refine And.intro (drawI (by kernel_rfl)) ?_)
        | (refine andI ?_ ?_)
        | (refine condT (by assumption) ?_)
        | (refine condF (by assumption) ?_)
        | (refine decT (by assumption) ?_)
        | (refine decF (by assumption) ?_)
        | (refine eqT (by assumption) ?_)
        | (refine eqF (by assumption) ?_)
        | (refine neT (by assumption) ?_)
        | (refine neF (by assumption) ?_)
        | (refine cEq (fun h => ?_) (fun h => ?_))
        | (refine cNe (fun h => ?_) (fun h => ?_))
        | (refine cNot (fun h => ?_) (fun h => ?_))
        | (refine cDec (fun h => ?_) (fun h => ?_))
        | (refine condN_split (fun h => ?_) (fun h => ?_))
        | (refine Or.inl (And.intro (by rfl : Nat.ble _ _ = true) ?_))
        | (refine Or.inl (And.intro Cl.lit ?_))
        | (refine Or.inr ?_)
        | (refine Exists.intro (1 : Nat) ?_)
        | (refine Exists.intro _ (And.intro rfl ?_))
        | (fail))
    all_goals try refine Side.mk ?_
    all_goals try dsimp only at *
    all_goals try refine eqI ?_
    all_goals (first | rfl | (rw [List.length_map]; done) | (rw [rp_Blk]; trivial) | (rw [rp_Dty]; trivial))
  · rintro k hk
    by_cases hkl : k < ds.length
    · obtain ⟨d, hd⟩ : ∃ d, ds[k]? = some d := ⟨_, List.getElem?_eq_getElem hkl⟩
      have hp := r3 d (List.mem_of_getElem? hd)
      have hlen := putF_len (q_wr ds.length at_ thr) (ds.take k) 0 bs
      have hkp := keepF_len (q_wr ds.length at_ thr) (fun _ _ => true) (ds.take k) 0
      rw [List.length_take] at hkp
      repeat'
        (conv => whnf
         first
          | (exact trivial)
          | (refine And.intro (by with_reducible rfl) ?_)
          | (refine And.intro (drawI (by kernel_rfl)) ?_)
          | (refine andI ?_ ?_)
          | (refine condT (by assumption) ?_)
          | (refine condF (by assumption) ?_)
          | (refine decT (by assumption) ?_)
          | (refine decF (by assumption) ?_)
          | (refine eqT (by assumption) ?_)
          | (refine eqF (by assumption) ?_)
          | (refine neT (by assumption) ?_)
          | (refine neF (by assumption) ?_)
          | (refine cEq (fun h => ?_) (fun h => ?_))
          | (refine cNe (fun h => ?_) (fun h => ?_))
          | (refine cNot (fun h => ?_) (fun h => ?_))
          | (refine cDec (fun h => ?_) (fun h => ?_))
          | (refine condN_split (fun h => ?_) (fun h => ?_))
          | (refine Exists.intro _ (And.intro (row_get hd) ?_))
          | (refine Exists.intro _ (And.intro (map_get Blk.dflt ?_) ?_))
          | (refine Exists.intro (k + 1) (andI ?_ (andI ?_ ?_)))
          | (refine Or.inl (And.intro (by rfl : Nat.ble _ _ = true) ?_))
          | (refine Or.inl (And.intro Cl.lit ?_))
          | (refine Or.inr ?_)
          | (refine Exists.intro (1 : Nat) ?_)
          | (refine Exists.intro _ (And.intro rfl ?_))
          | (fail))
      all_goals try refine Side.mk ?_
      all_goals try dsimp only at *
      all_goals try refine eqI ?_
      
      all_goals simp only [List.length_map, Int.toNat_natCast, Nat.zero_add, List.drop_zero] at *
      all_goals first
        | omega
        | (exfalso; omega)
        | (refine congrArg (Value.int IntKind.i64) ?_; rw [wrap64 (by omega) (by omega)]; omega)
        | (rw [rp_Dty]; trivial)
        | (rw [rp_Blk]; trivial)
        | (rw [or_Dty]; trivial)
        | (have hq : q_wr ds.length at_ thr k d = true := by simp only [q_wr, *, Bool.true_and, Bool.false_and, Bool.not_true, Bool.not_false, Bool.or_false, Bool.false_or, beq_iff_eq, beq_eq_false_iff_ne, ne_eq, decide_eq_true_eq, decide_eq_false_iff_not, not_false_eq_true]; try omega
           first
             | (rw [keep_yes hd hq]; done)
             | (rw [put_yes hd hq]; exact (set_row _ _ _).symm))
        | (have hq : q_wr ds.length at_ thr k d = false := by simp only [q_wr, *, Bool.true_and, Bool.false_and, Bool.not_true, Bool.not_false, Bool.or_false, Bool.false_or, beq_iff_eq, beq_eq_false_iff_ne, ne_eq, decide_eq_true_eq, decide_eq_false_iff_not, not_false_eq_true]; try omega
           first
             | (rw [put_no hd hq]; done)
             | (rw [keep_no hd hq rfl]; done)
             | (rw [keep_no hd hq rfl, List.map_append]; rfl)
             | (rw [keep_no hd hq rfl]; simp; done))
        | (exfalso; cases thr <;> contradiction)
        | (refine or_all ?_; rfl)
        | (refine rn_plain (rp_all ?_); rfl)
        | exact Nat.le_refl _
        | (simp; done)
        | (simp; omega)
    · have e1 : ds.take k = ds := List.take_of_length_le (by omega)
      have hlen := putF_len (q_wr ds.length at_ thr) ds 0 bs
      have hkp := keepF_len (q_wr ds.length at_ thr) (fun _ _ => true) ds 0
      repeat'
        (conv => whnf
         first
          | (exact trivial)
          | (refine And.intro (by with_reducible rfl) ?_)
          | (refine And.intro (drawI (by kernel_rfl)) ?_)
          | (refine andI ?_ ?_)
          | (refine condT (by assumption) ?_)
          | (refine condF (by assumption) ?_)
          | (refine decT (by assumption) ?_)
          | (refine decF (by assumption) ?_)
          | (refine eqT (by assumption) ?_)
          | (refine eqF (by assumption) ?_)
          | (refine neT (by assumption) ?_)
          | (refine neF (by assumption) ?_)
          | (refine cEq (fun h => ?_) (fun h => ?_))
          | (refine cNe (fun h => ?_) (fun h => ?_))
          | (refine cNot (fun h => ?_) (fun h => ?_))
          | (refine cDec (fun h => ?_) (fun h => ?_))
          | (refine condN_split (fun h => ?_) (fun h => ?_))
          | (refine Or.inl (And.intro (by rfl : Nat.ble _ _ = true) ?_))
          | (refine Or.inl (And.intro Cl.lit ?_))
          | (refine Or.inr ?_)
          | (refine Exists.intro (1 : Nat) ?_)
          | (refine Exists.intro _ (And.intro rfl ?_))
          | (fail))
      all_goals try refine Side.mk ?_
      all_goals try dsimp only at *
      all_goals try refine eqI ?_
      all_goals simp only [List.length_map, Int.toNat_natCast, Nat.zero_add, List.drop_zero, e1] at *
      all_goals first
        | omega
        | (exfalso; omega)
        | (rw [rp_Dty]; trivial)
        | (rw [rp_Blk]; trivial)
        | rfl
end Go.Proofs.Ytbieiehfohldjaa
