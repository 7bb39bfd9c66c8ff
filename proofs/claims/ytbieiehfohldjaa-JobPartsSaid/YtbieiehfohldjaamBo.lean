/-
  Blocks, by the document: a block of a text.
-/
import Derived.Test.YtbieiehfohldjaamBr
namespace Go.Proofs.Ytbieiehfohldjaa
open Go
set_option linter.unusedVariables false
set_option linter.unusedSimpArgs false
set_option maxRecDepth 100000
set_option maxHeartbeats 8000000

theorem wr_0 : IntKind.i64.wrap (0 + 1) = 1 := rfl
theorem wr_1 : IntKind.i64.wrap (1 + 1) = 2 := rfl
theorem wr_2 : IntKind.i64.wrap (2 + 1) = 3 := rfl
theorem wr_3 : IntKind.i64.wrap (3 + 1) = 4 := rfl
theorem wr_4 : IntKind.i64.wrap (4 + 1) = 5 := rfl
theorem wr_5 : IntKind.i64.wrap (5 + 1) = 6 := rfl
theorem wr_6 : IntKind.i64.wrap (6 + 1) = 7 := rfl
theorem wr_7 : IntKind.i64.wrap (7 + 1) = 8 := rfl
theorem wr_8 : IntKind.i64.wrap (8 + 1) = 9 := rfl
theorem wr_9 : IntKind.i64.wrap (9 + 1) = 10 := rfl
theorem wr_10 : IntKind.i64.wrap (10 + 1) = 11 := rfl
theorem wr_11 : IntKind.i64.wrap (11 + 1) = 12 := rfl
theorem wr_12 : IntKind.i64.wrap (12 + 1) = 13 := rfl
theorem wr_13 : IntKind.i64.wrap (13 + 1) = 14 := rfl
theorem wr_14 : IntKind.i64.wrap (14 + 1) = 15 := rfl
theorem wr_15 : IntKind.i64.wrap (15 + 1) = 16 := rfl
theorem wr_16 : IntKind.i64.wrap (16 + 1) = 17 := rfl
theorem wr_17 : IntKind.i64.wrap (17 + 1) = 18 := rfl
theorem wr_18 : IntKind.i64.wrap (18 + 1) = 19 := rfl
theorem wr_19 : IntKind.i64.wrap (19 + 1) = 20 := rfl
theorem wr_20 : IntKind.i64.wrap (20 + 1) = 21 := rfl
theorem wr_21 : IntKind.i64.wrap (21 + 1) = 22 := rfl
theorem wr_22 : IntKind.i64.wrap (22 + 1) = 23 := rfl
theorem wr_23 : IntKind.i64.wrap (23 + 1) = 24 := rfl
theorem wr_24 : IntKind.i64.wrap (24 + 1) = 25 := rfl
theorem wr_25 : IntKind.i64.wrap (25 + 1) = 26 := rfl
theorem wr_26 : IntKind.i64.wrap (26 + 1) = 27 := rfl
theorem wr_27 : IntKind.i64.wrap (27 + 1) = 28 := rfl
theorem wr_28 : IntKind.i64.wrap (28 + 1) = 29 := rfl
theorem wr_29 : IntKind.i64.wrap (29 + 1) = 30 := rfl
theorem wr_30 : IntKind.i64.wrap (30 + 1) = 31 := rfl
theorem wr_31 : IntKind.i64.wrap (31 + 1) = 32 := rfl
theorem wr_32 : IntKind.i64.wrap (32 + 1) = 33 := rfl
theorem wr_33 : IntKind.i64.wrap (33 + 1) = 34 := rfl
theorem wr_34 : IntKind.i64.wrap (34 + 1) = 35 := rfl
theorem wr_35 : IntKind.i64.wrap (35 + 1) = 36 := rfl
theorem wr_36 : IntKind.i64.wrap (36 + 1) = 37 := rfl
theorem wr_37 : IntKind.i64.wrap (37 + 1) = 38 := rfl
theorem wr_38 : IntKind.i64.wrap (38 + 1) = 39 := rfl
theorem wr_39 : IntKind.i64.wrap (39 + 1) = 40 := rfl
theorem wr_40 : IntKind.i64.wrap (40 + 1) = 41 := rfl
theorem wr_41 : IntKind.i64.wrap (41 + 1) = 42 := rfl
theorem wr_42 : IntKind.i64.wrap (42 + 1) = 43 := rfl
theorem wr_43 : IntKind.i64.wrap (43 + 1) = 44 := rfl
theorem wr_44 : IntKind.i64.wrap (44 + 1) = 45 := rfl
theorem wr_45 : IntKind.i64.wrap (45 + 1) = 46 := rfl
theorem wr_46 : IntKind.i64.wrap (46 + 1) = 47 := rfl
theorem wr_47 : IntKind.i64.wrap (47 + 1) = 48 := rfl
theorem wr_48 : IntKind.i64.wrap (48 + 1) = 49 := rfl
theorem wr_49 : IntKind.i64.wrap (49 + 1) = 50 := rfl
theorem wr_50 : IntKind.i64.wrap (50 + 1) = 51 := rfl
theorem wr_51 : IntKind.i64.wrap (51 + 1) = 52 := rfl
theorem wr_52 : IntKind.i64.wrap (52 + 1) = 53 := rfl
theorem wr_53 : IntKind.i64.wrap (53 + 1) = 54 := rfl
theorem wr_54 : IntKind.i64.wrap (54 + 1) = 55 := rfl
theorem wr_55 : IntKind.i64.wrap (55 + 1) = 56 := rfl
theorem wr_56 : IntKind.i64.wrap (56 + 1) = 57 := rfl
theorem wr_57 : IntKind.i64.wrap (57 + 1) = 58 := rfl
theorem wr_58 : IntKind.i64.wrap (58 + 1) = 59 := rfl
theorem wr_59 : IntKind.i64.wrap (59 + 1) = 60 := rfl
theorem wr_60 : IntKind.i64.wrap (60 + 1) = 61 := rfl
theorem wr_61 : IntKind.i64.wrap (61 + 1) = 62 := rfl
theorem wr_62 : IntKind.i64.wrap (62 + 1) = 63 := rfl
theorem wr_63 : IntKind.i64.wrap (63 + 1) = 64 := rfl
theorem wr_64 : IntKind.i64.wrap (64 + 1) = 65 := rfl
theorem cons2 {α : Type} {a b : α} {l m : List α} (h : a = b) (e : l = m) : a :: l = b :: m := by rw [h, e]
theorem cellE (b : BS) (a j : Nat) (hj : j < 64) : u8V (b[((a : Int) + (j : Int)).toNat]?.getD 0) = u8V ((Blk.of (b.drop a)).f ⟨j, hj⟩) := by
  rw [show ((a : Int) + (j : Int)).toNat = a + j by omega]
  simp [Blk.of]
theorem c_refOf (b : BS) (a : Nat) (h : Side (a + 64 ≤ b.length ∧ b.length ≤ 2 ^ 40)) : FnC Try.prog 33 [bsV b, i64 (a : Int)] [] (.agg (Blk.of (b.drop a)).row) [] := by
  obtain ⟨h1, h2⟩ := h.h
  have hw : ∀ j : Int, 0 ≤ j → j ≤ 64 → IntKind.i64.wrap ((a : Int) + j) = (a : Int) + j := fun j q1 q2 => wrap64 (by omega) (by omega)
  refine fn_vcI (N := 20) (d := 5) tabOk mixed inlN0_ok 6 Try.func33 rfl rfl rfl ?_
  repeat'
    (conv => whnf
     first
      | (exact trivial)
      | (refine And.intro (by with_reducible rfl) ?_)
      | (refine And.intro (drawI (by kernel_rfl)) ?_)
      | (refine andI ?_ ?_)
      | (refine condT (by assumption) ?_)
      | (refine condF (by assumption) ?_)
      | (refine decT (by assumption) ?_)
      | (refine decF (by assumption) ?_)
      | (refine eqT (by assumption) ?_)
      | (refine eqF (by assumption) ?_)
      | (refine neT (by assumption) ?_)
      | (refine neF (by assumption) ?_)
      | (refine cEq (fun h => ?_) (fun h => ?_))
      | (refine cNe (fun h => ?_) (fun h => ?_))
      | (refine cNot (fun h => ?_) (fun h => ?_))
      | (refine cDec (fun h => ?_) (fun h => ?_))
      | (refine condN_split (fun h => ?_) (fun h => ?_))
      | (refine Exists.intro _ (And.intro (bytes_get ?_) ?_))
      | (refine Exists.intro _ (And.intro rfl ?_))
      | (refine loop_unr tabOk (ceN_sound tabOk mixed inlN0_ok _) mixed 66 ?_)
      | (refine Or.inl (And.intro (by rfl : Nat.ble _ _ = true) ?_))
      | (refine Or.inl (And.intro Cl.lit ?_))
      | (refine Or.inr ?_)
      | (refine Exists.intro (1 : Nat) ?_)
      | (refine Exists.intro _ (And.intro rfl ?_))
      | (fail))
  all_goals try refine Side.mk ?_
  all_goals try dsimp only at *
  all_goals try refine eqI ?_
  all_goals try simp only [wr_0, wr_1, wr_2, wr_3, wr_4, wr_5, wr_6, wr_7, wr_8, wr_9, wr_10, wr_11, wr_12, wr_13, wr_14, wr_15, wr_16, wr_17, wr_18, wr_19, wr_20, wr_21, wr_22, wr_23, wr_24, wr_25, wr_26, wr_27, wr_28, wr_29, wr_30, wr_31, wr_32, wr_33, wr_34, wr_35, wr_36, wr_37, wr_38, wr_39, wr_40, wr_41, wr_42, wr_43, wr_44, wr_45, wr_46, wr_47, wr_48, wr_49, wr_50, wr_51, wr_52, wr_53, wr_54, wr_55, wr_56, wr_57, wr_58, wr_59, wr_60, wr_61, wr_62, wr_63, wr_64, len_b]
  all_goals try simp (disch := decide) only [hw]
  all_goals first
    | omega
    | decide
    | exact congrArg V.agg (cons2 (cellE b a 0 (by decide)) (cons2 (cellE b a 1 (by decide)) (cons2 (cellE b a 2 (by decide)) (cons2 (cellE b a 3 (by decide)) (cons2 (cellE b a 4 (by decide)) (cons2 (cellE b a 5 (by decide)) (cons2 (cellE b a 6 (by decide)) (cons2 (cellE b a 7 (by decide)) (cons2 (cellE b a 8 (by decide)) (cons2 (cellE b a 9 (by decide)) (cons2 (cellE b a 10 (by decide)) (cons2 (cellE b a 11 (by decide)) (cons2 (cellE b a 12 (by decide)) (cons2 (cellE b a 13 (by decide)) (cons2 (cellE b a 14 (by decide)) (cons2 (cellE b a 15 (by decide)) (cons2 (cellE b a 16 (by decide)) (cons2 (cellE b a 17 (by decide)) (cons2 (cellE b a 18 (by decide)) (cons2 (cellE b a 19 (by decide)) (cons2 (cellE b a 20 (by decide)) (cons2 (cellE b a 21 (by decide)) (cons2 (cellE b a 22 (by decide)) (cons2 (cellE b a 23 (by decide)) (cons2 (cellE b a 24 (by decide)) (cons2 (cellE b a 25 (by decide)) (cons2 (cellE b a 26 (by decide)) (cons2 (cellE b a 27 (by decide)) (cons2 (cellE b a 28 (by decide)) (cons2 (cellE b a 29 (by decide)) (cons2 (cellE b a 30 (by decide)) (cons2 (cellE b a 31 (by decide)) (cons2 (cellE b a 32 (by decide)) (cons2 (cellE b a 33 (by decide)) (cons2 (cellE b a 34 (by decide)) (cons2 (cellE b a 35 (by decide)) (cons2 (cellE b a 36 (by decide)) (cons2 (cellE b a 37 (by decide)) (cons2 (cellE b a 38 (by decide)) (cons2 (cellE b a 39 (by decide)) (cons2 (cellE b a 40 (by decide)) (cons2 (cellE b a 41 (by decide)) (cons2 (cellE b a 42 (by decide)) (cons2 (cellE b a 43 (by decide)) (cons2 (cellE b a 44 (by decide)) (cons2 (cellE b a 45 (by decide)) (cons2 (cellE b a 46 (by decide)) (cons2 (cellE b a 47 (by decide)) (cons2 (cellE b a 48 (by decide)) (cons2 (cellE b a 49 (by decide)) (cons2 (cellE b a 50 (by decide)) (cons2 (cellE b a 51 (by decide)) (cons2 (cellE b a 52 (by decide)) (cons2 (cellE b a 53 (by decide)) (cons2 (cellE b a 54 (by decide)) (cons2 (cellE b a 55 (by decide)) (cons2 (cellE b a 56 (by decide)) (cons2 (cellE b a 57 (by decide)) (cons2 (cellE b a 58 (by decide)) (cons2 (cellE b a 59 (by decide)) (cons2 (cellE b a 60 (by decide)) (cons2 (cellE b a 61 (by decide)) (cons2 (cellE b a 62 (by decide)) (cons2 (cellE b a 63 (by decide)) (rfl)))))))))))))))))))))))))))))))))))))))))))))))))))))))))))))))))
end Go.Proofs.Ytbieiehfohldjaa
