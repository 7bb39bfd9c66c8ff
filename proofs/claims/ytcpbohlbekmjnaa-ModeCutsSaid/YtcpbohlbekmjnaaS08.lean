/-
  Modes (layer 8): the statements of the laws.
-/
import Derived.Test.YtcpbohlbekmjnaaB1
import Derived.Test.YtcpbohlbekmjnaaH08
namespace Go.Proofs.Ytcpbohlbekmjnaa
open Go Go.ChangeShapes Go.WideShapes Go.ChangeAt Go.RowKit
set_option linter.unusedVariables false
set_option linter.unusedSimpArgs false
set_option maxRecDepth 100000

theorem open_Cmd {n : Nat} {xs : List V} (h : Ty Try.prog (n + 2) 24 xs) : ∃ x : Cmd, xs = x.row ∧ x.wf := by
  have h := ty_struct (n := n + 1) Try.underlying24 h
  obtain ⟨p0, q0, rfl, h0, h⟩ := tyFs_cons h
  obtain ⟨p1, q1, rfl, h1, h⟩ := tyFs_cons h
  obtain ⟨p2, q2, rfl, h2, h⟩ := tyFs_cons h
  obtain ⟨p3, q3, rfl, h3, h⟩ := tyFs_cons h
  obtain ⟨p4, q4, rfl, h4, h⟩ := tyFs_cons h
  obtain rfl := tyFs_nil h
  obtain ⟨z0, rfl, l0, u0⟩ := ty_int (n := n + 0) Try.underlying3 h0
  obtain ⟨z1, rfl, l1, u1⟩ := ty_int (n := n + 0) Try.underlying22 h1
  obtain ⟨z2, rfl, l2, u2⟩ := ty_int (n := n + 0) Try.underlying3 h2
  obtain ⟨z3, rfl, l3, u3⟩ := ty_int (n := n + 0) Try.underlying3 h3
  obtain ⟨z4, rfl, l4, u4⟩ := ty_int (n := n + 0) Try.underlying3 h4
  exact ⟨⟨z0, z1, z2, z3, z4⟩, rfl, ⟨bnd_i64 l0 u0, bnd_u64 l1 u1, bnd_i64 l2 u2, bnd_i64 l3 u3, bnd_i64 l4 u4⟩⟩
set_option maxRecDepth 100000 in
theorem modeAnswers_lifted (os : Os) (started : os.Started) (H : Type) (enc : TypeId × Value → H) :
    ReturnsInHanded {} Try.checked os 3 .any (Rows.modeAnswersSpec.pre6 enc Try.prog Try.f3 Rows.modeAnswersRow.domain false) (Rows.modeAnswersSpec.post enc Try.prog Try.f3 false true false false) := by
  refine returnsInHanded_of_change (C := Try.checked) own started (by kernel_rfl) Try.func3
    (ChangeSpec.witness6 (enc := enc) (C := Try.checked) false ⟨#[], #[.agg #[.int .i64 0, .int .u64 0, .int .i64 0, .int .i64 0, .int .i64 0], .bool false, .bool false], []⟩ 12 (by kernel_rfl) (by kernel_rfl) (by kernel_rfl) (by kernel_rfl)) ?_
  intro W base args ds gs before hval hW _ _
  refine law_calls (tb := 4) rfl (fun ds h => by
    match ds, h with
    | [d0, d1, d2], _ => rfl) rfl Try.underlying4 (by kernel_rfl) (fun xs hx => ?_) hval hW
  have hx0 : TysV Try.prog [24, 4, 4] xs := hx
  obtain ⟨x0, ys0, rfl, t0, hx1⟩ := tysV_cons hx0
  obtain ⟨c0, rfl, b0⟩ := tyV_agg (by kernel_rfl) t0
  obtain ⟨z0, rfl, w0⟩ := open_Cmd (n := 10) b0
  obtain ⟨x1, ys1, rfl, t1, hx2⟩ := tysV_cons hx1
  have b1 := tyV_one (by kernel_rfl) t1
  obtain ⟨z1, e1⟩ := ty_bool (n := 11) Try.underlying4 b1
  obtain rfl := (List.cons.inj e1).1
  obtain ⟨x2, ys2, rfl, t2, hx3⟩ := tysV_cons hx2
  have b2 := tyV_one (by kernel_rfl) t2
  obtain ⟨z2, e2⟩ := ty_bool (n := 11) Try.underlying4 b2
  obtain rfl := (List.cons.inj e2).1
  obtain rfl := tysV_nil hx3
  exact c_modeAnswers z0 z1 z2
theorem modeAnswers_holds : Rows.ModeAnswersSaid :=
  OpenClaim.holds_of_wide 3 Try.f3 rfl rfl rfl rfl rfl rfl rfl ⟨rfl, rfl, rfl, rfl, rfl⟩ rfl rfl rfl rfl rfl (by kernel_rfl) Try.func3 (by kernel_rfl)
    (of_decide_eq_true (by kernel_rfl)) (by unfold Func.isWrapper; first | (rw [if_pos (by decide +kernel)]; kernel_rfl) | (rw [if_neg (by decide +kernel)]; exact ⟨rfl, rfl⟩))
    (fun os started H enc _ => modeAnswers_lifted os started H enc)
set_option maxRecDepth 100000 in
theorem modeSelects_lifted (os : Os) (started : os.Started) (H : Type) (enc : TypeId × Value → H) :
    ReturnsInHanded {} Try.checked os 4 .any (Rows.modeSelectsSpec.pre6 enc Try.prog Try.f4 Rows.modeSelectsRow.domain false) (Rows.modeSelectsSpec.post enc Try.prog Try.f4 false true false false) := by
  refine returnsInHanded_of_change (C := Try.checked) own started (by kernel_rfl) Try.func4
    (ChangeSpec.witness6 (enc := enc) (C := Try.checked) false ⟨#[], #[.slice none 0 0, .bool false, .bool false], []⟩ 12 (by kernel_rfl) (by kernel_rfl) (by kernel_rfl) (by kernel_rfl)) ?_
  intro W base args ds gs before hval hW _ _
  refine law_calls (tb := 4) rfl (fun ds h => by
    match ds, h with
    | [d0, d1, d2], _ => rfl) rfl Try.underlying4 (by kernel_rfl) (fun xs hx => ?_) hval hW
  have hx0 : TysV Try.prog [26, 4, 4] xs := hx
  obtain ⟨x0, ys0, rfl, t0, hx1⟩ := tysV_cons hx0
  have b0 := tyV_one (by kernel_rfl) t0
  obtain ⟨z0, e0, w0⟩ := open_bytes (n := 10) (by kernel_rfl) Try.underlying26 Try.underlying5 b0
  obtain rfl := (List.cons.inj e0).1
  obtain ⟨x1, ys1, rfl, t1, hx2⟩ := tysV_cons hx1
  have b1 := tyV_one (by kernel_rfl) t1
  obtain ⟨z1, e1⟩ := ty_bool (n := 11) Try.underlying4 b1
  obtain rfl := (List.cons.inj e1).1
  obtain ⟨x2, ys2, rfl, t2, hx3⟩ := tysV_cons hx2
  have b2 := tyV_one (by kernel_rfl) t2
  obtain ⟨z2, e2⟩ := ty_bool (n := 11) Try.underlying4 b2
  obtain rfl := (List.cons.inj e2).1
  obtain rfl := tysV_nil hx3
  exact c_modeSelects z0 z1 z2
theorem modeSelects_holds : Rows.ModeSelectsSaid :=
  OpenClaim.holds_of_wide 4 Try.f4 rfl rfl rfl rfl rfl rfl rfl ⟨rfl, rfl, rfl, rfl, rfl⟩ rfl rfl rfl rfl rfl (by kernel_rfl) Try.func4 (by kernel_rfl)
    (of_decide_eq_true (by kernel_rfl)) (by unfold Func.isWrapper; first | (rw [if_pos (by decide +kernel)]; kernel_rfl) | (rw [if_neg (by decide +kernel)]; exact ⟨rfl, rfl⟩))
    (fun os started H enc _ => modeSelects_lifted os started H enc)
set_option maxRecDepth 100000 in
theorem modeBack_lifted (os : Os) (started : os.Started) (H : Type) (enc : TypeId × Value → H) :
    ReturnsInHanded {} Try.checked os 5 .any (Rows.modeBackSpec.pre6 enc Try.prog Try.f5 Rows.modeBackRow.domain false) (Rows.modeBackSpec.post enc Try.prog Try.f5 false true false false) := by
  refine returnsInHanded_of_change (C := Try.checked) own started (by kernel_rfl) Try.func5
    (ChangeSpec.witness6 (enc := enc) (C := Try.checked) false ⟨#[], #[.int .i64 0, .bool false, .agg #[.bool false, .bool false, .bool false]], []⟩ 12 (by kernel_rfl) (by kernel_rfl) (by kernel_rfl) (by kernel_rfl)) ?_
  intro W base args ds gs before hval hW _ _
  refine law_calls (tb := 4) rfl (fun ds h => by
    match ds, h with
    | [d0, d1, d2], _ => rfl) rfl Try.underlying4 (by kernel_rfl) (fun xs hx => ?_) hval hW
  have hx0 : TysV Try.prog [3, 4, 37] xs := hx
  obtain ⟨x0, ys0, rfl, t0, hx1⟩ := tysV_cons hx0
  have b0 := tyV_one (by kernel_rfl) t0
  obtain ⟨z0, e0, l0, u0⟩ := ty_int (n := 11) Try.underlying3 b0
  obtain rfl := (List.cons.inj e0).1
  obtain ⟨x1, ys1, rfl, t1, hx2⟩ := tysV_cons hx1
  have b1 := tyV_one (by kernel_rfl) t1
  obtain ⟨z1, e1⟩ := ty_bool (n := 11) Try.underlying4 b1
  obtain rfl := (List.cons.inj e1).1
  obtain ⟨x2, ys2, rfl, t2, hx3⟩ := tysV_cons hx2
  obtain ⟨c2, rfl, b2⟩ := tyV_agg (by kernel_rfl) t2
  have g2 : TyFs (Ty Try.prog 11) [4, 4, 4] c2 := ty_arr (n := 11) Try.underlying37 b2
  obtain ⟨p0, q0, rfl, k0, g2⟩ := tyFs_cons g2
  obtain ⟨p1, q1, rfl, k1, g2⟩ := tyFs_cons g2
  obtain ⟨p2, q2, rfl, k2, g2⟩ := tyFs_cons g2
  obtain rfl := tyFs_nil g2
  obtain ⟨z2a0, rfl⟩ := ty_bool (n := 10) Try.underlying4 k0
  obtain ⟨z2a1, rfl⟩ := ty_bool (n := 10) Try.underlying4 k1
  obtain ⟨z2a2, rfl⟩ := ty_bool (n := 10) Try.underlying4 k2
  obtain rfl := tysV_nil hx3
  exact c_modeBack z0 z1 z2a0 z2a1 z2a2
theorem modeBack_holds : Rows.ModeBackSaid :=
  OpenClaim.holds_of_wide 5 Try.f5 rfl rfl rfl rfl rfl rfl rfl ⟨rfl, rfl, rfl, rfl, rfl⟩ rfl rfl rfl rfl rfl (by kernel_rfl) Try.func5 (by kernel_rfl)
    (of_decide_eq_true (by kernel_rfl)) (by unfold Func.isWrapper; first | (rw [if_pos (by decide +kernel)]; kernel_rfl) | (rw [if_neg (by decide +kernel)]; exact ⟨rfl, rfl⟩))
    (fun os started H enc _ => modeBack_lifted os started H enc)
set_option maxRecDepth 100000 in
theorem modeChanges_lifted (os : Os) (started : os.Started) (H : Type) (enc : TypeId × Value → H) :
    ReturnsInHanded {} Try.checked os 6 .any (Rows.modeChangesSpec.pre6 enc Try.prog Try.f6 Rows.modeChangesRow.domain false) (Rows.modeChangesSpec.post enc Try.prog Try.f6 false true false false) := by
  refine returnsInHanded_of_change (C := Try.checked) own started (by kernel_rfl) Try.func6
    (ChangeSpec.witness6 (enc := enc) (C := Try.checked) false ⟨#[], #[.int .u8 0, .int .u8 0, .bool false], []⟩ 12 (by kernel_rfl) (by kernel_rfl) (by kernel_rfl) (by kernel_rfl)) ?_
  intro W base args ds gs before hval hW _ _
  refine law_calls (tb := 4) rfl (fun ds h => by
    match ds, h with
    | [d0, d1, d2], _ => rfl) rfl Try.underlying4 (by kernel_rfl) (fun xs hx => ?_) hval hW
  have hx0 : TysV Try.prog [5, 5, 4] xs := hx
  obtain ⟨x0, ys0, rfl, t0, hx1⟩ := tysV_cons hx0
  have b0 := tyV_one (by kernel_rfl) t0
  obtain ⟨z0, e0, l0, u0⟩ := ty_int (n := 11) Try.underlying5 b0
  obtain rfl := (List.cons.inj e0).1
  obtain ⟨x1, ys1, rfl, t1, hx2⟩ := tysV_cons hx1
  have b1 := tyV_one (by kernel_rfl) t1
  obtain ⟨z1, e1, l1, u1⟩ := ty_int (n := 11) Try.underlying5 b1
  obtain rfl := (List.cons.inj e1).1
  obtain ⟨x2, ys2, rfl, t2, hx3⟩ := tysV_cons hx2
  have b2 := tyV_one (by kernel_rfl) t2
  obtain ⟨z2, e2⟩ := ty_bool (n := 11) Try.underlying4 b2
  obtain rfl := (List.cons.inj e2).1
  obtain rfl := tysV_nil hx3
  exact c_modeChanges z0 z1 z2 (bnd_u8 l0 u0) (bnd_u8 l1 u1)
theorem modeChanges_holds : Rows.ModeChangesSaid :=
  OpenClaim.holds_of_wide 6 Try.f6 rfl rfl rfl rfl rfl rfl rfl ⟨rfl, rfl, rfl, rfl, rfl⟩ rfl rfl rfl rfl rfl (by kernel_rfl) Try.func6 (by kernel_rfl)
    (of_decide_eq_true (by kernel_rfl)) (by unfold Func.isWrapper; first | (rw [if_pos (by decide +kernel)]; kernel_rfl) | (rw [if_neg (by decide +kernel)]; exact ⟨rfl, rfl⟩))
    (fun os started H enc _ => modeChanges_lifted os started H enc)
set_option maxRecDepth 100000 in
theorem modeCuts_lifted (os : Os) (started : os.Started) (H : Type) (enc : TypeId × Value → H) :
    ReturnsInHanded {} Try.checked os 7 .any (Rows.modeCutsSpec.pre6 enc Try.prog Try.f7 Rows.modeCutsRow.domain false) (Rows.modeCutsSpec.post enc Try.prog Try.f7 false true false false) := by
  refine returnsInHanded_of_change (C := Try.checked) own started (by kernel_rfl) Try.func7
    (ChangeSpec.witness6 (enc := enc) (C := Try.checked) false ⟨#[], #[.agg #[.int .i64 0, .int .u64 0, .int .i64 0, .int .i64 0, .int .i64 0], .bool false, .bool false], []⟩ 12 (by kernel_rfl) (by kernel_rfl) (by kernel_rfl) (by kernel_rfl)) ?_
  intro W base args ds gs before hval hW _ _
  refine law_calls (tb := 4) rfl (fun ds h => by
    match ds, h with
    | [d0, d1, d2], _ => rfl) rfl Try.underlying4 (by kernel_rfl) (fun xs hx => ?_) hval hW
  have hx0 : TysV Try.prog [24, 4, 4] xs := hx
  obtain ⟨x0, ys0, rfl, t0, hx1⟩ := tysV_cons hx0
  obtain ⟨c0, rfl, b0⟩ := tyV_agg (by kernel_rfl) t0
  obtain ⟨z0, rfl, w0⟩ := open_Cmd (n := 10) b0
  obtain ⟨x1, ys1, rfl, t1, hx2⟩ := tysV_cons hx1
  have b1 := tyV_one (by kernel_rfl) t1
  obtain ⟨z1, e1⟩ := ty_bool (n := 11) Try.underlying4 b1
  obtain rfl := (List.cons.inj e1).1
  obtain ⟨x2, ys2, rfl, t2, hx3⟩ := tysV_cons hx2
  have b2 := tyV_one (by kernel_rfl) t2
  obtain ⟨z2, e2⟩ := ty_bool (n := 11) Try.underlying4 b2
  obtain rfl := (List.cons.inj e2).1
  obtain rfl := tysV_nil hx3
  exact c_modeCuts z0 z1 z2
theorem modeCuts_holds : Rows.ModeCutsSaid :=
  OpenClaim.holds_of_wide 7 Try.f7 rfl rfl rfl rfl rfl rfl rfl ⟨rfl, rfl, rfl, rfl, rfl⟩ rfl rfl rfl rfl rfl (by kernel_rfl) Try.func7 (by kernel_rfl)
    (of_decide_eq_true (by kernel_rfl)) (by unfold Func.isWrapper; first | (rw [if_pos (by decide +kernel)]; kernel_rfl) | (rw [if_neg (by decide +kernel)]; exact ⟨rfl, rfl⟩))
    (fun os started H enc _ => modeCuts_lifted os started H enc)

end Go.Proofs.Ytcpbohlbekmjnaa
