/-
  Descriptors (layer 14): the statements of the laws.
-/
import Derived.Test.YtgkcdahnmkbldaaB1
import Derived.Test.YtgkcdahnmkbldaaE14
namespace Go.Proofs.Ytgkcdahnmkbldaa
open Go Go.ChangeShapes Go.WideShapes Go.ChangeAt Go.RowKit
set_option linter.unusedVariables false
set_option linter.unusedSimpArgs false
set_option maxRecDepth 100000

set_option maxRecDepth 100000 in
theorem descGets_lifted (os : Os) (started : os.Started) (H : Type) (enc : TypeId × Value → H) :
    ReturnsInHanded {} Try.checked os 3 .any (Rows.descGetsSpec.pre6 enc Try.prog Try.f3 Rows.descGetsRow.domain false) (Rows.descGetsSpec.post enc Try.prog Try.f3 false true false false) := by
  refine returnsInHanded_of_change (C := Try.checked) own started (by kernel_rfl) Try.func3
    (ChangeSpec.witness6 (enc := enc) (C := Try.checked) false ⟨#[], #[.int .i64 0, .int .i64 0], []⟩ 12 (by kernel_rfl) (by kernel_rfl) (by kernel_rfl) (by kernel_rfl)) ?_
  intro W base args ds gs before hval hW _ _
  refine law_calls (tb := 4) rfl (fun ds h => by
    match ds, h with
    | [d0, d1], _ => rfl) rfl Try.underlying4 (by kernel_rfl) (fun xs hx => ?_) hval hW
  have hx0 : TysV Try.prog [3, 3] xs := hx
  obtain ⟨x0, ys0, rfl, t0, hx1⟩ := tysV_cons hx0
  have b0 := tyV_one (by kernel_rfl) t0
  obtain ⟨z0, e0, l0, u0⟩ := ty_int (n := 11) Try.underlying3 b0
  obtain rfl := (List.cons.inj e0).1
  obtain ⟨x1, ys1, rfl, t1, hx2⟩ := tysV_cons hx1
  have b1 := tyV_one (by kernel_rfl) t1
  obtain ⟨z1, e1, l1, u1⟩ := ty_int (n := 11) Try.underlying3 b1
  obtain rfl := (List.cons.inj e1).1
  obtain rfl := tysV_nil hx2
  exact c_descGets z0 z1
theorem descGets_holds : Rows.DescGetsSaid :=
  OpenClaim.holds_of_wide 3 Try.f3 rfl rfl rfl rfl rfl rfl rfl ⟨rfl, rfl, rfl, rfl, rfl⟩ rfl rfl rfl rfl rfl (by kernel_rfl) Try.func3 (by kernel_rfl)
    (of_decide_eq_true (by kernel_rfl)) (by unfold Func.isWrapper; first | (rw [if_pos (by decide +kernel)]; kernel_rfl) | (rw [if_neg (by decide +kernel)]; exact ⟨rfl, rfl⟩))
    (fun os started H enc _ => descGets_lifted os started H enc)
set_option maxRecDepth 100000 in
theorem descParts_lifted (os : Os) (started : os.Started) (H : Type) (enc : TypeId × Value → H) :
    ReturnsInHanded {} Try.checked os 4 .any (Rows.descPartsSpec.pre6 enc Try.prog Try.f4 Rows.descPartsRow.domain false) (Rows.descPartsSpec.post enc Try.prog Try.f4 false true false false) := by
  refine returnsInHanded_of_change (C := Try.checked) own started (by kernel_rfl) Try.func4
    (ChangeSpec.witness6 (enc := enc) (C := Try.checked) false ⟨#[], #[.slice none 0 0], []⟩ 12 (by kernel_rfl) (by kernel_rfl) (by kernel_rfl) (by kernel_rfl)) ?_
  intro W base args ds gs before hval hW _ _
  refine law_calls (tb := 4) rfl (fun ds h => by
    match ds, h with
    | [d0], _ => rfl) rfl Try.underlying4 (by kernel_rfl) (fun xs hx => ?_) hval hW
  have hx0 : TysV Try.prog [23] xs := hx
  obtain ⟨x0, ys0, rfl, t0, hx1⟩ := tysV_cons hx0
  have b0 := tyV_one (by kernel_rfl) t0
  obtain ⟨z0, e0, w0⟩ := open_bytes (n := 10) (by kernel_rfl) Try.underlying23 Try.underlying5 b0
  obtain rfl := (List.cons.inj e0).1
  obtain rfl := tysV_nil hx1
  exact c_descParts z0
theorem descParts_holds : Rows.DescPartsSaid :=
  OpenClaim.holds_of_wide 4 Try.f4 rfl rfl rfl rfl rfl rfl rfl ⟨rfl, rfl, rfl, rfl, rfl⟩ rfl rfl rfl rfl rfl (by kernel_rfl) Try.func4 (by kernel_rfl)
    (of_decide_eq_true (by kernel_rfl)) (by unfold Func.isWrapper; first | (rw [if_pos (by decide +kernel)]; kernel_rfl) | (rw [if_neg (by decide +kernel)]; exact ⟨rfl, rfl⟩))
    (fun os started H enc _ => descParts_lifted os started H enc)
set_option maxRecDepth 100000 in
theorem descStrings_lifted (os : Os) (started : os.Started) (H : Type) (enc : TypeId × Value → H) :
    ReturnsInHanded {} Try.checked os 6 .any (Rows.descStringsSpec.pre6 enc Try.prog Try.f6 Rows.descStringsRow.domain false) (Rows.descStringsSpec.post enc Try.prog Try.f6 false true false false) := by
  refine returnsInHanded_of_change (C := Try.checked) own started (by kernel_rfl) Try.func6
    (ChangeSpec.witness6 (enc := enc) (C := Try.checked) false ⟨#[], #[.int .i64 0], []⟩ 12 (by kernel_rfl) (by kernel_rfl) (by kernel_rfl) (by kernel_rfl)) ?_
  intro W base args ds gs before hval hW _ _
  refine law_calls (tb := 4) rfl (fun ds h => by
    match ds, h with
    | [d0], _ => rfl) rfl Try.underlying4 (by kernel_rfl) (fun xs hx => ?_) hval hW
  have hx0 : TysV Try.prog [3] xs := hx
  obtain ⟨x0, ys0, rfl, t0, hx1⟩ := tysV_cons hx0
  have b0 := tyV_one (by kernel_rfl) t0
  obtain ⟨z0, e0, l0, u0⟩ := ty_int (n := 11) Try.underlying3 b0
  obtain rfl := (List.cons.inj e0).1
  obtain rfl := tysV_nil hx1
  exact c_descStrings z0
theorem descStrings_holds : Rows.DescStringsSaid :=
  OpenClaim.holds_of_wide 6 Try.f6 rfl rfl rfl rfl rfl rfl rfl ⟨rfl, rfl, rfl, rfl, rfl⟩ rfl rfl rfl rfl rfl (by kernel_rfl) Try.func6 (by kernel_rfl)
    (of_decide_eq_true (by kernel_rfl)) (by unfold Func.isWrapper; first | (rw [if_pos (by decide +kernel)]; kernel_rfl) | (rw [if_neg (by decide +kernel)]; exact ⟨rfl, rfl⟩))
    (fun os started H enc _ => descStrings_lifted os started H enc)

end Go.Proofs.Ytgkcdahnmkbldaa
