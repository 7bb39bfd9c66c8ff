/-
  Descriptors (layer 14): the statement about the configuration.
-/
import Derived.Test.YtgkcdahnmkbldaaB1
import Derived.Test.YtgkcdahnmkbldaaF14
namespace Go.Proofs.Ytgkcdahnmkbldaa
open Go Go.ChangeShapes Go.WideShapes Go.ChangeAt Go.RowKit
set_option linter.unusedVariables false
set_option linter.unusedSimpArgs false
set_option maxRecDepth 100000

set_option maxRecDepth 100000 in
theorem descSays_lifted (os : Os) (started : os.Started) (H : Type) (enc : TypeId × Value → H) :
    ReturnsInHanded {} Try.checked os 5 .any (Rows.descSaysSpec.pre6 enc Try.prog Try.f5 Rows.descSaysRow.domain false) (Rows.descSaysSpec.post enc Try.prog Try.f5 false true false false) := by
  refine returnsInHanded_of_change (C := Try.checked) own started (by kernel_rfl) Try.func5
    (ChangeSpec.witness6 (enc := enc) (C := Try.checked) false ⟨#[], #[.int .u8 0], []⟩ 12 (by kernel_rfl) (by kernel_rfl) (by kernel_rfl) (by kernel_rfl)) ?_
  intro W base args ds gs before hval hW _ _
  refine law_calls (tb := 4) rfl (fun ds h => by
    match ds, h with
    | [d0], _ => rfl) rfl Try.underlying4 (by kernel_rfl) (fun xs hx => ?_) hval hW
  have hx0 : TysV Try.prog [5] xs := hx
  obtain ⟨x0, ys0, rfl, t0, hx1⟩ := tysV_cons hx0
  have b0 := tyV_one (by kernel_rfl) t0
  obtain ⟨z0, e0, l0, u0⟩ := ty_int (n := 11) Try.underlying5 b0
  obtain rfl := (List.cons.inj e0).1
  obtain rfl := tysV_nil hx1
  exact c_descSays z0 (bnd_u8 l0 u0)
theorem descSays_holds : Rows.DescSaysSaid :=
  OpenClaim.holds_of_wide 5 Try.f5 rfl rfl rfl rfl rfl rfl rfl ⟨rfl, rfl, rfl, rfl, rfl⟩ rfl rfl rfl rfl rfl (by kernel_rfl) Try.func5 (by kernel_rfl)
    (of_decide_eq_true (by kernel_rfl)) (by unfold Func.isWrapper; first | (rw [if_pos (by decide +kernel)]; kernel_rfl) | (rw [if_neg (by decide +kernel)]; exact ⟨rfl, rfl⟩))
    (fun os started H enc _ => descSays_lifted os started H enc)

end Go.Proofs.Ytgkcdahnmkbldaa
