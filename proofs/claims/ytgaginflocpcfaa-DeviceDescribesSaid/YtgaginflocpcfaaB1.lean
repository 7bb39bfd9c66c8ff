/-
  Arguments of plain data, opened.
-/
import Derived.Test.YtgaginflocpcfaaAbsW
import Derived.Test.YtgaginflocpcfaaB0
namespace Go.Proofs.Ytgaginflocpcfaa
open Go Go.ChangeShapes Go.WideShapes Go.ChangeAt Go.RowKit
set_option linter.unusedVariables false
set_option linter.unusedSimpArgs false
set_option maxRecDepth 100000

theorem bnd_i64 {z : Int} (h1 : IntKind.i64.min ≤ z) (h2 : z ≤ IntKind.i64.max) : -9223372036854775808 ≤ z ∧ z ≤ 9223372036854775807 := by simp [IntKind.min, IntKind.max, IntKind.signed, IntKind.bits] at h1 h2; omega
theorem bnd_u64 {z : Int} (h1 : IntKind.u64.min ≤ z) (h2 : z ≤ IntKind.u64.max) : 0 ≤ z ∧ z ≤ 18446744073709551615 := by simp [IntKind.min, IntKind.max, IntKind.signed, IntKind.bits] at h1 h2; omega
theorem bnd_u32 {z : Int} (h1 : IntKind.u32.min ≤ z) (h2 : z ≤ IntKind.u32.max) : 0 ≤ z ∧ z ≤ 4294967295 := by simp [IntKind.min, IntKind.max, IntKind.signed, IntKind.bits] at h1 h2; omega
theorem bnd_u16 {z : Int} (h1 : IntKind.u16.min ≤ z) (h2 : z ≤ IntKind.u16.max) : 0 ≤ z ∧ z ≤ 65535 := by simp [IntKind.min, IntKind.max, IntKind.signed, IntKind.bits] at h1 h2; omega
theorem bnd_u8 {z : Int} (h1 : IntKind.u8.min ≤ z) (h2 : z ≤ IntKind.u8.max) : 0 ≤ z ∧ z ≤ 255 := by simp [IntKind.min, IntKind.max, IntKind.signed, IntKind.bits] at h1 h2; omega
theorem list_pick {α β : Type} {f : β → α} {p : β → Prop} : ∀ (l : List α), (∀ r ∈ l, ∃ y, r = f y ∧ p y) → ∃ ys : List β, l = ys.map f ∧ ∀ y ∈ ys, p y
  | [], _ => ⟨[], rfl, fun y h => by cases h⟩
  | r :: l, h => by
    obtain ⟨y, rfl, hy⟩ := h r (by simp)
    obtain ⟨ys, rfl, hs⟩ := list_pick l fun r hr => h r (by simp [hr])
    exact ⟨y :: ys, rfl, fun z hz => by rcases List.mem_cons.1 hz with rfl | hz; exact hy; exact hs z hz⟩
theorem open_list {P : Program} {n : Nat} {t e : TypeId} {sz : Nat} {xs : List V} {β : Type} {f : β → List V} {wf : β → Prop} (hz : P.cellsOf e = sz) (hu : P.underlying t = some (.slice e)) (he : ∀ r, Ty P n e r → ∃ y, r = f y ∧ wf y) (h : Ty P (n + 1) t xs) : ∃ l : List β, xs = [.sl sz (l.map f)] ∧ l.length ≤ maxLen ∧ ∀ y ∈ l, wf y := by
  obtain ⟨l, rfl, h1, h2⟩ := ty_slice hu h
  obtain ⟨ys, rfl, h3⟩ := list_pick l fun r hr => he r (h2 r hr)
  exact ⟨ys, by rw [hz], by simpa using h1, h3⟩
theorem open_bytes {P : Program} {n : Nat} {t e : TypeId} {xs : List V} (hz : P.cellsOf e = 1) (hu : P.underlying t = some (.slice e)) (he : P.underlying e = some (.int .u8)) (h : Ty P (n + 2) t xs) : ∃ l : BS, xs = [bsV l] ∧ l.length ≤ maxLen := by
  obtain ⟨l, rfl, h1, h2⟩ := open_list (f := fun c : UInt8 => [u8V c]) (wf := fun _ => True) hz hu (fun r hr => by
    obtain ⟨z, rfl, a, b⟩ := ty_int he hr
    obtain ⟨a, b⟩ := bnd_u8 a b
    refine ⟨UInt8.ofNat z.toNat, ?_, trivial⟩
    simp only [u8V, UInt8.toNat_ofNat', List.cons.injEq, V.lit.injEq, Value.int.injEq, true_and, and_true]
    omega) h
  exact ⟨l, rfl, h1⟩
end Go.Proofs.Ytgaginflocpcfaa
