/-
  The value-level machine: a table of types, held against the program; the rules, ready to be used one behind the other.
-/
import Derived.Test.YtgaginflocpcfaaAbsOz
namespace Go.Proofs.Ytgaginflocpcfaa
open Go
set_option linter.unusedVariables false
set_option linter.unusedSimpArgs false

def tdCheck (P : Program) (t : TypeId) : TD → Bool
  | .bool => match P.underlying t with | some .bool => true | _ => false
  | .int k => match P.underlying t with | some (.int k') => k == k' | _ => false
  | .string => match P.underlying t with | some .string => true | _ => false
  | .slice e => match P.underlying t with | some (.slice e') => e == e' | _ => false
  | .arr n e => match P.underlying t with | some (.array n' e') => n == n' && e == e' | _ => false
  | .struct fs => match P.underlying t with
    | some (.struct f) => (f.toList.map fun x => (x.offset, P.cellsOf x.type, aggOf P x.type)) == fs && (f.toList.all fun x => (P.underlying x.type).isSome && P.cellsOf x.type != 0 && (aggOf P x.type || P.cellsOf x.type == 1))
    | _ => false
  | .ptr e => match P.underlying t with | some (.pointer e') => e == e' | _ => false
  | .map k e => match P.underlying t with | some (.map k' e') => k == k' && e == e' | _ => false
  | .other => (P.underlying t).isSome
def tiCheck (P : Program) (t : TypeId) (i : TI) : Bool :=
  (match P.info? t with
   | some x => x.size == i.size && x.bytes == i.bytes && (match x.zero with | some z => zAll z.cells.toList i.zero | none => false)
   | none => false) &&
  (i.zero.length == i.size && tdCheck P t i.d && aggOf P t == i.agg && (P.underlying t).isSome && (i.agg || i.size == 1) && i.size != 0)

theorem tdCheck_ok {P : Program} {t : TypeId} {d : TD} (h : tdCheck P t d = true) : TDOk P t d := by
  cases d with
  | struct fs =>
    simp only [tdCheck, TDOk] at h ⊢
    split at h
    · rename_i f hf
      simp only [Bool.and_eq_true, beq_iff_eq] at h
      exact ⟨f, hf, h.1, h.2⟩
    · cases h
  | other => exact h
  | _ =>
    simp only [tdCheck, TDOk] at h ⊢
    split at h <;> first | (simp only [Bool.and_eq_true, beq_iff_eq] at h; simp_all; done) | (simp_all; done)
theorem tiCheck_ok {P : Program} {t : TypeId} {i : TI} (h : tiCheck P t i = true) : TIOk P t i := by
  unfold tiCheck at h
  simp only [Bool.and_eq_true, beq_iff_eq, bne_iff_ne, ne_eq, Bool.or_eq_true] at h
  obtain ⟨h0, ⟨⟨⟨⟨⟨h1, h2⟩, h3⟩, h4⟩, h5⟩, h6⟩⟩ := h
  refine ⟨?_, h1, tdCheck_ok h2, h3, h4, fun ha => ?_, h6⟩
  · split at h0
    · rename_i x hx
      simp only [Bool.and_eq_true, beq_iff_eq] at h0
      obtain ⟨⟨a, b⟩, c⟩ := h0
      split at c
      · rename_i z hz
        exact ⟨x, hx, a, b, z, hz, c⟩
      · cases c
    · cases h0
  · rcases h5 with h5 | h5
    · rw [ha] at h5; cases h5
    · exact h5
theorem tab_ok {P : Program} {T : TT} {n : Nat} (hn : ∀ t, n ≤ t → T t = none) (h : ((List.range n).all fun t => match T t with | some i => tiCheck P t i | none => true) = true) : TOk P T := by
  intro t i ht
  rw [List.all_eq_true] at h
  rcases Nat.lt_or_ge t n with hl | hl
  · have := h t (by simpa using hl)
    rw [ht] at this
    exact tiCheck_ok this
  · rw [hn t hl] at ht; cases ht

theorem upd_self {α : Type} {f : Nat → α} {k : Nat} {v : α} (h : f k = v) : upd f k v = f := by
  funext t
  simp only [upd]
  split
  · rename_i e; subst e; exact h.symm
  · rfl
end Go.Proofs.Ytgaginflocpcfaa
