/-
  Slots: senses, small laws.
-/
import Derived.Test.YtbieiehfohldjaamBm
import Derived.Test.YtbieiehfohldjaamK08
namespace Go.Proofs.Ytbieiehfohldjaa
open Go
set_option linter.unusedVariables false
set_option linter.unusedSimpArgs false
set_option maxRecDepth 100000
set_option maxHeartbeats 8000000

def sNotReady : Sns := ⟨2, 0x3a, 0⟩
def sProt : Sns := ⟨7, 0x27, 0⟩
def sRange : Sns := ⟨5, 0x21, 0⟩
def sKept : Sns := ⟨5, 0x53, 2⟩
def sDiff : Sns := ⟨14, 0x1d, 0⟩
theorem good_iff (s : Sns) : s.good = true ↔ s = sOk := by
  obtain ⟨a, b, c⟩ := s
  simp [Sns.good, sOk]
theorem row_at {α : Type} {f : α → List V} {l : List α} {j : Nat} {r : α} {z : Int} (h : l[j]? = some r) (e : Side (z = (j : Int))) : (l.map f)[z.toNat]? = some (f r) := by
  rw [e.h]
  exact row_get h
theorem map_set' {α β : Type} {f : α → β} {l : List α} {j : Nat} {x : α} : (l.map f).set j (f x) = (l.set j x).map f := (List.map_set).symm
theorem or_one {c : V} (h : c.one = true) : oneRows (List.take 1 (List.drop 0 [[c]])) := fun r hr => by
  have : r = [c] := by simpa using hr
  rw [this]
  simp [h]
theorem ap_bound (a b : List (List V)) (h : a.length + b.length ≤ 2 ^ 40) : (2 * (a.length + b.length) + 192) * 1 ≤ 2 ^ 48 := by omega
theorem ap_len {a b : Nat} (h : a = b) : a = b := h
noncomputable def inlSl : List IRow := [(63, Try.f63, 12, 4, 0), (72, Try.f72, 8, 4, 0), (35, Try.f35, 6, 3, 0), (85, Try.f85, 2, 2, 0), (73, Try.f73, 2, 2, 0), (75, Try.f75, 2, 2, 0), (52, Try.f52, 8, 4, 0), (25, Try.f25, 11, 4, 0), (42, Try.f42, 6, 3, 0), (83, Try.f83, 50, 0, 0)]
theorem inlSl_ok : IOk Try.prog (inlTab inlSl) := inl_ok (by
  unfold inlSl
  refine And.intro ⟨rfl, rfl, rfl, .inl rfl⟩ ?_
  refine And.intro ⟨rfl, rfl, rfl, .inl rfl⟩ ?_
  refine And.intro ⟨rfl, rfl, rfl, .inl rfl⟩ ?_
  refine And.intro ⟨rfl, rfl, rfl, .inl rfl⟩ ?_
  refine And.intro ⟨rfl, rfl, rfl, .inl rfl⟩ ?_
  refine And.intro ⟨rfl, rfl, rfl, .inl rfl⟩ ?_
  refine And.intro ⟨rfl, rfl, rfl, .inl rfl⟩ ?_
  refine And.intro ⟨rfl, rfl, rfl, .inl rfl⟩ ?_
  refine And.intro ⟨rfl, rfl, rfl, .inl rfl⟩ ?_
  refine And.intro ⟨rfl, rfl, rfl, .inl rfl⟩ ?_
  exact trivial)
end Go.Proofs.Ytbieiehfohldjaa
