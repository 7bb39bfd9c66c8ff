/-
  Slots: senses, small laws.
-/
import Derived.Test.YtijinkikmglpcaamBm
import Derived.Test.YtijinkikmglpcaamK08
namespace Go.Proofs.Ytijinkikmglpcaa
open Go
set_option linter.unusedVariables false
set_option linter.unusedSimpArgs false
set_option maxRecDepth 100000
set_option maxHeartbeats 8000000

def sNotReady : Sns := ⟨2, 0x3a, 0⟩
def sProt : Sns := ⟨7, 0x27, 0⟩
def sRange : Sns := ⟨5, 0x21, 0⟩
def sKept : Sns := ⟨5, 0x53, 2⟩
def sDiff : Sns := ⟨14, 0x1d, 0⟩
theorem good_iff (s : Sns) : s.good = true ↔ s = sOk := by
  obtain ⟨a, b, c⟩ := s
  simp [Sns.good, sOk]
theorem row_at {α : Type} {f : α → List V} {l : List α} {j : Nat} {r : α} {z : Int} (h : l[j]? = some r) (e : Side (z = (j : Int))) : (l.map f)[z.toNat]? = some (f r) := by
  rw [e.h]
  exact row_get h
theorem map_set' {α β : Type} {f : α → β} {l : List α} {j : Nat} {x : α} : (l.map f).set j (f x) = (l.set j x).map f := (List.map_set).symm
theorem or_one {c : V} (h : c.one = true) : oneRows (List.take 1 (List.drop 0 [[c]])) := fun r hr => by
  have : r = [c] := by simpa using hr
  rw [this]
  simp [h]
theorem ap_bound (a b : List (List V)) (h : a.length + b.length ≤ 2 ^ 40) : (2 * (a.length + b.length) + 192) * 1 ≤ 2 ^ 48 := by omega
theorem ap_len {a b : Nat} (h : a = b) : a = b := h
noncomputable def inlSl : List IRow := [(84, Try.f84, 12, 4, 0), (31, Try.f31, 8, 4, 0), (30, Try.f30, 6, 3, 0), (45, Try.f45, 2, 2, 0), (89, Try.f89, 2, 2, 0), (91, Try.f91, 2, 2, 0), (69, Try.f69, 8, 4, 0), (82, Try.f82, 2, 2, 0), (21, Try.f21, 11, 4, 0), (24, Try.f24, 6, 3, 0)]
theorem inlSl_ok : IOk Try.prog (inlTab inlSl) := inl_ok (by
  unfold inlSl
  refine And.intro ⟨rfl, rfl, rfl, .inl rfl⟩ ?_
  refine And.intro ⟨rfl, rfl, rfl, .inl rfl⟩ ?_
  refine And.intro ⟨rfl, rfl, rfl, .inl rfl⟩ ?_
  refine And.intro ⟨rfl, rfl, rfl, .inl rfl⟩ ?_
  refine And.intro ⟨rfl, rfl, rfl, .inl rfl⟩ ?_
  refine And.intro ⟨rfl, rfl, rfl, .inl rfl⟩ ?_
  refine And.intro ⟨rfl, rfl, rfl, .inl rfl⟩ ?_
  refine And.intro ⟨rfl, rfl, rfl, .inl rfl⟩ ?_
  refine And.intro ⟨rfl, rfl, rfl, .inl rfl⟩ ?_
  refine And.intro ⟨rfl, rfl, rfl, .inl rfl⟩ ?_
  exact trivial)
end Go.Proofs.Ytijinkikmglpcaa
