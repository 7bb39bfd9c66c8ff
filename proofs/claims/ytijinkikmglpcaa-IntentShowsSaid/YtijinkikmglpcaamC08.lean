/-
  Modes (layer 8): what is selected.
-/
import Derived.Test.YtijinkikmglpcaamL08
namespace Go.Proofs.Ytijinkikmglpcaa
open Go
set_option linter.unusedVariables false
set_option linter.unusedSimpArgs false
set_option maxRecDepth 100000
set_option maxHeartbeats 2000000

/-- is a text a part's length, and the part it is? -/
def sNo (b : BS) : Prop := b.length < 2 ∨ b.length < 2 + (b[1]?.getD 0).toNat
instance (b : BS) : Decidable (sNo b) := by unfold sNo; infer_instance
def sPg (b : BS) : BS := b.take (2 + (b[1]?.getD 0).toNat)
def sRest (b : BS) : BS := b.drop (2 + (b[1]?.getD 0).toNat)
def selF : Nat → BS → Bool → Bool × Sns
  | 0, _, c => (c, sOk)
  | f + 1, b, c => if b.length = 0 then (c, sOk) else if sNo b then (false, sShort) else if sPg b = mOne 4 then selF f (sRest b) true else if sPg b = mOne 0 then selF f (sRest b) false else if sPg b = mTwo then selF f (sRest b) c else (false, sBad)
def sel (b : BS) (c : Bool) : Bool × Sns := selF b.length b c
theorem sRest_len {b : BS} : (sRest b).length ≤ b.length - 2 := by unfold sRest; simp; omega
theorem selF_eq : ∀ (f : Nat) (b : BS) (c : Bool), b.length ≤ f → selF f b c = sel b c := by
  intro f
  induction f using Nat.strongRecOn with
  | _ f ih =>
    intro b c hb
    unfold sel
    cases f with
    | zero =>
      have : b.length = 0 := by omega
      rw [this]
    | succ f =>
      cases hl : b.length with
      | zero => simp [selF, hl]
      | succ m =>
        have h1 := sRest_len (b := b)
        simp only [selF, hl]
        rw [ih f (by omega) _ true (by omega), ih m (by omega) _ true (by omega), ih f (by omega) _ false (by omega), ih m (by omega) _ false (by omega), ih f (by omega) _ c (by omega), ih m (by omega) _ c (by omega)]
theorem sel_nil (c : Bool) : sel [] c = (c, sOk) := rfl
theorem sel_step {b : BS} (c : Bool) (h : 0 < b.length) : sel b c = if sNo b then (false, sShort) else if sPg b = mOne 4 then sel (sRest b) true else if sPg b = mOne 0 then sel (sRest b) false else if sPg b = mTwo then sel (sRest b) c else (false, sBad) := by
  have h1 := sRest_len (b := b)
  rw [← selF_eq (b.length + 1) b c (by omega)]
  simp only [selF]
  rw [if_neg (by omega), selF_eq _ _ _ (by omega), selF_eq _ _ _ (by omega), selF_eq _ _ _ (by omega)]
/-- how long a header is, and how much follows it -/
def hSz (ten : Bool) : Nat := if ten then 8 else 4
def hN (b : BS) (ten : Bool) : Nat := if ten then (b[6]?.getD 0).toNat * 256 + (b[7]?.getD 0).toNat else (b[3]?.getD 0).toNat
/-- what is behind a header -/
def mHead (b : BS) (ten : Bool) : BS × Sns := if b.length < hSz ten then ([], sShort) else if hN b ten ≠ 0 ∧ hN b ten ≠ 8 then ([], sBad) else if b.length < hSz ten + hN b ten then ([], sShort) else (b.drop (hSz ten + hN b ten), sOk)
theorem hN_lt (b : BS) (ten : Bool) : hN b ten < 65536 := by
  have h1 := UInt8.toNat_lt (b[6]?.getD 0)
  have h2 := UInt8.toNat_lt (b[7]?.getD 0)
  have h3 := UInt8.toNat_lt (b[3]?.getD 0)
  unfold hN
  split <;> omega
theorem beN_one (x : UInt8) : beN [x] = x.toNat := by simp [beN]
theorem beN_two (x y : UInt8) : beN [x, y] = x.toNat * 256 + y.toNat := by simp [beN]
theorem drop_one {b : BS} {k : Nat} (h : k < b.length) : (b.drop k).take 1 = [b[k]?.getD 0] := by
  rw [List.drop_eq_getElem_cons h, List.getElem?_eq_getElem h]; rfl
theorem drop_two {b : BS} {k : Nat} (h : k + 1 < b.length) : (b.drop k).take 2 = [b[k]?.getD 0, b[k+1]?.getD 0] := by
  rw [List.drop_eq_getElem_cons (by omega), List.drop_eq_getElem_cons h, List.getElem?_eq_getElem h, List.getElem?_eq_getElem (show k < b.length by omega)]; rfl
def Sns.good (s : Sns) : Bool := (s.key == 0) && ((s.code == 0) && ((s.qual == 0) && true))
def mSel (b : BS) (ten c : Bool) : Bool × Sns := if b.length = 0 then (c, sOk) else if (mHead b ten).2.good = true then sel (mHead b ten).1 c else (false, (mHead b ten).2)
theorem c_pgOn : FnC Try.prog 52 [i64 8, i64 0, bV true] [] (.tup [bsV (mOne 4), bV true]) [] := c_page 8 0 true
theorem c_pgOff : FnC Try.prog 52 [i64 8, i64 0, bV false] [] (.tup [bsV (mOne 0), bV true]) [] := c_page 8 0 false
theorem c_pgTwo : FnC Try.prog 52 [i64 28, i64 0, bV false] [] (.tup [bsV mTwo, bV true]) [] := c_page 28 0 false
def nextC (l : BS) (d : Bool) : Bool := if sPg l = mOne 4 then true else if sPg l = mOne 0 then false else d
theorem sel_on {l : BS} {d : Bool} (h0 : 0 < l.length) (h : ¬ sNo l) (hp : sPg l = mOne 4 ∨ sPg l = mOne 0 ∨ sPg l = mTwo) : sel l d = sel (sRest l) (nextC l d) := by
  rw [sel_step d h0, if_neg h]
  unfold nextC
  split
  · rfl
  · split
    · rfl
    · rw [if_pos (by rcases hp with h | h | h <;> first | contradiction | exact h)]
theorem wrapA (x : UInt8) : IntKind.i64.wrap (2 + IntKind.i64.wrap (x.toNat : Int)) = 2 + x.toNat := by
  have := UInt8.toNat_lt x
  rw [wrap64 (n := (x.toNat : Int)) (by omega) (by omega), wrap64 (by omega) (by omega)]
theorem toNatA (x : UInt8) : (2 + (x.toNat : Int)).toNat = 2 + x.toNat := by omega
theorem pg_on {l : BS} (h : ((l.take (2 + (l[1]?.getD 0).toNat)) == mOne 4) = true) : sPg l = mOne 4 := by simpa [sPg] using h
structure SS where
  b : BS
  c : Bool
theorem mHead_len (b : BS) (ten : Bool) : (mHead b ten).1.length ≤ b.length := by
  unfold mHead
  split
  · exact Nat.zero_le _
  · split
    · exact Nat.zero_le _
    · split
      · exact Nat.zero_le _
      · simp
end Go.Proofs.Ytijinkikmglpcaa
