/-
  Modes (layer 8): what is selected, by the document.
-/
import Derived.Test.YtbieiehfohldjaamC08
namespace Go.Proofs.Ytbieiehfohldjaa
open Go
set_option linter.unusedVariables false
set_option linter.unusedSimpArgs false
set_option maxRecDepth 100000
set_option maxHeartbeats 2000000

theorem mSel_nil {b : BS} {ten c : Bool} (h0 : b.length = 0) : mSel b ten c = (c, sOk) := by unfold mSel; rw [if_pos h0]
theorem mSel_s1 {b : BS} {ten c : Bool} (h0 : b.length ≠ 0) (h : b.length < hSz ten) : mSel b ten c = (false, sShort) := by
  unfold mSel mHead; rw [if_neg h0, if_pos h]; rfl
theorem h0_of {b : BS} {ten : Bool} (h : ¬ b.length < hSz ten) : b.length ≠ 0 := by
  cases ten
  · rw [show hSz false = 4 from rfl] at h; omega
  · rw [show hSz true = 8 from rfl] at h; omega
theorem mSel_bad {b : BS} {ten c : Bool} (h : ¬ b.length < hSz ten) (h1 : hN b ten ≠ 0) (h2 : hN b ten ≠ 8) : mSel b ten c = (false, sBad) := by
  have e : mHead b ten = ([], sBad) := by unfold mHead; rw [if_neg h, if_pos ⟨h1, h2⟩]
  unfold mSel; rw [if_neg (h0_of h), e]; rfl
theorem mSel_s2 {b : BS} {ten c : Bool} (h : ¬ b.length < hSz ten) (h1 : hN b ten = 0 ∨ hN b ten = 8) (h2 : b.length < hSz ten + hN b ten) : mSel b ten c = (false, sShort) := by
  have e : mHead b ten = ([], sShort) := by unfold mHead; rw [if_neg h, if_neg (by omega), if_pos h2]
  unfold mSel; rw [if_neg (h0_of h), e]; rfl
theorem mSel_go {b : BS} {ten c : Bool} (h1 : hN b ten = 0 ∨ hN b ten = 8) (h2 : ¬ b.length < hSz ten + hN b ten) : mSel b ten c = sel (b.drop (hSz ten + hN b ten)) c := by
  have h : ¬ b.length < hSz ten := by omega
  have e : mHead b ten = (b.drop (hSz ten + hN b ten), sOk) := by unfold mHead; rw [if_neg h, if_neg (by omega), if_neg h2]
  unfold mSel; rw [if_neg (h0_of h), e]; rfl
/-- are these bytes zero? -/
def zf (b : BS) (a k : Nat) : Bool := ((b.drop (a + 3)).take (k - 3)).all (· == 0)
theorem zf_next {b : BS} {a k : Nat} (h3 : 3 ≤ k) (h : a + k < b.length) : zf b a (k + 1) = (zf b a k && (b[a + k]?.getD 0 == 0)) := by
  unfold zf
  rw [show k + 1 - 3 = (k - 3) + 1 by omega, take_getD 0 (by simp; omega), List.all_append]
  simp only [List.getElem?_drop, List.all_cons, List.all_nil, Bool.and_true]
  rw [show a + 3 + (k - 3) = a + k by omega]
theorem take3 {l : BS} {m : Nat} (h : 3 + m ≤ l.length) : l.take (3 + m) = l[0]?.getD 0 :: l[1]?.getD 0 :: l[2]?.getD 0 :: (l.drop 3).take m := by
  rcases l with _ | ⟨a, _ | ⟨b, _ | ⟨c, l⟩⟩⟩
  · simp at h
  · simp at h; omega
  · simp at h; omega
  · rw [show 3 + m = m + 1 + 1 + 1 by omega]; rfl
theorem allz {l : BS} {m : Nat} (hl : l.length = m) (h : l.all (· == 0) = true) : l = List.replicate m 0 := by
  rw [List.eq_replicate_iff]
  exact ⟨hl, fun x hx => by simpa using List.all_eq_true.1 h x hx⟩
theorem pg1 {l : BS} {x : UInt8} (h : ¬ sNo l) (h0 : l[0]?.getD 0 = 8) (h1 : l[1]?.getD 0 = 18) (h2 : l[2]?.getD 0 = x) (hz : ((l.drop 3).take 17).all (· == 0) = true) : sPg l = mOne x := by
  unfold sNo at h
  rw [h1, show UInt8.toNat 18 = 18 from rfl] at h
  unfold sPg
  rw [h1, show 2 + UInt8.toNat 18 = 3 + 17 from rfl, take3 (by omega), h0, h1, h2, allz (m := 17) (by simp; omega) hz]
  rfl
theorem pg2 {l : BS} (h : ¬ sNo l) (h0 : l[0]?.getD 0 = 28) (h1 : l[1]?.getD 0 = 10) (h2 : l[2]?.getD 0 = 0) (hz : ((l.drop 3).take 9).all (· == 0) = true) : sPg l = mTwo := by
  unfold sNo at h
  rw [h1, show UInt8.toNat 10 = 10 from rfl] at h
  unfold sPg
  rw [h1, show 2 + UInt8.toNat 10 = 3 + 9 from rfl, take3 (by omega), h0, h1, h2, allz (m := 9) (by simp; omega) hz]
  rfl
theorem pg1_inv {l : BS} {x : UInt8} (h : ¬ sNo l) (e : sPg l = mOne x) : l[0]?.getD 0 = 8 ∧ l[1]?.getD 0 = 18 ∧ l[2]?.getD 0 = x ∧ ((l.drop 3).take 17).all (· == 0) = true := by
  unfold sNo at h
  unfold sPg at e
  have hl := congrArg List.length e
  rw [List.length_take, show (mOne x).length = 20 from rfl] at hl
  have h20 : 2 + (l[1]?.getD 0).toNat = 20 := by omega
  rw [h20] at e
  rw [← List.take_append_drop 20 l, e]
  exact ⟨rfl, rfl, rfl, rfl⟩
theorem pg2_inv {l : BS} (h : ¬ sNo l) (e : sPg l = mTwo) : l[0]?.getD 0 = 28 ∧ l[1]?.getD 0 = 10 ∧ l[2]?.getD 0 = 0 ∧ ((l.drop 3).take 9).all (· == 0) = true := by
  unfold sNo at h
  unfold sPg at e
  have hl := congrArg List.length e
  rw [List.length_take, show mTwo.length = 12 from rfl] at hl
  have h20 : 2 + (l[1]?.getD 0).toNat = 12 := by omega
  rw [h20] at e
  rw [← List.take_append_drop 12 l, e]
  exact ⟨rfl, rfl, rfl, rfl⟩
theorem hNf (b : BS) : hN b false = (b[3]?.getD 0).toNat := rfl
theorem hNt (b : BS) : hN b true = (b[6]?.getD 0).toNat * 256 + (b[7]?.getD 0).toNat := rfl
theorem hSf : hSz false = 4 := rfl
theorem hSt : hSz true = 8 := rfl
theorem wrapB (x : UInt8) : IntKind.i64.wrap (x.toNat : Int) = x.toNat := by
  have := UInt8.toNat_lt x
  exact wrap64 (by omega) (by omega)
theorem toN1 (k : Nat) : ((k : Int) + 1).toNat = k + 1 := by omega
theorem toN2 (k : Nat) : ((k : Int) + 2).toNat = k + 2 := by omega
theorem toNN (k j : Nat) : ((k : Int) + (j : Int)).toNat = k + j := by omega
theorem sl3 : (4 - 1 : Int).toNat = 3 := rfl
theorem sl7 : (8 - 1 : Int).toNat = 7 := rfl
theorem sl6 : (8 - 2 : Int).toNat = 6 := rfl
theorem u8i {x y : UInt8} (h : (x.toNat : Int) = (y.toNat : Int)) : x = y := UInt8.toNat_inj.1 (Int.ofNat.inj h)
abbrev at0 (b : BS) (k : Nat) : Int := ((b[k]?.getD 0).toNat : Int)
section
variable {b : BS} {k j : Nat} {d : Bool}
theorem zf_all (j1 : 3 ≤ j) (j2 : j ≤ max 3 (2 + (b[k + 1]?.getD 0).toNat)) (j3 : ¬ (j : Int) < 2 + at0 b (k + 1)) : zf b k j = ((((b.drop k).drop 3).take ((b[k + 1]?.getD 0).toNat - 1)).all (· == 0)) := by
  unfold at0 at j3
  unfold zf
  rw [List.drop_drop, show j - 3 = (b[k + 1]?.getD 0).toNat - 1 by omega]
theorem u8z (x : UInt8) : ((x.toNat : Int) == 0) = (x == 0) := by
  rw [Bool.eq_iff_iff, beq_iff_eq, beq_iff_eq]
  exact ⟨fun h => u8i (y := 0) h, fun h => by rw [h]; rfl⟩
theorem nth0 (b : BS) (k : Nat) : (b.drop k)[0]?.getD 0 = b[k]?.getD 0 := by simp
theorem nthN (b : BS) (k i : Nat) : (b.drop k)[i]?.getD 0 = b[k + i]?.getD 0 := by simp
theorem pgA {x : UInt8} (hs : ¬ sNo (b.drop k)) (j1 : 3 ≤ j) (j2 : j ≤ max 3 (2 + (b[k + 1]?.getD 0).toNat)) (j3 : ¬ (j : Int) < 2 + at0 b (k + 1)) (h0 : at0 b k = 8) (h1 : at0 b (k + 1) = 18) (h2 : at0 b (k + 2) = (x.toNat : Int)) (hz : zf b k j = true) : sPg (b.drop k) = mOne x := by
  rw [zf_all j1 j2 j3] at hz
  have e0 : b[k]?.getD 0 = 8 := u8i h0
  have e1 : b[k + 1]?.getD 0 = 18 := u8i h1
  have e2 : b[k + 2]?.getD 0 = x := u8i h2
  rw [e1] at hz
  exact pg1 hs (by rw [nth0, e0]) (by rw [nthN, e1]) (by rw [nthN, e2]) hz
theorem pgB (hs : ¬ sNo (b.drop k)) (j1 : 3 ≤ j) (j2 : j ≤ max 3 (2 + (b[k + 1]?.getD 0).toNat)) (j3 : ¬ (j : Int) < 2 + at0 b (k + 1)) (h0 : at0 b k = 28) (h1 : at0 b (k + 1) = 10) (h2 : at0 b (k + 2) = 0) (hz : zf b k j = true) : sPg (b.drop k) = mTwo := by
  rw [zf_all j1 j2 j3] at hz
  have e0 : b[k]?.getD 0 = 28 := u8i h0
  have e1 : b[k + 1]?.getD 0 = 10 := u8i h1
  have e2 : b[k + 2]?.getD 0 = 0 := u8i h2
  rw [e1] at hz
  exact pg2 hs (by rw [nth0, e0]) (by rw [nthN, e1]) (by rw [nthN, e2]) hz
theorem pgA_inv {x : UInt8} (hs : ¬ sNo (b.drop k)) (j1 : 3 ≤ j) (j2 : j ≤ max 3 (2 + (b[k + 1]?.getD 0).toNat)) (j3 : ¬ (j : Int) < 2 + at0 b (k + 1)) (e : sPg (b.drop k) = mOne x) : at0 b k = 8 ∧ at0 b (k + 1) = 18 ∧ at0 b (k + 2) = (x.toNat : Int) ∧ zf b k j = true := by
  obtain ⟨a0, a1, a2, a3⟩ := pg1_inv hs e
  rw [nth0] at a0
  rw [nthN] at a1 a2
  refine ⟨by unfold at0; rw [a0]; rfl, by unfold at0; rw [a1]; rfl, by unfold at0; rw [a2], ?_⟩
  rw [zf_all j1 j2 j3, a1]
  exact a3
theorem pgB_inv (hs : ¬ sNo (b.drop k)) (j1 : 3 ≤ j) (j2 : j ≤ max 3 (2 + (b[k + 1]?.getD 0).toNat)) (j3 : ¬ (j : Int) < 2 + at0 b (k + 1)) (e : sPg (b.drop k) = mTwo) : at0 b k = 28 ∧ at0 b (k + 1) = 10 ∧ at0 b (k + 2) = 0 ∧ zf b k j = true := by
  obtain ⟨a0, a1, a2, a3⟩ := pg2_inv hs e
  rw [nth0] at a0
  rw [nthN] at a1 a2
  refine ⟨by unfold at0; rw [a0]; rfl, by unfold at0; rw [a1]; rfl, by unfold at0; rw [a2]; rfl, ?_⟩
  rw [zf_all j1 j2 j3, a1]
  exact a3
theorem sNo_not (h1 : ¬ (k : Int) + 1 ≥ (b.length : Int)) (h2 : ¬ (k : Int) + 2 + at0 b (k + 1) > (b.length : Int)) : ¬ sNo (b.drop k) := by
  unfold sNo at0 at *
  rw [nthN, List.length_drop]
  omega
theorem leaf_bad {z : Bool × Sns} (hz : z = sel (b.drop k) d) (hs : ¬ sNo (b.drop k)) (j1 : 3 ≤ j) (j2 : j ≤ max 3 (2 + (b[k + 1]?.getD 0).toNat)) (j3 : ¬ (j : Int) < 2 + at0 b (k + 1)) (hk : (k : Int) < b.length)
    (n1 : ¬ (at0 b k = 8 ∧ at0 b (k + 1) = 18 ∧ (at0 b (k + 2) = 0 ∨ at0 b (k + 2) = 4) ∧ zf b k j = true)) (n2 : ¬ (at0 b k = 28 ∧ at0 b (k + 1) = 10 ∧ at0 b (k + 2) = 0 ∧ zf b k j = true)) : z = (false, sBad) := by
  rw [hz, sel_step d (by simp; omega), if_neg hs, if_neg, if_neg, if_neg]
  · intro e; exact n2 (pgB_inv hs j1 j2 j3 e)
  · intro e; obtain ⟨a, b, c, e⟩ := pgA_inv hs j1 j2 j3 e; exact n1 ⟨a, b, .inl c, e⟩
  · intro e; obtain ⟨a, b, c, e⟩ := pgA_inv hs j1 j2 j3 e; exact n1 ⟨a, b, .inr c, e⟩
theorem leaf_on {z : Bool × Sns} (hz : z = sel (b.drop k) d) (hs : ¬ sNo (b.drop k)) (hk : (k : Int) < b.length) (hp : sPg (b.drop k) = mOne 4 ∨ sPg (b.drop k) = mOne 0 ∨ sPg (b.drop k) = mTwo) : z = sel (b.drop (k + (2 + (b[k + 1]?.getD 0).toNat))) (nextC (b.drop k) d) := by
  rw [hz, sel_on (by simp; omega) hs hp]
  unfold sRest
  rw [nthN, List.drop_drop]
theorem one_ne {x y : UInt8} (h : mOne x = mOne y) : x = y := by
  simp only [mOne, List.cons.injEq] at h
  exact h.2.2.1
theorem next4 (hp : sPg (b.drop k) = mOne 4) : nextC (b.drop k) d = true := by unfold nextC; rw [if_pos hp]
theorem next0 (hp : sPg (b.drop k) = mOne 0) : nextC (b.drop k) d = false := by
  unfold nextC
  rw [if_neg (by rw [hp]; intro h; exact absurd (one_ne h) (by decide)), if_pos hp]
theorem next2 (hp : sPg (b.drop k) = mTwo) : nextC (b.drop k) d = d := by
  unfold nextC
  rw [if_neg (by rw [hp]; simp [mOne, mTwo]), if_neg (by rw [hp]; simp [mOne, mTwo])]
end
structure RS where
  k : Nat
  c : Bool
end Go.Proofs.Ytbieiehfohldjaa
