/-
  Bytes as plain lists; small laws of rows and numbers.
-/
import Derived.Test.YtgaginflocpcfaaAbsV
namespace Go.Proofs.Ytgaginflocpcfaa
open Go
set_option linter.unusedVariables false
set_option linter.unusedSimpArgs false
set_option maxRecDepth 100000

abbrev BS := List UInt8
abbrev bsV (b : BS) : V := .sl 1 (byteRows b)
theorem rowsPlain_def {N : List (List V)} : rowsPlain N = ∀ r ∈ N, r.all kfc = true := rfl
theorem rp_nil : rowsPlain [] = True := by simp [rowsPlain]
theorem rp_app (l k : List (List V)) : rowsPlain (l ++ k) = (rowsPlain l ∧ rowsPlain k) := by
  simp only [rowsPlain, List.mem_append, eq_iff_iff]
  exact ⟨fun h => ⟨fun r hr => h r (.inl hr), fun r hr => h r (.inr hr)⟩, fun h r hr => hr.elim (h.1 r) (h.2 r)⟩
theorem bool_close {p q : Bool} (h : p = true ↔ q = true) : V.lit (Value.bool p) = bV q := by rw [Bool.eq_iff_iff.2 h]
theorem wrap8 {n : Int} (h0 : 0 ≤ n) (h1 : n ≤ 255) : IntKind.u8.wrap n = n := by
  have e : n % (2 ^ 8 : Int) = n := Int.emod_eq_of_lt h0 (by omega)
  simp only [IntKind.wrap, IntKind.bits, IntKind.signed, e]
  rfl
theorem one_int (k : IntKind) (n : Int) : (Value.int k n).oneCell' = true := rfl
theorem one_bool (b : Bool) : (Value.bool b).oneCell' = true := rfl
theorem one_str (b : ByteArray) : (Value.string b).oneCell' = true := rfl
theorem rp_cons (r : List V) (l : List (List V)) : rowsPlain (r :: l) = (r.all kfc = true ∧ rowsPlain l) := by simp [rowsPlain]
theorem or_cons (r : List V) (l : List (List V)) : oneRows (r :: l) = (r.all V.one = true ∧ oneRows l) := by simp [oneRows]
theorem rp_map {α : Type} {f : α → List V} (hf : ∀ x, (f x).all kfc = true) (l : List α) : rowsPlain (l.map f) = True := by
  simp only [rowsPlain, List.mem_map, eq_iff_iff, iff_true]
  rintro r ⟨x, _, rfl⟩
  exact hf x
theorem rp_b (l : BS) : rowsPlain (byteRows l) = True := rp_map (fun x => rfl) l
theorem rp_all {N : List (List V)} (h : (N.all fun r => r.all kfc) = true) : rowsPlain N := by simpa [rowsPlain, List.all_eq_true] using h
theorem or_all {N : List (List V)} (h : (N.all fun r => r.all V.one) = true) : oneRows N := by simpa [oneRows, List.all_eq_true] using h
theorem or_nil : oneRows [] = True := by simp [oneRows]
theorem or_app (l k : List (List V)) : oneRows (l ++ k) = (oneRows l ∧ oneRows k) := by
  simp only [oneRows, List.mem_append, eq_iff_iff]
  exact ⟨fun h => ⟨fun r hr => h r (.inl hr), fun r hr => h r (.inr hr)⟩, fun h r hr => hr.elim (h.1 r) (h.2 r)⟩
theorem or_map {α : Type} {f : α → List V} (hf : ∀ x, (f x).all V.one = true) (l : List α) : oneRows (l.map f) = True := by
  simp only [oneRows, List.mem_map, eq_iff_iff, iff_true]
  rintro r ⟨x, _, rfl⟩
  exact hf x
theorem or_b (l : BS) : oneRows (byteRows l) = True := or_map (fun x => rfl) l
theorem rn_plain {p : Nat → Prop} {N : List (List V)} (h : rowsPlain N) : RowsNm p N := RowsNm.plain h
/-- texts of bytes, in a row -/
def blsRows (l : List BS) : List (List V) := l.map fun x => [bsV x]
theorem rp_bls (l : List BS) : rowsPlain (blsRows l) = True := rp_map (fun x => rfl) l
theorem or_bls (l : List BS) : oneRows (blsRows l) = True := or_map (fun x => rfl) l
theorem len_bls (l : List BS) : (blsRows l).length = l.length := by simp [blsRows]
theorem snoc_bls (l : List BS) (x : BS) : blsRows l ++ [[V.sl 1 (byteRows x)]] = blsRows (l ++ [x]) := by simp [blsRows]
theorem nil_bls : blsRows [] = [] := rfl
theorem bls_get {l : List BS} {j : Nat} (h : Side (j < l.length)) : (blsRows l)[j]? = some [bsV (l[j]?.getD [])] := by
  have h := h.h
  simp only [blsRows, List.getElem?_map, List.getElem?_eq_getElem h]
  rfl
theorem len_b (l : BS) : (byteRows l).length = l.length := by simp [byteRows]
theorem nil_b : byteRows [] = [] := rfl
theorem sl1_nil : V.sl 1 [] = V.sl 1 (byteRows []) := rfl
theorem take_b (n : Nat) (l : BS) : List.take n (byteRows l) = byteRows (List.take n l) := by simp [byteRows, List.map_take]
theorem drop_b (n : Nat) (l : BS) : List.drop n (byteRows l) = byteRows (List.drop n l) := by simp [byteRows, List.map_drop]
theorem app_b (l k : BS) : byteRows l ++ byteRows k = byteRows (l ++ k) := by simp [byteRows]
theorem rep_b (n : Nat) : List.replicate n [V.lit (Value.int .u8 0)] = byteRows (List.replicate n 0) := by simp [byteRows, u8V]
theorem inj_b {l k : BS} : byteRows l = byteRows k ↔ l = k := by
  refine ⟨fun h => ?_, fun h => by rw [h]⟩
  have := congrArg bytesOf h
  have e : ∀ l : BS, bytesOf (byteRows l) = l := fun l => by
    simp only [bytesOf, byteRows, List.map_map]
    rw [show byteOf ∘ (fun b => [u8V b]) = id from ?_]
    · simp
    · funext b
      simp [byteOf, u8V]
  rwa [e, e] at this
theorem get_b (l : BS) (i : Nat) : (byteRows l)[i]? = (l[i]?).map fun c => [u8V c] := by simp [byteRows]
theorem eq_str (l k : BS) : (l.toArray.toList == k.toArray.toList) = (l == k) := rfl
theorem tmod64 (n : Nat) : ((n : Int).tmod 64 == 0) = decide (n % 64 = 0) := by
  rw [Int.tmod_eq_emod_of_nonneg (Int.natCast_nonneg n), Bool.eq_iff_iff]
  simp only [beq_iff_eq, decide_eq_true_eq]
  omega

theorem map_get {α : Type} {f : α → List V} {l : List α} {j : Nat} (d : α) (h : Side (j < l.length)) : (l.map f)[j]? = some (f (l[j]?.getD d)) := by
  have h := h.h
  rw [List.getElem?_map, List.getElem?_eq_getElem h]
  rfl
theorem take_getD {α : Type} {l : List α} {j : Nat} (d : α) (h : j < l.length) : l.take (j + 1) = l.take j ++ [l[j]?.getD d] := by
  rw [List.getElem?_eq_getElem h, List.take_succ_eq_append_getElem h]
  rfl
theorem bytes_get {l : BS} {j : Nat} (h : Side (j < l.length)) : (byteRows l)[j]? = some [u8V (l[j]?.getD 0)] := map_get 0 h
theorem fnC_args {P : Program} {k : FuncId} {args args' : List V} {F F' : HL} {r : V} (h : FnC P k args' F r F') (e : args = args') : FnC P k args F r F' := e ▸ h
end Go.Proofs.Ytgaginflocpcfaa
