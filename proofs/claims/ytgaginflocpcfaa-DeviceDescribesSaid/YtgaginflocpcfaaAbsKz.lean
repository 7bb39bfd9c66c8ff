/-
  The value-level machine: what is grown out of nil: cap, a part of nil, as many zeros behind nil.
-/
import Derived.Test.YtgaginflocpcfaaAbsK
namespace Go.Proofs.Ytgaginflocpcfaa
open Go
set_option linter.unusedVariables false
set_option linter.unusedSimpArgs false

section
variable {P : Program} {T : TT} {ov : Operand → V} {o : Oper}

theorem lok_capNil (hT : TOk P T) {t e : Nat} {x : Operand} {i : TI} (ho : o.op = .call { callee := .builtin .cap, args := #[x], argTypes := #[t] }) (ht : T t = some i) (hd : i.d = .slice e) (hx : ov x = .lit (.slice none 0 0)) :
    LOk P ov o [] [] [] (.lit (.int .i64 0)) :=
  LOk.pure fun S ρ w a hr => by
    have hr := arg_reps ho hr
    have e1 := hr x (by simp)
    have hu := (hT t i ht).d
    rw [hd] at hu
    rw [hx] at e1
    have e1 := e1.lit_inv
    refine ⟨_, .lit rfl, ?_⟩
    simp [execOp, ho, resolve, invoke, builtin, e1, Builtin.cap_, run_underlying hu, goInt]

/-- a part of nil is nil -/
theorem lok_sliceNil (hT : TOk P T) {t e : Nat} {x : Operand} {lo hi : Option Operand} {i ie : TI} {l h : Nat} (ho : o.op = .slice t x lo hi none) (ht : T t = some i) (hd : i.d = .slice e) (he : T e = some ie) (hx : ov x = .lit (.slice none 0 0))
    (hl : bndV ov 0 lo = some l) (hh : bndV ov 0 hi = some h) (h1 : l ≤ h) (h2 : h ≤ 0) : LOk P ov o [] [] [] (.lit (.slice none 0 0)) :=
  LOk.pure fun S ρ w a hr => by
    rw [ho] at hr
    have e1 := hr x (by simp [Op.operands])
    rw [hx] at e1
    have hc := e1.lit_inv
    have hu := (hT t i ht).d
    rw [hd] at hu
    have hs := (hT e ie he).run_sizeOf w
    obtain rfl : h = 0 := by omega
    obtain rfl : l = 0 := by omega
    have hb := run_bounds (P := P) (isS := true) (len := 0) (cap := 0) (mx := none) (a := a) (S := S) (ρ := ρ) (w := w) (fun y hy => hr y (by simp [Op.operands, hy])) (fun y hy => hr y (by simp [Op.operands, hy])) (fun y hy => by cases hy)
      hl hh (m := 0) rfl h1 (by omega) (Nat.le_refl _) (by simp)
    simp only [Option.map_none] at hb
    refine ⟨.slice none 0 0, .lit rfl, ?_⟩
    simp [execOp, ho, hc, Instr.sliceAt, Instr.slice, run_underlying hu, hs, hb]

/-- as many zeros behind nil: a row of one's own, of which nothing is told but how many it has -/
theorem lok_appendZ (hT : TOk P T) {t e t2 : Nat} {x y : Operand} {i ie i2 : TI} {κ : Nat} {n : Int} (ho : o.op = .call { callee := .builtin .append, args := #[x, y], argTypes := #[t, t2] }) (ht : T t = some i) (hd : i.d = .slice e) (he : T e = some ie) (hb : ie.bytes ≠ 0)
    (ht2 : T t2 = some i2) (hi2 : i2.d = .int .i64) (hx : ov x = .lit (.slice none 0 0)) (hy : ov y = .lit (.int .i64 n)) (h0 : 0 < n) (hg : n * ie.bytes ≤ 2 ^ 48) : LOk P ov o [] [] [(κ, ⟨ie.size, [], false⟩)] (.win κ ie.size 0 n.toNat n.toNat) :=
  LOk.new rfl fun S ρ w a hr hs => by
    have hr := arg_reps ho hr
    have e1 := hr x (by simp)
    have e2 := hr y (by simp)
    rw [hx] at e1; rw [hy] at e2
    have e1 := e1.lit_inv
    have e2 := e2.lit_inv
    have hu := (hT t i ht).d
    rw [hd] at hu
    have hu2 := (hT t2 i2 ht2).d
    rw [hi2] at hu2
    obtain ⟨m, rfl⟩ := Int.eq_ofNat_of_zero_le (Int.le_of_lt h0)
    have hb1 : 1 ≤ ie.bytes := by omega
    have hm48 : (m : Int) ≤ 2 ^ 48 := by
      have : m * 1 ≤ m * ie.bytes := Nat.mul_le_mul_left m hb1
      have h' : ((m * ie.bytes : Nat) : Int) ≤ 2 ^ 48 := by rw [Int.natCast_mul]; exact hg
      omega
    have wn := wrap_small (show (0 : Int) ≤ (m : Int) by omega) hm48
    obtain ⟨ti, hti, hbb, hsz⟩ := (hT e ie he).run_typeInfo w
    obtain ⟨ti', hti', hbb', hsz'⟩ := (hT e ie he).run_typeInfo w.drew
    obtain ⟨z, hz, hz'⟩ := (hT e ie he).run_zero w.drew
    have hszr := (hT e ie he).run_sizeOf w
    have hzs : z.cells.size = ie.size := by rw [← (hT e ie he).zlen, ← zAll_len _ _ hz']; simp
    have hq : ∀ q : Nat, (Question.appendCap m 0 e).cut q = m + q % (2 ^ 63 - m) := fun q => rfl
    have hpos := (hT e ie he).pos
    have c0 : ¬ ((m : Int) < 0) := by omega
    have c1 : ¬ ((m : Int) * (ie.bytes : Int) > 2 ^ 48) := by omega
    have c2 : ¬ (m ≤ 0) := by omega
    have c3 : ¬ (((m : Nat) : Int) > IntKind.i64.max) := by simp [IntKind.max, IntKind.signed, IntKind.bits]; omega
    have c4 : Builtin.nextslicecap m 0 = m := by unfold Builtin.nextslicecap; rw [if_pos (by omega)]
    have c5 : ¬ (m * ie.bytes > 2 ^ 48) := by
      have : ((m * ie.bytes : Nat) : Int) ≤ 2 ^ 48 := by rw [Int.natCast_mul]; exact hg
      omega
    have c6 : ¬ (m * ie.size = 0) := by
      intro h
      rcases Nat.mul_eq_zero.1 h with h | h
      · omega
      · exact hpos h
    generalize hcp : m + w.tape w.drawn (.appendCap m 0 e) % (2 ^ 63 - m) = c
    have hcm : m ≤ c := by omega
    refine ⟨w.drew.alloc (.cells (#[] ++ Builtin.zeroCells z.cells m ++ Builtin.zeroCells z.cells (c - m)) e), _, e, .slice (some ⟨w.heap.size, 0, none⟩) m c, ?_, rfl, rfl, rfl, rfl, ⟨fun r h => by simp at h, by simp, fun i j r u x h => by simp at h⟩, fun ρ' h => ?_⟩
    · simp only [execOp, ho, resolve, invoke, builtin, List.map_toArray, List.map_cons, List.map_nil, e1, e2, Builtin.append_, List.getElem?_toArray, List.getElem?_cons_zero, List.getElem?_cons_succ, Sem.run_bind, run_underlying hu, run_underlying hu2, Result.andThen_ok, hszr, Sem.run_pure, if_true, asInt, asIntOf, wn, c0, if_false, hti, hbb, c1, Int.toNat_natCast, Nat.zero_add, c2, c3, false_and, c4, c5, run_choose, Question.forced, hq, World.drew_eq, hcp, run_askRoom, hti', hbb', Builtin.firstCells, c6, hz, newRow, run_newObj, World.alloc_eq, hsz, hsz', Bool.not_true, Bool.false_eq_true]
      rfl
    · rw [Int.toNat_natCast]
      refine .win h (show (w.drew.alloc _).heap[w.heap.size]? = _ from push_new rfl) (Nat.le_refl _) hcm ?_ (.inl (by simp))
      have hs2 : c * ie.size = m * ie.size + (c - m) * ie.size := by rw [← Nat.add_mul]; congr 1; omega
      simp only [Array.size_append, Builtin.zeroCells, Array.size_map, Array.size_range, hzs, Nat.zero_add]
      rw [hs2]
      simp
end
end Go.Proofs.Ytgaginflocpcfaa
