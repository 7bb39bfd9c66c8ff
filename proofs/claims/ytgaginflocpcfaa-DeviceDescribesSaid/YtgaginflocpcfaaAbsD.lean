/-
  The value-level machine: the rules of the operations.
-/
import Derived.Test.YtgaginflocpcfaaAbsC
import Derived.Laws.Small
import Derived.Laws.Cover3
import Derived.Laws.StructEq
namespace Go.Proofs.Ytgaginflocpcfaa
open Go
set_option linter.unusedVariables false
set_option linter.unusedSimpArgs false

abbrev TT := Nat → Option TI
def TOk (P : Program) (T : TT) : Prop := ∀ t i, T t = some i → TIOk P t i

/-- a constant of the code -/
def V.of : Value → V
  | .agg vs => .agg (vs.toList.map .lit)
  | .tuple vs => .tup (vs.toList.map .lit)
  | v => .lit v
def constOk : Value → Bool
  | .agg vs => vs.toList.all Value.oneCell'
  | .tuple vs => vs.toList.all Value.oneCell'
  | _ => true
theorem rep_const {S : Nat → Prop} {ρ : KM} {w : World} {v : Value} (h : constOk v = true) : Rep S ρ w v (V.of v) := by
  cases v with
  | agg vs =>
    simp only [constOk, List.all_eq_true] at h
    refine .agg (by simp) fun i u x h1 h2 => ?_
    simp only [List.getElem?_map, Array.getElem?_toList, h1, Option.map_some, Option.some.injEq] at h2
    subst h2
    exact .lit (h u (by simpa using Array.mem_of_getElem? h1))
  | tuple vs =>
    simp only [constOk, List.all_eq_true] at h
    refine .tup (by simp) fun i u x h1 h2 => ?_
    simp only [List.getElem?_map, Array.getElem?_toList, h1, Option.map_some, Option.some.injEq] at h2
    subst h2
    exact .lit (h u (by simpa using Array.mem_of_getElem? h1))
  | _ => exact .lit rfl

section
variable {P : Program} {T : TT} {ov : Operand → V} {o : Oper}

theorem lok_move {x : Operand} (ho : o.op = .move x ∨ o.op = .assign x) : LOk P ov o [] [] [] (ov x) :=
  LOk.pure fun S ρ w a hx => by
    rcases ho with ho | ho <;> rw [ho] at hx <;> exact ⟨_, hx x (by simp [Op.operands]), by simp [execOp, ho]⟩

theorem lok_pick {c x y : Operand} {t : Bool} (ho : o.op = .pick c x y) (hc : ov c = .lit (.bool t)) : LOk P ov o [] [] [] (bif t then ov x else ov y) :=
  LOk.pure fun S ρ w a hx => by
    rw [ho] at hx
    have h0 := hx c (by simp [Op.operands])
    rw [hc] at h0
    have e := h0.lit_inv
    cases t with
    | true => exact ⟨_, hx x (by simp [Op.operands]), by simp [execOp, ho, e, asBool]⟩
    | false => exact ⟨_, hx y (by simp [Op.operands]), by simp [execOp, ho, e, asBool]⟩

/-- operators on plain values -/
def binI (op : BinOp) (k : IntKind) (a b : Int) : Option Value :=
  match op with
  | .add => some (.int k (k.wrap (a + b)))
  | .sub => some (.int k (k.wrap (a - b)))
  | .mul => some (.int k (k.wrap (a * b)))
  | .quo => if b = 0 then none else some (.int k (k.wrap (a.tdiv b)))
  | .rem => if b = 0 then none else some (.int k (a.tmod b))
  | .and | .or | .xor | .andNot => some (.int k (bits op k a b))
  | .eql => some (.bool (a == b))
  | .neq => some (.bool (a != b))
  | .lss => some (.bool (decide (a < b)))
  | .leq => some (.bool (decide (a ≤ b)))
  | .gtr => some (.bool (decide (a > b)))
  | .geq => some (.bool (decide (a ≥ b)))
  | _ => none
def shiftI (op : BinOp) (k : IntKind) (a b : Int) : Option Value :=
  if b < 0 then none else
  match op with
  | .shl => some (.int k (k.wrap (a * 2 ^ min b.toNat k.bits)))
  | .shr => some (.int k (a.fdiv (2 ^ min b.toNat k.bits)))
  | _ => none
def binS (op : BinOp) (a b : ByteArray) : Option Value :=
  match op with
  | .eql => some (.bool (a.data.toList == b.data.toList))
  | .neq => some (.bool (!(a.data.toList == b.data.toList)))
  | .add => if ((a.size + b.size : Nat) : Int) > IntKind.i64.max then none else some (.string (a ++ b))
  | _ => none
def TD.isBool : TD → Bool
  | .bool => true
  | _ => false
def TD.isSlice : TD → Bool
  | .slice _ => true
  | _ => false
def binB (d : Option TI) (op : BinOp) (x y : Bool) : Option Value :=
  match op with
  | .eql => if d.any (·.d.isBool) then some (.bool (x == y)) else none
  | .neq => if d.any (·.d.isBool) then some (.bool (!(x == y))) else none
  | _ => none
def binN (d : Option TI) (op : BinOp) : Option Value :=
  match op with
  | .eql => if d.any (·.d.isSlice) then some (.bool true) else none
  | .neq => if d.any (·.d.isSlice) then some (.bool false) else none
  | _ => none
def binK (op : BinOp) (k k' : IntKind) (x y : Int) : Option Value :=
  match op with
  | .shl => shiftI .shl k x y
  | .shr => shiftI .shr k x y
  | op => if k = k' then binI op k x y else none
def binV (d : Option TI) (op : BinOp) (a b : Value) : Option Value :=
  match a, b with
  | .int k x, .int k' y => binK op k k' x y
  | .string x, .string y => binS op x y
  | .bool x, .bool y => binB d op x y
  | .slice none _ _, .slice none _ _ => binN d op
  | _, _ => none

theorem binI_run {op : BinOp} {k : IntKind} {a b : Int} {r : Value} {t : TypeId} {w : World} (h : binI op k a b = some r) : (binOp op t (.int k a) (.int k b)).run P w = .ok r w ∧ r.oneCell' = true := by
  cases op <;> simp only [binI, Option.some.injEq, reduceCtorEq] at h <;>
    first
      | (subst h; exact ⟨by simp [binOp, Op.intArith, Op.intCmp, intBits_and, intBits_or, intBits_xor, intBits_andNot], rfl⟩)
      | (split at h
         · cases h
         · rename_i hb; cases h; exact ⟨by simp [binOp, Op.intDiv, hb], rfl⟩)
theorem shiftI_run {op : BinOp} {k yk : IntKind} {a b : Int} {r : Value} {w : World} (h : shiftI op k a b = some r) : (Op.shift op k a yk b).run P w = .ok r w ∧ r.oneCell' = true := by
  unfold shiftI at h
  split at h
  · cases h
  · rename_i hb
    cases op <;> simp only [Option.some.injEq, reduceCtorEq] at h <;> (subst h; exact ⟨by simp [Op.shift, hb], rfl⟩)
theorem binS_run {op : BinOp} {a b : ByteArray} {r : Value} {w : World} (h : binS op a b = some r) : (Op.stringOp op a b).run P w = .ok r w ∧ r.oneCell' = true := by
  cases op <;> simp only [binS, Option.some.injEq, reduceCtorEq] at h <;>
    first
      | (subst h; exact ⟨by simp [Op.stringOp, ByteArray.toList_eq], rfl⟩)
      | (split at h
         · cases h
         · rename_i hb; cases h; exact ⟨by simp only [Op.stringOp]; rw [if_neg hb]; rfl, rfl⟩)

theorem equalIn_slice {t e : TypeId} {w : World} (a : Option Addr) (l c n m : Nat) (h : P.underlying t = some (.slice e)) : (Op.equal t (.slice a l c) (.slice none n m)).run P w = .ok a.isNone w := by
  have key : ∀ d, (Op.equalIn (d + 1) t (.slice a l c) (.slice none n m)).run P w = .ok a.isNone w := fun d => by
    cases a <;> simp [Op.equalIn, run_underlying h]
  exact key 9999
theorem binK_run {op : BinOp} {k k' : IntKind} {a b : Int} {r : Value} {t : TypeId} {w : World} (h : binK op k k' a b = some r) : (binOp op t (.int k a) (.int k' b)).run P w = .ok r w ∧ r.oneCell' = true := by
  cases op <;> simp only [binK] at h <;>
    first
      | exact shiftI_run (P := P) (yk := k') h
      | (split at h
         · rename_i e; subst e; exact binI_run (P := P) h
         · cases h)
theorem binS_run' {op : BinOp} {a b : ByteArray} {r : Value} {t : TypeId} {w : World} (h : binS op a b = some r) : (binOp op t (.string a) (.string b)).run P w = .ok r w ∧ r.oneCell' = true := by
  have := binS_run (P := P) (w := w) h
  refine ⟨?_, this.2⟩
  rw [← this.1]
  cases op <;> rfl
theorem binB_run (hT : TOk P T) {op : BinOp} {t : TypeId} {a b : Bool} {r : Value} {w : World} (h : binB (T t) op a b = some r) : (binOp op t (.bool a) (.bool b)).run P w = .ok r w ∧ r.oneCell' = true := by
  have key : (T t).any (·.d.isBool) = true → P.underlying t = some .bool := fun hd => by
    cases ht : T t with
    | none => simp [ht] at hd
    | some i =>
      simp only [ht, Option.any_some] at hd
      have hd' := (hT t i ht).d
      cases hi : i.d <;> simp [hi, TD.isBool] at hd
      rw [hi] at hd'
      exact hd'
  cases op <;> simp only [binB, reduceCtorEq] at h <;> split at h <;>
    first
      | (rename_i hd; cases h; exact ⟨run_eql_bool _ _ _ _ (key hd), rfl⟩)
      | (rename_i hd; cases h; exact ⟨run_neq_bool _ _ _ _ (key hd), rfl⟩)
      | cases h
theorem binN_run (hT : TOk P T) {op : BinOp} {t : TypeId} {a b c d : Nat} {r : Value} {w : World} (h : binN (T t) op = some r) : (binOp op t (.slice none a b) (.slice none c d)).run P w = .ok r w ∧ r.oneCell' = true := by
  have key : (T t).any (·.d.isSlice) = true → ∃ e, P.underlying t = some (.slice e) := fun hd => by
    cases ht : T t with
    | none => simp [ht] at hd
    | some i =>
      simp only [ht, Option.any_some] at hd
      have hd' := (hT t i ht).d
      cases hi : i.d <;> simp [hi, TD.isSlice] at hd
      rw [hi] at hd'
      exact ⟨_, hd'⟩
  cases op <;> simp only [binN, reduceCtorEq] at h <;> split at h <;>
    first
      | (rename_i hd; cases h; obtain ⟨e, he⟩ := key hd; exact ⟨by simp only [binOp, Sem.run_bind, equalIn_slice _ _ _ _ _ he, Result.andThen_ok, Option.isNone_none, Sem.run_pure, Bool.not_true], rfl⟩)
      | cases h
theorem binV_run (hT : TOk P T) {op : BinOp} {t : TypeId} {a b r : Value} {w : World} (h : binV (T t) op a b = some r) : (binOp op t a b).run P w = .ok r w ∧ r.oneCell' = true := by
  unfold binV at h
  split at h
  · exact binK_run h
  · exact binS_run' h
  · exact binB_run hT h
  · exact binN_run hT h
  · cases h

theorem eqGuard_run {op : BinOp} {t : TypeId} {x y : Operand} {a b : Value} {w : World} (h1 : a ≠ .nilIface) (h2 : ∀ vs, a ≠ .agg vs) : (eqGuard op t x y a b).run P w = .ok () w := by
  unfold eqGuard
  cases op <;> cases a <;> first | rfl | exact absurd rfl h1 | exact absurd rfl (h2 _)

theorem binV_left {d : Option TI} {op : BinOp} {a b r : Value} (h : binV d op a b = some r) : a ≠ .nilIface ∧ ∀ vs, a ≠ .agg vs := by
  unfold binV at h
  split at h <;> first | (cases h; done) | (exact ⟨(fun h => by cases h), (fun _ h => by cases h)⟩)

theorem lok_bin (hT : TOk P T) {op : BinOp} {t t' : TypeId} {x y : Operand} {a b r : Value} (ho : o.op = .binOp op t x y t') (hx : ov x = .lit a) (hy : ov y = .lit b) (h : binV (T t) op a b = some r) :
    LOk P ov o [] [] [] (.lit r) :=
  LOk.pure fun S ρ w c hr => by
    rw [ho] at hr
    have e1 := hr x (by simp [Op.operands])
    have e2 := hr y (by simp [Op.operands])
    rw [hx] at e1; rw [hy] at e2
    have e1 := e1.lit_inv
    have e2 := e2.lit_inv
    have hb := binV_run (P := P) hT (w := w) h
    exact ⟨r, .lit hb.2, by simp [execOp, ho, e1, e2, eqGuard_run (binV_left h).1 (binV_left h).2, hb.1]⟩

/-- is a slice nil? -/
theorem lok_nil (hT : TOk P T) {op : BinOp} {t t' : TypeId} {x y : Operand} {b : Bool} {i : TI} (ho : o.op = .binOp op t x y t') (hy : ov y = .lit (.slice none 0 0)) (ht : T t = some i) (hi : i.d.isSlice = true)
    (hx : ∃ sz l ex, ov x = .sls sz l true ex) (hop : (op = .eql ∧ b = false) ∨ (op = .neq ∧ b = true)) : LOk P ov o [] [] [] (.lit (.bool b)) :=
  LOk.pure fun S ρ w c hr => by
    rw [ho] at hr
    have e1 := hr x (by simp [Op.operands])
    have e2 := hr y (by simp [Op.operands])
    rw [hy] at e2
    have e2 := e2.lit_inv
    have hd' := (hT t i ht).d
    cases hi' : i.d <;> simp [hi', TD.isSlice] at hi
    rw [hi'] at hd'
    have hs : ∃ ad l cp, c.eval x = .slice (some ad) l cp := by
      obtain ⟨sz, l, ex, hx⟩ := hx
      rw [hx] at e1
      generalize c.eval x = cx at e1
      cases e1
      rename_i ad' n' cap' h0 hn he
      obtain ⟨ad'', rfl⟩ := Option.isSome_iff_exists.1 (hn rfl)
      exact ⟨_, _, _, rfl⟩
    obtain ⟨ad, l, cp, hs⟩ := hs
    refine ⟨.bool b, .lit rfl, ?_⟩
    rcases hop with ⟨rfl, rfl⟩ | ⟨rfl, rfl⟩ <;>
      simp only [execOp, ho, hs, e2, Sem.run_bind, eqGuard_at_slice, Sem.run_pure, Result.andThen_ok, binOp, equalIn_slice _ _ _ _ _ hd', Option.isNone_some, Bool.not_false]

def unV (op : UnOp) (a : Value) : Option Value :=
  match op, a with
  | .neg, .int k n => some (.int k (k.wrap (0 - n)))
  | .xor, .int k n => some (.int k (bits .xor k (if k.signed then -1 else k.max) n))
  | .not, .bool b => some (.bool (!b))
  | _, _ => none
theorem lok_un {op : UnOp} {t : TypeId} {x : Operand} {a r : Value} (ho : o.op = .unOp op t x) (hx : ov x = .lit a) (h : unV op a = some r) : LOk P ov o [] [] [] (.lit r) :=
  LOk.pure fun S ρ w c hr => by
    rw [ho] at hr
    have e1 := hr x (by simp [Op.operands])
    rw [hx] at e1
    have e1 := e1.lit_inv
    unfold unV at h
    split at h
    · cases h; exact ⟨_, .lit rfl, by simp [execOp, ho, e1, Op.unary, Op.intArith]⟩
    · cases h; exact ⟨_, .lit rfl, by simp [execOp, ho, e1, Op.unary, intBits_xor]⟩
    · cases h; exact ⟨_, .lit rfl, by simp [execOp, ho, e1, Op.unary]⟩
    · cases h

def TD.intK : TD → Option IntKind
  | .int k => some k
  | _ => none
theorem lok_convI (hT : TOk P T) {src dst : TypeId} {x : Operand} {k k' : IntKind} {n : Int} {i i' : TI} (ho : o.op = .convert src dst x) (hs : T src = some i) (hd : T dst = some i') (hk : i'.d.intK = some k')
    (hx : ov x = .lit (.int k n)) : LOk P ov o [] [] [] (.lit (.int k' (k'.wrap n))) :=
  LOk.pure fun S ρ w c hr => by
    rw [ho] at hr
    have e1 := hr x (by simp [Op.operands])
    rw [hx] at e1
    have e1 := e1.lit_inv
    obtain ⟨d, hd0⟩ := Option.isSome_iff_exists.1 (hT src i hs).some
    have hd' := (hT dst i' hd).d
    cases hi' : i'.d <;> simp [hi', TD.intK] at hk
    subst hk
    rw [hi'] at hd'
    exact ⟨_, .lit rfl, by simp [execOp, ho, e1, convert, run_underlying hd0, run_underlying hd', Conv.intToInt]⟩

theorem lok_extract {x : Operand} {n : Nat} {vs : List V} {v : V} (ho : o.op = .extract x n) (hx : ov x = .tup vs) (hn : vs[n]? = some v) : LOk P ov o [] [] [] v :=
  LOk.pure fun S ρ w c hr => by
    rw [ho] at hr
    have e1 := hr x (by simp [Op.operands])
    rw [hx] at e1
    generalize hc : c.eval x = cx at e1
    cases e1 with
    | tup hl h =>
      rename_i us
      have hlt : n < us.size := by
        have := (List.getElem?_eq_some_iff.1 hn).1
        omega
      have hu : us[n]? = some us[n] := by simp [hlt]
      exact ⟨us[n], h n _ v hu hn, by simp [execOp, ho, hc, Instr.extract, hu]⟩

theorem lok_makeFunc {f : Nat} {caps : Array Operand} (ho : o.op = .makeFunc (.func f) #[] caps) : LOk P ov o [] [] [] (.fn f (caps.toList.map ov)) :=
  LOk.pure fun S ρ w c hr => by
    rw [ho] at hr
    refine ⟨.func (.func f) #[] (caps.map c.eval), .fn (by simp) fun i u x h1 h2 => ?_, by simp [execOp, ho, Instr.makeFunc]⟩
    simp only [Array.getElem?_map, List.getElem?_map, Array.getElem?_toList] at h1 h2
    cases hi : caps[i]? with
    | none => simp [hi] at h1
    | some y =>
      simp only [hi, Option.map_some, Option.some.injEq] at h1 h2
      subst h1; subst h2
      exact hr y (by simp [Op.operands]; exact Array.mem_of_getElem? hi)

end
end Go.Proofs.Ytgaginflocpcfaa
