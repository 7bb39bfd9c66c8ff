/-
  The value-level machine over the model, part 3.
-/
import Derived.Test.YtbieiehfohldjaaQb
import Derived.Laws.Small
import Derived.Laws.Cover3
import Derived.Laws.StructEq
namespace Go.Proofs.Ytbieiehfohldjaa
open Go
set_option linter.unusedVariables false
set_option linter.unusedSimpArgs false

abbrev TT := Nat → Option TI
def TOk (P : Program) (T : TT) : Prop := ∀ t i, T t = some i → TIOk P t i

/-- a constant of the code -/
def V.of : Value → V
  | .agg vs => .agg (vs.toList.map .lit)
  | .tuple vs => .tup (vs.toList.map .lit)
  | v => .lit v
def constOk : Value → Bool
  | .agg vs => vs.toList.all Value.oneCell'
  | .tuple vs => vs.toList.all Value.oneCell'
  | _ => true
theorem rep_const {S : Nat → Prop} {ρ : KM} {w : World} {v : Value} (h : constOk v = true) : Rep S ρ w v (V.of v) := by
  cases v with
  | agg vs =>
    simp only [constOk, List.all_eq_true] at h
    refine .agg (by simp) fun i u x h1 h2 => ?_
    simp only [List.getElem?_map, Array.getElem?_toList, h1, Option.map_some, Option.some.injEq] at h2
    subst h2
    exact .lit (h u (by simpa using Array.mem_of_getElem? h1))
  | tuple vs =>
    simp only [constOk, List.all_eq_true] at h
    refine .tup (by simp) fun i u x h1 h2 => ?_
    simp only [List.getElem?_map, Array.getElem?_toList, h1, Option.map_some, Option.some.injEq] at h2
    subst h2
    exact .lit (h u (by simpa using Array.mem_of_getElem? h1))
  | _ => exact .lit rfl

section
variable {P : Program} {T : TT} {ov : Operand → V} {o : Oper}

theorem lok_move {x : Operand} (ho : o.op = .move x ∨ o.op = .assign x) : LOk P ov o [] [] [] (ov x) :=
  LOk.pure fun S ρ w a hx => by
    rcases ho with ho | ho <;> rw [ho] at hx <;> exact ⟨_, hx x (by simp [Op.operands]), by simp [execOp, ho]⟩

theorem lok_pick {c x y : Operand} {t : Bool} (ho : o.op = .pick c x y) (hc : ov c = .lit (.bool t)) : LOk P ov o [] [] [] (bif t then ov x else ov y) :=
  LOk.pure fun S ρ w a hx => by
    rw [ho] at hx
    have h0 := hx c (by simp [Op.operands])
    rw [hc] at h0
    have e := h0.lit_inv
    cases t with
    | true => exact ⟨_, hx x (by simp [Op.operands]), by simp [execOp, ho, e, asBool]⟩
    | false => exact ⟨_, hx y (by simp [Op.operands]), by simp [execOp, ho, e, asBool]⟩

/-- operators on plain values -/
def binI (op : BinOp) (k : IntKind) (a b : Int) : Option Value :=
  match op with
  | .add => some (.int k (k.wrap (a + b)))
  | .sub => some (.int k (k.wrap (a - b)))
  | .mul => some (.int k (k.wrap (a * b)))
  | .quo => if b = 0 then none else some (.int k (k.wrap (a.tdiv b)))
  | .rem => if b = 0 then none else some (.int k (a.tmod b))
  | .and | .or | .xor | .andNot => some (.int k (bits op k a b))
  | .eql => some (.bool (a == b))
  | .neq => some (.bool (a != b))
  | .lss => some (.bool (decide (a < b)))
  | .leq => some (.bool (decide (a ≤ b)))
  | .gtr => some (.bool (decide (a > b)))
  | .geq => some (.bool (decide (a ≥ b)))
  | _ => none
def shiftI (op : BinOp) (k : IntKind) (a b : Int) : Option Value :=
  if b < 0 then none else
  match op with
  | .shl => some (.int k (k.wrap (a * 2 ^ min b.toNat k.bits)))
  | .shr => some (.int k (a.fdiv (2 ^ min b.toNat k.bits)))
  | _ => none
def binS (op : BinOp) (a b : ByteArray) : Option Value :=
  match op with
  | .eql => some (.bool (a.data.toList == b.data.toList))
  | .neq => some (.bool (!(a.data.toList == b.data.toList)))
  | .add => if ((a.size + b.size : Nat) : Int) > IntKind.i64.max then none else some (.string (a ++ b))
  | _ => none
def TD.isBool : TD → Bool
  | .bool => true
  | _ => false
def TD.isSlice : TD → Bool
  | .slice _ => true
  | _ => false
def binB (d : Option TI) (op : BinOp) (x y : Bool) : Option Value :=
  match op with
  | .eql => if d.any (·.d.isBool) then some (.bool (x == y)) else none
  | .neq => if d.any (·.d.isBool) then some (.bool (!(x == y))) else none
  | _ => none
def binN (d : Option TI) (op : BinOp) : Option Value :=
  match op with
  | .eql => if d.any (·.d.isSlice) then some (.bool true) else none
  | .neq => if d.any (·.d.isSlice) then some (.bool false) else none
  | _ => none
def binK (op : BinOp) (k k' : IntKind) (x y : Int) : Option Value :=
  match op with
  | .shl => shiftI .shl k x y
  | .shr => shiftI .shr k x y
  | op => if k = k' then binI op k x y else none
def binV (d : Option TI) (op : BinOp) (a b : Value) : Option Value :=
  match a, b with
  | .int k x, .int k' y => binK op k k' x y
  | .string x, .string y => binS op x y
  | .bool x, .bool y => binB d op x y
  | .slice none _ _, .slice none _ _ => binN d op
  | _, _ => none

theorem binI_run {op : BinOp} {k : IntKind} {a b : Int} {r : Value} {t : TypeId} {w : World} (h : binI op k a b = some r) : (binOp op t (.int k a) (.int k b)).run P w = .ok r w ∧ r.oneCell' = true := by
  cases op <;> simp only [binI, Option.some.injEq, reduceCtorEq] at h <;>
    first
      | (subst h; exact ⟨by simp [binOp, Op.intArith, Op.intCmp, intBits_and, intBits_or, intBits_xor, intBits_andNot], rfl⟩)
      | (split at h
         · cases h
         · rename_i hb; cases h; exact ⟨by simp [binOp, Op.intDiv, hb], rfl⟩)
theorem shiftI_run {op : BinOp} {k yk : IntKind} {a b : Int} {r : Value} {w : World} (h : shiftI op k a b = some r) : (Op.shift op k a yk b).run P w = .ok r w ∧ r.oneCell' = true := by
  unfold shiftI at h
  split at h
  · cases h
  · rename_i hb
    cases op <;> simp only [Option.some.injEq, reduceCtorEq] at h <;> (subst h; exact ⟨by simp [Op.shift, hb], rfl⟩)
theorem binS_run {op : BinOp} {a b : ByteArray} {r : Value} {w : World} (h : binS op a b = some r) : (Op.stringOp op a b).run P w = .ok r w ∧ r.oneCell' = true := by
  cases op <;> simp only [binS, Option.some.injEq, reduceCtorEq] at h <;>
    first
      | (subst h; exact ⟨by simp [Op.stringOp, ByteArray.toList_eq], rfl⟩)
      | (split at h
         · cases h
         · rename_i hb; cases h; exact ⟨by simp only [Op.stringOp]; rw [if_neg hb]; rfl, rfl⟩)

theorem equalIn_slice {t e : TypeId} {w : World} (a : Option Addr) (l c n m : Nat) (h : P.underlying t = some (.slice e)) : (Op.equal t (.slice a l c) (.slice none n m)).run P w = .ok a.isNone w := by
  have key : ∀ d, (Op.equalIn (d + 1) t (.slice a l c) (.slice none n m)).run P w = .ok a.isNone w := fun d => by
    cases a <;> simp [Op.equalIn, run_underlying h]
  exact key 9999
theorem binK_run {op : BinOp} {k k' : IntKind} {a b : Int} {r : Value} {t : TypeId} {w : World} (h : binK op k k' a b = some r) : (binOp op t (.int k a) (.int k' b)).run P w = .ok r w ∧ r.oneCell' = true := by
  cases op <;> simp only [binK] at h <;>
    first
      | exact shiftI_run (P := P) (yk := k') h
      | (split at h
         · rename_i e; subst e; exact binI_run (P := P) h
         · cases h)
theorem binS_run' {op : BinOp} {a b : ByteArray} {r : Value} {t : TypeId} {w : World} (h : binS op a b = some r) : (binOp op t (.string a) (.string b)).run P w = .ok r w ∧ r.oneCell' = true := by
  have := binS_run (P := P) (w := w) h
  refine ⟨?_, this.2⟩
  rw [← this.1]
  cases op <;> rfl
theorem binB_run (hT : TOk P T) {op : BinOp} {t : TypeId} {a b : Bool} {r : Value} {w : World} (h : binB (T t) op a b = some r) : (binOp op t (.bool a) (.bool b)).run P w = .ok r w ∧ r.oneCell' = true := by
  have key : (T t).any (·.d.isBool) = true → P.underlying t = some .bool := fun hd => by
    cases ht : T t with
    | none => simp [ht] at hd
    | some i =>
      simp only [ht, Option.any_some] at hd
      have hd' := (hT t i ht).d
      cases hi : i.d <;> simp [hi, TD.isBool] at hd
      rw [hi] at hd'
      exact hd'
  cases op <;> simp only [binB, reduceCtorEq] at h <;> split at h <;>
    first
      | (rename_i hd; cases h; exact ⟨run_eql_bool _ _ _ _ (key hd), rfl⟩)
      | (rename_i hd; cases h; exact ⟨run_neq_bool _ _ _ _ (key hd), rfl⟩)
      | cases h
theorem binN_run (hT : TOk P T) {op : BinOp} {t : TypeId} {a b c d : Nat} {r : Value} {w : World} (h : binN (T t) op = some r) : (binOp op t (.slice none a b) (.slice none c d)).run P w = .ok r w ∧ r.oneCell' = true := by
  have key : (T t).any (·.d.isSlice) = true → ∃ e, P.underlying t = some (.slice e) := fun hd => by
    cases ht : T t with
    | none => simp [ht] at hd
    | some i =>
      simp only [ht, Option.any_some] at hd
      have hd' := (hT t i ht).d
      cases hi : i.d <;> simp [hi, TD.isSlice] at hd
      rw [hi] at hd'
      exact ⟨_, hd'⟩
  cases op <;> simp only [binN, reduceCtorEq] at h <;> split at h <;>
    first
      | (rename_i hd; cases h; obtain ⟨e, he⟩ := key hd; exact ⟨by simp only [binOp, Sem.run_bind, equalIn_slice _ _ _ _ _ he, Result.andThen_ok, Option.isNone_none, Sem.run_pure, Bool.not_true], rfl⟩)
      | cases h
theorem binV_run (hT : TOk P T) {op : BinOp} {t : TypeId} {a b r : Value} {w : World} (h : binV (T t) op a b = some r) : (binOp op t a b).run P w = .ok r w ∧ r.oneCell' = true := by
  unfold binV at h
  split at h
  · exact binK_run h
  · exact binS_run' h
  · exact binB_run hT h
  · exact binN_run hT h
  · cases h

theorem eqGuard_run {op : BinOp} {t : TypeId} {x y : Operand} {a b : Value} {w : World} (h1 : a ≠ .nilIface) (h2 : ∀ vs, a ≠ .agg vs) : (eqGuard op t x y a b).run P w = .ok () w := by
  unfold eqGuard
  cases op <;> cases a <;> first | rfl | exact absurd rfl h1 | exact absurd rfl (h2 _)

theorem binV_left {d : Option TI} {op : BinOp} {a b r : Value} (h : binV d op a b = some r) : a ≠ .nilIface ∧ ∀ vs, a ≠ .agg vs := by
  unfold binV at h
  split at h <;> first | (cases h; done) | (exact ⟨(fun h => by cases h), (fun _ h => by cases h)⟩)

theorem lok_bin (hT : TOk P T) {op : BinOp} {t t' : TypeId} {x y : Operand} {a b r : Value} (ho : o.op = .binOp op t x y t') (hx : ov x = .lit a) (hy : ov y = .lit b) (h : binV (T t) op a b = some r) :
    LOk P ov o [] [] [] (.lit r) :=
  LOk.pure fun S ρ w c hr => by
    rw [ho] at hr
    have e1 := hr x (by simp [Op.operands])
    have e2 := hr y (by simp [Op.operands])
    rw [hx] at e1; rw [hy] at e2
    have e1 := e1.lit_inv
    have e2 := e2.lit_inv
    have hb := binV_run (P := P) hT (w := w) h
    exact ⟨r, .lit hb.2, by simp [execOp, ho, e1, e2, eqGuard_run (binV_left h).1 (binV_left h).2, hb.1]⟩

/-- is a slice nil? -/
theorem lok_nil (hT : TOk P T) {op : BinOp} {t t' : TypeId} {x y : Operand} {b : Bool} {i : TI} (ho : o.op = .binOp op t x y t') (hy : ov y = .lit (.slice none 0 0)) (ht : T t = some i) (hi : i.d.isSlice = true)
    (hx : ∃ sz l ex, ov x = .sls sz l true ex) (hop : (op = .eql ∧ b = false) ∨ (op = .neq ∧ b = true)) : LOk P ov o [] [] [] (.lit (.bool b)) :=
  LOk.pure fun S ρ w c hr => by
    rw [ho] at hr
    have e1 := hr x (by simp [Op.operands])
    have e2 := hr y (by simp [Op.operands])
    rw [hy] at e2
    have e2 := e2.lit_inv
    have hd' := (hT t i ht).d
    cases hi' : i.d <;> simp [hi', TD.isSlice] at hi
    rw [hi'] at hd'
    have hs : ∃ ad l cp, c.eval x = .slice (some ad) l cp := by
      obtain ⟨sz, l, ex, hx⟩ := hx
      rw [hx] at e1
      generalize c.eval x = cx at e1
      cases e1
      rename_i ad' n' cap' h0 hn he
      obtain ⟨ad'', rfl⟩ := Option.isSome_iff_exists.1 (hn rfl)
      exact ⟨_, _, _, rfl⟩
    obtain ⟨ad, l, cp, hs⟩ := hs
    refine ⟨.bool b, .lit rfl, ?_⟩
    rcases hop with ⟨rfl, rfl⟩ | ⟨rfl, rfl⟩ <;>
      simp only [execOp, ho, hs, e2, Sem.run_bind, eqGuard_at_slice, Sem.run_pure, Result.andThen_ok, binOp, equalIn_slice _ _ _ _ _ hd', Option.isNone_some, Bool.not_false]

def unV (op : UnOp) (a : Value) : Option Value :=
  match op, a with
  | .neg, .int k n => some (.int k (k.wrap (0 - n)))
  | .xor, .int k n => some (.int k (bits .xor k (if k.signed then -1 else k.max) n))
  | .not, .bool b => some (.bool (!b))
  | _, _ => none
theorem lok_un {op : UnOp} {t : TypeId} {x : Operand} {a r : Value} (ho : o.op = .unOp op t x) (hx : ov x = .lit a) (h : unV op a = some r) : LOk P ov o [] [] [] (.lit r) :=
  LOk.pure fun S ρ w c hr => by
    rw [ho] at hr
    have e1 := hr x (by simp [Op.operands])
    rw [hx] at e1
    have e1 := e1.lit_inv
    unfold unV at h
    split at h
    · cases h; exact ⟨_, .lit rfl, by simp [execOp, ho, e1, Op.unary, Op.intArith]⟩
    · cases h; exact ⟨_, .lit rfl, by simp [execOp, ho, e1, Op.unary, intBits_xor]⟩
    · cases h; exact ⟨_, .lit rfl, by simp [execOp, ho, e1, Op.unary]⟩
    · cases h

def TD.intK : TD → Option IntKind
  | .int k => some k
  | _ => none
theorem lok_convI (hT : TOk P T) {src dst : TypeId} {x : Operand} {k k' : IntKind} {n : Int} {i i' : TI} (ho : o.op = .convert src dst x) (hs : T src = some i) (hd : T dst = some i') (hk : i'.d.intK = some k')
    (hx : ov x = .lit (.int k n)) : LOk P ov o [] [] [] (.lit (.int k' (k'.wrap n))) :=
  LOk.pure fun S ρ w c hr => by
    rw [ho] at hr
    have e1 := hr x (by simp [Op.operands])
    rw [hx] at e1
    have e1 := e1.lit_inv
    obtain ⟨d, hd0⟩ := Option.isSome_iff_exists.1 (hT src i hs).some
    have hd' := (hT dst i' hd).d
    cases hi' : i'.d <;> simp [hi', TD.intK] at hk
    subst hk
    rw [hi'] at hd'
    exact ⟨_, .lit rfl, by simp [execOp, ho, e1, convert, run_underlying hd0, run_underlying hd', Conv.intToInt]⟩

theorem lok_extract {x : Operand} {n : Nat} {vs : List V} {v : V} (ho : o.op = .extract x n) (hx : ov x = .tup vs) (hn : vs[n]? = some v) : LOk P ov o [] [] [] v :=
  LOk.pure fun S ρ w c hr => by
    rw [ho] at hr
    have e1 := hr x (by simp [Op.operands])
    rw [hx] at e1
    generalize hc : c.eval x = cx at e1
    cases e1 with
    | tup hl h =>
      rename_i us
      have hlt : n < us.size := by
        have := (List.getElem?_eq_some_iff.1 hn).1
        omega
      have hu : us[n]? = some us[n] := by simp [hlt]
      exact ⟨us[n], h n _ v hu hn, by simp [execOp, ho, hc, Instr.extract, hu]⟩

theorem lok_makeFunc {f : Nat} {caps : Array Operand} (ho : o.op = .makeFunc (.func f) #[] caps) : LOk P ov o [] [] [] (.fn f (caps.toList.map ov)) :=
  LOk.pure fun S ρ w c hr => by
    rw [ho] at hr
    refine ⟨.func (.func f) #[] (caps.map c.eval), .fn (by simp) fun i u x h1 h2 => ?_, by simp [execOp, ho, Instr.makeFunc]⟩
    simp only [Array.getElem?_map, List.getElem?_map, Array.getElem?_toList] at h1 h2
    cases hi : caps[i]? with
    | none => simp [hi] at h1
    | some y =>
      simp only [hi, Option.map_some, Option.some.injEq] at h1 h2
      subst h1; subst h2
      exact hr y (by simp [Op.operands]; exact Array.mem_of_getElem? hi)

end
end Go.Proofs.Ytbieiehfohldjaa
namespace Go.Proofs.Ytbieiehfohldjaa
open Go
set_option linter.unusedVariables false
set_option linter.unusedSimpArgs false

theorem keeps_push {w w' : World} {x : Obj} (h : w'.heap = w.heap.push x) : Keeps w w' := by
  have key : ∀ (b : Nat) (y : Obj), w.heap[b]? = some y → w'.heap[b]? = some y := fun b y hb => by
    have : b < w.heap.size := by
      rcases Nat.lt_or_ge b w.heap.size with h' | h'
      · exact h'
      · simp [Array.getElem?_eq_none h'] at hb
    rw [h, Array.getElem?_push, if_neg (by omega)]
    exact hb
  exact ⟨fun b c t fr hb => ⟨c, fr, key _ _ hb, rfl⟩, fun b es n hb => ⟨es, n, key _ _ hb⟩⟩
theorem push_old {w w' : World} {x : Obj} (h : w'.heap = w.heap.push x) {b : Nat} (hb : b < w.heap.size) : w'.heap[b]? = w.heap[b]? := by
  rw [h, Array.getElem?_push, if_neg (by omega)]
theorem push_new {w w' : World} {x : Obj} (h : w'.heap = w.heap.push x) : w'.heap[w.heap.size]? = some x := by
  rw [h, Array.getElem?_push, if_pos rfl]

theorem hpo_one_inv {κ k : Nat} {ob o : VObj} (h : hpo [(κ, ob)] k = some o) : k = κ ∧ o = ob := by
  rw [hpo_one] at h
  split at h
  · rename_i e; cases h; exact ⟨e, rfl⟩
  · cases h
theorem hpo_one_self (κ : Nat) (ob : VObj) : hpo [(κ, ob)] κ = some ob := by simp [hpo_one]

/-- a new object -/
theorem new_simG {S : Nat → Prop} {ρ : KM} {w w' : World} (hb : ∀ b, S b → b < w.heap.size) {κ : Nat} (hκ : ρ κ = none) {x : Obj} {c : Array Value} {t : TypeId} {ob : VObj} (hf : ob.frz = false)
    (hr : RowsAt S ρ w ob.sz ob.rows c) (hh : w'.heap = w.heap.push x) (hx : HeapRow w' w.heap.size c t) (h1 : w'.os = w.os) (h2 : w'.tape = w.tape) (h3 : w'.output = w.output) {pre : HL} :
    Sim S (upd ρ κ (some w.heap.size)) w' (hpo [(κ, ob)]) ∧ Ext S ρ w (hpo pre) S (upd ρ κ (some w.heap.size)) w' (hpo [(κ, ob)]) := by
  have hk : ∀ k b, ρ k = some b → upd ρ κ (some w.heap.size) k = some b := fun k b h => by
    rw [upd_ne]; · exact h
    · rintro rfl; rw [hκ] at h; cases h
  have hrep : ∀ u x, Rep S ρ w u x → Rep S (upd ρ κ (some w.heap.size)) w' u x := fun u x h =>
    h.mono (fun _ h => h) (fun b hS => push_old hh (hb b hS)) hk (keeps_push hh)
  refine ⟨⟨fun k o h => ?_, fun k k' o o' b a1 a2 a3 a4 => ?_, fun b h => ?_⟩, ?_⟩
  · obtain ⟨rfl, rfl⟩ := hpo_one_inv h
    exact .inl ⟨w.heap.size, c, t, upd_same _ _ _, hx, hr.mono hrep, fun h => (by rw [hf] at h; cases h), fun _ h => Nat.lt_irrefl _ (hb _ h)⟩
  · obtain ⟨rfl, _⟩ := hpo_one_inv a1
    obtain ⟨rfl, _⟩ := hpo_one_inv a2
    rfl
  · have := hb b h
    rw [hh]; simp; omega
  · exact { os := h1, tape := h2, output := h3, size := by rw [hh]; simp
            block := fun b hb' _ => push_old hh hb'
            keeps := keeps_push hh
            more := fun _ h => h
            only := fun _ h => .inl h
            live := fun b ⟨k, o, a, r⟩ => by
              obtain ⟨rfl, _⟩ := hpo_one_inv a
              rw [upd_same] at r
              cases r
              exact .inl (Nat.le_refl _)
            own := fun b ⟨k, o, a, _, r⟩ => by
              obtain ⟨rfl, _⟩ := hpo_one_inv a
              rw [upd_same] at r
              cases r
              exact .inl (Nat.le_refl _)
            keys := hk
            dom := fun k b h => by
              by_cases e : k = κ
              · subst e; exact .inr ⟨ob, hpo_one_self _ _⟩
              · rw [upd_ne _ _ e] at h; exact .inl h }

theorem new_sim {S : Nat → Prop} {ρ : KM} {w w' : World} (hb : ∀ b, S b → b < w.heap.size) {κ : Nat} (hκ : ρ κ = none) {c : Array Value} {t : TypeId} {ob : VObj} (hf : ob.frz = false)
    (hr : RowsAt S ρ w ob.sz ob.rows c) (hh : w'.heap = w.heap.push (.cells c t)) (h1 : w'.os = w.os) (h2 : w'.tape = w.tape) (h3 : w'.output = w.output) {pre : HL} :
    Sim S (upd ρ κ (some w.heap.size)) w' (hpo [(κ, ob)]) ∧ Ext S ρ w (hpo pre) S (upd ρ κ (some w.heap.size)) w' (hpo [(κ, ob)]) := new_simG hb hκ hf hr hh (.inl (push_new hh)) h1 h2 h3

/-- an object is written -/
theorem write_simG {S : Nat → Prop} {ρ : KM} {w : World} {k b : Nat} {ob ob' : VObj} {x x' : Obj} {c' : Array Value} {t : TypeId} (hs : Sim S ρ w (hpo [(k, ob)])) (hk : ρ k = some b)
    (hw : w.heap[b]? = some x) (hf : ob.frz = false) (hf' : ob'.frz = false) (hz : (∃ c t c', x = .cells c t (0, 0) ∧ x' = .cells c' t (0, 0) ∧ c'.size = c.size) ∨ (∃ es n es' n', x = .map es n ∧ x' = .map es' n')) (hx : x' = .cells c' t (0, 0) ∨ ∃ es es' n, x' = .map es n ∧ es'.toList.Perm es.toList ∧ c' = mapCells es' ∧ Born es n) (hr : RowsAt S ρ w ob'.sz ob'.rows c') :
    Sim S ρ (World.block w b x') (hpo [(k, ob')]) ∧ Ext S ρ w (hpo [(k, ob)]) S ρ (World.block w b x') (hpo [(k, ob')]) := by
  have hnS : ¬ S b := (hs.frz (hpo_one_self k ob) hk).2 hf
  have old : ∀ b', b' ≠ b → (World.block w b x').heap[b']? = w.heap[b']? := fun b' h => by rw [block_get hw, if_neg h]
  have now : (World.block w b x').heap[b]? = some x' := by rw [block_get hw, if_pos rfl]
  have kp : Keeps w (World.block w b x') := by
    refine ⟨fun b' y e fr h => ?_, fun b' es n h => ?_⟩
    · by_cases e' : b' = b
      · subst e'
        rw [hw] at h
        cases h
        rcases hz with ⟨c, t, c', q1, q2, q3⟩ | ⟨es, n, es', n', q1, q2⟩
        · cases q1
          exact ⟨c', _, by rw [now, q2], q3⟩
        · cases q1
      · exact ⟨y, fr, by rw [old b' e']; exact h, rfl⟩
    · by_cases e' : b' = b
      · subst e'
        rw [hw] at h
        cases h
        rcases hz with ⟨c, t, c', q1, q2, q3⟩ | ⟨es, n, es', n', q1, q2⟩
        · cases q1
        · exact ⟨es', n', by rw [now, q2]⟩
      · exact ⟨es, n, by rw [old b' e']; exact h⟩
  have hrow : HeapRow (World.block w b x') b c' t := by
    rcases hx with q | ⟨es, es', n, q, q2, q3⟩
    · exact .inl (by rw [now, q])
    · exact .inr ⟨es, es', n, by rw [now, q], q2, q3⟩
  have hrep : ∀ u x, Rep S ρ w u x → Rep S ρ (World.block w b x') u x := fun u x h =>
    h.mono (fun _ h => h) (fun b' hS => old b' (fun e => hnS (e ▸ hS))) (fun _ _ h => h) kp
  refine ⟨⟨fun k' o h => ?_, fun k1 k2 o o' b' a1 a2 a3 a4 => ?_, fun b' h => ?_⟩, ?_⟩
  · obtain ⟨rfl, rfl⟩ := hpo_one_inv h
    exact .inl ⟨b, c', t, hk, hrow, hr.mono hrep, fun h => (by rw [hf'] at h; cases h), fun _ => hnS⟩
  · obtain ⟨rfl, _⟩ := hpo_one_inv a1
    obtain ⟨rfl, _⟩ := hpo_one_inv a2
    rfl
  · rw [block_size]; exact hs.bnd b' h
  · exact { os := rfl, tape := rfl, output := rfl, size := by rw [block_size]; exact Nat.le_refl _
            block := fun b' _ ho => old b' (fun e => ho (e ▸ ⟨k, ob, hpo_one_self _ _, hf, hk⟩))
            keeps := kp
            more := fun _ h => h
            only := fun _ h => .inl h
            live := fun b' ⟨k', o, a, r⟩ => by
              obtain ⟨rfl, _⟩ := hpo_one_inv a
              exact .inr ⟨k', ob, hpo_one_self _ _, r⟩
            own := fun b' ⟨k', o, a, _, r⟩ => by
              obtain ⟨rfl, _⟩ := hpo_one_inv a
              exact .inr ⟨k', ob, hpo_one_self _ _, hf, r⟩
            keys := fun _ _ h => h
            dom := fun _ _ h => .inl h }

theorem write_sim {S : Nat → Prop} {ρ : KM} {w : World} {k b : Nat} {ob ob' : VObj} {c c' : Array Value} {t : TypeId} (hs : Sim S ρ w (hpo [(k, ob)])) (hk : ρ k = some b)
    (hw : w.heap[b]? = some (.cells c t (0, 0))) (hf : ob.frz = false) (hf' : ob'.frz = false) (hz : c'.size = c.size) (hr : RowsAt S ρ w ob'.sz ob'.rows c') :
    Sim S ρ (World.block w b (.cells c' t (0, 0))) (hpo [(k, ob')]) ∧ Ext S ρ w (hpo [(k, ob)]) S ρ (World.block w b (.cells c' t (0, 0))) (hpo [(k, ob')]) :=
  write_simG hs hk hw hf hf' (.inl ⟨c, t, c', rfl, rfl, hz⟩) (.inl rfl) hr

section
variable {P : Program} {T : TT} {ov : Operand → V} {o : Oper}

theorem LOk.new {κ : Nat} {ob : VObj} {v : V} {rd : HL} (hf : ob.frz = false)
    (h : ∀ (S : Nat → Prop) (ρ : KM) (w : World) (a : Act), (∀ x ∈ o.op.operands.toList, Rep S ρ w (a.eval x) (ov x)) → Sim S ρ w (hpo rd) →
      ∃ (w' : World) (c : Array Value) (t : TypeId) (u : Value), (execOp a.eval o).run P w = .ok (.value u) w' ∧ w'.heap = w.heap.push (.cells c t) ∧ w'.os = w.os ∧ w'.tape = w.tape ∧ w'.output = w.output ∧
        RowsAt S ρ w ob.sz ob.rows c ∧ ∀ ρ', ρ' κ = some w.heap.size → Rep S ρ' w' u v) : LOk P ov o rd [] [(κ, ob)] v := by
  intro S ρ w a hx hs hn next Q hK
  obtain ⟨w', c, t, u, hr, hh, h1, h2, h3, hrow, hu⟩ := h S ρ w a hx hs.of_pre
  have hκ : ρ κ = none := hn κ (by simp [hpo_one]) rfl
  obtain ⟨g1, g2⟩ := new_sim (pre := []) hs.bnd hκ hf hrow hh h1 h2 h3
  simp only [Oper.wp, hr, Oper.upon]
  exact hK u S _ w' (hu _ (upd_same _ _ _)) g1 g2

theorem rowsAt_one {S : Nat → Prop} {ρ : KM} {w : World} {cs : List V} {c : Array Value} (hl : cs.length ≤ c.size) (h : ∀ (i : Nat) (u : Value) (x : V), c[i]? = some u → cs[i]? = some x → Rep S ρ w u x) {n : Nat} (hn : n = cs.length) :
    RowsAt S ρ w n [cs] c := by
  subst hn
  refine ⟨by simp, by simpa using hl, fun i j r u x h1 h2 h3 => ?_⟩
  cases i with
  | zero =>
    simp only [List.getElem?_cons_zero, Option.some.injEq] at h1
    subst h1
    exact h j u x (by simpa using h3) h2
  | succ i => simp at h1

/-- a value's cells -/
theorem Rep.cells {S : Nat → Prop} {ρ : KM} {w : World} {u : Value} {x : V} (h : Rep S ρ w u x) (hx : x ≠ .any) :
    u.cells.size = x.cells.length ∧ ∀ (i : Nat) (v : Value) (y : V), u.cells[i]? = some v → x.cells[i]? = some y → Rep S ρ w v y := by
  have one : ∀ (u : Value) (x : V), Rep S ρ w u x → u.cells = #[u] → x.cells = [x] → u.cells.size = x.cells.length ∧ ∀ (i : Nat) (v : Value) (y : V), u.cells[i]? = some v → x.cells[i]? = some y → Rep S ρ w v y := by
    intro u x hr h1 h2
    rw [h1, h2]
    refine ⟨rfl, fun i v y a b => ?_⟩
    cases i with
    | zero =>
      simp at a b
      subst a; subst b
      exact hr
    | succ i => simp at a
  cases h with
  | any => exact absurd rfl hx
  | lit hv => refine one _ _ (.lit hv) ?_ rfl; cases u <;> first | rfl | cases hv
  | agg hl hr => exact ⟨hl, hr⟩
  | tup hl hr => exact one _ _ (.tup hl hr) rfl rfl
  | sl0 ha => exact one _ _ (.sl0 ha) rfl rfl
  | sl h1 h2 h3 h4 h5 h6 => exact one _ _ (.sl h1 h2 h3 h4 h5 h6) rfl rfl
  | sls h1 h2 h3 => exact one _ _ (.sls h1 h2 h3) rfl rfl
  | win h1 h2 h3 h4 h5 h6 => exact one _ _ (.win h1 h2 h3 h4 h5 h6) rfl rfl
  | win0 => exact one _ _ .win0 rfl rfl
  | ptr h1 h2 => exact one _ _ (.ptr h1 h2) rfl rfl
  | mp h1 h2 => exact one _ _ (.mp h1 h2) rfl rfl
  | ip h1 h2 h3 h4 => exact one _ _ (.ip h1 h2 h3 h4) rfl rfl
  | fn h1 h2 => exact one _ _ (.fn h1 h2) rfl rfl

theorem zero_rep {S : Nat → Prop} {ρ : KM} {w : World} {t : TypeId} {i : TI} (h : TIOk P t i) {z : Value} (hz : zAll z.cells.toList i.zero = true) :
    z.cells.size = i.size ∧ ∀ (j : Nat) (u : Value) (x : V), z.cells[j]? = some u → i.zero[j]? = some x → Rep S ρ w u x := by
  refine ⟨by rw [← h.zlen, ← zAll_len _ _ hz]; simp, fun j u x a b => ?_⟩
  exact zAll_rep _ _ hz j u x (by simpa using a) b

theorem ptr0 {S : Nat → Prop} {ρ : KM} {w : World} {k b sz : Nat} {c : Array Value} {t : TypeId} {fr : Nat × Nat} (h : ρ k = some b) (hw : w.heap[b]? = some (.cells c t fr)) : Rep S ρ w (.pointer (some ⟨b, 0, none⟩)) (.ptr k sz 0 0) := by
  have := Rep.ptr (S := S) (w := w) (sz := sz) (i := 0) (off := 0) h hw
  simpa using this

theorem lok_alloc (hT : TOk P T) {e : TypeId} {i : TI} {κ : Nat} (ho : o.op = .alloc e) (ht : T e = some i) : LOk P ov o [] [] [(κ, ⟨i.size, [i.zero], false⟩)] (.ptr κ i.size 0 0) :=
  LOk.new rfl fun S ρ w a hx hs => by
    obtain ⟨z, hz, hz'⟩ := (hT e i ht).run_zero w
    obtain ⟨h1, h2⟩ := zero_rep (S := S) (ρ := ρ) (w := w) (hT e i ht) hz'
    refine ⟨w.alloc (.cells z.cells e), z.cells, e, .pointer (some ⟨w.heap.size, 0, none⟩), ?_, rfl, rfl, rfl, rfl, ?_, fun ρ' h => ptr0 h (push_new rfl)⟩
    · simp [execOp, ho, Instr.alloc, hz, newVar, newRow]
    · exact rowsAt_one (by simp [h1, (hT e i ht).zlen]) h2 (by simp [(hT e i ht).zlen])

theorem lok_box {e : TypeId} {x : Operand} {xv : V} {κ : Nat} (ho : o.op = .box e x) (hx : ov x = xv) (hn : xv ≠ .any) : LOk P ov o [] [] [(κ, ⟨xv.cells.length, [xv.cells], false⟩)] (.ptr κ xv.cells.length 0 0) :=
  LOk.new rfl fun S ρ w a hr hs => by
    rw [ho] at hr
    have e1 := hr x (by simp [Op.operands])
    rw [hx] at e1
    obtain ⟨h1, h2⟩ := e1.cells hn
    refine ⟨w.alloc (.cells (a.eval x).cells e), (a.eval x).cells, e, .pointer (some ⟨w.heap.size, 0, none⟩), ?_, rfl, rfl, rfl, rfl, ?_, fun ρ' h => ptr0 h (push_new rfl)⟩
    · simp [execOp, ho, Instr.box, newVar, newRow]
    · exact rowsAt_one (by simp [h1]) h2 rfl

/-- what a variable of a type holds, from the cells from its first one on -/
def ldV (i : TI) (cs : List V) : V := if i.agg then .agg (cs.take i.size) else cs.headD .any

theorem load_rep {S : Nat → Prop} {ρ : KM} {w : World} {t e : TypeId} {i : TI} (h : TIOk P t i) {b off : Nat} {c : Array Value} {fr : Nat × Nat} (hw : w.heap[b]? = some (.cells c e fr)) {cs : List V} (hl : i.size ≤ cs.length) (hf : off + i.size ≤ c.size)
    (hr : ∀ (j : Nat) (u : Value) (x : V), cs[j]? = some x → c[off + j]? = some u → Rep S ρ w u x) :
    ∃ u, (loadVar t ⟨b, off, none⟩).run P w = .ok u w ∧ Rep S ρ w u (ldV i cs) := by
  obtain ⟨u, hu, ha, hb⟩ := run_loadVar h hw hf
  refine ⟨u, hu, ?_⟩
  unfold ldV
  cases hi : i.agg with
  | true =>
    obtain ⟨vs, rfl, hz, hv⟩ := ha hi
    simp only [if_true]
    refine .agg (by simp [hz]; omega) fun j u x h1 h2 => ?_
    have hj : j < i.size := by
      rcases Nat.lt_or_ge j i.size with h' | h'
      · exact h'
      · simp [Array.getElem?_eq_none (by omega : vs.size ≤ j)] at h1
    rw [hv j hj] at h1
    rw [List.getElem?_take_of_lt hj] at h2
    exact hr j u x h2 h1
  | false =>
    have h1 := h.scal hi
    simp only [Bool.false_eq_true, if_false]
    cases cs with
    | nil => simp at hl; omega
    | cons x cs => exact hr 0 u x rfl (hb hi)

theorem lok_load {t : TypeId} {x : Operand} {i : TI} {k sz ix off : Nat} {ob : VObj} {row : List V} (hT : TOk P T) (ho : o.op = .load t x) (ht : T t = some i) (hx : ov x = .ptr k sz ix off) (hz : ob.sz = sz)
    (hrow : ob.rows[ix]? = some row) (hl : off + i.size ≤ row.length) : LOk P ov o [(k, ob)] [] [] (ldV i (row.drop off)) :=
  LOk.read fun S ρ w a hr hs => by
    rw [ho] at hr
    have e1 := hr x (by simp [Op.operands])
    rw [hx] at e1
    generalize hc : a.eval x = cx at e1
    cases e1 with
    | ptr hk hwp =>
      rename_i b
      obtain ⟨c, e, hw, hR, _⟩ := hs.at (hpo_one_self k ob) hk hwp
      rw [hz] at hR
      have hrl : row.length = sz := hR.1 row (List.mem_of_getElem? hrow)
      have hix : ix < ob.rows.length := (List.getElem?_eq_some_iff.1 hrow).1
      have hfit : ix * sz + off + i.size ≤ c.size := by
        have h1 := hR.2.1
        have h2 : (ix + 1) * sz ≤ ob.rows.length * sz := Nat.mul_le_mul_right sz (by omega)
        rw [Nat.add_mul, Nat.one_mul] at h2
        omega
      obtain ⟨u, hu, hur⟩ := load_rep (S := S) (ρ := ρ) (hT t i ht) hw (cs := row.drop off) (off := ix * sz + off) (by simp; omega) hfit (fun j u x h1 h2 => by
        rw [List.getElem?_drop] at h1
        exact hR.2.2 ix (off + j) row u x hrow h1 (by rw [← Nat.add_assoc]; exact h2))
      exact ⟨u, hur, by simp [execOp, ho, hc, Instr.loadAt, Instr.sureAddr, hu]⟩

theorem lok_loadI {t : TypeId} {x : Operand} {i : TI} {cs : List V} (hT : TOk P T) (ho : o.op = .load t x) (ht : T t = some i) (hx : ov x = .ip cs) (hl : i.size ≤ cs.length) : LOk P ov o [] [] [] (ldV i cs) :=
  LOk.pure fun S ρ w a hr => by
    rw [ho] at hr
    have e1 := hr x (by simp [Op.operands])
    rw [hx] at e1
    generalize hc : a.eval x = cx at e1
    cases e1 with
    | ip hS hw hf hR =>
      rename_i b off c e fr
      have hfit : off + i.size ≤ c.size := by omega
      obtain ⟨u, hu, hur⟩ := load_rep (S := S) (ρ := ρ) (hT t i ht) hw (cs := cs) hl hfit (fun j u x p q => (hR j u x p q).up)
      exact ⟨u, hur, by simp [execOp, ho, hc, Instr.loadAt, Instr.sureAddr, hu]⟩

/-- cells of a row written over -/
def spl (row : List V) (off : Nat) (cs : List V) : List V := row.take off ++ cs ++ row.drop (off + cs.length)
theorem spl_length {row : List V} {off : Nat} {cs : List V} (h : off + cs.length ≤ row.length) : (spl row off cs).length = row.length := by
  simp [spl]; omega
theorem spl_get {row : List V} {off : Nat} {cs : List V} (h : off + cs.length ≤ row.length) (j : Nat) : (spl row off cs)[j]? = if off ≤ j ∧ j < off + cs.length then cs[j - off]? else row[j]? := by
  unfold spl
  rw [List.append_assoc]
  by_cases h1 : j < off
  · rw [if_neg (by omega), List.getElem?_append_left (by simp; omega), List.getElem?_take_of_lt h1]
  · rw [List.getElem?_append_right (by simp; omega)]
    have ht : (row.take off).length = off := by simp; omega
    rw [ht]
    by_cases h2 : j < off + cs.length
    · rw [if_pos (by omega), List.getElem?_append_left (by omega)]
    · rw [if_neg (by omega), List.getElem?_append_right (by omega), List.getElem?_drop]
      congr 1; omega

theorem one_rep {S : Nat → Prop} {ρ : KM} {w : World} {u : Value} {x : V} (h : Rep S ρ w u x) (hx : x.one = true) : u.oneCell' = true := by
  cases h <;> first | rfl | cases hx | skip
  · exact hx

theorem lok_store {t : TypeId} {x y : Operand} {i : TI} {k sz ix off : Nat} {ob : VObj} {row : List V} {yv : V} (hT : TOk P T) (ho : o.op = .store t x y) (ht : T t = some i) (hx : ov x = .ptr k sz ix off) (hy : ov y = yv) (hz : ob.sz = sz) (hfz : ob.frz = false)
    (hrow : ob.rows[ix]? = some row) (hc : yv.cells.length = i.size) (h1 : yv.cells.all V.one = true) (hl : off + i.size ≤ row.length) :
    LOk P ov o [] [(k, ob)] [(k, ⟨sz, ob.rows.set ix (spl row off yv.cells), false⟩)] .undef := by
  intro S ρ w a hr hs hn next Q hK
  rw [ho] at hr
  have e1 := hr x (by simp [Op.operands])
  have e2 := hr y (by simp [Op.operands])
  rw [hx] at e1; rw [hy] at e2
  have hne : yv ≠ .any := by rintro rfl; simp [V.cells, V.one] at h1
  obtain ⟨g1, g2⟩ := e2.cells hne
  generalize hcx : a.eval x = cx at e1
  cases e1 with
  | ptr hk hwp =>
    rename_i b
    simp only [List.nil_append] at hs
    obtain ⟨c, e, hw, hR, _⟩ := hs.at (hpo_one_self k ob) hk hwp
    rw [hz] at hR
    have hrl : row.length = sz := hR.1 row (List.mem_of_getElem? hrow)
    have hix : ix < ob.rows.length := (List.getElem?_eq_some_iff.1 hrow).1
    have hfit : ix * sz + off + i.size ≤ c.size := by
      have h1 := hR.2.1
      have h2 : (ix + 1) * sz ≤ ob.rows.length * sz := Nat.mul_le_mul_right sz (by omega)
      rw [Nat.add_mul, Nat.one_mul] at h2
      omega
    have hone : ∀ v ∈ (a.eval y).cells.toList, v.oneCell' = true := fun v hv => by
      obtain ⟨j, hj, rfl⟩ := List.getElem_of_mem hv
      have hj' : j < yv.cells.length := by rw [← g1]; simpa using hj
      refine one_rep (g2 j _ (yv.cells[j]) (by simp) (by simp [hj'])) ?_
      rw [List.all_eq_true] at h1
      exact h1 _ (List.getElem_mem hj')
    have hst := run_storeVar (hT t i ht) hw (u := a.eval y) (by omega) hone hfit
    have hrows : RowsAt S ρ w sz (ob.rows.set ix (spl row off yv.cells)) (wr c (ix * sz + off) (a.eval y).cells.toList) := by
      refine ⟨fun r hr => ?_, by rw [wr_size]; simpa using hR.2.1, fun i' j r u x h1 h2 h3 => ?_⟩
      · rcases List.mem_or_eq_of_mem_set hr with h | h
        · exact hR.1 r h
        · rw [h, spl_length (by omega)]; exact hrl
      · rw [wr_get _ _ _ _ (by simp [g1]; omega)] at h3
        simp only [Array.length_toList, g1, hc] at h3
        by_cases hi : i' = ix
        · subst hi
          rw [List.getElem?_set_self hix] at h1
          cases h1
          rw [spl_get (by omega)] at h2
          by_cases hj : off ≤ j ∧ j < off + yv.cells.length
          · rw [if_pos hj] at h2
            rw [if_pos (by omega), show i' * sz + j - (i' * sz + off) = j - off by omega, Array.getElem?_toList] at h3
            exact g2 _ u x h3 h2
          · rw [if_neg hj] at h2
            rw [if_neg (by omega)] at h3
            exact hR.2.2 i' j row u x hrow h2 h3
        · rw [List.getElem?_set_ne (fun e => hi e.symm)] at h1
          have hj : j < sz := by rw [← hR.1 r (List.mem_of_getElem? h1)]; exact (List.getElem?_eq_some_iff.1 h2).1
          rw [if_neg (by
            rintro ⟨q1, q2⟩
            rcases Nat.lt_or_ge i' ix with h | h
            · have : (i' + 1) * sz ≤ ix * sz := Nat.mul_le_mul_right sz (by omega)
              rw [Nat.add_mul, Nat.one_mul] at this
              omega
            · have : (ix + 1) * sz ≤ i' * sz := Nat.mul_le_mul_right sz (by omega)
              rw [Nat.add_mul, Nat.one_mul] at this
              omega)] at h3
          exact hR.2.2 i' j r u x h1 h2 h3
    obtain ⟨q1, q2⟩ := write_sim (ob' := ⟨sz, ob.rows.set ix (spl row off yv.cells), false⟩) hs hk hw hfz rfl (wr_size _ _ _) hrows
    simp only [Oper.wp, execOp, ho, hcx, Instr.storeAt, Instr.sureAddr, Sem.run_bind, Sem.run_pure, Result.andThen_ok, hst, Oper.upon]
    exact hK undef S ρ _ (.tup (by simp) (fun i u x h1 h2 => by simp at h2)) q1 q2

end
end Go.Proofs.Ytbieiehfohldjaa
namespace Go.Proofs.Ytbieiehfohldjaa
open Go
set_option linter.unusedVariables false
set_option linter.unusedSimpArgs false

def TD.fields : TD → List (Nat × Nat × Bool)
  | .struct fs => fs
  | _ => []

section
variable {P : Program} {T : TT} {ov : Operand → V} {o : Oper}

theorem field_of (hT : TOk P T) {t : TypeId} {i : TI} {f off size : Nat} {ag : Bool} (ht : T t = some i) (hf : i.d.fields[f]? = some (off, size, ag)) :
    ∃ (fs : Array Field) (fd : Field), P.underlying t = some (.struct fs) ∧ fs[f]? = some fd ∧ fd.offset = off ∧ P.cellsOf fd.type = size ∧ aggOf P fd.type = ag ∧ size ≠ 0 ∧ (∃ x, P.info? fd.type = some x ∧ x.size = size) ∧ (ag = false → size = 1) ∧ (P.underlying fd.type).isSome = true := by
  have hd := (hT t i ht).d
  cases hi : i.d <;> simp [hi, TD.fields] at hf
  rw [hi] at hd
  obtain ⟨fs, hu, hm, hall⟩ := hd
  rw [← hm] at hf
  simp only [List.getElem?_map, Array.getElem?_toList, Option.map_eq_some_iff] at hf
  obtain ⟨fd, hfd, he⟩ := hf
  cases he
  rw [List.all_eq_true] at hall
  have := hall fd (by simpa using Array.mem_of_getElem? hfd)
  simp only [Bool.and_eq_true, bne_iff_ne, ne_eq, Bool.or_eq_true, beq_iff_eq] at this
  obtain ⟨⟨h1, h2⟩, h3⟩ := this
  obtain ⟨x, hx⟩ : ∃ x, P.info? fd.type = some x := by
    cases hq : P.info? fd.type with
    | some x => exact ⟨x, rfl⟩
    | none => simp [Program.underlying, hq] at h1
  refine ⟨fs, fd, hu, hfd, rfl, rfl, rfl, h2, ⟨x, hx, ?_⟩, fun h => ?_, h1⟩
  · simp [Program.cellsOf, hx]
  · rcases h3 with h3 | h3
    · rw [h] at h3; cases h3
    · exact h3

theorem run_fieldAt (hT : TOk P T) {t : TypeId} {i : TI} {f off size : Nat} {ag : Bool} (ht : T t = some i) (hf : i.d.fields[f]? = some (off, size, ag)) (b p : Nat) (w : World) :
    (Instr.fieldAt t (.pointer (some ⟨b, p, none⟩)) f).run P w = .ok (.pointer (some ⟨b, p + off, none⟩)) w := by
  obtain ⟨fs, fd, hu, hfd, h1, h2, h3, h4, ⟨x, hx, hxs⟩, h5, _⟩ := field_of hT ht hf
  subst h1
  simp [Instr.fieldAt, run_underlying hu, hfd, Instr.sureAddr, fieldPlace, sizeOf, typeInfo, hx, hxs, h4, add_at]

theorem lok_fieldAddr (hT : TOk P T) {t : TypeId} {x : Operand} {i : TI} {f off size : Nat} {ag : Bool} {k sz ix p : Nat} (ho : o.op = .fieldAddr t x f) (ht : T t = some i) (hf : i.d.fields[f]? = some (off, size, ag)) (hx : ov x = .ptr k sz ix p) :
    LOk P ov o [] [] [] (.ptr k sz ix (p + off)) :=
  LOk.pure fun S ρ w a hr => by
    rw [ho] at hr
    have e1 := hr x (by simp [Op.operands])
    rw [hx] at e1
    generalize hc : a.eval x = cx at e1
    cases e1 with
    | ptr hk hwp => exact ⟨_, .ptr hk hwp, by simp [execOp, ho, hc, run_fieldAt hT ht hf, Nat.add_assoc]⟩

theorem lok_fieldAddrI (hT : TOk P T) {t : TypeId} {x : Operand} {i : TI} {f off size : Nat} {ag : Bool} {cs : List V} (ho : o.op = .fieldAddr t x f) (ht : T t = some i) (hf : i.d.fields[f]? = some (off, size, ag)) (hx : ov x = .ip cs) (hl : off ≤ cs.length) :
    LOk P ov o [] [] [] (.ip (cs.drop off)) :=
  LOk.pure fun S ρ w a hr => by
    rw [ho] at hr
    have e1 := hr x (by simp [Op.operands])
    rw [hx] at e1
    generalize hc : a.eval x = cx at e1
    cases e1 with
    | ip hS hw hfit hR =>
      rename_i b p c e fr
      refine ⟨.pointer (some ⟨b, p + off, none⟩), .ip hS hw (by simp; omega) (fun j u x h1 h2 => ?_), by simp [execOp, ho, hc, run_fieldAt hT ht hf]⟩
      rw [List.getElem?_drop] at h1
      exact hR (off + j) u x h1 (by rw [← Nat.add_assoc]; exact h2)

/-- part of an aggregate's cells -/
def ptV (off size : Nat) (ag : Bool) (cs : List V) : V := if ag then .agg ((cs.drop off).take size) else (cs.drop off).headD .any

theorem part_rep {S : Nat → Prop} {ρ : KM} {w : World} {t : TypeId} {x : TypeInfo} (hx : P.info? t = some x) (hu : (P.underlying t).isSome = true) {vs : Array Value} {cs : List V} (hl : vs.size = cs.length)
    (h : ∀ (i : Nat) (u : Value) (x : V), vs[i]? = some u → cs[i]? = some x → Rep S ρ w u x) {off : Nat} (hf : off + x.size ≤ cs.length) (h1 : aggOf P t = false → x.size = 1) :
    ∃ u, (part t vs off).run P w = .ok u w ∧ Rep S ρ w u (ptV off x.size (aggOf P t) cs) := by
  obtain ⟨d, hd⟩ := Option.isSome_iff_exists.1 hu
  have hag : (isAgg t).run P w = .ok (aggOf P t) w := by
    simp only [isAgg, Sem.run_bind, run_underlying hd, Result.andThen_ok, aggOf, hd]
    cases d <;> rfl
  unfold part ptV
  simp only [Sem.run_bind, hag, Result.andThen_ok]
  cases ha : aggOf P t with
  | true =>
    simp only [if_true]
    refine ⟨.agg (vs.extract off (off + x.size)), by simp [sizeOf, typeInfo, hx], .agg (by simp; omega) fun j u y a b => ?_⟩
    rw [Array.getElem?_extract] at a
    have hj : j < x.size := by
      rcases Nat.lt_or_ge j x.size with h' | h'
      · exact h'
      · rw [List.getElem?_eq_none (by simp; omega)] at b; cases b
    rw [List.getElem?_take_of_lt hj, List.getElem?_drop] at b
    split at a
    · exact h _ u y a b
    · cases a
  | false =>
    have hs := h1 ha
    have hlt : off < vs.size := by omega
    simp only [Bool.false_eq_true, if_false]
    refine ⟨vs[off], by simp [hlt], ?_⟩
    have hlt' : off < cs.length := by omega
    rw [List.headD_eq_head?_getD, List.head?_drop, List.getElem?_eq_getElem hlt']
    exact h off _ _ (by simp [hlt]) (by simp [hlt'])

theorem lok_field (hT : TOk P T) {t : TypeId} {x : Operand} {i : TI} {f off size : Nat} {ag : Bool} {cs : List V} (ho : o.op = .field t x f) (ht : T t = some i) (hf : i.d.fields[f]? = some (off, size, ag)) (hx : ov x = .agg cs) (hl : off + size ≤ cs.length) :
    LOk P ov o [] [] [] (ptV off size ag cs) :=
  LOk.pure fun S ρ w a hr => by
    rw [ho] at hr
    have e1 := hr x (by simp [Op.operands])
    rw [hx] at e1
    obtain ⟨fs, fd, hu, hfd, h1, h2, h3, h4, ⟨xi, hxi, hxs⟩, h5, hus⟩ := field_of hT ht hf
    generalize hc : a.eval x = cx at e1
    cases e1 with
    | agg hl' hR =>
      rename_i vs
      subst hxs; subst h3; subst h1
      obtain ⟨u, hu', hur⟩ := part_rep (S := S) (ρ := ρ) (w := w) hxi hus hl' hR hl h5
      exact ⟨u, hur, by simp [execOp, ho, hc, Instr.field, run_underlying hu, hfd, asAgg, hu']⟩


theorem run_indexAt_arr (hT : TOk P T) {t e n : Nat} {i ie : TI} (ht : T t = some i) (hd : i.d = .arr n e) (he : T e = some ie) (b p : Nat) (k : IntKind) (j : Int) (h0 : 0 ≤ j) (h1 : j < n) (w : World) :
    (Instr.indexAt t (.pointer (some ⟨b, p, none⟩)) (.int k j)).run P w = .ok (.pointer (some ⟨b, p + j.toNat * ie.size, none⟩)) w := by
  have hu := (hT t i ht).d
  rw [hd] at hu
  simp [Instr.indexAt, run_underlying hu, Instr.sureAddr, asIntOf, h0, h1, (hT e ie he).run_sizeOf, add_at]

theorem lok_idxArr (hT : TOk P T) {t e n : Nat} {x y : Operand} {i ie : TI} {k sz ix p : Nat} {q : IntKind} {j : Int} (ho : o.op = .indexAddr t x y) (ht : T t = some i) (hd : i.d = .arr n e) (he : T e = some ie) (hx : ov x = .ptr k sz ix p) (hy : ov y = .lit (.int q j)) (h0 : 0 ≤ j) (h1 : j < n) :
    LOk P ov o [] [] [] (.ptr k sz ix (p + j.toNat * ie.size)) :=
  LOk.pure fun S ρ w a hr => by
    rw [ho] at hr
    have e1 := hr x (by simp [Op.operands])
    have e2 := hr y (by simp [Op.operands])
    rw [hx] at e1; rw [hy] at e2
    have e2 := e2.lit_inv
    generalize hc : a.eval x = cx at e1
    cases e1 with
    | ptr hk hwp => exact ⟨_, .ptr hk hwp, by simp [execOp, ho, hc, e2, run_indexAt_arr hT ht hd he _ _ q j h0 h1, Nat.add_assoc]⟩

theorem lok_idxArrI (hT : TOk P T) {t e n : Nat} {x y : Operand} {i ie : TI} {cs : List V} {q : IntKind} {j : Int} (ho : o.op = .indexAddr t x y) (ht : T t = some i) (hd : i.d = .arr n e) (he : T e = some ie) (hx : ov x = .ip cs) (hy : ov y = .lit (.int q j)) (h0 : 0 ≤ j) (h1 : j < n) (hl : j.toNat * ie.size ≤ cs.length) :
    LOk P ov o [] [] [] (.ip (cs.drop (j.toNat * ie.size))) :=
  LOk.pure fun S ρ w a hr => by
    rw [ho] at hr
    have e1 := hr x (by simp [Op.operands])
    have e2 := hr y (by simp [Op.operands])
    rw [hx] at e1; rw [hy] at e2
    have e2 := e2.lit_inv
    generalize hc : a.eval x = cx at e1
    cases e1 with
    | ip hS hw hfit hR =>
      rename_i b p c e' fr
      refine ⟨.pointer (some ⟨b, p + j.toNat * ie.size, none⟩), .ip hS hw (by simp; omega) (fun j' u x h1 h2 => ?_), by simp [execOp, ho, hc, e2, run_indexAt_arr hT ht hd he _ _ q j h0 h1]⟩
      rw [List.getElem?_drop] at h1
      exact hR _ u x h1 (by rw [← Nat.add_assoc]; exact h2)

/-- a slice's places as they are, if they never change -/
def V.sl? : V → Option (List (List V))
  | .sl _ l => some l
  | .sls _ l _ _ => some l
  | .lit (.slice none 0 0) => some []
  | _ => none
def V.slz : V → Nat
  | .sl sz _ | .sls sz _ _ _ => sz
  | _ => 0
theorem rep_sl {S : Nat → Prop} {ρ : KM} {w : World} {u : Value} {x : V} {l : List (List V)} (h : Rep S ρ w u x) (hx : x.sl? = some l) : Rep S ρ w u (.sl x.slz l) := by
  unfold V.sl? at hx
  split at hx <;> cases hx
  · exact h
  · cases h; assumption
  · cases h; exact .sl0 (fun _ => rfl)

theorem run_indexAt_sl (hT : TOk P T) {t e : Nat} {i ie : TI} (ht : T t = some i) (hd : i.d = .slice e) (he : T e = some ie) (b p n cap : Nat) (k : IntKind) (j : Int) (h0 : 0 ≤ j) (h1 : j < n) (w : World) :
    (Instr.indexAt t (.slice (some ⟨b, p, none⟩) n cap) (.int k j)).run P w = .ok (.pointer (some ⟨b, p + j.toNat * ie.size, none⟩)) w := by
  have hu := (hT t i ht).d
  rw [hd] at hu
  simp [Instr.indexAt, run_underlying hu, Instr.sureAddr, asIntOf, h0, h1, (hT e ie he).run_sizeOf, add_at]

theorem lok_idxWin (hT : TOk P T) {t e : Nat} {x y : Operand} {i ie : TI} {k sz lo n cp : Nat} {q : IntKind} {j : Int} (ho : o.op = .indexAddr t x y) (ht : T t = some i) (hd : i.d = .slice e) (he : T e = some ie) (hz : ie.size = sz)
    (hx : ov x = .win k sz lo n cp) (hy : ov y = .lit (.int q j)) (h0 : 0 ≤ j) (h1 : j < n) : LOk P ov o [] [] [] (.ptr k sz (lo + j.toNat) 0) :=
  LOk.pure fun S ρ w a hr => by
    rw [ho] at hr
    have e1 := hr x (by simp [Op.operands])
    have e2 := hr y (by simp [Op.operands])
    rw [hx] at e1; rw [hy] at e2
    have e2 := e2.lit_inv
    generalize hc : a.eval x = cx at e1
    cases e1 with
    | win hk hw hn hcp hf hoff =>
      rename_i b off cap c t' fr
      have hoff' : off = lo * sz := by rcases hoff with h | h; · exact h
                                       · omega
      subst hoff'
      refine ⟨.pointer (some ⟨b, (lo + j.toNat) * sz + 0, none⟩), .ptr hk hw, ?_⟩
      simp [execOp, ho, hc, e2, run_indexAt_sl hT ht hd he _ _ _ _ q j h0 h1, hz, Nat.add_mul]
    | win0 => omega

theorem lok_idxSl (hT : TOk P T) {t e : Nat} {x y : Operand} {i ie : TI} {xv : V} {l : List (List V)} {r : List V} {q : IntKind} {j : Int} (ho : o.op = .indexAddr t x y) (ht : T t = some i) (hd : i.d = .slice e) (he : T e = some ie) (hx : ov x = xv) (hl : xv.sl? = some l) (hz : ie.size = xv.slz)
    (hy : ov y = .lit (.int q j)) (h0 : 0 ≤ j) (h1 : j < l.length) (hr : l[j.toNat]? = some r) : LOk P ov o [] [] [] (.ip r) :=
  LOk.pure fun S ρ w a hr' => by
    rw [ho] at hr'
    have e1 := hr' x (by simp [Op.operands])
    have e2 := hr' y (by simp [Op.operands])
    rw [hx] at e1; rw [hy] at e2
    have e2 := e2.lit_inv
    have e1 := rep_sl e1 hl
    rw [← hz] at e1
    generalize hc : a.eval x = cx at e1
    cases e1 with
    | sl0 => simp at h1; omega
    | sl hS hw hzz hcap hf hR =>
      rename_i b off cap c t' fr
      have hrl : r.length = ie.size := hzz r (List.mem_of_getElem? hr)
      have hj : j.toNat < l.length := by omega
      have h2 : (j.toNat + 1) * ie.size ≤ l.length * ie.size := Nat.mul_le_mul_right _ (by omega)
      rw [Nat.add_mul, Nat.one_mul] at h2
      exact ⟨.pointer (some ⟨b, off + j.toNat * ie.size, none⟩), .ip hS hw (by omega) (fun j' u x g1 g2 => hR j.toNat j' r u x hr g1 g2), by
        simp [execOp, ho, hc, e2, run_indexAt_sl hT ht hd he _ _ _ _ q j h0 h1]⟩

theorem lok_index (hT : TOk P T) {t e n : Nat} {x y : Operand} {i ie : TI} {cs : List V} {q : IntKind} {j : Int} (ho : o.op = .index t x y) (ht : T t = some i) (hd : i.d = .arr n e) (he : T e = some ie) (hx : ov x = .agg cs) (hy : ov y = .lit (.int q j)) (h0 : 0 ≤ j) (h1 : j < n) (hl : j.toNat * ie.size + ie.size ≤ cs.length) :
    LOk P ov o [] [] [] (ptV (j.toNat * ie.size) ie.size ie.agg cs) :=
  LOk.pure fun S ρ w a hr => by
    rw [ho] at hr
    have e1 := hr x (by simp [Op.operands])
    have e2 := hr y (by simp [Op.operands])
    rw [hx] at e1; rw [hy] at e2
    have e2 := e2.lit_inv
    generalize hc : a.eval x = cx at e1
    cases e1 with
    | agg hl' hR =>
      have hu := (hT t i ht).d
      rw [hd] at hu
      obtain ⟨xi, hxi, hxs, _⟩ := (hT e ie he).info
      have hag := (hT e ie he).agg
      obtain ⟨u, hu', hur⟩ := part_rep (P := P) (S := S) (ρ := ρ) (w := w) hxi (hT e ie he).some hl' hR (off := j.toNat * ie.size) (by rw [hxs]; exact hl) (fun h => by rw [hxs]; exact (hT e ie he).scal (hag ▸ h))
      rw [hxs, hag] at hur
      exact ⟨u, hur, by simp [execOp, ho, hc, e2, Instr.index, asIntOf, run_underlying hu, h0, h1, (hT e ie he).run_sizeOf, hu']⟩

theorem lok_indexStr (hT : TOk P T) {t : Nat} {x y : Operand} {i : TI} {s : ByteArray} {q : IntKind} {j : Int} {c : UInt8} (ho : o.op = .index t x y) (ht : T t = some i) (hd : i.d = .string) (hx : ov x = .lit (.string s)) (hy : ov y = .lit (.int q j)) (h0 : 0 ≤ j) (h1 : s.data.toList[j.toNat]? = some c) :
    LOk P ov o [] [] [] (.lit (.int .u8 c.toNat)) :=
  LOk.pure fun S ρ w a hr => by
    rw [ho] at hr
    have e1 := hr x (by simp [Op.operands])
    have e2 := hr y (by simp [Op.operands])
    rw [hx] at e1; rw [hy] at e2
    have e1 := e1.lit_inv
    have e2 := e2.lit_inv
    have hu := (hT t i ht).d
    rw [hd] at hu
    have hb : s[j.toNat]? = some c := by
      rw [← h1]
      cases s with | mk d =>
      rw [Array.getElem?_toList]
      by_cases h : j.toNat < d.size
      · rw [getElem?_pos (⟨d⟩ : ByteArray) j.toNat h, getElem?_pos d j.toNat h]; rfl
      · rw [getElem?_neg (⟨d⟩ : ByteArray) j.toNat h, getElem?_neg d j.toNat h]
    exact ⟨_, .lit rfl, by simp [execOp, ho, e1, e2, Instr.index, asIntOf, run_underlying hu, h0, hb]⟩

end
end Go.Proofs.Ytbieiehfohldjaa
namespace Go.Proofs.Ytbieiehfohldjaa
open Go
set_option linter.unusedVariables false
set_option linter.unusedSimpArgs false

/-- a bound of a slice expression -/
def bndV (ov : Operand → V) (d : Nat) : Option Operand → Option Nat
  | none => some d
  | some x => match ov x with
    | .lit (.int _ n) => if 0 ≤ n then some n.toNat else none
    | _ => none

section
variable {P : Program} {T : TT} {ov : Operand → V} {o : Oper}

theorem run_sliceBound {k : IntKind} {n : Int} {y : Nat} {code : BoundsCode} {w : World} (h0 : 0 ≤ n) (h1 : n.toNat ≤ y) : (Instr.sliceBound (.int k n) y code).run P w = .ok n.toNat w := by
  have : n ≤ (y : Int) := by omega
  simp [Instr.sliceBound, asIntOf, h0, this]

theorem bnd_of {S : Nat → Prop} {ρ : KM} {w : World} {a : Act} {x : Operand} {d n : Nat} (hr : Rep S ρ w (a.eval x) (ov x)) (hb : bndV ov d (some x) = some n) : ∃ k q, a.eval x = .int k q ∧ 0 ≤ q ∧ q.toNat = n := by
  simp only [bndV] at hb
  split at hb
  · rename_i k q hq
    rw [hq] at hr
    split at hb
    · rename_i h0
      cases hb
      exact ⟨_, _, hr.lit_inv, h0, rfl⟩
    · cases hb
  · cases hb

/-- both bounds, and the third -/
theorem run_bounds {isS : Bool} {len cap : Nat} {lo hi mx : Option Operand} {a : Act} {S : Nat → Prop} {ρ : KM} {w : World} {l h m : Nat}
    (r1 : ∀ x, lo = some x → Rep S ρ w (a.eval x) (ov x)) (r2 : ∀ x, hi = some x → Rep S ρ w (a.eval x) (ov x)) (r3 : ∀ x, mx = some x → Rep S ρ w (a.eval x) (ov x))
    (hl : bndV ov 0 lo = some l) (hh : bndV ov len hi = some h) (hm : bndV ov cap mx = some m) (h1 : l ≤ h) (h2 : h ≤ m) (h3 : m ≤ cap) (hx : mx.isSome = true → hi.isSome = true) :
    (Instr.sliceBounds isS len cap (lo.map a.eval) (hi.map a.eval) (mx.map a.eval)).run P w = .ok (l, h, m) w := by
  cases mx with
  | none =>
    simp only [bndV, Option.some.injEq] at hm; subst hm
    cases hi with
    | none =>
      simp only [bndV, Option.some.injEq] at hh; subst hh
      cases lo with
      | none => simp only [bndV, Option.some.injEq] at hl; subst hl; simp [Instr.sliceBounds]
      | some x =>
        obtain ⟨k, q, e, q0, q1⟩ := bnd_of (r1 x rfl) hl
        simp only [Instr.sliceBounds, Option.map_some, Option.map_none, e, Sem.run_bind, Sem.run_pure, Result.andThen_ok]
        rw [run_sliceBound q0 (by omega), q1]; rfl
    | some y =>
      obtain ⟨k', q', e', q0', q1'⟩ := bnd_of (r2 y rfl) hh
      cases lo with
      | none =>
        simp only [bndV, Option.some.injEq] at hl; subst hl
        simp only [Instr.sliceBounds, Option.map_some, Option.map_none, e', Sem.run_bind, Sem.run_pure, Result.andThen_ok]
        rw [run_sliceBound q0' (by omega), q1']; rfl
      | some x =>
        obtain ⟨k, q, e, q0, q1⟩ := bnd_of (r1 x rfl) hl
        simp only [Instr.sliceBounds, Option.map_some, Option.map_none, e, e', Sem.run_bind, Sem.run_pure, Result.andThen_ok]
        rw [run_sliceBound q0' (by omega), q1']
        simp only [Result.andThen_ok]
        rw [run_sliceBound q0 (by omega), q1]; rfl
  | some z =>
    obtain ⟨k'', q'', e'', q0'', q1''⟩ := bnd_of (r3 z rfl) hm
    cases hi with
    | none => simp at hx
    | some y =>
      obtain ⟨k', q', e', q0', q1'⟩ := bnd_of (r2 y rfl) hh
      cases lo with
      | none =>
        simp only [bndV, Option.some.injEq] at hl; subst hl
        simp only [Instr.sliceBounds, Option.map_some, Option.map_none, e', e'', Sem.run_bind, Sem.run_pure, Result.andThen_ok]
        rw [run_sliceBound q0'' (by omega), q1'']
        simp only [Result.andThen_ok]
        rw [run_sliceBound q0' (by omega), q1']; rfl
      | some x =>
        obtain ⟨k, q, e, q0, q1⟩ := bnd_of (r1 x rfl) hl
        simp only [Instr.sliceBounds, Option.map_some, Option.map_none, e, e', e'', Sem.run_bind, Sem.run_pure, Result.andThen_ok]
        rw [run_sliceBound q0'' (by omega), q1'']
        simp only [Result.andThen_ok]
        rw [run_sliceBound q0' (by omega), q1']
        simp only [Result.andThen_ok]
        rw [run_sliceBound q0 (by omega), q1]; rfl

theorem lok_sliceStr (hT : TOk P T) {t : Nat} {x : Operand} {lo hi : Option Operand} {i : TI} {s : ByteArray} {l h : Nat} (ho : o.op = .slice t x lo hi none) (ht : T t = some i) (hd : i.d = .string) (hx : ov x = .lit (.string s))
    (hl : bndV ov 0 lo = some l) (hh : bndV ov s.size hi = some h) (h1 : l ≤ h) (h2 : h ≤ s.size) : LOk P ov o [] [] [] (.lit (.string (s.extract l h))) :=
  LOk.pure fun S ρ w a hr => by
    rw [ho] at hr
    have e1 := hr x (by simp [Op.operands])
    rw [hx] at e1
    have e1 := e1.lit_inv
    have hu := (hT t i ht).d
    rw [hd] at hu
    have hb := run_bounds (P := P) (isS := false) (len := s.size) (cap := s.size) (mx := none) (a := a) (S := S) (ρ := ρ) (w := w) (fun y hy => hr y (by simp [Op.operands, hy])) (fun y hy => hr y (by simp [Op.operands, hy])) (fun y hy => by cases hy)
      hl hh (m := s.size) rfl h1 h2 (Nat.le_refl _) (by simp)
    exact ⟨_, .lit rfl, by
      simp only [execOp, ho, e1, Instr.sliceAt, Sem.run_bind, run_underlying hu, Result.andThen_ok, Instr.slice, Option.map_none, Option.isSome_none, Bool.false_eq_true, if_false]
      simp only [Option.map_none] at hb
      simp only [Sem.run_bind, hb, Result.andThen_ok, Sem.run_pure]⟩

theorem rep_take {S : Nat → Prop} {ρ : KM} {w : World} {ad : Addr} {n cap sz l h m : Nat} {L : List (List V)} (hr : Rep S ρ w (.slice (some ad) n cap) (.sl sz L)) (h1 : l ≤ h) (h2 : h ≤ L.length) (h3 : h ≤ m) (h4 : m ≤ cap) :
    Rep S ρ w (.slice (some (if m = l then ad else ad.add (l * sz))) (h - l) (m - l)) (.sl sz ((L.take h).drop l)) := by
  have hlen : ((L.take h).drop l).length = h - l := by simp; omega
  cases hr with
  | sl0 =>
    have : h - l = 0 := by simp at h2; omega
    rw [this]
    simpa using Rep.sl0 (by simp)
  | sl hS hw hz hc hf hR =>
    rename_i b off c t fr
    rw [← hlen]
    by_cases hm : m = l
    · have : (L.take h).drop l = [] := List.length_eq_zero_iff.1 (by omega)
      rw [this]
      exact .sl0 (by simp)
    · rw [if_neg hm, add_at]
      have h2' : h * sz ≤ L.length * sz := Nat.mul_le_mul_right sz h2
      refine .sl hS hw (fun r hr => hz r (List.mem_of_mem_take (List.mem_of_mem_drop hr))) (by omega) (by rw [hlen, Nat.sub_mul]; have := Nat.mul_le_mul_right sz h1; omega) fun i j r u x g1 g2 g3 => ?_
      rw [List.getElem?_drop] at g1
      have hi : l + i < h := by
        rcases Nat.lt_or_ge (l + i) h with h' | h'
        · exact h'
        · rw [List.getElem?_eq_none (by simp; omega)] at g1; cases g1
      rw [List.getElem?_take_of_lt hi] at g1
      exact hR (l + i) j r u x g1 g2 (by rw [Nat.add_mul, ← Nat.add_assoc]; exact g3)

/-- some places of a slice that never changes -/
theorem lok_sliceSl (hT : TOk P T) {t e : Nat} {x : Operand} {lo hi : Option Operand} {i ie : TI} {xv : V} {L : List (List V)} {l h : Nat} (ho : o.op = .slice t x lo hi none) (ht : T t = some i) (hd : i.d = .slice e) (he : T e = some ie) (hx : ov x = xv) (hL : xv.sl? = some L) (hz : ie.size = xv.slz ∨ L = [])
    (hl : bndV ov 0 lo = some l) (hh : bndV ov L.length hi = some h) (h1 : l ≤ h) (h2 : h ≤ L.length) : LOk P ov o [] [] [] (.sl ie.size ((L.take h).drop l)) :=
  LOk.pure fun S ρ w a hr => by
    rw [ho] at hr
    have e1 := hr x (by simp [Op.operands])
    rw [hx] at e1
    have e1 := rep_sl e1 hL
    have hu := (hT t i ht).d
    rw [hd] at hu
    have q : ∃ ad cap, a.eval x = .slice ad L.length cap ∧ L.length ≤ cap := by
      generalize a.eval x = cx at e1
      cases e1 with
      | sl0 => exact ⟨_, _, rfl, by simp⟩
      | sl hS hw hz hc hf hR => exact ⟨_, _, rfl, hc⟩
    obtain ⟨ad, cap, hc, hcap⟩ := q
    rw [hc] at e1
    have hb := run_bounds (P := P) (isS := true) (len := L.length) (cap := cap) (mx := none) (a := a) (S := S) (ρ := ρ) (w := w) (fun y hy => hr y (by simp [Op.operands, hy])) (fun y hy => hr y (by simp [Op.operands, hy])) (fun y hy => by cases hy)
      hl hh (m := cap) rfl h1 (by omega) (Nat.le_refl _) (by simp)
    simp only [Option.map_none] at hb
    refine ⟨.slice (if cap = l then ad else ad.map (·.add (l * ie.size))) (h - l) (cap - l), ?_, ?_⟩
    · rcases hz with hz | hz
      · rw [hz]
        cases ad with
        | none =>
          generalize hL0 : L.length = n at *
          have : L = [] ∧ cap = 0 := by
            cases e1 with
            | sl0 ha => exact ⟨rfl, ha rfl⟩
          obtain ⟨this, hcap0⟩ := this
          subst this
          have : h - l = 0 := by simp at hL0; omega
          rw [this]
          simpa using Rep.sl0 (fun _ => by omega)
        | some ad =>
          have := rep_take e1 h1 h2 (m := cap) (by omega) (Nat.le_refl _)
          rw [show (if cap = l then some ad else (some ad).map (·.add (l * xv.slz))) = some (if cap = l then ad else ad.add (l * xv.slz)) from by split <;> rfl]
          exact this
      · subst hz
        have : h - l = 0 := by simp at h2; omega
        rw [this]
        rw [List.take_nil, List.drop_nil]
        refine Rep.sl0 (fun hn => ?_)
        have hl0 : l = 0 := by simp at h2; omega
        subst hl0
        cases ad with
        | some ad => by_cases hc0 : cap = 0 <;> simp [hc0] at hn
        | none =>
          generalize hv : Value.slice none ([] : List (List V)).length cap = v at e1
          cases e1 with
          | sl0 ha => cases hv; simpa using ha rfl
          | sl h1 h2 h3 h4 h5 h6 => cases hv
    · simp only [execOp, ho, hc, Instr.sliceAt, Sem.run_bind, run_underlying hu, Result.andThen_ok, Instr.slice, Option.map_none, hb, (hT e ie he).run_sizeOf, Sem.run_pure]

/-- some places of an object's -/
theorem lok_sliceWin (hT : TOk P T) {t e : Nat} {x : Operand} {lo hi : Option Operand} {i ie : TI} {k sz w0 n cp l h : Nat} (ho : o.op = .slice t x lo hi none) (ht : T t = some i) (hd : i.d = .slice e) (he : T e = some ie) (hx : ov x = .win k sz w0 n cp) (hz : ie.size = sz)
    (hl : bndV ov 0 lo = some l) (hh : bndV ov n hi = some h) (h1 : l ≤ h) (h2 : h ≤ cp) : LOk P ov o [] [] [] (.win k sz (w0 + l) (h - l) (cp - l)) :=
  LOk.pure fun S ρ w a hr => by
    rw [ho] at hr
    have e1 := hr x (by simp [Op.operands])
    rw [hx] at e1
    have hu := (hT t i ht).d
    rw [hd] at hu
    have q : ∃ (ad : Option Addr) (cap : Nat), a.eval x = .slice ad n cap ∧ cp ≤ cap ∧ Rep S ρ w (.slice (if cap = l then ad else ad.map (·.add (l * sz))) (h - l) (cap - l)) (.win k sz (w0 + l) (h - l) (cp - l)) := by
      generalize a.eval x = cx at e1
      cases e1 with
      | win hk hw hn hc hf hoff =>
        rename_i b off cap c t' fr
        refine ⟨_, _, rfl, hc, ?_⟩
        by_cases hm : cap = l
        · rw [if_pos hm]
          exact .win hk hw (by omega) (by omega) (by have := Nat.mul_le_mul_right sz (Nat.sub_le cap l); omega) (.inr (by omega))
        · rw [if_neg hm, Option.map_some, add_at]
          refine .win hk hw (by omega) (by omega) ?_ ?_
          · rw [Nat.sub_mul]
            have := Nat.mul_le_mul_right sz (show l ≤ cap by omega)
            omega
          · rcases hoff with h | h
            · left; rw [h, Nat.add_mul]
            · right; omega
      | win0 =>
        refine ⟨_, _, rfl, Nat.le_refl _, ?_⟩
        have : l = 0 := by omega
        subst this
        have : h = 0 := by omega
        subst this
        exact .win0
    obtain ⟨ad, cap, hc, hcap, hrep⟩ := q
    have hb := run_bounds (P := P) (isS := true) (len := n) (cap := cap) (mx := none) (a := a) (S := S) (ρ := ρ) (w := w) (fun y hy => hr y (by simp [Op.operands, hy])) (fun y hy => hr y (by simp [Op.operands, hy])) (fun y hy => by cases hy)
      hl hh (m := cap) rfl h1 (by omega) (Nat.le_refl _) (by simp)
    simp only [Option.map_none] at hb
    refine ⟨_, hrep, ?_⟩
    simp only [execOp, ho, hc, Instr.sliceAt, Sem.run_bind, run_underlying hu, Result.andThen_ok, Instr.slice, Option.map_none, hb, (hT e ie he).run_sizeOf, Sem.run_pure, hz]
    done

/-- 's[:n:n]' of one that never changes: nothing behind it -/
theorem lok_clip (hT : TOk P T) {t e : Nat} {x y z : Operand} {i ie : TI} {xv : V} {L : List (List V)} {h : Nat} (ho : o.op = .slice t x none (some y) (some z)) (ht : T t = some i) (hd : i.d = .slice e) (he : T e = some ie) (hx : ov x = xv) (hL : xv.sl? = some L)
    (hh : bndV ov L.length (some y) = some h) (hm : bndV ov L.length (some z) = some h) (h2 : h ≤ L.length) : LOk P ov o [] [] [] (.sls xv.slz (L.take h) false true) :=
  LOk.pure fun S ρ w a hr => by
    rw [ho] at hr
    have e0 := hr x (by simp [Op.operands])
    rw [hx] at e0
    have e1 := rep_sl e0 hL
    have hu := (hT t i ht).d
    rw [hd] at hu
    have q : ∃ ad cap, a.eval x = .slice ad L.length cap ∧ L.length ≤ cap := by
      generalize a.eval x = cx at e1
      cases e1 with
      | sl0 => exact ⟨_, _, rfl, by simp⟩
      | sl hS hw hz hc hf hR => exact ⟨_, _, rfl, hc⟩
    obtain ⟨ad, cap, hc, hcap⟩ := q
    rw [hc] at e1
    have hb := run_bounds (P := P) (isS := true) (len := L.length) (cap := cap) (lo := none) (a := a) (S := S) (ρ := ρ) (w := w) (fun y hy => by cases hy) (fun y hy => hr y (by simp [Op.operands, hy])) (fun y hy => hr y (by simp [Op.operands, hy]))
      (hi := some y) (mx := some z) (l := 0) (h := h) (m := h) rfl hh (by simpa [bndV] using hm) (Nat.zero_le _) (Nat.le_refl _) (by omega) (by simp)
    simp only [Option.map_none, Option.map_some] at hb
    refine ⟨.slice ad h h, .sls ?_ (fun h => by cases h) (fun _ => rfl), ?_⟩
    · cases ad with
      | none =>
        generalize hL0 : L.length = n at *
        have : L = [] := by
          cases e1 with
          | sl0 => rfl
        subst this
        have : h = 0 := by simp at hL0; omega
        subst this
        exact .sl0 (fun _ => rfl)
      | some ad =>
        have := rep_take e1 (Nat.zero_le h) h2 (Nat.le_refl _) (show h ≤ cap by omega)
        simp only [Nat.zero_mul, Nat.sub_zero, List.drop_zero, Addr.add_zero', ite_self] at this
        exact this
    · simp only [execOp, ho, hc, Instr.sliceAt, Sem.run_bind, run_underlying hu, Result.andThen_ok, Instr.slice, Option.map_none, Option.map_some, hb, (hT e ie he).run_sizeOf, Sem.run_pure, Nat.sub_zero, Nat.zero_mul]
      congr 2
      split
      · rfl
      · cases ad <;> simp [Addr.add_zero']

end
end Go.Proofs.Ytbieiehfohldjaa
namespace Go.Proofs.Ytbieiehfohldjaa
open Go
set_option linter.unusedVariables false
set_option linter.unusedSimpArgs false

def V.isAny : V → Bool
  | .any => true
  | _ => false
theorem V.ne_any {x : V} (h : x.isAny = false) : x ≠ .any := by rintro rfl; cases h

/-- cells filled in, part by part -/
def fillV (place : Nat → Option (Nat × Nat)) (cells : List V) : List (Nat × V) → Option (List V)
  | [] => some cells
  | (i, v) :: rest =>
    match place i with
    | none => none
    | some (off, size) => if v.cells.length = size ∧ off + size ≤ cells.length ∧ v.isAny = false then fillV place (spl cells off v.cells) rest else none

theorem foldl_wr (l : List Value) (off : Nat) : ∀ (k : Nat) (c : Array Value), (l.zipIdx k).foldl (fun cs (x : Value × Nat) => cs.setIfInBounds (off + x.2) x.1) c = wr c (off + k) l := by
  induction l with
  | nil => intro k c; rfl
  | cons v l ih => intro k c; simp only [List.zipIdx_cons, List.foldl_cons, wr]; rw [ih]; rfl
theorem foldl_wrA (vs : Array Value) (off : Nat) (c : Array Value) : vs.zipIdx.foldl (fun cs (x : Value × Nat) => cs.setIfInBounds (off + x.2) x.1) c = wr c off vs.toList := by
  rw [← Array.foldl_toList, Array.toList_zipIdx]
  exact foldl_wr vs.toList off 0 c

/-- cells by value -/
def CRep (S : Nat → Prop) (ρ : KM) (w : World) (c : Array Value) (cs : List V) : Prop := c.size = cs.length ∧ ∀ (i : Nat) (u : Value) (x : V), c[i]? = some u → cs[i]? = some x → Rep S ρ w u x

theorem fill_rep {S : Nat → Prop} {ρ : KM} {w : World} {place : Nat → Option (Nat × Nat)} : ∀ (ps : List (Nat × Value)) (qs : List (Nat × V)) (c : Array Value) (cs cs' : List V), CRep S ρ w c cs →
    ps.length = qs.length → (∀ (n : Nat) (p : Nat × Value) (q : Nat × V), ps[n]? = some p → qs[n]? = some q → p.1 = q.1 ∧ Rep S ρ w p.2 q.2) → fillV place cs qs = some cs' →
    ∃ c', Instr.fill place c ps = some c' ∧ CRep S ρ w c' cs'
  | [], qs, c, cs, cs', hc, hl, hr, hf => by
    cases qs with
    | nil => simp only [fillV, Option.some.injEq] at hf; subst hf; exact ⟨c, rfl, hc⟩
    | cons q qs => simp at hl
  | p :: ps, qs, c, cs, cs', hc, hl, hr, hf => by
    cases qs with
    | nil => simp at hl
    | cons q qs =>
      obtain ⟨i, u⟩ := p
      obtain ⟨i', v⟩ := q
      obtain ⟨e, hrep⟩ := hr 0 _ _ rfl rfl
      simp only at e hrep
      subst e
      simp only [fillV] at hf
      cases hp : place i with
      | none => rw [hp] at hf; cases hf
      | some os =>
        obtain ⟨off, size⟩ := os
        rw [hp] at hf
        simp only at hf
        split at hf
        · rename_i hcond
          obtain ⟨h1, h2, h3⟩ := hcond
          obtain ⟨g1, g2⟩ := hrep.cells (V.ne_any h3)
          have hw : CRep S ρ w (wr c off u.cells.toList) (spl cs off v.cells) := by
            refine ⟨by rw [wr_size, spl_length (by omega)]; exact hc.1, fun j a x q1 q2 => ?_⟩
            rw [wr_get _ _ _ _ (by simp [g1]; have := hc.1; omega)] at q1
            rw [spl_get (by omega)] at q2
            simp only [Array.length_toList, g1] at q1
            by_cases hj : off ≤ j ∧ j < off + v.cells.length
            · rw [if_pos hj, Array.getElem?_toList] at q1
              rw [if_pos hj] at q2
              exact g2 _ _ _ q1 q2
            · rw [if_neg hj] at q1 q2
              exact hc.2 _ _ _ q1 q2
          obtain ⟨c', hc', hr'⟩ := fill_rep ps qs _ _ cs' hw (by simpa using hl) (fun n p q a b => hr (n + 1) p q (by simpa using a) (by simpa using b)) hf
          refine ⟨c', ?_, hr'⟩
          simp only [Instr.fill, hp]
          have hcs := hc.1
          have hnot : ¬ (u.cells.size ≠ size ∨ off + u.cells.size > c.size) := by omega
          rw [if_neg (by simp only [Bool.or_eq_true, decide_eq_true_eq]; exact hnot), ← hc']
          congr 1
          exact foldl_wrA u.cells off c
        · cases hf

section
variable {P : Program} {T : TT} {ov : Operand → V} {o : Oper}

def TD.place (d : TD) (esz : Nat) : Nat → Option (Nat × Nat) :=
  match d with
  | .struct fs => fun i => (fs[i]?).map fun x => (x.1, x.2.1)
  | _ => fun i => some (i * esz, esz)

theorem mapM_places (fs : List Field) (w : World) (h : ∀ f ∈ fs, ∃ x, P.info? f.type = some x) :
    (fs.mapM fun f => do pure (f.offset, ← sizeOf f.type) : Sem (List (Nat × Nat))).run P w = .ok (fs.map fun f => (f.offset, P.cellsOf f.type)) w := by
  induction fs with
  | nil => rfl
  | cons f fs ih =>
    obtain ⟨x, hx⟩ := h f (by simp)
    have hsz : (sizeOf f.type).run P w = .ok (P.cellsOf f.type) w := by simp [sizeOf, typeInfo, hx, Program.cellsOf]
    simp only [List.mapM_cons, Sem.run_bind, hsz, Result.andThen_ok, Sem.run_pure]
    rw [ih (fun g hg => h g (by simp [hg]))]
    rfl

theorem run_build (hT : TOk P T) {t : TypeId} {i : TI} (ht : T t = some i) {esz : Nat} (hd : (∃ fs, i.d = .struct fs) ∨ ∃ n e ie, i.d = .arr n e ∧ T e = some ie ∧ ie.size = esz) {S : Nat → Prop} {ρ : KM} {w : World}
    (ps : Array (Nat × Value)) (qs : List (Nat × V)) (hl : ps.size = qs.length) (hr : ∀ (n : Nat) (p : Nat × Value) (q : Nat × V), ps[n]? = some p → qs[n]? = some q → p.1 = q.1 ∧ Rep S ρ w p.2 q.2) {cs : List V}
    (hf : fillV (i.d.place esz) i.zero qs = some cs) : ∃ c, (Instr.build t ps).run P w = .ok (.agg c) w ∧ CRep S ρ w c cs := by
  obtain ⟨z, hz, hz'⟩ := (hT t i ht).run_zero w
  have hzr := zero_rep (S := S) (ρ := ρ) (w := w) (hT t i ht) hz'
  have hc : CRep S ρ w z.cells i.zero := ⟨by rw [hzr.1]; simp [(hT t i ht).zlen], hzr.2⟩
  obtain ⟨c', h1, h2⟩ := fill_rep ps.toList qs z.cells _ cs hc (by simpa using hl) (fun n p q a b => hr n p q (by simpa using a) b) hf
  have hu := (hT t i ht).d
  rcases hd with ⟨fs, hd⟩ | ⟨n, e, ie, hd, he, hes⟩
  · rw [hd] at hu h1
    obtain ⟨f, hu, hm, hall⟩ := hu
    refine ⟨c', ?_, h2⟩
    have hinfo : ∀ g ∈ f.toList, ∃ x, P.info? g.type = some x := fun g hg => by
      rw [List.all_eq_true] at hall
      have := hall g hg
      simp only [Bool.and_eq_true] at this
      cases hq : P.info? g.type with
      | some x => exact ⟨x, rfl⟩
      | none => simp [Program.underlying, hq] at this
    have hmm : (f.mapM fun f => do pure (f.offset, ← sizeOf f.type) : Sem (Array (Nat × Nat))).run P w = .ok (f.toList.map fun f => (f.offset, P.cellsOf f.type)).toArray w := by
      rw [Array.mapM_eq_mapM_toList, Sem.run_map, mapM_places f.toList w hinfo]
      rfl
    have hpl : ∀ i : Nat, ((f.toList.map fun f => (f.offset, P.cellsOf f.type)).toArray)[i]? = (TD.struct fs).place esz i := fun i => by
      simp only [TD.place, ← hm, List.getElem?_toArray, List.getElem?_map, Option.map_map]
      rfl
    simp only [Instr.build, Sem.run_bind, hz, Result.andThen_ok, run_underlying hu, hmm]
    have : (fun x => (f.toList.map fun f => (f.offset, P.cellsOf f.type)).toArray[x]?) = (TD.struct fs).place esz := funext hpl
    rw [this, h1]
    rfl
  · rw [hd] at hu h1
    refine ⟨c', ?_, h2⟩
    simp only [Instr.build, Sem.run_bind, hz, Result.andThen_ok, run_underlying hu, (hT e ie he).run_sizeOf, hes]
    have : (fun i => some (i * esz, esz)) = (TD.arr n e).place esz := rfl
    rw [this, h1]
    rfl

theorem lok_build (hT : TOk P T) {t : TypeId} {i : TI} {ps : Array (Nat × Operand)} {esz : Nat} {qs : List (Nat × V)} {cs : List V} (ho : o.op = .build t ps) (ht : T t = some i)
    (hd : (∃ fs, i.d = .struct fs) ∨ ∃ n e ie, i.d = .arr n e ∧ T e = some ie ∧ ie.size = esz) (hq : (ps.toList.map fun p => (p.1, ov p.2)) = qs) (hf : fillV (i.d.place esz) i.zero qs = some cs) : LOk P ov o [] [] [] (.agg cs) :=
  LOk.pure fun S ρ w a hr => by
    rw [ho] at hr
    obtain ⟨c, h1, h2⟩ := run_build hT ht hd (S := S) (ρ := ρ) (w := w) (ps.map fun (i, x) => (i, a.eval x)) qs (by rw [← hq]; simp) (fun n p q h1 h2 => by
      rw [← hq] at h2
      simp only [Array.getElem?_map, List.getElem?_map, Array.getElem?_toList, Option.map_eq_some_iff] at h1 h2
      obtain ⟨p', hp', rfl⟩ := h1
      obtain ⟨q', hq', rfl⟩ := h2
      rw [hp'] at hq'
      cases hq'
      exact ⟨rfl, hr p'.2 (by simp only [Op.operands, List.mem_map]; exact ⟨p', by simpa using Array.mem_of_getElem? hp', rfl⟩)⟩) hf
    exact ⟨.agg c, .agg h2.1 h2.2, by simp [execOp, ho, h1]⟩

/-- cells of rows -/
theorem rows_of_flat {S : Nat → Prop} {ρ : KM} {w : World} {c : Array Value} {sz : Nat} {rows : List (List V)} (hz : ∀ r ∈ rows, r.length = sz) (h : CRep S ρ w c rows.flatten) : RowsAt S ρ w sz rows c := by
  have hlen : rows.flatten.length = rows.length * sz := by
    clear h
    induction rows with
    | nil => simp
    | cons r rows ih =>
      simp only [List.flatten_cons, List.length_append, List.length_cons]
      rw [ih (fun r hr => hz r (by simp [hr])), hz r (by simp), Nat.add_mul, Nat.one_mul, Nat.add_comm]
  have hget : ∀ (rows : List (List V)), (∀ r ∈ rows, r.length = sz) → ∀ (i j : Nat) (r : List V) (x : V), rows[i]? = some r → r[j]? = some x → rows.flatten[i * sz + j]? = some x := by
    intro rows
    induction rows with
    | nil => intro _ i j r x h1; simp at h1
    | cons r0 rows ih =>
      intro hz i j r x h1 h2
      have hr0 : r0.length = sz := hz r0 (by simp)
      cases i with
      | zero =>
        simp only [List.getElem?_cons_zero, Option.some.injEq] at h1
        subst h1
        have hj : j < r0.length := (List.getElem?_eq_some_iff.1 h2).1
        rw [Nat.zero_mul, Nat.zero_add, List.flatten_cons, List.getElem?_append_left hj]
        exact h2
      | succ i =>
        rw [List.getElem?_cons_succ] at h1
        rw [List.flatten_cons, List.getElem?_append_right (by rw [Nat.add_mul, Nat.one_mul]; omega)]
        rw [show (i + 1) * sz + j - r0.length = i * sz + j by rw [Nat.add_mul, Nat.one_mul]; omega]
        exact ih (fun r hr => hz r (by simp [hr])) i j r x h1 h2
  exact ⟨hz, by rw [h.1, hlen]; exact Nat.le_refl _, fun i j r u x h1 h2 h3 => h.2 _ u x h3 (hget rows hz i j r x h1 h2)⟩

theorem range_zero_get (z : Array Value) (n k : Nat) (hz : z.size ≠ 0) (hn : n = k * z.size) (i : Nat) : ((Array.range n).map (fun i => z[i % z.size]!))[i]? = if i < n then z[i % z.size]? else none := by
  simp only [Array.getElem?_map]
  by_cases hi : i < n
  · rw [if_pos hi]
    have hr : (Array.range n)[i]? = some i := by simp [hi]
    have hm : i % z.size < z.size := Nat.mod_lt _ (by omega)
    rw [hr, Option.map_some, getElem!_pos z _ hm, getElem?_pos z _ hm]
  · rw [if_neg hi]
    rw [Array.getElem?_eq_none (by simpa using hi)]
    rfl

theorem zero_rows {S : Nat → Prop} {ρ : KM} {w : World} {t : TypeId} {i : TI} (h : TIOk P t i) {z : Value} (hz : zAll z.cells.toList i.zero = true) (k : Nat) :
    RowsAt S ρ w i.size (List.replicate k i.zero) ((Array.range (k * i.size)).map (fun j => z.cells[j % z.cells.size]!)) ∧ ((Array.range (k * i.size)).map (fun j => z.cells[j % z.cells.size]!)).size = k * i.size := by
  obtain ⟨h1, h2⟩ := zero_rep (S := S) (ρ := ρ) (w := w) h hz
  have hpos := h.pos
  refine ⟨⟨fun r hr => ?_, by simp, fun a b r u x q1 q2 q3 => ?_⟩, by simp⟩
  · rw [List.mem_replicate] at hr
    rw [hr.2]; simp [h.zlen]
  · rw [List.getElem?_replicate] at q1
    split at q1
    · rename_i ha
      cases q1
      have hb : b < i.size := by rw [← h.zlen]; simpa using (List.getElem?_eq_some_iff.1 q2).1
      rw [range_zero_get z.cells (k * i.size) k (by omega) (by rw [h1])] at q3
      split at q3
      · rw [h1, Nat.mul_comm a, Nat.mul_add_mod, Nat.mod_eq_of_lt hb] at q3
        exact h2 b u x q3 q2
      · cases q3
    · cases q1

theorem win_new {S : Nat → Prop} {ρ : KM} {w : World} {k b sz n cp : Nat} {c : Array Value} {t : TypeId} (h : ρ k = some b) (hw : w.heap[b]? = some (.cells c t (0, 0))) (h1 : n ≤ cp) (h2 : cp * sz ≤ c.size) : Rep S ρ w (.slice (some ⟨b, 0, none⟩) n cp) (.win k sz 0 n cp) :=
  .win h hw h1 (Nat.le_refl _) (by omega) (.inl (by simp))

theorem wrap_small {n : Int} (h0 : 0 ≤ n) (h1 : n ≤ 2 ^ 48) : IntKind.i64.wrap n = n := by
  have e : n % (2 ^ 64 : Int) = n := Int.emod_eq_of_lt h0 (by omega)
  simp only [IntKind.wrap, IntKind.bits, IntKind.signed, e]
  rw [if_neg (by simp; omega)]

theorem lok_makeSlice (hT : TOk P T) {t e : Nat} {x y : Operand} {i ie : TI} {κ : Nat} {q q' : IntKind} {n c : Int} (ho : o.op = .makeSlice t x y) (ht : T t = some i) (hd : i.d = .slice e) (he : T e = some ie) (hx : ov x = .lit (.int q n)) (hy : ov y = .lit (.int q' c))
    (h0 : 0 ≤ n) (h1 : n ≤ c) (h2 : c ≤ 2 ^ 48) (h3 : ie.bytes * c ≤ 2 ^ 48) :
    LOk P ov o [] [] [(κ, ⟨ie.size, List.replicate c.toNat ie.zero, false⟩)] (.win κ ie.size 0 n.toNat c.toNat) :=
  LOk.new rfl fun S ρ w a hr hs => by
    rw [ho] at hr
    have e1 := hr x (by simp [Op.operands])
    have e2 := hr y (by simp [Op.operands])
    rw [hx] at e1; rw [hy] at e2
    have e1 := e1.lit_inv
    have e2 := e2.lit_inv
    have hu := (hT t i ht).d
    rw [hd] at hu
    obtain ⟨z, hz, hz'⟩ := (hT e ie he).run_zero w
    obtain ⟨ti, hti, hb, hsz⟩ := (hT e ie he).run_typeInfo w
    obtain ⟨hrow, hrs⟩ := zero_rows (S := S) (ρ := ρ) (w := w) (hT e ie he) hz' c.toNat
    have wn := wrap_small h0 (by omega)
    have wc := wrap_small (show 0 ≤ c by omega) h2
    have hszr := (hT e ie he).run_sizeOf w
    refine ⟨w.alloc (.cells ((Array.range (c.toNat * ie.size)).map (fun j => z.cells[j % z.cells.size]!)) e), _, e, .slice (some ⟨w.heap.size, 0, none⟩) n.toNat c.toNat, ?_, rfl, rfl, rfl, rfl, hrow, fun ρ' h => win_new h (push_new rfl) (by omega) (by rw [hrs]; exact Nat.le_refl _)⟩
    have c1 : ¬ (c < 0 ∨ ie.bytes * c > 2 ^ 48) := by omega
    have c2 : ¬ (n < 0) := by omega
    have c3 : ¬ (n > c) := by omega
    simp only [execOp, ho, e1, e2, Instr.makeSlice, Sem.run_bind, run_underlying hu, Result.andThen_ok, asInt, asIntOf, Sem.run_pure, hti, hb, wn, wc, Bool.or_eq_true, decide_eq_true_eq, c1, c2, c3, or_false, if_false, run_askRoom, hszr]
    by_cases h00 : c.toNat * ie.size = 0
    · simp [h00, newRow, Array.range_zero']
    · simp [h00, newRow, hz]


/-- a slice's first cells, as they are appended or copied -/
def Src (P : Program) (xv : V) (sz m : Nat) (rd : HL) (N : List (List V)) : Prop :=
  ∀ (S : Nat → Prop) (ρ : KM) (w : World) (u : Value), Rep S ρ w u xv → Sim S ρ w (hpo rd) → (Builtin.lenOf u).run P w = .ok m w ∧
    ∀ n, n ≤ m → ∃ cs, (Builtin.firstCells sz n u).run P w = .ok cs w ∧ RowsAt S ρ w sz (N.take n) cs ∧ cs.size = n * sz

theorem load_rows {S : Nat → Prop} {ρ : KM} {w : World} {b off n sz : Nat} {c : Array Value} {t : TypeId} {fr : Nat × Nat} {L : List (List V)} (hw : w.heap[b]? = some (.cells c t fr)) (hn : n ≤ L.length) (hz : ∀ r ∈ L, r.length = sz) (hf : off + n * sz ≤ c.size)
    (hR : ∀ (i j : Nat) (r : List V) (u : Value) (x : V), L[i]? = some r → r[j]? = some x → c[off + i * sz + j]? = some u → Rep S ρ w u x) :
    ∃ cs, (loadCells ⟨b, off, none⟩ (n * sz)).run P w = .ok cs w ∧ RowsAt S ρ w sz (L.take n) cs ∧ cs.size = n * sz := by
  refine ⟨_, run_loadCells w ⟨b, off, none⟩ (n * sz) (fun j => c.getD (off + j) undef) (fun j hj => by
      rw [add_at, cell_at hw]
      have : off + j < c.size := by omega
      simp [this]), ⟨fun r hr => hz r (List.mem_of_mem_take hr), by simp; rw [Nat.min_eq_left hn]; exact Nat.le_refl _, fun i j r u x h1 h2 h3 => ?_⟩, by simp⟩
  rw [map_range_get c off (n * sz) hf] at h3
  split at h3
  · have hi : i < n := by
      rcases Nat.lt_or_ge i n with h | h
      · exact h
      · rw [List.getElem?_eq_none (by simp; omega)] at h1; cases h1
    rw [List.getElem?_take_of_lt hi] at h1
    exact hR i j r u x h1 h2 (by rw [Nat.add_assoc]; exact h3)
  · cases h3

theorem src_sl {xv : V} {L : List (List V)} (hL : xv.sl? = some L) {sz : Nat} (hz : sz = xv.slz ∨ L = []) : Src P xv sz L.length [] L := by
  intro S ρ w u hr _
  have e1 := rep_sl hr hL
  clear hr
  generalize hL0 : xv.slz = zz at *
  cases e1 with
  | sl0 =>
    refine ⟨rfl, fun n hn => ?_⟩
    have : n = 0 := by simpa using hn
    subst this
    rename_i a cap ha
    cases a with
    | none => exact ⟨#[], rfl, ⟨by simp, by simp, by simp⟩, by simp⟩
    | some a => exact ⟨#[], by simp [Builtin.firstCells, loadCells, loadCellsFrom], ⟨by simp, by simp, by simp⟩, by simp⟩
  | sl hS hw hzz hc hf hR =>
    refine ⟨rfl, fun n hn => ?_⟩
    rcases hz with hz | hz
    · subst hz
      exact load_rows hw hn hzz (by have := Nat.mul_le_mul_right sz hn; omega) (fun i j r u x p q s => (hR i j r u x p q s).up)
    · subst hz
      have : n = 0 := by simpa using hn
      subst this
      exact ⟨#[], by simp [Builtin.firstCells, loadCells, loadCellsFrom], ⟨by simp, by simp, by simp⟩, by simp⟩

theorem src_win {k sz lo m cp : Nat} {ob : VObj} (hz : ob.sz = sz) (hl : lo + m ≤ ob.rows.length) : Src P (.win k sz lo m cp) sz m [(k, ob)] ((ob.rows.drop lo).take m) := by
  intro S ρ w u hr hs
  generalize hcu : u = cu at hr
  cases hr with
  | win hk hw hn hc hf hoff =>
    rename_i b off cap c t fr
    obtain ⟨c', t', hw', hR, _⟩ := hs.at (hpo_one_self k ob) hk hw
    rw [hw] at hw'
    cases hw'
    rw [hz] at hR
    refine ⟨rfl, fun n hn' => ?_⟩
    have hlen : ((ob.rows.drop lo).take m).length = m := by simp; omega
    rcases hoff with hoff | hoff
    · subst hoff
      have h1 := Nat.mul_le_mul_right sz hl
      have h2 := Nat.mul_le_mul_right sz hn'
      rw [Nat.add_mul] at h1
      have h3 := hR.2.1
      refine load_rows hw (by omega) (fun r hr => hR.1 r (List.mem_of_mem_drop (List.mem_of_mem_take hr))) (by omega) fun i j r u x g1 g2 g3 => ?_
      have hi : i < m := by
        rcases Nat.lt_or_ge i m with h | h
        · exact h
        · rw [List.getElem?_eq_none (by omega)] at g1; cases g1
      rw [List.getElem?_take_of_lt hi, List.getElem?_drop] at g1
      exact hR.2.2 (lo + i) j r u x g1 g2 (by rw [Nat.add_mul]; exact g3)
    · have : m = 0 := by omega
      subst this
      have : n = 0 := by omega
      subst this
      exact ⟨#[], by simp [Builtin.firstCells, loadCells, loadCellsFrom], ⟨by simp, by simp, by simp⟩, by simp⟩
  | win0 =>
    rename_i aa
    refine ⟨rfl, fun n hn' => ?_⟩
    have : n = 0 := by omega
    subst this
    exact ⟨#[], by cases aa <;> simp [Builtin.firstCells, loadCells, loadCellsFrom], ⟨by simp, by simp, by simp⟩, by simp⟩

def u8V (b : UInt8) : V := .lit (.int .u8 b.toNat)
/-- the bytes of a text as rows -/
def strRows (s : ByteArray) : List (List V) := s.data.toList.map fun b => [u8V b]
theorem src_str (s : ByteArray) : Src P (.lit (.string s)) 1 s.size [] (strRows s) := by
  intro S ρ w u hr _
  have e := hr.lit_inv
  subst e
  have hsz : ∀ n, n ≤ s.size → ((s.extract 0 n).data.map fun b : UInt8 => Value.int .u8 b.toNat).size = n := fun n hn => by
    have hn' : n ≤ s.data.size := hn
    rw [Array.size_map, ByteArray.data_extract, Array.size_extract]
    omega
  refine ⟨rfl, fun n hn => ⟨(s.extract 0 n).data.map fun b => .int .u8 b.toNat, rfl, ⟨fun r hr => ?_, ?_, fun i j r u x h1 h2 h3 => ?_⟩, ?_⟩⟩
  · have := List.mem_of_mem_take hr
    simp only [strRows, List.mem_map] at this
    obtain ⟨b, _, rfl⟩ := this
    rfl
  · have e1 : (strRows s).length = s.size := by simp only [strRows, List.length_map, Array.length_toList]; rfl
    rw [hsz n hn, List.length_take, e1, Nat.min_eq_left hn, Nat.mul_one]
    exact Nat.le_refl _
  · simp only [strRows] at h1
    rw [List.getElem?_take] at h1
    split at h1
    · rename_i hi
      rw [List.getElem?_map] at h1
      simp only [Option.map_eq_some_iff] at h1
      obtain ⟨b, hb, rfl⟩ := h1
      cases j with
      | zero =>
        simp only [List.getElem?_cons_zero, Option.some.injEq] at h2
        subst h2
        rw [Nat.mul_one, Nat.add_zero] at h3
        simp only [Array.getElem?_map, Option.map_eq_some_iff] at h3
        obtain ⟨b', hb', rfl⟩ := h3
        have : b' = b := by
          simp [ByteArray.data_extract, Array.getElem?_extract] at hb'
          rw [Array.getElem?_toList] at hb
          obtain ⟨_, hb'⟩ := hb'
          rw [hb] at hb'
          exact (Option.some.inj hb').symm
        subst this
        exact .lit rfl
      | succ j => simp at h2
    · cases h1
  · rw [hsz n hn, Nat.mul_one]


/-- rows filled in -/
def fillR (sz : Nat) (rows : List (List V)) : List (Nat × V) → Option (List (List V))
  | [] => some rows
  | (i, v) :: rest => if v.cells.length = sz ∧ i < rows.length ∧ v.isAny = false then fillR sz (rows.set i v.cells) rest else none

theorem flatten_len {sz : Nat} : ∀ (rows : List (List V)), (∀ r ∈ rows, r.length = sz) → rows.flatten.length = rows.length * sz
  | [], _ => by simp
  | r :: rows, h => by
    simp only [List.flatten_cons, List.length_append, List.length_cons]
    rw [flatten_len rows (fun r hr => h r (by simp [hr])), h r (by simp), Nat.add_mul, Nat.one_mul, Nat.add_comm]
theorem flatten_set {sz : Nat} (cs : List V) (hc : cs.length = sz) : ∀ (rows : List (List V)) (i : Nat), (∀ r ∈ rows, r.length = sz) → i < rows.length → (rows.set i cs).flatten = spl rows.flatten (i * sz) cs
  | [], i, _, h => by simp at h
  | r :: rows, 0, hz, _ => by
    have hr := hz r (by simp)
    simp only [List.set_cons_zero, List.flatten_cons, spl, Nat.zero_mul, List.take_zero, List.nil_append, Nat.zero_add]
    rw [hc, List.drop_append, ← hr, List.drop_length]
    simp
  | r :: rows, i + 1, hz, h => by
    have hr := hz r (by simp)
    have ih := flatten_set cs hc rows i (fun r hr => hz r (by simp [hr])) (by simpa using h)
    simp only [List.set_cons_succ, List.flatten_cons, ih, spl]
    have e : (i + 1) * sz = r.length + i * sz := by rw [Nat.add_mul, Nat.one_mul, hr, Nat.add_comm]
    rw [e, List.take_length_add_append, Nat.add_assoc, List.drop_length_add_append]
    simp only [List.append_assoc]
theorem fillR_flat {sz : Nat} : ∀ (qs : List (Nat × V)) (rows rows' : List (List V)), (∀ r ∈ rows, r.length = sz) → fillR sz rows qs = some rows' →
    fillV (fun i => some (i * sz, sz)) rows.flatten qs = some rows'.flatten ∧ (∀ r ∈ rows', r.length = sz) ∧ rows'.length = rows.length
  | [], rows, rows', hz, h => by
    simp only [fillR, Option.some.injEq] at h
    subst h
    exact ⟨rfl, hz, rfl⟩
  | (i, v) :: qs, rows, rows', hz, h => by
    simp only [fillR] at h
    split at h
    · rename_i hc
      obtain ⟨h1, h2, h3⟩ := hc
      obtain ⟨g1, g2, g3⟩ := fillR_flat qs (rows.set i v.cells) rows' (fun r hr => by
        rcases List.mem_or_eq_of_mem_set hr with h | h
        · exact hz r h
        · rw [h]; exact h1) h
      refine ⟨?_, g2, by rw [g3]; simp⟩
      simp only [fillV]
      have hl := flatten_len rows hz
      have hq := Nat.mul_le_mul_right sz h2
      rw [Nat.succ_mul] at hq
      rw [if_pos ⟨h1, by omega, h3⟩, ← flatten_set v.cells h1 rows i hz h2]
      exact g1
    · cases h

theorem lok_buildSlice (hT : TOk P T) {t e n : Nat} {i ie : TI} {ps : Array (Nat × Operand)} {qs : List (Nat × V)} {rows : List (List V)} {κ : Nat} (ho : o.op = .buildSlice t n ps) (ht : T t = some i) (hd : i.d = .slice e) (he : T e = some ie) (hn : n * ie.size ≤ 2 ^ 24)
    (hq : (ps.toList.map fun p => (p.1, ov p.2)) = qs) (hf : fillR ie.size (List.replicate n ie.zero) qs = some rows) : LOk P ov o [] [] [(κ, ⟨ie.size, rows, false⟩)] (.win κ ie.size 0 n n) :=
  LOk.new rfl fun S ρ w a hr hs => by
    rw [ho] at hr
    have hu := (hT t i ht).d
    rw [hd] at hu
    have hsz := (hT e ie he).run_sizeOf w
    obtain ⟨z, hz, hz'⟩ := (hT e ie he).run_zero w
    obtain ⟨hzr, hzs⟩ := zero_rows (S := S) (ρ := ρ) (w := w) (hT e ie he) hz' n
    have hzl : ∀ r ∈ List.replicate n ie.zero, r.length = ie.size := fun r hr => by rw [List.mem_replicate] at hr; rw [hr.2]; exact (hT e ie he).zlen
    obtain ⟨f1, f2, f3⟩ := fillR_flat qs _ rows hzl hf
    have hlen : rows.length = n := by rw [f3]; simp
    have hc0 : CRep S ρ w ((Array.range (n * ie.size)).map (fun j => z.cells[j % z.cells.size]!)) (List.replicate n ie.zero).flatten := by
      have hfl := flatten_len _ hzl
      refine ⟨by rw [hzs, hfl]; simp, fun j u x h1 h2 => ?_⟩
      have hj : j < n * ie.size := by rw [← hzs]; exact (Array.getElem?_eq_some_iff.1 h1).1
      have hp := (hT e ie he).pos
      have hi : j / ie.size < n := (Nat.div_lt_iff_lt_mul (by omega)).2 hj
      have hm : j % ie.size < ie.size := Nat.mod_lt _ (by omega)
      have hjj : j / ie.size * ie.size + j % ie.size = j := by rw [Nat.mul_comm]; exact Nat.div_add_mod j ie.size
      have hx : ie.zero[j % ie.size]? = some x := by
        have : (List.replicate n ie.zero).flatten[j]? = ie.zero[j % ie.size]? := by
          clear h1 h2 hj hfl hlen f1 f2 f3 hf hzl hzr hzs hn ho
          have key : ∀ (n i k : Nat), i < n → k < ie.size → (List.replicate n ie.zero).flatten[i * ie.size + k]? = ie.zero[k]? := by
            intro n
            induction n with
            | zero => intro i k h; omega
            | succ n ih =>
              intro i k h hk
              rw [List.replicate_succ, List.flatten_cons]
              cases i with
              | zero => rw [Nat.zero_mul, Nat.zero_add, List.getElem?_append_left (by rw [(hT e ie he).zlen]; exact hk)]
              | succ i =>
                rw [List.getElem?_append_right (by rw [(hT e ie he).zlen, Nat.add_mul, Nat.one_mul]; omega), (hT e ie he).zlen, show (i + 1) * ie.size + k - ie.size = i * ie.size + k by rw [Nat.add_mul, Nat.one_mul]; omega]
                exact ih i k (by omega) hk
          have := key n (j / ie.size) (j % ie.size) hi hm
          rw [hjj] at this
          exact this
        rw [← this]; exact h2
      exact hzr.2.2 (j / ie.size) (j % ie.size) ie.zero u x (by simp [hi]) hx (by rw [hjj]; exact h1)
    obtain ⟨c', h1, h2⟩ := fill_rep (ps.toList.map fun (p : Nat × Operand) => (p.1, a.eval p.2)) qs _ _ _ hc0 (by rw [← hq]; simp) (fun m p q a1 a2 => by
      rw [← hq] at a2
      simp only [List.getElem?_map, Option.map_eq_some_iff] at a1 a2
      obtain ⟨p', hp', rfl⟩ := a1
      obtain ⟨q', hq', rfl⟩ := a2
      rw [hp'] at hq'
      cases hq'
      exact ⟨rfl, hr p'.2 (by simp only [Op.operands, List.mem_map]; exact ⟨p', List.mem_of_getElem? hp', rfl⟩)⟩) f1
    have hrow := rows_of_flat f2 h2
    have hcs : c'.size = n * ie.size := by rw [h2.1, flatten_len rows f2, hlen]
    refine ⟨w.alloc (.cells c' e), c', e, .slice (some ⟨w.heap.size, 0, none⟩) n n, ?_, rfl, rfl, rfl, rfl, hrow, fun ρ' h => win_new h (push_new rfl) (Nat.le_refl _) (by rw [hcs]; exact Nat.le_refl _)⟩
    have c1 : ¬ (n * ie.size > 2 ^ 24) := by omega
    have hmap : ((ps.map fun (x : Nat × Operand) => (x.1, a.eval x.2))).toList = ps.toList.map fun (p : Nat × Operand) => (p.1, a.eval p.2) := by simp
    by_cases h00 : n * ie.size = 0
    · have h1' : Instr.fill (fun i => some (i * ie.size, ie.size)) #[] (ps.toList.map fun (p : Nat × Operand) => (p.1, a.eval p.2)) = some c' := by
        rw [← h1, h00]; simp [Array.range_zero']
      simp [execOp, ho, Instr.buildSlice, run_underlying hu, hsz, c1, h00, newRow, Array.range_zero', h1']
    · simp [execOp, ho, Instr.buildSlice, run_underlying hu, hsz, c1, h00, hz, newRow, h1]

end
end Go.Proofs.Ytbieiehfohldjaa
namespace Go.Proofs.Ytbieiehfohldjaa
open Go
set_option linter.unusedVariables false
set_option linter.unusedSimpArgs false

theorem growBy_le (need : Nat) : ∀ (k c : Nat), c ≤ 2 * need + 192 → c ≤ Builtin.growBy need k c ∧ Builtin.growBy need k c ≤ 2 * need + 192
  | 0, c, h => ⟨Nat.le_refl _, h⟩
  | k + 1, c, h => by
    unfold Builtin.growBy
    split
    · exact ⟨Nat.le_refl _, h⟩
    · rename_i hc
      have := growBy_le need k (c + (c + 768) / 4) (by omega)
      omega
theorem nsc_le {need c : Nat} (h : c < need) : Builtin.nextslicecap need c ≤ 2 * need + 192 := by
  unfold Builtin.nextslicecap
  split
  · omega
  · split
    · omega
    · exact (growBy_le need 4 c (by omega)).2
theorem nsc_zero {need : Nat} (h : 0 < need) : Builtin.nextslicecap need 0 = need := by
  unfold Builtin.nextslicecap
  rw [if_pos (by omega)]

/-- rows laid over others -/
theorem rows_wr {S : Nat → Prop} {ρ : KM} {w : World} {sz pos : Nat} {c cs : Array Value} {rows N : List (List V)} (hc : RowsAt S ρ w sz rows c) (hs : RowsAt S ρ w sz N cs) (hcs : cs.size = N.length * sz) (hp : pos ≤ rows.length) (hf : (pos + N.length) * sz ≤ c.size) :
    RowsAt S ρ w sz (rows.take pos ++ N ++ rows.drop (pos + N.length)) (wr c (pos * sz) cs.toList) := by
  have hlen : (rows.take pos ++ N ++ rows.drop (pos + N.length)).length = max rows.length (pos + N.length) := by simp; omega
  refine ⟨fun r hr => ?_, ?_, fun i j r u x h1 h2 h3 => ?_⟩
  · simp only [List.mem_append] at hr
    rcases hr with (hr | hr) | hr
    · exact hc.1 r (List.mem_of_mem_take hr)
    · exact hs.1 r hr
    · exact hc.1 r (List.mem_of_mem_drop hr)
  · rw [hlen, wr_size]
    have h1 := hc.2.1
    rcases Nat.le_total rows.length (pos + N.length) with h | h
    · rw [Nat.max_eq_right h]; exact hf
    · rw [Nat.max_eq_left h]; exact h1
  · have hj : j < sz := by
      have hmem : r.length = sz := by
        have hr := List.mem_of_getElem? h1
        simp only [List.mem_append] at hr
        rcases hr with (hr | hr) | hr
        · exact hc.1 r (List.mem_of_mem_take hr)
        · exact hs.1 r hr
        · exact hc.1 r (List.mem_of_mem_drop hr)
      rw [← hmem]
      exact (List.getElem?_eq_some_iff.1 h2).1
    rw [wr_get _ _ _ _ (by simp [hcs]; rw [← Nat.add_mul]; exact hf)] at h3
    simp only [Array.length_toList, hcs] at h3
    rw [← Nat.add_mul] at h3
    rw [List.append_assoc] at h1
    have ht : (rows.take pos).length = pos := by simp; omega
    by_cases i1 : i < pos
    · rw [List.getElem?_append_left (by omega), List.getElem?_take_of_lt i1] at h1
      have q : (i + 1) * sz ≤ pos * sz := Nat.mul_le_mul_right sz i1
      rw [Nat.add_mul, Nat.one_mul] at q
      rw [if_neg (by omega)] at h3
      exact hc.2.2 i j r u x h1 h2 h3
    · rw [List.getElem?_append_right (by omega), ht] at h1
      have q0 : pos * sz ≤ i * sz := Nat.mul_le_mul_right sz (by omega)
      by_cases i2 : i < pos + N.length
      · rw [List.getElem?_append_left (by omega)] at h1
        have q : (i + 1) * sz ≤ (pos + N.length) * sz := Nat.mul_le_mul_right sz i2
        rw [Nat.add_mul, Nat.one_mul] at q
        rw [if_pos (by omega), Array.getElem?_toList] at h3
        refine hs.2.2 (i - pos) j r u x h1 h2 ?_
        rw [Nat.sub_mul]
        rw [show i * sz - pos * sz + j = i * sz + j - pos * sz by omega]
        exact h3
      · rw [List.getElem?_append_right (by omega), List.getElem?_drop] at h1
        have q : (pos + N.length) * sz ≤ i * sz := Nat.mul_le_mul_right sz (by omega)
        rw [if_neg (by omega)] at h3
        refine hc.2.2 i j r u x ?_ h2 h3
        rw [show i = pos + N.length + (i - pos - N.length) by omega]
        exact h1

/-- rows one behind the other -/
theorem rows_app {S : Nat → Prop} {ρ : KM} {w : World} {sz : Nat} {a b rest : Array Value} {L N : List (List V)} (ha : RowsAt S ρ w sz L a) (hb : RowsAt S ρ w sz N b) (hla : a.size = L.length * sz) (hlb : b.size = N.length * sz) : RowsAt S ρ w sz (L ++ N) (a ++ b ++ rest) := by
  refine ⟨fun r hr => ?_, by simp [hla, hlb, Nat.add_mul], fun i j r u x h1 h2 h3 => ?_⟩
  · simp only [List.mem_append] at hr
    rcases hr with hr | hr
    · exact ha.1 r hr
    · exact hb.1 r hr
  · have hmem : r.length = sz := by
      have hr := List.mem_of_getElem? h1
      simp only [List.mem_append] at hr
      rcases hr with hr | hr
      · exact ha.1 r hr
      · exact hb.1 r hr
    have hj : j < sz := by rw [← hmem]; exact (List.getElem?_eq_some_iff.1 h2).1
    by_cases hi : i < L.length
    · rw [List.getElem?_append_left hi] at h1
      have q : (i + 1) * sz ≤ L.length * sz := Nat.mul_le_mul_right sz hi
      rw [Nat.add_mul, Nat.one_mul] at q
      rw [Array.append_assoc, Array.getElem?_append_left (by omega)] at h3
      exact ha.2.2 i j r u x h1 h2 h3
    · rw [List.getElem?_append_right (by omega)] at h1
      have hi2 : i - L.length < N.length := (List.getElem?_eq_some_iff.1 h1).1
      have q : (i - L.length + 1) * sz ≤ N.length * sz := Nat.mul_le_mul_right sz hi2
      rw [Nat.add_mul, Nat.one_mul, Nat.sub_mul] at q
      have q0 : L.length * sz ≤ i * sz := Nat.mul_le_mul_right sz (by omega)
      rw [Array.append_assoc, Array.getElem?_append_right (by omega), Array.getElem?_append_left (by omega)] at h3
      refine hb.2.2 (i - L.length) j r u x h1 h2 ?_
      rw [Nat.sub_mul, show i * sz - L.length * sz + j = i * sz + j - a.size by omega]
      exact h3

section
variable {P : Program} {T : TT} {ov : Operand → V} {o : Oper}

def TD.isInt : TD → Bool
  | .int _ => true
  | _ => false

theorem zeros_false (hT : TOk P T) {t : TypeId} {i : TI} (ht : T t = some i) (hi : i.d = .string ∨ ∃ e, i.d = .slice e) (w : World) : (do pure ((← underlying t) matches .int _) : Sem Bool).run P w = .ok false w := by
  have hd := (hT t i ht).d
  rcases hi with hi | ⟨e, hi⟩ <;> rw [hi] at hd <;> simp [run_underlying hd]

/-- append: a new row -/
theorem run_grow (hT : TOk P T) {t e t2 ty : Nat} {i ie i2 : TI} (ht : T t = some i) (hd : i.d = .slice e) (he : T e = some ie) (hb : ie.bytes ≠ 0) (ht2 : T t2 = some i2) (hi2 : i2.d = .string ∨ ∃ e, i2.d = .slice e) {w : World} {base : Option Addr} {n cap m : Nat} {x : Value} {old new : Array Value}
    (hl : (Builtin.lenOf x).run P w = .ok m w) (hm : cap < n + m) (hg : Builtin.nextslicecap (n + m) cap * ie.bytes ≤ 2 ^ 48) (ho : (Builtin.firstCells ie.size n (.slice base n cap)).run P w = .ok old w) (hn : (Builtin.firstCells ie.size m x).run P w = .ok new w)
    (ho' : (Builtin.firstCells ie.size n (.slice base n cap)).run P w.drew = .ok old w.drew) (hn' : (Builtin.firstCells ie.size m x).run P w.drew = .ok new w.drew) :
    ∃ c rest, n + m ≤ c ∧ (Builtin.append_ #[t, t2] ty #[.slice base n cap, x]).run P w = .ok (.slice (some ⟨w.heap.size, 0, none⟩) (n + m) c) (w.drew.alloc (.cells (old ++ new ++ rest) e)) ∧ rest.size = (c - (n + m)) * ie.size := by
  have hu := (hT t i ht).d
  rw [hd] at hu
  have hu2 := (hT t2 i2 ht2).d
  obtain ⟨d2, hd2, hd2'⟩ : ∃ d, P.underlying t2 = some d ∧ ∀ k, d ≠ .int k := by
    rcases hi2 with hi | ⟨e', hi⟩ <;> rw [hi] at hu2
    · exact ⟨_, hu2, fun k h => by cases h⟩
    · exact ⟨_, hu2, fun k h => by cases h⟩
  have hz2 : (match d2 with | .int _ => true | _ => false) = false := by
    cases d2 <;> first | rfl | exact absurd rfl (hd2' _)
  obtain ⟨ti, hti, hbb, hsz⟩ := (hT e ie he).run_typeInfo w
  obtain ⟨z, hz, hz'⟩ := (hT e ie he).run_zero w.drew
  have hs := (hT e ie he).run_sizeOf w
  have hzs : z.cells.size = ie.size := by rw [← (hT e ie he).zlen, ← zAll_len _ _ hz']; simp
  have hq : ∀ q : Nat, (Question.appendCap (n + m) cap e).cut q = n + m + q % (2 ^ 63 - (n + m)) := fun q => rfl
  refine ⟨n + m + w.tape w.drawn (.appendCap (n + m) cap e) % (2 ^ 63 - (n + m)), Builtin.zeroCells z.cells (n + m + w.tape w.drawn (.appendCap (n + m) cap e) % (2 ^ 63 - (n + m)) - (n + m)), by omega, ?_, by simp [Builtin.zeroCells, hzs]⟩
  have c1 : ¬ (n + m ≤ cap) := by omega
  have c2 : ¬ (Builtin.nextslicecap (n + m) cap * ti.bytes > 2 ^ 48) := by rw [hbb]; omega
  have c3 : ti.bytes ≠ 0 := by rw [hbb]; exact hb
  obtain ⟨ti', hti', hbb', hsz'⟩ := (hT e ie he).run_typeInfo w.drew
  simp only [Builtin.append_, List.getElem?_toArray, List.getElem?_cons_zero, List.getElem?_cons_succ, Sem.run_bind, run_underlying hu, run_underlying hd2, Result.andThen_ok, hs, Sem.run_pure, hz2, Bool.false_eq_true, if_false, hl, c1, false_or, Sem.run_ite, hti, c2, c3, and_false, run_choose, Question.forced, hq, World.drew_eq, run_askRoom, ho', hn', hz, Bool.not_false, if_true, newRow, run_newObj, World.alloc_eq, Bool.decide_eq_true, hti']
  rfl

/-- append: in place -/
theorem run_inplace (hT : TOk P T) {t e t2 ty : Nat} {i ie i2 : TI} (ht : T t = some i) (hd : i.d = .slice e) (he : T e = some ie) (ht2 : T t2 = some i2) (hi2 : i2.d = .string ∨ ∃ e, i2.d = .slice e) {w w' : World} {base : Option Addr} {n cap m : Nat} {x : Value} {new : Array Value}
    (hl : (Builtin.lenOf x).run P w = .ok m w) (hm : n + m ≤ cap) (hn : (Builtin.firstCells ie.size m x).run P w = .ok new w) (hst : ∀ a, base = some a → (storeCells (a.add (n * ie.size)) new.toList).run P w = .ok () w') (h0 : base = none → w' = w) :
    (Builtin.append_ #[t, t2] ty #[.slice base n cap, x]).run P w = .ok (.slice base (n + m) cap) w' := by
  have hu := (hT t i ht).d
  rw [hd] at hu
  have hu2 := (hT t2 i2 ht2).d
  obtain ⟨d2, hd2, hd2'⟩ : ∃ d, P.underlying t2 = some d ∧ ∀ k, d ≠ .int k := by
    rcases hi2 with hi | ⟨e', hi⟩ <;> rw [hi] at hu2
    · exact ⟨_, hu2, fun k h => by cases h⟩
    · exact ⟨_, hu2, fun k h => by cases h⟩
  have hz2 : (match d2 with | .int _ => true | _ => false) = false := by
    cases d2 <;> first | rfl | exact absurd rfl (hd2' _)
  have hs := (hT e ie he).run_sizeOf w
  cases base with
  | none =>
    rw [h0 rfl]
    simp only [Builtin.append_, List.getElem?_toArray, List.getElem?_cons_zero, List.getElem?_cons_succ, Sem.run_bind, run_underlying hu, run_underlying hd2, Result.andThen_ok, hs, Sem.run_pure, hz2, Bool.false_eq_true, if_false, hl, hm, if_true, hn, Bool.not_false]
  | some a =>
    simp only [Builtin.append_, List.getElem?_toArray, List.getElem?_cons_zero, List.getElem?_cons_succ, Sem.run_bind, run_underlying hu, run_underlying hd2, Result.andThen_ok, hs, Sem.run_pure, hz2, Bool.false_eq_true, if_false, hl, hm, if_true, hn, hst a rfl, Bool.not_false]


theorem Src.drew {xv : V} {sz m : Nat} {rd : HL} {N : List (List V)} (h : Src P xv sz m rd N) {S : Nat → Prop} {ρ : KM} {w : World} {u : Value} (hr : Rep S ρ w u xv) (hs : Sim S ρ w (hpo rd)) (n : Nat) (hn : n ≤ m) :
    ∃ cs, (Builtin.firstCells sz n u).run P w = .ok cs w ∧ (Builtin.firstCells sz n u).run P w.drew = .ok cs w.drew ∧ RowsAt S ρ w sz (N.take n) cs ∧ cs.size = n * sz := by
  obtain ⟨_, h1⟩ := h S ρ w u hr hs
  obtain ⟨cs, e, r, z⟩ := h1 n hn
  have mono : ∀ {u : Value} {x : V}, Rep S ρ w u x → Rep S ρ w.drew u x := fun h => Rep.mono (w := w) (w' := w.drew) (fun _ h => h) (fun _ _ => rfl) (fun _ _ h => h) ⟨fun _ c _ fr h => ⟨c, fr, h, rfl⟩, fun _ es n h => ⟨es, n, h⟩⟩ h
  have hs' : Sim S ρ w.drew (hpo rd) := ⟨fun k o hk => by
    rcases hs.obj k o hk with ⟨b, c, t, q1, q2, q3, q4⟩ | q
    · exact .inl ⟨b, c, t, q1, q2.of rfl, q3.mono (fun _ _ h => mono h), q4⟩
    · exact .inr q, hs.inj, hs.bnd⟩
  obtain ⟨_, h2⟩ := h S ρ w.drew u (mono hr) hs'
  obtain ⟨cs', e', r', z'⟩ := h2 n hn
  have : cs' = cs := by
    have key : ∀ (u : Value) (c1 c2 : Array Value), (Builtin.firstCells sz n u).run P w = .ok c1 w → (Builtin.firstCells sz n u).run P w.drew = .ok c2 w.drew → c2 = c1 := by
      intro u c1 c2 a b
      have lc : ∀ (ad : Addr) (k i : Nat) (acc : Array Value), (loadCellsFrom ad i k acc).run P w.drew = match (loadCellsFrom ad i k acc).run P w with | .ok r _ => .ok r w.drew | .halt h _ => .halt h w.drew := by
        intro ad k
        induction k with
        | zero => intro i acc; rfl
        | succ k ih =>
          intro i acc
          simp only [loadCellsFrom, Sem.run_bind, run_load, World.cell?_drew]
          cases hc : w.cell? (ad.add i) with
          | some v => simp only [Result.andThen_ok]; exact ih _ _
          | none =>
            have hfar : w.drew.farLoad P (ad.add i) (Mode.plain == .atomic) = w.farLoad P (ad.add i) (Mode.plain == .atomic) := rfl
            simp only [hfar]
            cases w.farLoad P (ad.add i) (Mode.plain == .atomic) with
            | ok x => simp only [Result.andThen_ok]; exact ih _ _
            | error h => rfl
      cases u with
      | slice ad l cp =>
        cases ad with
        | none => simp only [Builtin.firstCells, Sem.run_pure, Result.ok.injEq] at a b; rw [← a.1, ← b.1]
        | some ad =>
          simp only [Builtin.firstCells, loadCells] at a b
          rw [lc, a] at b
          simp only [Result.ok.injEq] at b
          exact b.1.symm
      | string s => simp only [Builtin.firstCells, Sem.run_pure, Result.ok.injEq] at a b; rw [← a.1, ← b.1]
      | _ => simp [Builtin.firstCells] at a
    exact key u cs cs' e e'
  subst this
  exact ⟨_, e, e', r, z⟩

/-- an argument of a builtin call -/
theorem arg_reps {b : Builtin} {xs : Array Operand} {ts : Array TypeId} {S : Nat → Prop} {ρ : KM} {w : World} {a : Act} (ho : o.op = .call { callee := .builtin b, args := xs, argTypes := ts })
    (hr : ∀ x ∈ o.op.operands.toList, Rep S ρ w (a.eval x) (ov x)) : ∀ x ∈ xs.toList, Rep S ρ w (a.eval x) (ov x) := fun x hx => hr x (by rw [ho]; simpa [Op.operands, Call.operands] using hx)

/-- nothing is appended -/
theorem lok_append0 (hT : TOk P T) {t e t2 : Nat} {x y : Operand} {i ie i2 : TI} {rd : HL} {N : List (List V)} (ho : o.op = .call { callee := .builtin .append, args := #[x, y], argTypes := #[t, t2] }) (ht : T t = some i) (hd : i.d = .slice e) (he : T e = some ie)
    (ht2 : T t2 = some i2) (hi2 : i2.d = .string ∨ ∃ e, i2.d = .slice e) (hx : (ov x).sl?.isSome = true ∨ ∃ k sz lo n cp, ov x = .win k sz lo n cp) (hsrc : Src P (ov y) ie.size 0 rd N) : LOk P ov o rd [] [] (ov x) :=
  LOk.read fun S ρ w a hr hs => by
    have hr := arg_reps ho hr
    have e1 := hr x (by simp)
    have e2 := hr y (by simp)
    obtain ⟨g1, g2⟩ := hsrc S ρ w _ e2 hs
    obtain ⟨cs, q1, q2, q3⟩ := g2 0 (Nat.le_refl _)
    have hcs : cs = #[] := by apply Array.eq_empty_of_size_eq_zero; simpa using q3
    subst hcs
    have hb : ∃ ad n cap, a.eval x = .slice ad n cap ∧ n ≤ cap := by
      rcases hx with hx | ⟨k, sz, lo, n, cp, hx⟩
      · obtain ⟨L, hL⟩ := Option.isSome_iff_exists.1 hx
        have := rep_sl e1 hL
        generalize a.eval x = cx at this
        cases this with
        | sl0 => exact ⟨_, _, _, rfl, Nat.zero_le _⟩
        | sl hS hw hz hc hf hR => exact ⟨_, _, _, rfl, hc⟩
      · rw [hx] at e1
        generalize a.eval x = cx at e1
        cases e1 with
        | win hk hw hn hc hf ho => exact ⟨_, _, _, rfl, by omega⟩
        | win0 => exact ⟨_, _, _, rfl, Nat.le_refl _⟩
    obtain ⟨ad, n, cap, hc, hn⟩ := hb
    have := run_inplace (ty := o.type) hT ht hd he ht2 hi2 (w := w) (w' := w) (base := ad) (n := n) (cap := cap) g1 (by omega) q1 (fun a _ => rfl) (fun _ => rfl)
    refine ⟨_, e1, ?_⟩
    simp [execOp, ho, resolve, invoke, builtin, hc, this]

/-- behind what has no room: a new row -/
theorem lok_appendX (hT : TOk P T) {t e t2 : Nat} {x y : Operand} {i ie i2 : TI} {rd : HL} {N L : List (List V)} {κ : Nat} (ho : o.op = .call { callee := .builtin .append, args := #[x, y], argTypes := #[t, t2] }) (ht : T t = some i) (hd : i.d = .slice e) (he : T e = some ie) (hb : ie.bytes ≠ 0)
    (ht2 : T t2 = some i2) (hi2 : i2.d = .string ∨ ∃ e, i2.d = .slice e) (hx : (∃ sz nn, ov x = .sls sz L nn true ∧ (sz = ie.size ∨ L = [])) ∨ (ov x = .lit (.slice none 0 0) ∧ L = [])) (hsrc : Src P (ov y) ie.size N.length rd N) (hN : N ≠ [])
    (hg : Builtin.nextslicecap (L.length + N.length) L.length * ie.bytes ≤ 2 ^ 48) : LOk P ov o rd [] [(κ, ⟨ie.size, L ++ N, false⟩)] (.win κ ie.size 0 (L.length + N.length) (L.length + N.length)) :=
  LOk.new rfl fun S ρ w a hr hs => by
    have hr := arg_reps ho hr
    have e1 := hr x (by simp)
    have e2 := hr y (by simp)
    have hpos : 0 < N.length := List.length_pos_iff.2 hN
    obtain ⟨g1, _⟩ := hsrc S ρ w _ e2 hs
    obtain ⟨cs, q1, q1', q2, q3⟩ := hsrc.drew e2 hs N.length (Nat.le_refl _)
    rw [List.take_length] at q2
    have hbase : ∃ ad, a.eval x = .slice ad L.length L.length ∧ Src P (ov x) ie.size L.length [] L := by
      rcases hx with ⟨sz, nn, hx, hz⟩ | ⟨hx, rfl⟩
      · rw [hx] at e1
        have hsr : Src P (ov x) ie.size L.length [] L := src_sl (by rw [hx]; rfl) (by rw [hx]; exact hz.imp Eq.symm id)
        generalize a.eval x = cx at e1
        cases e1 with
        | sls h hn hc =>
          have hc := hc rfl
          subst hc
          rename_i ad n
          have hl : n = L.length := by
            generalize hv : Value.slice ad n n = v at h
            cases h with
            | sl0 => cases hv; rfl
            | sl h1 h2 h3 h4 h5 h6 => cases hv; rfl
          subst hl
          exact ⟨ad, rfl, hsr⟩
      · rw [hx] at e1
        exact ⟨none, e1.lit_inv, by rw [hx]; exact src_sl rfl (.inr rfl)⟩
    obtain ⟨ad, hc, hsl⟩ := hbase
    have e1' : Rep S ρ w (.slice ad L.length L.length) (ov x) := hc ▸ e1
    obtain ⟨old, p1, p1', p2, p3⟩ := hsl.drew e1' (Sim.empty hs.bnd) L.length (Nat.le_refl _)
    rw [List.take_length] at p2
    obtain ⟨c, rest, hcc, hrun, hrest⟩ := run_grow (ty := o.type) hT ht hd he hb ht2 hi2 g1 (by omega) hg p1 q1 p1' q1'
    refine ⟨w.drew.alloc (.cells (old ++ cs ++ rest) e), old ++ cs ++ rest, e, .slice (some ⟨w.heap.size, 0, none⟩) (L.length + N.length) c, ?_, rfl, rfl, rfl, rfl, rows_app p2 q2 p3 q3, fun ρ' h => ?_⟩
    · simp [execOp, ho, resolve, invoke, builtin, hc, hrun]
    · have hsz : c * ie.size = (L.length + N.length) * ie.size + (c - (L.length + N.length)) * ie.size := by rw [← Nat.add_mul]; congr 1; omega
      refine .win h (show (w.drew.alloc _).heap[w.heap.size]? = _ from push_new rfl) (Nat.le_refl _) hcc ?_ (.inl (by simp))
      simp only [Array.size_append, p3, q3, hrest, Nat.zero_add]
      rw [hsz, Nat.add_mul]
      exact Nat.le_refl _

end
end Go.Proofs.Ytbieiehfohldjaa
namespace Go.Proofs.Ytbieiehfohldjaa
open Go
set_option linter.unusedVariables false
set_option linter.unusedSimpArgs false

theorem hpo_app (l l' : HL) (k : Nat) : hpo (l ++ l') k = match hpo l k with | some o => some o | none => hpo l' k := by
  induction l with
  | nil => rfl
  | cons p l ih =>
    obtain ⟨j, o⟩ := p
    simp only [List.cons_append, hpo, upd]
    split
    · rfl
    · exact ih
theorem sub_left (l l' : HL) : Sub (hpo l) (hpo (l ++ l')) := fun k o h => by rw [hpo_app, h]
/-- two parts of a heap that share no name -/
def Apart (l l' : HL) : Prop := ∀ k, hpo l' k ≠ none → hpo l k = none
theorem sub_right {l l' : HL} (h : Apart l l') : Sub (hpo l') (hpo (l ++ l')) := fun k o hk => by rw [hpo_app, h k (by rw [hk]; simp)]; exact hk

/-- an object's block gets another name -/
theorem rename_sim {S : Nat → Prop} {ρ : KM} {w : World} {k κ b : Nat} {ob ob' : VObj} {c c' : Array Value} {t : TypeId} (hs : Sim S ρ w (hpo [(k, ob)])) (hk : ρ k = some b) (hκ : ρ κ = none)
    (hw : w.heap[b]? = some (.cells c t (0, 0))) (hf : ob.frz = false) (hf' : ob'.frz = false) (hz : c'.size = c.size) (hr : RowsAt S ρ w ob'.sz ob'.rows c') :
    Sim S (upd ρ κ (some b)) (World.block w b (.cells c' t (0, 0))) (hpo [(κ, ob')]) ∧ Ext S ρ w (hpo [(k, ob)]) S (upd ρ κ (some b)) (World.block w b (.cells c' t (0, 0))) (hpo [(κ, ob')]) := by
  have hnS : ¬ S b := (hs.frz (hpo_one_self k ob) hk).2 hf
  have hkeys : ∀ j b', ρ j = some b' → upd ρ κ (some b) j = some b' := fun j b' h => by
    rw [upd_ne]; · exact h
    · rintro rfl; rw [hκ] at h; cases h
  have old : ∀ b', b' ≠ b → (World.block w b (.cells c' t (0, 0))).heap[b']? = w.heap[b']? := fun b' h => by rw [block_get hw, if_neg h]
  have kp : Keeps w (World.block w b (.cells c' t (0, 0))) := by
    refine ⟨fun b' x e fr h => ?_, fun b' es n h => ?_⟩
    · by_cases e' : b' = b
      · subst e'
        rw [hw] at h
        cases h
        exact ⟨c', _, by rw [block_get hw, if_pos rfl], hz⟩
      · exact ⟨x, fr, by rw [old b' e']; exact h, rfl⟩
    · by_cases e' : b' = b
      · subst e'
        rw [hw] at h
        cases h
      · exact ⟨es, n, by rw [old b' e']; exact h⟩
  have hrep : ∀ u x, Rep S ρ w u x → Rep S (upd ρ κ (some b)) (World.block w b (.cells c' t (0, 0))) u x := fun u x h =>
    h.mono (fun _ h => h) (fun b' hS => old b' (fun e => hnS (e ▸ hS))) hkeys kp
  refine ⟨⟨fun k' o h => ?_, fun k1 k2 o o' b' a1 a2 a3 a4 => ?_, fun b' h => ?_⟩, ?_⟩
  · obtain ⟨rfl, rfl⟩ := hpo_one_inv h
    exact .inl ⟨b, c', t, upd_same _ _ _, .inl (by rw [block_get hw, if_pos rfl]), hr.mono hrep, fun h => (by rw [hf'] at h; cases h), fun _ => hnS⟩
  · obtain ⟨rfl, _⟩ := hpo_one_inv a1
    obtain ⟨rfl, _⟩ := hpo_one_inv a2
    rfl
  · rw [block_size]; exact hs.bnd b' h
  · exact { os := rfl, tape := rfl, output := rfl, size := by rw [block_size]; exact Nat.le_refl _
            block := fun b' _ ho => old b' (fun e => ho (e ▸ ⟨k, ob, hpo_one_self _ _, hf, hk⟩))
            keeps := kp
            more := fun _ h => h
            only := fun _ h => .inl h
            live := fun b' ⟨k', o, a, r⟩ => by
              obtain ⟨rfl, _⟩ := hpo_one_inv a
              rw [upd_same] at r
              cases r
              exact .inr ⟨k, ob, hpo_one_self _ _, hk⟩
            own := fun b' ⟨k', o, a, _, r⟩ => by
              obtain ⟨rfl, _⟩ := hpo_one_inv a
              rw [upd_same] at r
              cases r
              exact .inr ⟨k, ob, hpo_one_self _ _, hf, hk⟩
            keys := hkeys
            dom := fun j b' h => by
              by_cases e : j = κ
              · subst e; exact .inr ⟨ob', hpo_one_self _ _⟩
              · rw [upd_ne _ _ e] at h; exact .inl h }

section
variable {P : Program} {T : TT} {ov : Operand → V} {o : Oper}

theorem cells_one {S : Nat → Prop} {ρ : KM} {w : World} {sz : Nat} {N : List (List V)} {cs : Array Value} (h : RowsAt S ρ w sz N cs) (hz : cs.size = N.length * sz) (h1 : ∀ r ∈ N, r.all V.one = true) : ∀ v ∈ cs.toList, v.oneCell' = true := by
  intro v hv
  obtain ⟨j, hj, rfl⟩ := List.getElem_of_mem hv
  have hj' : j < N.length * sz := by rw [← hz]; simpa using hj
  have hsz : 0 < sz := by
    rcases Nat.eq_zero_or_pos sz with h0 | h0
    · rw [h0] at hj'; simp at hj'
    · exact h0
  have hi : j / sz < N.length := (Nat.div_lt_iff_lt_mul hsz).2 hj'
  have hr : (N[j / sz]).length = sz := h.1 _ (List.getElem_mem hi)
  have hm : j % sz < (N[j / sz]).length := by rw [hr]; exact Nat.mod_lt _ hsz
  have e : j / sz * sz + j % sz = j := by rw [Nat.mul_comm]; exact Nat.div_add_mod j sz
  have := h.2.2 (j / sz) (j % sz) _ cs[j] _ (List.getElem?_eq_getElem hi) (List.getElem?_eq_getElem hm) (by rw [e]; simp)
  refine one_rep (by simpa using this) ?_
  have hh := h1 _ (List.getElem_mem hi)
  rw [List.all_eq_true] at hh
  exact hh _ (List.getElem_mem hm)

/-- an object without places -/
theorem none_sim {S : Nat → Prop} {ρ : KM} {w : World} {κ sz : Nat} (hb : ∀ b, S b → b < w.heap.size) (hκ : ρ κ = none) (pre : HL) :
    Sim S ρ w (hpo [(κ, ⟨sz, [], false⟩)]) ∧ Ext S ρ w (hpo pre) S ρ w (hpo [(κ, ⟨sz, [], false⟩)]) := by
  have none : ∀ k o b, hpo [(κ, (⟨sz, [], false⟩ : VObj))] k = some o → ρ k = some b → False := fun k o b h1 h2 => by
    obtain ⟨rfl, _⟩ := hpo_one_inv h1
    rw [hκ] at h2; cases h2
  refine ⟨⟨fun k o h => ?_, fun k k' o o' b a1 a2 a3 a4 => (none k o b a1 a3).elim, hb⟩, ?_⟩
  · obtain ⟨rfl, rfl⟩ := hpo_one_inv h
    exact .inr ⟨hκ, rfl⟩
  · exact { os := rfl, tape := rfl, output := rfl, size := Nat.le_refl _, block := fun _ _ _ => rfl, keeps := Keeps.refl w, more := fun _ h => h, only := fun _ h => .inl h
            live := fun b ⟨k, o, h1, h2⟩ => (none k o b h1 h2).elim
            own := fun b ⟨k, o, h1, _, h2⟩ => (none k o b h1 h2).elim
            keys := fun _ _ h => h, dom := fun _ _ h => .inl h }

/-- behind all that an object holds -/
theorem lok_appendW (hT : TOk P T) {t e t2 : Nat} {x y : Operand} {i ie i2 : TI} {rd : HL} {N : List (List V)} {k κ sz n cp : Nat} {ob : VObj} (ho : o.op = .call { callee := .builtin .append, args := #[x, y], argTypes := #[t, t2] }) (ht : T t = some i) (hd : i.d = .slice e) (he : T e = some ie) (hb : ie.bytes ≠ 0)
    (ht2 : T t2 = some i2) (hi2 : i2.d = .string ∨ ∃ e, i2.d = .slice e) (hx : ov x = .win k sz 0 n cp) (hz : ie.size = sz) (hzo : ob.sz = sz) (hn : n = ob.rows.length) (hf : ob.frz = false) (hsrc : Src P (ov y) ie.size N.length rd N) (hap : Apart rd [(k, ob)]) (hne : κ ≠ k)
    (h1 : ∀ r ∈ N, r.all V.one = true) (hg : (2 * (n + N.length) + 192) * ie.bytes ≤ 2 ^ 48) : LOk P ov o rd [(k, ob)] [(κ, ⟨sz, ob.rows ++ N, false⟩)] (.win κ sz 0 (n + N.length) (n + N.length)) := by
  intro S ρ w a hr hs hnew next Q hK
  have hr := arg_reps ho hr
  have e1 := hr x (by simp)
  have e2 := hr y (by simp)
  have hs1 := hs.sub (sub_left rd [(k, ob)])
  have hs2 := hs.sub (sub_right hap)
  obtain ⟨g1, _⟩ := hsrc S ρ w _ e2 hs1
  obtain ⟨cs, q1, q1', q2, q3⟩ := hsrc.drew e2 hs1 N.length (Nat.le_refl _)
  rw [List.take_length] at q2
  have hκ : ρ κ = none := hnew κ (by simp [hpo_one]) (by rw [hpo_one, if_neg hne])
  subst hz
  have hsrcx : Src P (ov x) ie.size n [(k, ob)] ob.rows := by
    rw [hx]
    have := src_win (P := P) (k := k) (lo := 0) (m := n) (cp := cp) hzo (by omega)
    rw [List.drop_zero, hn, List.take_length] at this
    rw [hn]
    exact this
  have hbase : ∃ (ad : Option Addr) (cap : Nat), a.eval x = .slice ad n cap ∧ n ≤ cap := by
    rw [hx] at e1
    generalize a.eval x = cx at e1
    cases e1 with
    | win hk hw hn' hc hf' ho' => exact ⟨_, _, rfl, by omega⟩
    | win0 => exact ⟨_, _, rfl, Nat.le_refl _⟩
  obtain ⟨ad, cap, hc, hcap⟩ := hbase
  rw [hc] at e1
  by_cases h00 : N.length = 0 ∧ cap = 0
  · obtain ⟨h01, h02⟩ := h00
    have hn0 : n = 0 := by omega
    have hr0 : ob.rows = [] := List.length_eq_zero_iff.1 (by omega)
    have hN0 : N = [] := List.length_eq_zero_iff.1 h01
    have hcs0 : cs.toList = [] := by
      have : cs.size = 0 := by rw [q3, h01, Nat.zero_mul]
      rw [Array.eq_empty_of_size_eq_zero this]
    have hrun := run_inplace (ty := o.type) hT ht hd he ht2 hi2 (base := ad) (n := n) (cap := cap) g1 (by omega) q1 (w' := w) (fun a ha => by rw [hcs0]; rfl) (fun h => rfl)
    have hex : (execOp a.eval o).run P w = .ok (.value (.slice ad (n + N.length) cap)) w := by
      simp [execOp, ho, resolve, invoke, builtin, hc, hrun]
    obtain ⟨p1, p2⟩ := none_sim (sz := ie.size) hs.bnd hκ [(k, ob)]
    simp only [Oper.wp, hex, Oper.upon]
    rw [hr0, hN0] at hK
    refine hK _ S ρ w ?_ p1 p2
    rw [hn0, h01, h02, List.length_nil]
    exact .win0
  by_cases hin : n + N.length ≤ cap
  · rw [hx] at e1
    generalize hv : Value.slice ad n cap = v at e1
    cases e1 with
    | win hk hw hn' hcp hfit hoff =>
      rename_i b off cap' c t' fr
      simp only [Value.slice.injEq] at hv
      obtain ⟨rfl, _, rfl⟩ := hv
      obtain ⟨c0, t0, hw0, hR, _⟩ := hs2.at (hpo_one_self k ob) hk hw
      rw [hw] at hw0
      cases hw0
      rw [hzo] at hR
      have hoff' : off = 0 := by
        rcases hoff with h | h
        · simpa using h
        · omega
      subst hoff'
      subst hn
      have hsz : (ob.rows.length + N.length) * ie.size ≤ c.size := by
        have := Nat.mul_le_mul_right ie.size hin
        omega
      have hone := cells_one q2 q3 h1
      have hst : (storeCells (Addr.add ⟨b, 0, none⟩ (ob.rows.length * ie.size)) cs.toList).run P w = .ok () (World.block w b (.cells (wr c (ob.rows.length * ie.size) cs.toList) t' (0, 0))) := by
        rw [add_at, Nat.zero_add]
        have := run_storeCells (P := P) cs.toList w c (ob.rows.length * ie.size) 0 hw hone (by simp [q3]; rw [← Nat.add_mul]; exact hsz)
        simpa using this
      have hrun := run_inplace (ty := o.type) hT ht hd he ht2 hi2 (base := some ⟨b, 0, none⟩) (n := ob.rows.length) (cap := cap) g1 hin q1 (fun a ha => by cases ha; exact hst) (fun h => by cases h)
      have hrows := rows_wr (pos := ob.rows.length) hR q2 q3 (Nat.le_refl _) hsz
      rw [List.take_length, List.drop_eq_nil_of_le (by omega), List.append_nil] at hrows
      obtain ⟨p1, p2⟩ := rename_sim (ob' := ⟨ie.size, ob.rows ++ N, false⟩) hs2 hk hκ hw hf rfl (wr_size _ _ _) hrows
      have hex : (execOp a.eval o).run P w = .ok (.value (.slice (some ⟨b, 0, none⟩) (ob.rows.length + N.length) cap)) (World.block w b (.cells (wr c (ob.rows.length * ie.size) cs.toList) t' (0, 0))) := by
        simp [execOp, ho, resolve, invoke, builtin, hc, hrun]
      simp only [Oper.wp, hex, Oper.upon]
      refine hK _ _ _ _ (.win (upd_same _ _ _) (c := wr c (ob.rows.length * ie.size) cs.toList) (t := t') (fr := (0, 0)) (by rw [block_get hw, if_pos rfl]) (Nat.le_refl _) hin ?_ (.inl (by simp))) p1 p2
      rw [wr_size]; exact hfit
    | win0 =>
      simp only [Value.slice.injEq] at hv
      omega
  · obtain ⟨old, p1, p1', p2, p3⟩ := hsrcx.drew e1 hs2 n (Nat.le_refl _)
    obtain ⟨c, rest, hcc, hrun, hrest⟩ := run_grow (ty := o.type) hT ht hd he hb ht2 hi2 g1 (by omega) (Nat.le_trans (Nat.mul_le_mul_right _ (nsc_le (by omega))) hg) p1 q1 p1' q1'
    subst hn
    rw [List.take_length] at p2
    have hex : (execOp a.eval o).run P w = .ok (.value (.slice (some ⟨w.heap.size, 0, none⟩) (ob.rows.length + N.length) c)) (w.drew.alloc (.cells (old ++ cs ++ rest) e)) := by
      simp [execOp, ho, resolve, invoke, builtin, hc, hrun]
    obtain ⟨r1, r2⟩ := new_sim (pre := [(k, ob)]) (w' := w.drew.alloc (.cells (old ++ cs ++ rest) e)) hs.bnd hκ (ob := ⟨ie.size, ob.rows ++ N, false⟩) rfl (rows_app p2 q2 p3 q3) rfl rfl rfl rfl
    simp only [Oper.wp, hex, Oper.upon]
    refine hK _ _ _ _ (.win (upd_same _ _ _) (show (w.drew.alloc _).heap[w.heap.size]? = _ from push_new rfl) (Nat.le_refl _) hcc ?_ (.inl (by simp))) r1 r2
    have hsz : c * ie.size = (ob.rows.length + N.length) * ie.size + (c - (ob.rows.length + N.length)) * ie.size := by rw [← Nat.add_mul]; congr 1; omega
    simp only [Array.size_append, p3, q3, hrest, Nat.zero_add]
    rw [hsz, Nat.add_mul]
    exact Nat.le_refl _

/-- behind what has no room, or is nil: an object of one's own, whatever is appended, unless it is nothing behind something -/
theorem lok_appendN (hT : TOk P T) {t e t2 : Nat} {x y : Operand} {i ie i2 : TI} {rd : HL} {N L : List (List V)} {κ : Nat} (ho : o.op = .call { callee := .builtin .append, args := #[x, y], argTypes := #[t, t2] }) (ht : T t = some i) (hd : i.d = .slice e) (he : T e = some ie) (hb : ie.bytes ≠ 0)
    (ht2 : T t2 = some i2) (hi2 : i2.d = .string ∨ ∃ e, i2.d = .slice e) (hx : (∃ sz nn, ov x = .sls sz L nn true ∧ (sz = ie.size ∨ L = [])) ∨ (ov x = .lit (.slice none 0 0) ∧ L = [])) (hsrc : Src P (ov y) ie.size N.length rd N) (hN : N = [] → L = [])
    (hg : (2 * (L.length + N.length) + 192) * ie.bytes ≤ 2 ^ 48) : LOk P ov o rd [] [(κ, ⟨ie.size, L ++ N, false⟩)] (.win κ ie.size 0 (L.length + N.length) (L.length + N.length)) := by
  by_cases hN0 : N = []
  · have hL0 := hN hN0
    subst hN0; subst hL0
    intro S ρ w a hr hs hnew next Q hK
    have hs := hs.of_pre
    have hr := arg_reps ho hr
    have e1 := hr x (by simp)
    have e2 := hr y (by simp)
    obtain ⟨g1, g2⟩ := hsrc S ρ w _ e2 hs
    obtain ⟨cs, q1, q2, q3⟩ := g2 0 (Nat.le_refl _)
    have hcs : cs = #[] := by apply Array.eq_empty_of_size_eq_zero; simpa using q3
    subst hcs
    have hκ : ρ κ = none := hnew κ (by simp [hpo_one]) rfl
    have hbase : ∃ ad, a.eval x = .slice ad 0 0 := by
      rcases hx with ⟨sz, nn, hx, hz⟩ | ⟨hx, _⟩
      · rw [hx] at e1
        generalize a.eval x = cx at e1
        cases e1 with
        | sls h hn hc =>
          have hc := hc rfl
          subst hc
          cases h with
          | sl0 => exact ⟨_, rfl⟩
          | sl h1 h2 h3 h4 h5 h6 => exact ⟨_, rfl⟩
      · rw [hx] at e1
        exact ⟨none, e1.lit_inv⟩
    obtain ⟨ad, hc⟩ := hbase
    have hrun := run_inplace (ty := o.type) hT ht hd he ht2 hi2 (w := w) (w' := w) (base := ad) (n := 0) (cap := 0) g1 (by simp) q1 (fun a _ => rfl) (fun _ => rfl)
    have hex : (execOp a.eval o).run P w = .ok (.value (.slice ad 0 0)) w := by
      have : (Builtin.append_ #[t, t2] o.type #[.slice ad 0 0, a.eval y]).run P w = .ok (.slice ad 0 0) w := hrun
      simp [execOp, ho, resolve, invoke, builtin, hc, this]
    obtain ⟨p1, p2⟩ := none_sim (sz := ie.size) hs.bnd hκ []
    simp only [Oper.wp, hex, Oper.upon]
    exact hK _ S ρ w .win0 p1 p2
  · have hp : 0 < N.length := List.length_pos_iff.2 hN0
    exact lok_appendX hT ho ht hd he hb ht2 hi2 hx hsrc hN0 (Nat.le_trans (Nat.mul_le_mul_right _ (nsc_le (by omega))) hg)

/-- rows of an object are written over, in place -/
theorem put_rows {S : Nat → Prop} {ρ : KM} {w : World} {k sz lo n cp pos : Nat} {ob : VObj} {N : List (List V)} {cs : Array Value} {u : Value} (hu : Rep S ρ w u (.win k sz lo n cp)) (hs : Sim S ρ w (hpo [(k, ob)])) (hz : ob.sz = sz) (hf : ob.frz = false) (hcs : RowsAt S ρ w sz N cs) (hl : cs.size = N.length * sz)
    (h1 : ∀ r ∈ N, r.all V.one = true) (hp : pos + N.length ≤ cp) (hr : lo + pos + N.length ≤ ob.rows.length) :
    ∃ (ad : Option Addr) (cap : Nat) (w' : World), u = .slice ad n cap ∧ cp ≤ cap ∧ (∀ a, ad = some a → (storeCells (a.add (pos * sz)) cs.toList).run P w = .ok () w') ∧ (ad = none → N = [] ∧ w' = w) ∧ Sim S ρ w' (hpo [(k, ⟨sz, ob.rows.take (lo + pos) ++ N ++ ob.rows.drop (lo + pos + N.length), false⟩)]) ∧
      Ext S ρ w (hpo [(k, ob)]) S ρ w' (hpo [(k, ⟨sz, ob.rows.take (lo + pos) ++ N ++ ob.rows.drop (lo + pos + N.length), false⟩)]) ∧ ∀ x, Rep S ρ w u x → Rep S ρ w' u x := by
  have hzero : N.length = 0 → ob.rows.take (lo + pos) ++ N ++ ob.rows.drop (lo + pos + N.length) = ob.rows := fun h => by
    have : N = [] := List.length_eq_zero_iff.1 h
    subst this
    simp
  by_cases hN0 : N.length = 0
  · have hcs0 : cs.toList = [] := by
      have : cs.size = 0 := by rw [hl, hN0, Nat.zero_mul]
      rw [Array.eq_empty_of_size_eq_zero this]
    rw [hzero hN0, hcs0]
    have hob : (⟨sz, ob.rows, false⟩ : VObj) = ob := by cases ob; simp_all
    rw [hob]
    cases hu with
    | win hk hw hn hc hf' ho => exact ⟨_, _, w, rfl, hc, (fun _ _ => rfl), (fun h => by cases h), hs, Ext.refl _ _ _ _, fun _ h => h⟩
    | win0 => exact ⟨_, _, w, rfl, Nat.le_refl _, (fun _ _ => rfl), (fun _ => ⟨List.length_eq_zero_iff.1 hN0, rfl⟩), hs, Ext.refl _ _ _ _, fun _ h => h⟩
  · cases hu with
    | win hk hw hn hc hfit ho =>
      rename_i b off cap c t fr
      obtain ⟨c0, t0, hw0, hR, _⟩ := hs.at (hpo_one_self k ob) hk hw
      rw [hw] at hw0
      cases hw0
      rw [hz] at hR
      have hoff : off = lo * sz := by
        rcases ho with h | h
        · exact h
        · omega
      subst hoff
      have hrl := hR.2.1
      have hq := Nat.mul_le_mul_right sz hr
      have hsz : (lo + pos) * sz + cs.size ≤ c.size := by
        rw [hl, ← Nat.add_mul]
        omega
      have hone := cells_one hcs hl h1
      have hst := run_storeCells (P := P) cs.toList w c ((lo + pos) * sz) 0 hw hone (by simp; exact hsz)
      have hrows := rows_wr (pos := lo + pos) hR hcs hl (by omega) (by rw [Nat.add_mul, ← hl]; exact hsz)
      obtain ⟨p1, p2⟩ := write_sim (ob' := ⟨sz, ob.rows.take (lo + pos) ++ N ++ ob.rows.drop (lo + pos + N.length), false⟩) hs hk hw hf rfl (wr_size _ _ _) hrows
      refine ⟨_, _, _, rfl, hc, (fun a ha => ?_), (fun h => by cases h), p1, p2, fun x h => p2.rep hs h⟩
      cases ha
      rw [add_at, ← Nat.add_mul]
      simpa using hst
    | win0 => omega

/-- within the room that there is -/
theorem lok_appendIn (hT : TOk P T) {t e t2 : Nat} {x y : Operand} {i ie i2 : TI} {rd : HL} {N : List (List V)} {k sz lo n cp : Nat} {ob : VObj} (ho : o.op = .call { callee := .builtin .append, args := #[x, y], argTypes := #[t, t2] }) (ht : T t = some i) (hd : i.d = .slice e) (he : T e = some ie)
    (ht2 : T t2 = some i2) (hi2 : i2.d = .string ∨ ∃ e, i2.d = .slice e) (hx : ov x = .win k sz lo n cp) (hz : ie.size = sz) (hzo : ob.sz = sz) (hf : ob.frz = false) (hsrc : Src P (ov y) ie.size N.length rd N) (hap : Apart rd [(k, ob)])
    (h1 : ∀ r ∈ N, r.all V.one = true) (hp : n + N.length ≤ cp) (hl : lo + n + N.length ≤ ob.rows.length) : LOk P ov o rd [(k, ob)] [(k, ⟨sz, ob.rows.take (lo + n) ++ N ++ ob.rows.drop (lo + n + N.length), false⟩)] (.win k sz lo (n + N.length) cp) := by
  intro S ρ w a hr hs hnew next Q hK
  have hr := arg_reps ho hr
  have e1 := hr x (by simp)
  have e2 := hr y (by simp)
  have hs1 := hs.sub (sub_left rd [(k, ob)])
  have hs2 := hs.sub (sub_right hap)
  obtain ⟨g1, g2⟩ := hsrc S ρ w _ e2 hs1
  obtain ⟨cs, q1, q2, q3⟩ := g2 N.length (Nat.le_refl _)
  rw [List.take_length] at q2
  subst hz
  rw [hx] at e1
  obtain ⟨ad, cap, w', hc, hcap, hst, hst0, p1, p2, p3⟩ := put_rows (P := P) e1 hs2 hzo hf q2 q3 h1 hp hl
  have hrun := run_inplace (ty := o.type) hT ht hd he ht2 hi2 (base := ad) (n := n) (cap := cap) g1 (by omega) q1 hst (fun h => (hst0 h).2)
  have hex : (execOp a.eval o).run P w = .ok (.value (.slice ad (n + N.length) cap)) w' := by
    simp [execOp, ho, resolve, invoke, builtin, hc, hrun]
  simp only [Oper.wp, hex, Oper.upon]
  refine hK _ _ _ _ ?_ p1 p2
  have := p3 _ e1
  rw [hc] at this
  generalize hv : Value.slice ad n cap = v at this
  cases this with
  | win hk hw hn hc hf' ho => cases hv; exact .win hk hw hp hc hf' ho
  | win0 =>
    cases hv
    have : N.length = 0 := by omega
    rw [this]
    exact .win0

theorem lok_copy (hT : TOk P T) {t e t2 : Nat} {x y : Operand} {i ie : TI} {rd : HL} {N : List (List V)} {k sz lo n cp m : Nat} {ob : VObj} (ho : o.op = .call { callee := .builtin .copy, args := #[x, y], argTypes := #[t, t2] }) (ht : T t = some i) (hd : i.d = .slice e) (he : T e = some ie)
    (hx : ov x = .win k sz lo n cp) (hz : ie.size = sz) (hzo : ob.sz = sz) (hf : ob.frz = false) (hsrc : Src P (ov y) ie.size N.length rd N) (hap : Apart rd [(k, ob)]) (hm : m = min N.length n)
    (h1 : ∀ r ∈ N, r.all V.one = true) (hp : n ≤ cp) (hl : lo + m ≤ ob.rows.length) : LOk P ov o rd [(k, ob)] [(k, ⟨sz, ob.rows.take lo ++ N.take m ++ ob.rows.drop (lo + m), false⟩)] (.lit (.int .i64 m)) := by
  intro S ρ w a hr hs hnew next Q hK
  have hr := arg_reps ho hr
  have e1 := hr x (by simp)
  have e2 := hr y (by simp)
  have hs1 := hs.sub (sub_left rd [(k, ob)])
  have hs2 := hs.sub (sub_right hap)
  obtain ⟨g1, g2⟩ := hsrc S ρ w _ e2 hs1
  have hmN : m ≤ N.length := by omega
  obtain ⟨cs, q1, q2, q3⟩ := g2 m hmN
  subst hz
  rw [hx] at e1
  have hlen : (N.take m).length = m := by simp; omega
  obtain ⟨ad, cap, w', hc, hcap, hst, hst0, p1, p2, p3⟩ := put_rows (P := P) (pos := 0) e1 hs2 hzo hf q2 (by rw [hlen]; exact q3) (fun r hr => h1 r (List.mem_of_mem_take hr)) (by rw [hlen]; omega) (by rw [hlen]; omega)
  rw [hlen, Nat.add_zero] at p1 p2
  have hu := (hT t i ht).d
  rw [hd] at hu
  have hs := (hT e ie he).run_sizeOf w
  simp only [Nat.zero_mul, Addr.add_zero'] at hst
  have hmm : Nat.min N.length n = m := hm.symm
  have hex : (execOp a.eval o).run P w = .ok (.value (.int .i64 m)) w' := by
    cases ad with
    | some ad => simp [execOp, ho, resolve, invoke, builtin, hc, Builtin.copy_, run_underlying hu, g1, hs, hmm, q1, hst ad rfl, goInt]
    | none =>
      obtain ⟨hN0, rfl⟩ := hst0 rfl
      simp [execOp, ho, resolve, invoke, builtin, hc, Builtin.copy_, run_underlying hu, g1, hs, hmm, q1, goInt]
  simp only [Oper.wp, hex, Oper.upon]
  exact hK _ _ _ _ (.lit rfl) p1 p2

/-- copied within one object -/
theorem lok_copy_self (hT : TOk P T) {t e t2 : Nat} {x y : Operand} {i ie : TI} {N : List (List V)} {k sz lo n cp m : Nat} {ob : VObj} (ho : o.op = .call { callee := .builtin .copy, args := #[x, y], argTypes := #[t, t2] }) (ht : T t = some i) (hd : i.d = .slice e) (he : T e = some ie)
    (hx : ov x = .win k sz lo n cp) (hz : ie.size = sz) (hzo : ob.sz = sz) (hf : ob.frz = false) (hsrc : Src P (ov y) ie.size N.length [(k, ob)] N) (hm : m = min N.length n)
    (h1 : ∀ r ∈ N, r.all V.one = true) (hp : n ≤ cp) (hl : lo + m ≤ ob.rows.length) : LOk P ov o [] [(k, ob)] [(k, ⟨sz, ob.rows.take lo ++ N.take m ++ ob.rows.drop (lo + m), false⟩)] (.lit (.int .i64 m)) := by
  intro S ρ w a hr hs hnew next Q hK
  have hr := arg_reps ho hr
  have e1 := hr x (by simp)
  have e2 := hr y (by simp)
  have hs1 : Sim S ρ w (hpo [(k, ob)]) := by simpa using hs
  have hs2 := hs1
  obtain ⟨g1, g2⟩ := hsrc S ρ w _ e2 hs1
  have hmN : m ≤ N.length := by omega
  obtain ⟨cs, q1, q2, q3⟩ := g2 m hmN
  subst hz
  rw [hx] at e1
  have hlen : (N.take m).length = m := by simp; omega
  obtain ⟨ad, cap, w', hc, hcap, hst, hst0, p1, p2, p3⟩ := put_rows (P := P) (pos := 0) e1 hs2 hzo hf q2 (by rw [hlen]; exact q3) (fun r hr => h1 r (List.mem_of_mem_take hr)) (by rw [hlen]; omega) (by rw [hlen]; omega)
  rw [hlen, Nat.add_zero] at p1 p2
  have hu := (hT t i ht).d
  rw [hd] at hu
  have hs := (hT e ie he).run_sizeOf w
  simp only [Nat.zero_mul, Addr.add_zero'] at hst
  have hmm : Nat.min N.length n = m := hm.symm
  have hex : (execOp a.eval o).run P w = .ok (.value (.int .i64 m)) w' := by
    cases ad with
    | some ad => simp [execOp, ho, resolve, invoke, builtin, hc, Builtin.copy_, run_underlying hu, g1, hs, hmm, q1, hst ad rfl, goInt]
    | none =>
      obtain ⟨hN0, rfl⟩ := hst0 rfl
      simp [execOp, ho, resolve, invoke, builtin, hc, Builtin.copy_, run_underlying hu, g1, hs, hmm, q1, goInt]
  simp only [Oper.wp, hex, Oper.upon]
  exact hK _ _ _ _ (.lit rfl) p1 p2

end
end Go.Proofs.Ytbieiehfohldjaa
