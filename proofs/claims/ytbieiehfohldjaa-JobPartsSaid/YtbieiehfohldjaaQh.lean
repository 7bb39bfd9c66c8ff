/-
  The value-level machine over the model, part 8.
-/
import Derived.Test.YtbieiehfohldjaaQg
import Derived.Laws.BitsAllLaws
namespace Go.Proofs.Ytbieiehfohldjaa
open Go
set_option linter.unusedVariables false
set_option linter.unusedSimpArgs false
set_option maxRecDepth 100000

abbrev i64 (n : Int) : V := .lit (.int .i64 n)
abbrev u64 (n : Int) : V := .lit (.int .u64 n)
abbrev u8 (n : Int) : V := .lit (.int .u8 n)
abbrev u16 (n : Int) : V := .lit (.int .u16 n)
abbrev u32 (n : Int) : V := .lit (.int .u32 n)
abbrev bV (b : Bool) : V := .lit (.bool b)
theorem mixed : Try.prog.follows .mixedOrders = true := by decide
theorem eqI {a b : V} (h : a = b) : a = b := h
theorem bI {a b : Bool} (h : a = b) : bV a = bV b := by rw [h]
theorem fnC_nil {P : Program} {k : FuncId} {args : List V} {F F' : HL} {r : V} (i : Nat) {sz : Nat} {l : List (List V)} (hi : args[i]? = some (.sl sz l)) (h1 : l = [] → FnC P k (args.set i (.lit (.slice none 0 0))) F r F') (h2 : FnC P k (args.set i (.sls sz l true false)) F r F') : FnC P k args F r F' :=
  ⟨h2.1, fn_nil i hi (fun h => (h1 h).2) h2.2⟩
theorem fnC_eq {P : Program} {k : FuncId} {args : List V} {F F' : HL} {r r' : V} (h : FnC P k args F r F') (e : r = r') : FnC P k args F r' F' := e ▸ h

/-- what is to be shown on the way -/
structure Side (A : Prop) : Prop where
  h : A
theorem andI {A B : Prop} (a : Side A) (b : B) : A ∧ B := ⟨a.h, b⟩
theorem drawI {ops : Array Oper} {rs : List KK} (h : drawF ops rs = true) : drawQ ops rs = true := drawF_sound h
theorem cEq {a b : Int} {X Y : Prop} (h1 : a = b → X) (h2 : a ≠ b → Y) : condN (a == b) X Y := condN_split (fun h => h1 (by simpa using h)) (fun h => h2 (by simpa using h))
theorem cNe {a b : Int} {X Y : Prop} (h1 : a ≠ b → X) (h2 : a = b → Y) : condN (a != b) X Y := condN_split (fun h => h1 (by simpa using h)) (fun h => h2 (by simpa using h))
theorem cNot {a : Bool} {X Y : Prop} (h1 : a = false → X) (h2 : a = true → Y) : condN (!a) X Y := condN_split (fun h => h1 (by simpa using h)) (fun h => h2 (by simpa using h))
theorem cDec {p : Prop} [Decidable p] {X Y : Prop} (h1 : p → X) (h2 : ¬ p → Y) : condN (decide p) X Y := condN_split (fun h => h1 (by simpa using h)) (fun h => h2 (by simpa using h))
theorem condT {b : Bool} {X Y : Prop} (h : b = true) (x : X) : condN b X Y := by subst h; exact x
theorem condF {b : Bool} {X Y : Prop} (h : b = false) (y : Y) : condN b X Y := by subst h; exact y
theorem decT {p : Prop} [Decidable p] {X Y : Prop} (h : p) (x : X) : condN (decide p) X Y := condT (by simpa using h) x
theorem decF {p : Prop} [Decidable p] {X Y : Prop} (h : ¬ p) (y : Y) : condN (decide p) X Y := condF (by simpa using h) y
theorem eqT {a b : Int} {X Y : Prop} (h : a = b) (x : X) : condN (a == b) X Y := condT (by simpa using h) x
theorem eqF {a b : Int} {X Y : Prop} (h : a ≠ b) (y : Y) : condN (a == b) X Y := condF (by simpa using h) y
theorem neT {a b : Int} {X Y : Prop} (h : a ≠ b) (x : X) : condN (a != b) X Y := condT (by simpa using h) x
theorem neF {a b : Int} {X Y : Prop} (h : a = b) (y : Y) : condN (a != b) X Y := condF (by simpa using h) y
/- structs of numbers and truth values, held against each other -/
def flatFields (P : Program) : List Field → List Bool → Nat → Bool
  | [], [], _ => true
  | f :: fs, b :: sh, o => f.name != "_" && f.offset == o && !aggOf P f.type && (match P.underlying f.type, b with | some (.int _), true => true | some .bool, false => true | _, _ => false) && flatFields P fs sh (o + 1)
  | _, _, _ => false
theorem run_part {P : Program} {t : TypeId} {cs : Array Value} {o : Nat} {v : Value} {w : World} (hd : (P.underlying t).isSome = true) (ha : aggOf P t = false) (hv : cs[o]? = some v) : (part t cs o).run P w = .ok v w := by
  obtain ⟨d, hd⟩ := Option.isSome_iff_exists.1 hd
  have hag : (isAgg t).run P w = .ok (aggOf P t) w := by
    simp only [isAgg, Sem.run_bind, run_underlying hd, Result.andThen_ok, aggOf, hd]
    cases d <;> rfl
  unfold part
  simp only [Sem.run_bind, hag, Result.andThen_ok, ha, Bool.false_eq_true, if_false, hv, Sem.run_pure]
theorem eqFields_run {P : Program} {d : Nat} {xs ys : Array Value} {w : World} : ∀ (fs : List Field) (sh : List Bool) (o : Nat) (cs ds : List V) (r : Bool), flatFields P fs sh o = true →
    (∀ (i : Nat) (v : Value), cs[i]? = some (.lit v) → xs[o + i]? = some v) → (∀ (i : Nat) (v : Value), ds[i]? = some (.lit v) → ys[o + i]? = some v) → eqCells sh cs ds = some r → (Op.eqFields (d + 1) xs ys fs).run P w = .ok r w
  | [], [], o, [], [], r, _, _, _, h => by simp only [eqCells, Option.some.injEq] at h; subst h; rfl
  | [], [], o, [], _ :: _, r, _, _, _, h => by simp [eqCells] at h
  | [], [], o, _ :: _, _, r, _, _, _, h => by simp [eqCells] at h
  | [], _ :: _, o, cs, ds, r, h, _, _, _ => by simp [flatFields] at h
  | _ :: _, [], o, cs, ds, r, h, _, _, _ => by simp [flatFields] at h
  | f :: fs, b :: sh, o, cs, ds, r, hf, hx, hy, h => by
    simp only [flatFields, Bool.and_eq_true, bne_iff_ne, ne_eq, beq_iff_eq, Bool.not_eq_true'] at hf
    obtain ⟨⟨⟨⟨h1, h2⟩, h3⟩, h4⟩, h5⟩ := hf
    subst h2
    have key : ∀ (u v : Value) (e : Bool) (r' : Bool), xs[f.offset]? = some u → ys[f.offset]? = some v → (P.underlying f.type).isSome = true → (Op.equalIn (d + 1) f.type u v).run P w = .ok e w → (Op.eqFields (d + 1) xs ys fs).run P w = .ok r' w →
        (Op.eqFields (d + 1) xs ys (f :: fs)).run P w = .ok (e && r') w := fun u v e r' a1 a2 a3 a4 a5 => by
      simp only [Op.eqFields, ne_eq, h1, not_false_eq_true, if_true, Sem.run_bind, run_part a3 h3 a1, run_part a3 h3 a2, Result.andThen_ok, a4]
      cases e with
      | true => simpa using a5
      | false => simp
    have nx : ∀ (l : List V) (zs : Array Value) (c : V), (∀ (i : Nat) (v : Value), (c :: l)[i]? = some (.lit v) → zs[f.offset + i]? = some v) → ∀ (i : Nat) (v : Value), l[i]? = some (.lit v) → zs[f.offset + 1 + i]? = some v := fun l zs c hz i v e => by
      have := hz (i + 1) v e
      rwa [show f.offset + (i + 1) = f.offset + 1 + i by omega] at this
    cases b with
    | true =>
      have hq : ∃ q, P.underlying f.type = some (.int q) := by
        revert h4
        cases P.underlying f.type with
        | none => intro h; cases h
        | some D => cases D <;> intro h <;> first | exact ⟨_, rfl⟩ | cases h
      obtain ⟨q, hq⟩ := hq
      match cs, ds, h, hx, hy with
      | .lit (.int k a) :: l, .lit (.int k' b') :: l', h, hx, hy =>
        simp only [eqCells] at h
        split at h
        · rename_i hk
          subst hk
          obtain ⟨r', hr', rfl⟩ := Option.map_eq_some_iff.1 h
          exact key _ _ _ _ (hx 0 _ rfl) (hy 0 _ rfl) (by rw [hq]; rfl) (run_equalIn_int w d _ _ _ _ _ hq) (eqFields_run fs sh (f.offset + 1) l l' r' h5 (nx l xs _ hx) (nx l' ys _ hy) hr')
        · cases h
    | false =>
      have hq : P.underlying f.type = some .bool := by
        revert h4
        cases P.underlying f.type with
        | none => intro h; cases h
        | some D => cases D <;> intro h <;> first | rfl | cases h
      match cs, ds, h, hx, hy with
      | .lit (.bool a) :: l, .lit (.bool b') :: l', h, hx, hy =>
        simp only [eqCells] at h
        obtain ⟨r', hr', rfl⟩ := Option.map_eq_some_iff.1 h
        exact key _ _ _ _ (hx 0 _ rfl) (hy 0 _ rfl) (by rw [hq]; rfl) (run_equalIn_bool' w d _ _ _ hq) (eqFields_run fs sh (f.offset + 1) l l' r' h5 (nx l xs _ hx) (nx l' ys _ hy) hr')
theorem eqFlat_of {P : Program} {t : Nat} {sh : List Bool} (hu : P.underlying t = some (.struct (P.fieldsOf t))) (hg : P.eqGuardType P.depth t = false) (hs : P.stoodInHeld t = false) (hf : flatFields P (P.fieldsOf t).toList sh 0 = true) : EqFlat P t sh := by
  intro op x y xs ys cs ds r w hxl hyl hx hy hr hop
  refine ⟨run_eqGuard_agg w op t x y xs ys hg, ?_⟩
  have lift : ∀ (xs : Array Value) (cs : List V), xs.size = cs.length → (∀ (i : Nat) (u : Value) (v : V), xs[i]? = some u → cs[i]? = some v → ∀ z, v = .lit z → u = z) → ∀ (i : Nat) (v : Value), cs[i]? = some (.lit v) → xs[0 + i]? = some v := fun xs cs hl h i v e => by
    have hi : i < cs.length := (List.getElem?_eq_some_iff.1 e).1
    have hi' : i < xs.size := by omega
    rw [Nat.zero_add, Array.getElem?_eq_getElem hi', h i xs[i] _ (Array.getElem?_eq_getElem hi') e v rfl]
  have := eqFields_run (d := 9998) (w := w) (P.fieldsOf t).toList sh 0 cs ds r hf (lift xs cs hxl hx) (lift ys ds hyl hy) hr
  have he := run_equalIn_struct (P := P) w 9999 t xs ys hu hs
  rw [this] at he
  rcases hop with rfl | rfl
  · rw [run_eql_struct, he]; rfl
  · rw [run_neq_struct, he]; rfl
/-- bytes -/
def isB (r : List V) : Prop := ∃ n : Int, r = [u8 n] ∧ 0 ≤ n ∧ n < 256
def Bytes (l : List (List V)) : Prop := ∀ r ∈ l, isB r
theorem Bytes.plain {l : List (List V)} (h : Bytes l) : rowsPlain l := fun r hr => by
  obtain ⟨n, rfl, _⟩ := h r hr
  rfl
theorem Bytes.one {l : List (List V)} (h : Bytes l) : oneRows l := fun r hr => by
  obtain ⟨n, rfl, _⟩ := h r hr
  rfl
theorem Bytes.nil : Bytes [] := fun r h => by cases h
theorem Bytes.take {l : List (List V)} (h : Bytes l) (n : Nat) : Bytes (l.take n) := fun r hr => h r (List.mem_of_mem_take hr)
theorem Bytes.drop {l : List (List V)} (h : Bytes l) (n : Nat) : Bytes (l.drop n) := fun r hr => h r (List.mem_of_mem_drop hr)
theorem Bytes.app {l k : List (List V)} (h : Bytes l) (h' : Bytes k) : Bytes (l ++ k) := fun r hr => by
  rcases List.mem_append.1 hr with hr | hr
  · exact h r hr
  · exact h' r hr
/-- the bytes that rows are -/
def byteOf : List V → UInt8
  | [.lit (.int _ n)] => UInt8.ofNat n.toNat
  | _ => 0
def bytesOf (l : List (List V)) : List UInt8 := l.map byteOf
theorem Bytes.rows {l : List (List V)} (h : Bytes l) : l = byteRows (bytesOf l) := by
  induction l with
  | nil => rfl
  | cons r l ih =>
    obtain ⟨n, rfl, h0, h1⟩ := h _ (List.mem_cons_self)
    have ih := ih fun r hr => h r (List.mem_cons_of_mem _ hr)
    simp only [bytesOf, byteRows, List.map_cons, List.map_map] at ih ⊢
    rw [← ih]
    congr 2
    simp only [byteOf, u8V, V.lit.injEq, Value.int.injEq, true_and, UInt8.toNat_ofNat']
    omega
theorem Bytes.inj {l k : List (List V)} (h : Bytes l) (h' : Bytes k) : bytesOf l = bytesOf k ↔ l = k := by
  refine ⟨fun e => ?_, fun e => by rw [e]⟩
  rw [h.rows, h'.rows, e]
theorem toList_mk (bs : List UInt8) : (⟨bs.toArray⟩ : ByteArray).toList = bs := by
  rw [ByteArray.toList_eq]

theorem toNat_min (n : Nat) (k : Int) : (min (n : Int) k).toNat = min n k.toNat := by omega
theorem take_min {α : Type} (l : List α) (k : Nat) : List.take (min l.length k) l = List.take k l := by
  rcases Nat.le_total l.length k with h | h
  · rw [Nat.min_eq_left h, List.take_length, List.take_of_length_le h]
  · rw [Nat.min_eq_right h]
theorem wrap64 {n : Int} (h0 : -9223372036854775808 ≤ n) (h1 : n < 9223372036854775808) : IntKind.i64.wrap n = n := by
  rw [IntKind.wrap_i64]; omega
theorem wrapu64 (n : Int) : IntKind.u64.wrap n = n % 18446744073709551616 := by simp [IntKind.wrap, IntKind.bits, IntKind.signed]
theorem and_mask (k : IntKind) (i : Nat) (hi : i < k.bits) (x : Int) : bits .and k x (2 ^ i - 1) = x % 2 ^ i := by
  have e : (BitVec.ofInt k.bits x &&& BitVec.ofInt k.bits (2 ^ i - 1)).toNat = (x % 2 ^ i).toNat := by
    rw [BitVec.toNat_and, BitVec.toNat_ofInt, BitVec.toNat_ofInt]
    have hp : (0 : Int) < 2 ^ i := Int.pow_pos (by decide)
    have hlt : (2 : Nat) ^ i < 2 ^ k.bits := Nat.pow_lt_pow_right (by decide) hi
    have h1 : (((2 : Int) ^ i - 1) % ((2 ^ k.bits : Nat) : Int)).toNat = 2 ^ i - 1 := by
      rw [Int.emod_eq_of_lt (by omega) (by push_cast at hlt ⊢; have : (2 : Int) ^ i < 2 ^ k.bits := by exact_mod_cast hlt
                                           omega)]
      have : ((2 : Int) ^ i - 1) = ((2 ^ i - 1 : Nat) : Int) := by
        rw [Int.ofNat_sub (Nat.one_le_two_pow)]; push_cast; rfl
      rw [this]; rfl
    rw [h1, Nat.and_two_pow_sub_one_eq_mod]
    have hd : ((2 : Int) ^ i) ∣ ((2 ^ k.bits : Nat) : Int) := by
      have := Int.natCast_dvd_natCast.2 (Nat.pow_dvd_pow 2 (Nat.le_of_lt hi))
      push_cast at this ⊢
      exact this
    have h2 : (0 : Int) ≤ x % ((2 ^ k.bits : Nat) : Int) := Int.emod_nonneg _ (by have := Nat.two_pow_pos k.bits; omega)
    apply Int.ofNat.inj
    show (((x % ((2 ^ k.bits : Nat) : Int)).toNat % 2 ^ i : Nat) : Int) = (((x % 2 ^ i).toNat : Nat) : Int)
    rw [Int.natCast_emod, Int.toNat_of_nonneg h2, Int.toNat_of_nonneg (Int.emod_nonneg _ (by omega))]
    push_cast
    exact Int.emod_emod_of_dvd _ (by push_cast at hd; exact hd)
  unfold bits
  simp only [e]
  have hp : (0 : Int) < 2 ^ i := Int.pow_pos (by decide)
  have h0 : 0 ≤ x % 2 ^ i := Int.emod_nonneg _ (by omega)
  have h1 : x % 2 ^ i < 2 ^ i := Int.emod_lt_of_pos _ hp
  have h2 : (2 : Int) ^ i ≤ 2 ^ (k.bits - 1) := by
    have : (2 : Nat) ^ i ≤ 2 ^ (k.bits - 1) := Nat.pow_le_pow_right (by decide) (by omega)
    exact_mod_cast this
  have h3 : (2 : Int) ^ (k.bits - 1) < 2 ^ k.bits := by
    have : (2 : Nat) ^ (k.bits - 1) < 2 ^ k.bits := Nat.pow_lt_pow_right (by decide) (by omega)
    exact_mod_cast this
  rw [Int.toNat_of_nonneg h0]
  unfold IntKind.wrap
  rw [Int.emod_eq_of_lt h0 (by omega)]
  simp only
  rw [if_neg]
  simp only [Bool.and_eq_true, decide_eq_true_eq]
  omega

end Go.Proofs.Ytbieiehfohldjaa
namespace Go.Proofs.Ytbieiehfohldjaa
open Go
set_option linter.unusedVariables false
set_option linter.unusedSimpArgs false
set_option maxRecDepth 100000

abbrev BS := List UInt8
abbrev bsV (b : BS) : V := .sl 1 (byteRows b)
theorem rowsPlain_def {N : List (List V)} : rowsPlain N = ∀ r ∈ N, r.all kfc = true := rfl
theorem rp_nil : rowsPlain [] = True := by simp [rowsPlain]
theorem rp_app (l k : List (List V)) : rowsPlain (l ++ k) = (rowsPlain l ∧ rowsPlain k) := by
  simp only [rowsPlain, List.mem_append, eq_iff_iff]
  exact ⟨fun h => ⟨fun r hr => h r (.inl hr), fun r hr => h r (.inr hr)⟩, fun h r hr => hr.elim (h.1 r) (h.2 r)⟩
theorem bool_close {p q : Bool} (h : p = true ↔ q = true) : V.lit (Value.bool p) = bV q := by rw [Bool.eq_iff_iff.2 h]
theorem wrap8 {n : Int} (h0 : 0 ≤ n) (h1 : n ≤ 255) : IntKind.u8.wrap n = n := by
  have e : n % (2 ^ 8 : Int) = n := Int.emod_eq_of_lt h0 (by omega)
  simp only [IntKind.wrap, IntKind.bits, IntKind.signed, e]
  rfl
theorem one_int (k : IntKind) (n : Int) : (Value.int k n).oneCell' = true := rfl
theorem one_bool (b : Bool) : (Value.bool b).oneCell' = true := rfl
theorem one_str (b : ByteArray) : (Value.string b).oneCell' = true := rfl
theorem rp_cons (r : List V) (l : List (List V)) : rowsPlain (r :: l) = (r.all kfc = true ∧ rowsPlain l) := by simp [rowsPlain]
theorem or_cons (r : List V) (l : List (List V)) : oneRows (r :: l) = (r.all V.one = true ∧ oneRows l) := by simp [oneRows]
theorem rp_map {α : Type} {f : α → List V} (hf : ∀ x, (f x).all kfc = true) (l : List α) : rowsPlain (l.map f) = True := by
  simp only [rowsPlain, List.mem_map, eq_iff_iff, iff_true]
  rintro r ⟨x, _, rfl⟩
  exact hf x
theorem rp_b (l : BS) : rowsPlain (byteRows l) = True := rp_map (fun x => rfl) l
theorem rp_all {N : List (List V)} (h : (N.all fun r => r.all kfc) = true) : rowsPlain N := by simpa [rowsPlain, List.all_eq_true] using h
theorem or_all {N : List (List V)} (h : (N.all fun r => r.all V.one) = true) : oneRows N := by simpa [oneRows, List.all_eq_true] using h
theorem or_nil : oneRows [] = True := by simp [oneRows]
theorem or_app (l k : List (List V)) : oneRows (l ++ k) = (oneRows l ∧ oneRows k) := by
  simp only [oneRows, List.mem_append, eq_iff_iff]
  exact ⟨fun h => ⟨fun r hr => h r (.inl hr), fun r hr => h r (.inr hr)⟩, fun h r hr => hr.elim (h.1 r) (h.2 r)⟩
theorem or_map {α : Type} {f : α → List V} (hf : ∀ x, (f x).all V.one = true) (l : List α) : oneRows (l.map f) = True := by
  simp only [oneRows, List.mem_map, eq_iff_iff, iff_true]
  rintro r ⟨x, _, rfl⟩
  exact hf x
theorem or_b (l : BS) : oneRows (byteRows l) = True := or_map (fun x => rfl) l
theorem rn_plain {p : Nat → Prop} {N : List (List V)} (h : rowsPlain N) : RowsNm p N := RowsNm.plain h
/-- texts of bytes, in a row -/
def blsRows (l : List BS) : List (List V) := l.map fun x => [bsV x]
theorem rp_bls (l : List BS) : rowsPlain (blsRows l) = True := rp_map (fun x => rfl) l
theorem or_bls (l : List BS) : oneRows (blsRows l) = True := or_map (fun x => rfl) l
theorem len_bls (l : List BS) : (blsRows l).length = l.length := by simp [blsRows]
theorem snoc_bls (l : List BS) (x : BS) : blsRows l ++ [[V.sl 1 (byteRows x)]] = blsRows (l ++ [x]) := by simp [blsRows]
theorem nil_bls : blsRows [] = [] := rfl
theorem bls_get {l : List BS} {j : Nat} (h : Side (j < l.length)) : (blsRows l)[j]? = some [bsV (l[j]?.getD [])] := by
  have h := h.h
  simp only [blsRows, List.getElem?_map, List.getElem?_eq_getElem h]
  rfl
theorem len_b (l : BS) : (byteRows l).length = l.length := by simp [byteRows]
theorem nil_b : byteRows [] = [] := rfl
theorem sl1_nil : V.sl 1 [] = V.sl 1 (byteRows []) := rfl
theorem take_b (n : Nat) (l : BS) : List.take n (byteRows l) = byteRows (List.take n l) := by simp [byteRows, List.map_take]
theorem drop_b (n : Nat) (l : BS) : List.drop n (byteRows l) = byteRows (List.drop n l) := by simp [byteRows, List.map_drop]
theorem app_b (l k : BS) : byteRows l ++ byteRows k = byteRows (l ++ k) := by simp [byteRows]
theorem rep_b (n : Nat) : List.replicate n [V.lit (Value.int .u8 0)] = byteRows (List.replicate n 0) := by simp [byteRows, u8V]
theorem inj_b {l k : BS} : byteRows l = byteRows k ↔ l = k := by
  refine ⟨fun h => ?_, fun h => by rw [h]⟩
  have := congrArg bytesOf h
  have e : ∀ l : BS, bytesOf (byteRows l) = l := fun l => by
    simp only [bytesOf, byteRows, List.map_map]
    rw [show byteOf ∘ (fun b => [u8V b]) = id from ?_]
    · simp
    · funext b
      simp [byteOf, u8V]
  rwa [e, e] at this
theorem get_b (l : BS) (i : Nat) : (byteRows l)[i]? = (l[i]?).map fun c => [u8V c] := by simp [byteRows]
theorem eq_str (l k : BS) : (l.toArray.toList == k.toArray.toList) = (l == k) := rfl
theorem tmod64 (n : Nat) : ((n : Int).tmod 64 == 0) = decide (n % 64 = 0) := by
  rw [Int.tmod_eq_emod_of_nonneg (Int.natCast_nonneg n), Bool.eq_iff_iff]
  simp only [beq_iff_eq, decide_eq_true_eq]
  omega

theorem map_get {α : Type} {f : α → List V} {l : List α} {j : Nat} (d : α) (h : Side (j < l.length)) : (l.map f)[j]? = some (f (l[j]?.getD d)) := by
  have h := h.h
  rw [List.getElem?_map, List.getElem?_eq_getElem h]
  rfl
theorem take_getD {α : Type} {l : List α} {j : Nat} (d : α) (h : j < l.length) : l.take (j + 1) = l.take j ++ [l[j]?.getD d] := by
  rw [List.getElem?_eq_getElem h, List.take_succ_eq_append_getElem h]
  rfl
theorem bytes_get {l : BS} {j : Nat} (h : Side (j < l.length)) : (byteRows l)[j]? = some [u8V (l[j]?.getD 0)] := map_get 0 h
theorem fnC_args {P : Program} {k : FuncId} {args args' : List V} {F F' : HL} {r : V} (h : FnC P k args' F r F') (e : args = args') : FnC P k args F r F' := e ▸ h
end Go.Proofs.Ytbieiehfohldjaa
namespace Go.Proofs.Ytbieiehfohldjaa
open Go
set_option linter.unusedVariables false
set_option linter.unusedSimpArgs false

theorem forIn_ok {P : Program} {α : Type} {w : World} (body : α → PUnit → Sem (ForInStep PUnit)) : ∀ (l : List α), (∀ x ∈ l, (body x ⟨⟩).run P w = .ok (.yield ⟨⟩) w) → (forIn l PUnit.unit body : Sem PUnit).run P w = .ok ⟨⟩ w
  | [], _ => by simp
  | x :: l, h => by
    have ih := forIn_ok body l fun y hy => h y (List.mem_cons_of_mem _ hy)
    simp only [List.forIn_cons, Sem.run_bind, h x (List.mem_cons_self ..), Result.andThen_ok, ih]
theorem chkFields_run {P : Program} {xs : Array Value} : ∀ (fs : List Field) (sh : List Bool) (o : Nat), flatFields P fs sh o = true →
    (∀ (i : Nat) (b : Bool), sh[i]? = some b → ∃ v, xs[o + i]? = some v) → ∀ f ∈ fs, ∃ v, xs[f.offset]? = some v ∧ f.name ≠ "_" ∧ aggOf P f.type = false ∧ ((∃ q, P.underlying f.type = some (.int q)) ∨ P.underlying f.type = some .bool)
  | [], _, _, _, _ => fun f hf => by simp at hf
  | f :: fs, [], o, h, _ => by simp [flatFields] at h
  | f :: fs, b :: sh, o, h, hx => by
    simp only [flatFields, Bool.and_eq_true, bne_iff_ne, ne_eq, beq_iff_eq, Bool.not_eq_true'] at h
    obtain ⟨⟨⟨⟨h1, h2⟩, h3⟩, h4⟩, h5⟩ := h
    intro g hg
    rcases List.mem_cons.1 hg with rfl | hg
    · obtain ⟨v, hv⟩ := hx 0 b rfl
      refine ⟨v, by rw [h2]; exact hv, h1, h3, ?_⟩
      revert h4
      cases P.underlying g.type with
      | none => intro h; cases h
      | some D => cases D <;> cases b <;> intro h <;> first | exact .inl ⟨_, rfl⟩ | exact .inr rfl | cases h
    · exact chkFields_run fs sh (o + 1) h5 (fun i b hb => by
        have := hx (i + 1) b (by simpa using hb)
        rwa [show o + (i + 1) = o + 1 + i by omega] at this) g hg
theorem eqCells_len {sh : List Bool} {cs ds : List V} : ∀ {r : Bool}, eqCells sh cs ds = some r → sh.length = cs.length := by
  induction sh, cs, ds using eqCells.induct with
  | case1 => intro r _; rfl
  | case2 sh a l k' b l' ih =>
    intro r h
    simp only [eqCells, if_true, Option.map_eq_some_iff] at h
    obtain ⟨r', h', _⟩ := h
    simp [ih h']
  | case3 sh k a l k' b l' hk =>
    intro r h
    simp [eqCells, hk] at h
  | case4 sh a l b l' ih =>
    intro r h
    simp only [eqCells, Option.map_eq_some_iff] at h
    obtain ⟨r', h', _⟩ := h
    simp [ih h']
  | case5 =>
    intro r h
    simp_all [eqCells]
theorem ck_struct {P : Program} {t : Nat} {fs : Array Field} (hu : P.underlying t = some (.struct fs)) (e : Bool) (n : Nat) (xs : Array Value) (w : World) (h : (forIn fs.toList PUnit.unit (fun f (_ : PUnit) => (do
    if f.name ≠ "_" then Instr.checkKey e n f.type (← part f.type xs f.offset)
    pure (ForInStep.yield PUnit.unit) : Sem (ForInStep PUnit))) : Sem PUnit).run P w = .ok ⟨⟩ w) : (Instr.checkKey e (n + 1) t (.agg xs)).run P w = .ok () w := by
  simp only [Instr.checkKey, Sem.run_bind, run_underlying hu, Result.andThen_ok]
  rw [← Array.forIn_toList]
  simp at h ⊢
  rw [h]
  rfl
theorem ck_leaf {P : Program} {t : Nat} {d : TypeDesc} (hu : P.underlying t = some d) (hd : (∃ q, d = .int q) ∨ d = .bool) (e : Bool) (n : Nat) (v : Value) (w : World) : (Instr.checkKey e (n + 1) t v).run P w = .ok () w := by
  rcases hd with ⟨q, rfl⟩ | rfl <;> simp [Instr.checkKey, run_underlying hu]
theorem keyOk_of {P : Program} {t : Nat} {sh : List Bool} (hu : P.underlying t = some (.struct (P.fieldsOf t))) (hs : P.stoodInHeld t = false) (hf : flatFields P (P.fieldsOf t).toList sh 0 = true) : KeyOk P t sh where
  kind := ⟨_, hu⟩
  eq := fun xs ys cs ds r w hx hy hr => by
    have lift : ∀ (xs : Array Value) (cs : List V), LitsAt xs cs → ∀ (i : Nat) (v : Value), cs[i]? = some (.lit v) → xs[0 + i]? = some v := fun xs cs h i v e => by
      have hi : i < cs.length := (List.getElem?_eq_some_iff.1 e).1
      have hi' : i < xs.size := by rw [h.1]; exact hi
      rw [Nat.zero_add, Array.getElem?_eq_getElem hi', h.2 i xs[i] _ (Array.getElem?_eq_getElem hi') e v rfl]
    have h1 := eqFields_run (d := 9998) (w := w) (P.fieldsOf t).toList sh 0 cs ds r hf (lift xs cs hx) (lift ys ds hy) hr
    have he := run_equalIn_struct (P := P) w 9999 t xs ys hu hs
    rw [h1] at he
    exact he
  chk := fun e xs cs w hx hc => by
    obtain ⟨r, hr⟩ := Option.isSome_iff_exists.1 hc
    have hl := eqCells_len hr
    have hall := chkFields_run (xs := xs) (P.fieldsOf t).toList sh 0 hf fun i b hb => by
      have hi : i < xs.size := by rw [hx.1, ← hl]; exact (List.getElem?_eq_some_iff.1 hb).1
      exact ⟨xs[i], by rw [Nat.zero_add, Array.getElem?_eq_getElem hi]⟩
    refine ck_struct hu e 9999 xs w (forIn_ok _ _ fun f hf' => ?_)
    obtain ⟨v, h1, h2, h3, h4⟩ := hall f hf'
    have hs : (P.underlying f.type).isSome = true := by rcases h4 with ⟨q, h⟩ | h <;> rw [h] <;> rfl
    have hck : ∀ w, (Instr.checkKey e 9999 f.type v).run P w = .ok () w := fun w => by
      rcases h4 with ⟨q, h⟩ | h
      · exact ck_leaf h (.inl ⟨q, rfl⟩) e 9998 v w
      · exact ck_leaf h (.inr rfl) e 9998 v w
    generalize hn : (9999 : Nat) = m at hck ⊢
    simp [h2, run_part hs h3 h1, hck]
end Go.Proofs.Ytbieiehfohldjaa
