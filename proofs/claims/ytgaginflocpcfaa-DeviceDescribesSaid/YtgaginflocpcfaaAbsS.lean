/-
  The value-level machine: the evaluator, the other operations.
-/
import Derived.Test.YtgaginflocpcfaaAbsR
namespace Go.Proofs.Ytgaginflocpcfaa
open Go
set_option linter.unusedVariables false
set_option linter.unusedSimpArgs false

section
variable {P : Program} {T : TT} {ov : Operand → V} {o : Oper} {nx : Nat} {H : GH} {K : Eff → V → Prop}

def partsK (ov : Operand → V) : List (Nat × Operand) → (List (Nat × V) → Prop) → Prop
  | [], K => K []
  | (i, x) :: l, K => fV (ov x) fun v => partsK ov l fun qs => K ((i, v) :: qs)
theorem partsK_sound : ∀ (l : List (Nat × Operand)) {K : List (Nat × V) → Prop}, partsK ov l K → K (l.map fun p => (p.1, ov p.2))
  | [], _, h => h
  | (i, x) :: l, K, h => partsK_sound l (K := fun qs => K ((i, ov x) :: qs)) (fV_sound (K := fun v => partsK ov l fun qs => K ((i, v) :: qs)) h)
def argsK (ov : Operand → V) : List Operand → (List V → Prop) → Prop
  | [], K => K []
  | x :: l, K => fV (ov x) fun v => argsK ov l fun qs => K (v :: qs)
theorem argsK_sound : ∀ (l : List Operand) {K : List V → Prop}, argsK ov l K → K (l.map ov)
  | [], _, h => h
  | x :: l, K, h => argsK_sound l (K := fun qs => K (ov x :: qs)) (fV_sound (K := fun v => argsK ov l fun qs => K (v :: qs)) h)

theorem known_isAny {v : V} (h : v.known = true) : v.isAny = false := by cases v <;> first | rfl | cases h

def fillE (place : Nat → Option (Nat × Nat)) : List (Nat × V) → List V → (List V → Prop) → Prop
  | [], cells, K => K cells
  | (i, v) :: rest, cells, K => optK (place i) fun q => match q with
    | (off, size) => chkK (Nat.beq v.cells.length size && Nat.ble (off + size) cells.length && v.known) <| fCs (spl cells off v.cells) fun cells => fillE place rest cells K
theorem fillE_sound {place : Nat → Option (Nat × Nat)} : ∀ (qs : List (Nat × V)) (cells : List V) {K : List V → Prop}, fillE place qs cells K → ∃ cs, fillV place cells qs = some cs ∧ K cs
  | [], cells, _, h => ⟨cells, rfl, h⟩
  | (i, v) :: rest, cells, K, h => by
    obtain ⟨⟨off, size⟩, hp, h⟩ := optK_sound h
    obtain ⟨hc, h⟩ := chkK_sound h
    rw [Bool.and_eq_true, Bool.and_eq_true] at hc
    obtain ⟨cs, h1, h2⟩ := fillE_sound rest _ (fCs_sound _ h)
    refine ⟨cs, ?_, h2⟩
    simp only [fillV, hp]
    rw [if_pos ⟨Nat.eq_of_beq_eq_true hc.1.1, Nat.le_of_ble_eq_true hc.1.2, known_isAny hc.2⟩]
    exact h1
def buildE (T : TT) (ov : Operand → V) (t : Nat) (ps : List (Nat × Operand)) (K : Eff → V → Prop) : Prop := tiK T t fun i => match i.d with
  | .struct fs => partsK ov ps fun qs => fCs i.zero fun z => fillE (i.d.place 0) qs z fun cs => K (.rd []) (.agg cs)
  | .arr n e => tiK T e fun ie => partsK ov ps fun qs => fCs i.zero fun z => fillE (i.d.place ie.size) qs z fun cs => K (.rd []) (.agg cs)
  | _ => False
theorem buildE_sound (hT : TOk P T) {t : Nat} {ps : Array (Nat × Operand)} (ho : o.op = .build t ps) (h : buildE T ov t ps.toList K) : Res P ov o nx H.hp K := by
  obtain ⟨i, ht, h⟩ := tiK_sound h
  split at h
  · rename_i fs hd
    have h := fCs_sound _ (partsK_sound _ h)
    obtain ⟨cs, h1, h2⟩ := fillE_sound _ _ h
    exact res_rd (lok_build hT ho ht (.inl ⟨fs, hd⟩) rfl h1) h2
  · rename_i n e hd
    obtain ⟨ie, he, h⟩ := tiK_sound h
    have h := fCs_sound _ (partsK_sound _ h)
    obtain ⟨cs, h1, h2⟩ := fillE_sound _ _ h
    exact res_rd (lok_build hT ho ht (.inr ⟨n, e, ie, hd, he, rfl⟩) rfl h1) h2
  · exact h.elim

def fillQ (sz : Nat) : List (Nat × V) → List (List V) → (List (List V) → Prop) → Prop
  | [], rows, K => K rows
  | (i, v) :: rest, rows, K => chkK (Nat.beq v.cells.length sz && Nat.blt i rows.length && v.known) <| fRs (rows.set i v.cells) fun rows => fillQ sz rest rows K
theorem fillQ_sound {sz : Nat} : ∀ (qs : List (Nat × V)) (rows : List (List V)) {K : List (List V) → Prop}, fillQ sz qs rows K → ∃ rs, fillR sz rows qs = some rs ∧ K rs
  | [], rows, _, h => ⟨rows, rfl, h⟩
  | (i, v) :: rest, rows, K, h => by
    obtain ⟨hc, h⟩ := chkK_sound h
    rw [Bool.and_eq_true, Bool.and_eq_true] at hc
    obtain ⟨rs, h1, h2⟩ := fillQ_sound rest _ (fRs_sound _ h)
    refine ⟨rs, ?_, h2⟩
    simp only [fillR]
    rw [if_pos ⟨Nat.eq_of_beq_eq_true hc.1.1, Nat.le_of_ble_eq_true hc.1.2, known_isAny hc.2⟩]
    exact h1
/-- rows that name no object -/
def plainQ (rows : List (List V)) : Bool := rows.all fun r => r.all kfc
def buildSliceE (T : TT) (ov : Operand → V) (nx : Nat) (t n : Nat) (ps : List (Nat × Operand)) (K : Eff → V → Prop) : Prop := tiK T t fun i => match i.d with
  | .slice e => tiK T e fun ie => chkK (Nat.ble (n * ie.size) 16777216) <| partsK ov ps fun qs => fCs ie.zero fun z => fRs (List.replicate n z) fun rows => fillQ ie.size qs rows fun rows => K (.nw [] (plainQ rows) ⟨ie.size, rows, false⟩) (.win nx ie.size 0 n n)
  | _ => False
theorem buildSliceE_sound (hT : TOk P T) {t n : Nat} {ps : Array (Nat × Operand)} (ho : o.op = .buildSlice t n ps) (h : buildSliceE T ov nx t n ps.toList K) : Res P ov o nx H.hp K := by
  obtain ⟨i, ht, h⟩ := tiK_sound h
  split at h
  · rename_i e hd
    obtain ⟨ie, he, h⟩ := tiK_sound h
    obtain ⟨hn, h⟩ := chkK_sound h
    have h := fRs_sound _ (fCs_sound _ (partsK_sound _ h))
    obtain ⟨rs, h1, h2⟩ := fillQ_sound _ _ h
    exact res_nw (lok_buildSlice hT ho ht hd he (Nat.le_of_ble_eq_true hn) rfl h1) h2
  · exact h.elim

def makeSliceE (T : TT) (nx : Nat) (t : Nat) (x y : V) (K : Eff → V → Prop) : Prop := tiK T t fun i => match i.d with
  | .slice e => tiK T e fun ie => match x, y with
    | .lit (.int _ n), .lit (.int _ c) => 0 ≤ n ∧ n ≤ c ∧ c ≤ 2 ^ 48 ∧ ie.bytes * c ≤ 2 ^ 48 ∧ fCs ie.zero fun z => (Nat.ble c.toNat 64 = true ∧ fRs (List.replicate c.toNat z) fun rows => K (.nw [] false ⟨ie.size, rows, false⟩) (.win nx ie.size 0 n.toNat c.toNat)) ∨ K (.nw [] true ⟨ie.size, List.replicate c.toNat z, false⟩) (.win nx ie.size 0 n.toNat c.toNat)
    | _, _ => False
  | _ => False
theorem makeSliceE_sound (hT : TOk P T) {t : Nat} {x y : Operand} (ho : o.op = .makeSlice t x y) (h : makeSliceE T nx t (ov x) (ov y) K) : Res P ov o nx H.hp K := by
  obtain ⟨i, ht, h⟩ := tiK_sound h
  split at h
  · rename_i e hd
    obtain ⟨ie, he, h⟩ := tiK_sound h
    split at h
    · rename_i q n q' c hx hy
      obtain ⟨h0, h1, h2, h3, h⟩ := h
      rcases fCs_sound _ h with ⟨_, h⟩ | h
      · exact res_nw (lok_makeSlice hT ho ht hd he hx hy h0 h1 h2 h3) (fRs_sound _ h)
      · exact res_nw (lok_makeSlice hT ho ht hd he hx hy h0 h1 h2 h3) h
    · exact h.elim
  · exact h.elim

/- OPERATORS -/
def binE (T : TT) (t : Nat) (op : BinOp) (a b : Value) (K : Value → Prop) : Prop := match op with
  | .quo => match a, b with
    | .int k x, .int k' y => chkK (decide (k = k')) <| y ≠ 0 ∧ K (.int k (k.wrap (x.tdiv y)))
    | _, _ => False
  | .rem => match a, b with
    | .int k x, .int k' y => chkK (decide (k = k')) <| y ≠ 0 ∧ K (.int k (x.tmod y))
    | _, _ => False
  | .shl => match a, b with
    | .int k x, .int k' y => 0 ≤ y ∧ K (.int k (k.wrap (x * 2 ^ min y.toNat k.bits)))
    | _, _ => False
  | .shr => match a, b with
    | .int k x, .int k' y => 0 ≤ y ∧ K (.int k (x.fdiv (2 ^ min y.toNat k.bits)))
    | _, _ => False
  | op => match a, b with
    | .string x, .string y => match op with
      | .add => ((x.size + y.size : Nat) : Int) ≤ IntKind.i64.max ∧ K (.string (x ++ y))
      | op => optK (binV (T t) op a b) K
    | _, _ => optK (binV (T t) op a b) K
theorem binE_sound {t : Nat} {op : BinOp} {a b : Value} {K : Value → Prop} (h : binE T t op a b K) : ∃ r, binV (T t) op a b = some r ∧ K r := by
  unfold binE at h
  split at h
  · split at h
    · obtain ⟨hk, hy, h⟩ := chkK_sound h
      refine ⟨_, ?_, h⟩
      simp [binV, binK, binI, of_decide_eq_true hk, hy]
    · exact h.elim
  · split at h
    · obtain ⟨hk, hy, h⟩ := chkK_sound h
      refine ⟨_, ?_, h⟩
      simp [binV, binK, binI, of_decide_eq_true hk, hy]
    · exact h.elim
  · split at h
    · obtain ⟨hy, h⟩ := h
      refine ⟨_, ?_, h⟩
      simp [binV, binK, shiftI, Int.not_lt.2 hy]
    · exact h.elim
  · split at h
    · obtain ⟨hy, h⟩ := h
      refine ⟨_, ?_, h⟩
      simp [binV, binK, shiftI, Int.not_lt.2 hy]
    · exact h.elim
  · split at h
    · split at h
      · obtain ⟨hy, h⟩ := h
        refine ⟨_, ?_, h⟩
        simp only [binV, binS]
        rw [if_neg (Int.not_lt.2 hy)]
      · exact optK_sound h
    · exact optK_sound h

def eqOp (op : BinOp) (r : Bool) : Bool := match op with
  | .eql => r
  | _ => !r
/-- structs of a type may be held against each other, cell by cell -/
def EqFlat (P : Program) (t : Nat) (sh : List Bool) : Prop := ∀ (op : BinOp) (x y : Operand) (xs ys : Array Value) (cs ds : List V) (r : Bool) (w : World), xs.size = cs.length → ys.size = ds.length → (∀ (i : Nat) (u : Value) (v : V), xs[i]? = some u → cs[i]? = some v → ∀ z, v = .lit z → u = z) →
  (∀ (i : Nat) (u : Value) (v : V), ys[i]? = some u → ds[i]? = some v → ∀ z, v = .lit z → u = z) → eqCells sh cs ds = some r → (op = .eql ∨ op = .neq) →
  (eqGuard op t x y (.agg xs) (.agg ys)).run P w = .ok () w ∧ (binOp op t (.agg xs) (.agg ys)).run P w = .ok (.bool (eqOp op r)) w
theorem lok_eqFlat {t : Nat} {sh : List Bool} (hE : EqFlat P t sh) {op : BinOp} {t' : TypeId} {x y : Operand} {cs ds : List V} {r : Bool} (ho : o.op = .binOp op t x y t') (hx : ov x = .agg cs) (hy : ov y = .agg ds) (hr : eqCells sh cs ds = some r) (hop : op = .eql ∨ op = .neq) :
    LOk P ov o [] [] [] (.lit (.bool (eqOp op r))) :=
  LOk.pure fun S ρ w a hr' => by
    rw [ho] at hr'
    have e1 := hr' x (by simp [Op.operands])
    have e2 := hr' y (by simp [Op.operands])
    rw [hx] at e1
    rw [hy] at e2
    generalize hcx : a.eval x = cx at e1
    generalize hcy : a.eval y = cy at e2
    cases e1 with
    | agg hl h =>
      cases e2 with
      | agg hl' h' =>
        rename_i xs ys
        obtain ⟨g1, g2⟩ := hE op x y xs ys cs ds r w hl hl' (fun i u v p q z e => by have := h i u v p q; rw [e] at this; exact this.lit_inv) (fun i u v p q z e => by have := h' i u v p q; rw [e] at this; exact this.lit_inv) hr hop
        exact ⟨_, .lit rfl, by simp only [execOp, ho, hcx, hcy, Sem.run_bind, g1, Result.andThen_ok, g2, Sem.run_pure]⟩

def opBinE (P : Program) (T : TT) (op : BinOp) (t : Nat) (x y : V) (K : Eff → V → Prop) : Prop := match x with
  | .lit a => match y with
    | .lit b => binE T t op a b fun r => fVal r fun r => K (.rd []) (.lit r)
    | _ => False
  | .sls sz l nn ex => match nn, y with
    | true, .lit (.slice none 0 0) => tiK T t fun i => chkK i.d.isSlice <| match op with
      | .eql => K (.rd []) (.lit (.bool false))
      | .neq => K (.rd []) (.lit (.bool true))
      | _ => False
    | _, _ => False
  | .agg cs => match y with
    | .agg ds => ∃ sh, EqFlat P t sh ∧ optK (eqCells sh cs ds) fun r => match op with
      | .eql => K (.rd []) (.lit (.bool r))
      | .neq => K (.rd []) (.lit (.bool (!r)))
      | _ => False
    | _ => False
  | _ => False
theorem opBinE_sound (hT : TOk P T) {op : BinOp} {t t' : Nat} {x y : Operand} (ho : o.op = .binOp op t x y t') (h : opBinE P T op t (ov x) (ov y) K) : Res P ov o nx H.hp K := by
  unfold opBinE at h
  split at h
  · rename_i a hx
    split at h
    · rename_i b hy
      obtain ⟨r, hr, h⟩ := binE_sound h
      exact res_rd (lok_bin hT ho hx hy hr) (fVal_sound (K := fun r => K (.rd []) (.lit r)) h)
    · exact h.elim
  · rename_i sz l nn ex hx
    split at h
    · rename_i hy
      obtain ⟨i, ht, h⟩ := tiK_sound h
      obtain ⟨hi, h⟩ := chkK_sound h
      split at h
      · exact res_rd (lok_nil hT ho hy ht hi ⟨_, _, _, hx⟩ (.inl ⟨rfl, rfl⟩)) h
      · exact res_rd (lok_nil hT ho hy ht hi ⟨_, _, _, hx⟩ (.inr ⟨rfl, rfl⟩)) h
      · exact h.elim
    · exact h.elim
  · rename_i cs hx
    split at h
    · rename_i ds hy
      obtain ⟨sh, hE, h⟩ := h
      obtain ⟨r, hr, h⟩ := optK_sound h
      split at h
      · exact res_rd (lok_eqFlat hE ho hx hy hr (.inl rfl)) h
      · exact res_rd (lok_eqFlat hE ho hx hy hr (.inr rfl)) h
      · exact h.elim
    · exact h.elim
  · exact h.elim

def unE (op : UnOp) (x : V) (K : Eff → V → Prop) : Prop := match x with
  | .lit a => optK (unV op a) fun r => fVal r fun r => K (.rd []) (.lit r)
  | _ => False
theorem unE_sound {op : UnOp} {t : Nat} {x : Operand} (ho : o.op = .unOp op t x) (h : unE op (ov x) K) : Res P ov o nx H.hp K := by
  unfold unE at h
  split at h
  · rename_i a hx
    obtain ⟨r, hr, h⟩ := optK_sound h
    exact res_rd (lok_un ho hx hr) (fVal_sound (K := fun r => K (.rd []) (.lit r)) h)
  · exact h.elim

/-- what is read out of a slice or a text -/
def srcE (H : GH) (y : V) (sz : Nat) (K : HL → List (List V) → Prop) : Prop := match y with
  | .win k sz' lo m cp => H.getK k fun sy ob => chkK (Nat.beq ob.sz sz && Nat.beq sz' sz) <| lo + m ≤ ob.rows.length ∧ K [(k, ob)] ((ob.rows.drop lo).take m)
  | .lit (.string s) => chkK (Nat.beq sz 1) <| K [] (strRows s)
  | y => optK y.sl? fun L => chkK (szE y sz) <| K [] L
theorem srcE_sound {y : V} {sz : Nat} {K : HL → List (List V) → Prop} (h : srcE H y sz K) : ∃ rd N, Src P y sz N.length rd N ∧ Sub (hpo rd) H.hp ∧ K rd N := by
  unfold srcE at h
  split at h
  · rename_i k sz' lo m cp
    obtain ⟨sy, ob, hk, h⟩ := GH.getK_sound _ _ h
    obtain ⟨hc, hl, hK⟩ := chkK_sound h
    clear h
    rw [Bool.and_eq_true] at hc
    have h1 := Nat.eq_of_beq_eq_true hc.1
    have h2 := Nat.eq_of_beq_eq_true hc.2
    subst h2
    refine ⟨_, _, ?_, Sub.one hk, hK⟩
    rw [show ((ob.rows.drop lo).take m).length = m by simp; omega]
    exact src_win h1 hl
  · rename_i s
    obtain ⟨hz, h⟩ := chkK_sound h
    have := Nat.eq_of_beq_eq_true hz
    subst this
    refine ⟨_, _, ?_, Sub.nil _, h⟩
    rw [show (strRows s).length = s.size by simp only [strRows, List.length_map, Array.length_toList]; rfl]
    exact src_str s
  · obtain ⟨L, hL, h⟩ := optK_sound h
    obtain ⟨hz, h⟩ := chkK_sound h
    exact ⟨_, _, src_sl hL (szE_sound hz hL), Sub.nil _, h⟩

def convE (T : TT) (H : GH) (s d : Nat) (x : V) (K : Eff → V → Prop) : Prop := tiK T s fun i => tiK T d fun i' => match i'.d with
  | .int k' => match x with
    | .lit (.int k n) => K (.rd []) (.lit (.int k' (k'.wrap n)))
    | _ => False
  | .string => match i.d with
    | .slice e => tiK T e fun ie => match ie.d with
      | .int .u8 => chkK x.isSl <| srcE H x 1 fun rd N => ∃ bs, N = byteRows bs ∧ K (.rd rd) (.lit (.string ⟨bs.toArray⟩))
      | _ => False
    | _ => False
  | .slice e => match i.d with
    | .string => tiK T e fun ie => match ie.d with
      | .int .u8 => match x with
        | .lit (.string s) => K (.rd []) (.sls 1 (byteRows s.data.toList) true false)
        | _ => False
      | _ => False
    | _ => False
  | _ => False
theorem convE_sound (hT : TOk P T) {s d : Nat} {x : Operand} (ho : o.op = .convert s d x) (h : convE T H s d (ov x) K) : Res P ov o nx H.hp K := by
  obtain ⟨i, ht, h⟩ := tiK_sound h
  obtain ⟨i', ht', h⟩ := tiK_sound h
  split at h
  · rename_i k' hd'
    split at h
    · rename_i k n hx
      exact res_rd (lok_convI hT ho ht ht' (by rw [hd']; rfl) hx) h
    · exact h.elim
  · rename_i hd'
    split at h
    · rename_i e hd
      obtain ⟨ie, he, h⟩ := tiK_sound h
      split at h
      · rename_i hie
        obtain ⟨hk, h⟩ := chkK_sound h
        obtain ⟨rd, N, hs, hsub, bs, rfl, h⟩ := srcE_sound (P := P) h
        rw [show (byteRows bs).length = bs.length by simp [byteRows]] at hs
        exact ⟨.rd rd, _, ⟨lok_strOf hT ho ht hd he hie ht' hd' hk hs, hsub⟩, h⟩
      · exact h.elim
    · exact h.elim
  · rename_i e hd'
    split at h
    · rename_i hd
      obtain ⟨ie, he, h⟩ := tiK_sound h
      split at h
      · rename_i hie
        split at h
        · rename_i s hx
          exact res_rd (lok_bytesOf hT ho ht hd ht' hd' he hie hx) h
        · exact h.elim
      · exact h.elim
    · exact h.elim
  · exact h.elim

def extractE (x : V) (n : Nat) (K : Eff → V → Prop) : Prop := match x with
  | .tup vs => nthK vs n fun v => K (.rd []) v
  | _ => False
theorem extractE_sound {x : Operand} {n : Nat} (ho : o.op = .extract x n) (h : extractE (ov x) n K) : Res P ov o nx H.hp K := by
  unfold extractE at h
  split at h
  · rename_i vs hx
    obtain ⟨v, hv, h⟩ := nthK_sound _ _ h
    exact res_rd (lok_extract ho hx hv) h
  · exact h.elim

def nilCheckE (x : V) (K : Eff → V → Prop) : Prop := match x with
  | .ptr k sz i off => K (.rd []) (.ptr k sz i off)
  | .ip cs => K (.rd []) (.ip cs)
  | .fn f cs => K (.rd []) (.fn f cs)
  | _ => False
theorem nilCheckE_sound {x : Operand} (ho : o.op = .nilCheck x) (h : nilCheckE (ov x) K) : Res P ov o nx H.hp K := by
  unfold nilCheckE at h
  split at h
  · rename_i hx; rw [← hx] at h; exact res_rd (lok_nilCheck ho (.inl ⟨_, _, _, _, hx⟩)) h
  · rename_i hx; rw [← hx] at h; exact res_rd (lok_nilCheck ho (.inr (.inl ⟨_, hx⟩))) h
  · rename_i hx; rw [← hx] at h; exact res_rd (lok_nilCheck ho (.inr (.inr ⟨_, _, hx⟩))) h
  · exact h.elim

def makeFuncE (ov : Operand → V) (f : Go.Fn) (first : Array Operand) (caps : List Operand) (K : Eff → V → Prop) : Prop := match f with
  | .func f => chkK first.isEmpty <| argsK ov caps fun cs => K (.rd []) (.fn f cs)
  | _ => False
theorem makeFuncE_sound {f : Go.Fn} {first caps : Array Operand} (ho : o.op = .makeFunc f first caps) (h : makeFuncE ov f first caps.toList K) : Res P ov o nx H.hp K := by
  unfold makeFuncE at h
  split at h
  · rename_i f
    obtain ⟨he, h⟩ := chkK_sound h
    have : first = #[] := by simpa using he
    subst this
    exact res_rd (lok_makeFunc ho) (argsK_sound _ h)
  · exact h.elim

end
end Go.Proofs.Ytgaginflocpcfaa
