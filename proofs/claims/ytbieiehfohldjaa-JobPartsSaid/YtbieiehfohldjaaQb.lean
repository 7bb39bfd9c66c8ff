/-
  The value-level machine over the model, part 2.
-/
import Derived.Test.YtbieiehfohldjaaQa
import Derived.Laws.Bits
namespace Go.Proofs.Ytbieiehfohldjaa
open Go
set_option linter.unusedVariables false
set_option linter.unusedSimpArgs false

/-- what is asked of a type -/
inductive TD where
  | bool | int (k : IntKind) | string | slice (e : Nat) | arr (n e : Nat) | struct (fs : List (Nat × Nat × Bool)) | ptr (e : Nat) | map (k e : Nat) | other
structure TI where
  d : TD
  size : Nat
  bytes : Nat
  agg : Bool
  zero : List V

def aggOf (P : Program) (t : TypeId) : Bool := match P.underlying t with
  | some (.struct _) | some (.array _ _) => true
  | _ => false
def TDOk (P : Program) (t : TypeId) : TD → Prop
  | .bool => P.underlying t = some .bool
  | .int k => P.underlying t = some (.int k)
  | .string => P.underlying t = some .string
  | .slice e => P.underlying t = some (.slice e)
  | .arr n e => P.underlying t = some (.array n e)
  | .struct fs => ∃ f, P.underlying t = some (.struct f) ∧ (f.toList.map fun x => (x.offset, P.cellsOf x.type, aggOf P x.type)) = fs ∧ (f.toList.all fun x => (P.underlying x.type).isSome && P.cellsOf x.type != 0 && (aggOf P x.type || P.cellsOf x.type == 1)) = true
  | .ptr e => P.underlying t = some (.pointer e)
  | .map k e => P.underlying t = some (.map k e)
  | .other => (P.underlying t).isSome
/-- a zero cell, told -/
def zOk (z : Value) : V → Bool
  | .lit v => match z, v with
    | .bool a, .bool b => a == b
    | .int k a, .int k' b => k == k' && a == b
    | .string a, .string b => a.toList == b.toList
    | .pointer none, .pointer none => true
    | .nilFunc, .nilFunc => true
    | .map none, .map none => true
    | .slice none 0 0, .slice none 0 0 => true
    | .nilIface, .nilIface => true
    | _, _ => false
  | .sl _ [] => match z with
    | .slice none 0 0 => true
    | _ => false
  | .sls _ [] false true => match z with
    | .slice none 0 0 => true
    | _ => false
  | .any => true
  | _ => false
def zAll : List Value → List V → Bool
  | [], [] => true
  | z :: zs, v :: vs => zOk z v && zAll zs vs
  | _, _ => false
structure TIOk (P : Program) (t : TypeId) (i : TI) : Prop where
  info : ∃ x, P.info? t = some x ∧ x.size = i.size ∧ x.bytes = i.bytes ∧ ∃ z, x.zero = some z ∧ zAll z.cells.toList i.zero = true
  zlen : i.zero.length = i.size
  d : TDOk P t i.d
  agg : aggOf P t = i.agg
  some : (P.underlying t).isSome = true
  scal : i.agg = false → i.size = 1
  pos : i.size ≠ 0

theorem TIOk.run_sizeOf {P : Program} {t : TypeId} {i : TI} (h : TIOk P t i) (w : World) : (sizeOf t).run P w = .ok i.size w := by
  obtain ⟨x, hx, hs, _⟩ := h.info
  simp [sizeOf, typeInfo, hx, hs]
theorem TIOk.cellsOf {P : Program} {t : TypeId} {i : TI} (h : TIOk P t i) : P.cellsOf t = i.size := by
  obtain ⟨x, hx, hs, _⟩ := h.info
  simp [Program.cellsOf, hx, hs]
theorem TIOk.run_bytes {P : Program} {t : TypeId} {i : TI} (h : TIOk P t i) (w : World) : (do pure (← typeInfo t).bytes : Sem Nat).run P w = .ok i.bytes w := by
  obtain ⟨x, hx, hs, hb, _⟩ := h.info
  simp [typeInfo, hx, hb]
theorem TIOk.run_typeInfo {P : Program} {t : TypeId} {i : TI} (h : TIOk P t i) (w : World) : ∃ x, (typeInfo t).run P w = .ok x w ∧ x.bytes = i.bytes ∧ x.size = i.size := by
  obtain ⟨x, hx, hs, hb, _⟩ := h.info
  exact ⟨x, by simp [typeInfo, hx], hb, hs⟩
theorem TIOk.run_zero {P : Program} {t : TypeId} {i : TI} (h : TIOk P t i) (w : World) : ∃ z, (zeroValue t).run P w = .ok z w ∧ zAll z.cells.toList i.zero = true := by
  obtain ⟨x, hx, hs, hb, z, hz, e⟩ := h.info
  exact ⟨z, by simp [zeroValue, typeInfo, hx, hz], e⟩
theorem TIOk.run_isAgg {P : Program} {t : TypeId} {i : TI} (h : TIOk P t i) (w : World) : (isAgg t).run P w = .ok i.agg w := by
  have ha := h.agg
  obtain ⟨d, hd⟩ := Option.isSome_iff_exists.1 h.some
  simp only [aggOf, hd] at ha
  simp only [isAgg, Sem.run_bind, run_underlying hd, Result.andThen_ok]
  rw [← ha]
  cases d <;> rfl

theorem zAll_len : ∀ (zs : List Value) (vs : List V), zAll zs vs = true → zs.length = vs.length
  | [], [], _ => rfl
  | z :: zs, v :: vs, h => by
    simp only [zAll, Bool.and_eq_true] at h
    simp [zAll_len zs vs h.2]
  | [], _ :: _, h => by simp [zAll] at h
  | _ :: _, [], h => by simp [zAll] at h
theorem bytes_ext {a b : ByteArray} (h : (a.toList == b.toList) = true) : a = b := by
  have h := eq_of_beq h
  rw [ByteArray.toList_eq, ByteArray.toList_eq] at h
  cases a with | mk x => cases b with | mk y =>
  cases x; cases y
  simp at h
  subst h
  rfl
theorem zOk_rep {S : Nat → Prop} {ρ : KM} {w : World} {z : Value} {v : V} (h : zOk z v = true) : Rep S ρ w z v := by
  cases v with
  | lit u =>
    simp only [zOk] at h
    split at h
    · simp only [beq_iff_eq] at h; subst h; exact .lit rfl
    · simp only [Bool.and_eq_true, beq_iff_eq] at h; obtain ⟨rfl, rfl⟩ := h; exact .lit rfl
    · have := bytes_ext h; subst this; exact .lit rfl
    · exact .lit rfl
    · exact .lit rfl
    · exact .lit rfl
    · exact .lit rfl
    · exact .lit rfl
    · cases h
  | sl sz l =>
    cases l with
    | nil =>
      simp only [zOk] at h
      split at h
      · exact .sl0 (fun _ => rfl)
      · cases h
    | cons r l => simp [zOk] at h
  | sls sz l nn ex =>
    cases l with
    | nil =>
      cases nn <;> cases ex <;> simp only [zOk] at h <;> try (cases h; done)
      split at h
      · exact .sls (.sl0 (fun _ => rfl)) (fun h => by cases h) (fun _ => rfl)
      · cases h
    | cons r l => simp [zOk] at h
  | any => exact .any
  | _ => simp [zOk] at h
theorem zAll_rep {S : Nat → Prop} {ρ : KM} {w : World} : ∀ (zs : List Value) (vs : List V), zAll zs vs = true → ∀ (j : Nat) (u : Value) (x : V), zs[j]? = some u → vs[j]? = some x → Rep S ρ w u x
  | [], _, _, j, u, x, h1, _ => by simp at h1
  | z :: zs, [], h, _, _, _, _, _ => by simp [zAll] at h
  | z :: zs, v :: vs, h, j, u, x, h1, h2 => by
    simp only [zAll, Bool.and_eq_true] at h
    cases j with
    | zero => simp at h1 h2; subst h1; subst h2; exact zOk_rep h.1
    | succ j => exact zAll_rep zs vs h.2 j u x (by simpa using h1) (by simpa using h2)

theorem cell_at {w : World} {b o : Nat} {c : Array Value} {t : TypeId} {fr : Nat × Nat} (h : w.heap[b]? = some (.cells c t fr)) : w.cell? ⟨b, o, none⟩ = c[o]? := by
  simp [World.cell?, h]
theorem frozen_at {w : World} {b o : Nat} {c : Array Value} {t : TypeId} (h : w.heap[b]? = some (.cells c t (0, 0))) : w.frozen? ⟨b, o, none⟩ = false := by
  simp [World.frozen?, h]
theorem add_at (b o n : Nat) : Addr.add ⟨b, o, none⟩ n = ⟨b, o + n, none⟩ := Addr.add_lit b o n

theorem map_range_get (c : Array Value) (o n : Nat) (h : o + n ≤ c.size) (j : Nat) : (((List.range n).map fun j => c.getD (o + j) undef).toArray)[j]? = if j < n then c[o + j]? else none := by
  simp only [List.getElem?_toArray, List.getElem?_map]
  by_cases hj : j < n
  · rw [List.getElem?_range hj]
    have : o + j < c.size := by omega
    simp [hj, this]
  · rw [List.getElem?_eq_none (by simpa using hj)]
    simp [hj]

/-- a variable is loaded: its cells -/
theorem run_loadVar {P : Program} {t : TypeId} {i : TI} (h : TIOk P t i) {w : World} {b o : Nat} {c : Array Value} {e : TypeId} {fr : Nat × Nat} (hw : w.heap[b]? = some (.cells c e fr)) (hf : o + i.size ≤ c.size) :
    ∃ u, (loadVar t ⟨b, o, none⟩).run P w = .ok u w ∧
      (i.agg = true → ∃ vs : Array Value, u = .agg vs ∧ vs.size = i.size ∧ ∀ j, j < i.size → vs[j]? = c[o + j]?) ∧ (i.agg = false → c[o]? = some u) := by
  unfold loadVar
  simp only [Sem.run_bind, h.run_isAgg, Result.andThen_ok]
  cases ha : i.agg with
  | true =>
    simp only [if_true, Sem.run_bind, h.run_sizeOf, Result.andThen_ok]
    rw [run_loadCells w ⟨b, o, none⟩ i.size (fun j => c.getD (o + j) undef) (fun j hj => by
      rw [add_at, cell_at hw]
      have : o + j < c.size := by omega
      simp [this])]
    refine ⟨_, rfl, (fun _ => ⟨_, rfl, by simp, fun j hj => ?_⟩), (fun hh => by cases hh)⟩
    rw [map_range_get c o i.size hf, if_pos hj]
  | false =>
    have h1 := h.scal ha
    have hlt : o < c.size := by omega
    refine ⟨c[o], ?_, (fun hh => by cases hh), (fun _ => by simp [hlt])⟩
    simp only [Bool.false_eq_true, if_false]
    simp [cell_at hw, hlt]

/-- cells written one behind the other -/
def wr (c : Array Value) (o : Nat) : List Value → Array Value
  | [] => c
  | v :: vs => wr (c.setIfInBounds o v) (o + 1) vs
theorem wr_size (vs : List Value) : ∀ (c : Array Value) (o : Nat), (wr c o vs).size = c.size := by
  induction vs with
  | nil => intro c o; rfl
  | cons v vs ih => intro c o; simp [wr, ih]
theorem wr_get (vs : List Value) : ∀ (c : Array Value) (o j : Nat), o + vs.length ≤ c.size → (wr c o vs)[j]? = if o ≤ j ∧ j < o + vs.length then vs[j - o]? else c[j]? := by
  induction vs with
  | nil => intro c o j _; simp only [wr, List.length_nil, Nat.add_zero]; rw [if_neg (by omega)]
  | cons v vs ih =>
    intro c o j h
    simp only [List.length_cons] at h
    rw [wr, ih _ _ _ (by simp; omega)]
    simp only [List.length_cons]
    by_cases h1 : o + 1 ≤ j ∧ j < o + 1 + vs.length
    · rw [if_pos h1, if_pos (by omega)]
      obtain ⟨d, rfl⟩ : ∃ d, j = o + 1 + d := ⟨j - (o + 1), by omega⟩
      rw [show o + 1 + d - (o + 1) = d by omega, show o + 1 + d - o = d + 1 by omega]
      rfl
    · rw [if_neg h1]
      by_cases h2 : j = o
      · subst h2
        rw [if_pos (by omega)]
        simp [show j < c.size by omega]
      · rw [if_neg (by omega)]
        simp [Array.getElem?_setIfInBounds, show ¬ o = j by omega]

def World.block (w : World) (b : Nat) (x : Obj) : World := { w with heap := w.heap.setIfInBounds b x }
theorem block_get {w : World} {b : Nat} {x y : Obj} (h : w.heap[b]? = some y) (b' : Nat) : (World.block w b x).heap[b']? = if b' = b then some x else w.heap[b']? := by
  have hb : b < w.heap.size := by
    rcases Nat.lt_or_ge b w.heap.size with h' | h'
    · exact h'
    · simp [Array.getElem?_eq_none h'] at h
  simp only [World.block, Array.getElem?_setIfInBounds]
  by_cases e : b' = b
  · subst e; simp [hb]
  · simp [e, show ¬ b = b' from fun h => e h.symm]
theorem block_size (w : World) (b : Nat) (x : Obj) : (World.block w b x).heap.size = w.heap.size := by simp [World.block]
theorem block_block (w : World) (b : Nat) (x y : Obj) : World.block (World.block w b x) b y = World.block w b y := by
  simp [World.block, Array.setIfInBounds_setIfInBounds]
theorem block_self {w : World} {b : Nat} {x : Obj} (h : w.heap[b]? = some x) : World.block w b x = w := by
  cases w with | mk heap tape drawn os output =>
  simp only [World.block]
  congr 1
  apply Array.ext_getElem?
  intro i
  simp only [Array.getElem?_setIfInBounds]
  by_cases e : b = i
  · subst e
    simp only [if_true]
    split
    · exact h.symm
    · rename_i hn; simp [Array.getElem?_eq_none (Nat.le_of_not_lt hn)] at h
  · simp [e]
theorem setCell_block {w : World} {b o : Nat} {c : Array Value} {t : TypeId} {fr : Nat × Nat} (h : w.heap[b]? = some (.cells c t fr)) (v : Value) :
    w.setCell ⟨b, o, none⟩ v = World.block w b (.cells (c.setIfInBounds o v) t fr) := by
  cases w with | mk heap tape drawn os output =>
  simp only [World.setCell, World.block]
  congr 1
  apply Array.ext_getElem?
  intro i
  simp only [Array.getElem?_modify, Array.getElem?_setIfInBounds]
  by_cases e : b = i
  · subst e
    simp only [if_true]
    simp only at h
    have hb : b < heap.size := by
      rcases Nat.lt_or_ge b heap.size with h' | h'
      · exact h'
      · simp [Array.getElem?_eq_none h'] at h
    rw [h]
    simp [hb]
  · simp [e]

theorem run_storeCells {P : Program} {b : Nat} {t : TypeId} (vs : List Value) : ∀ (w : World) (c : Array Value) (o i : Nat), w.heap[b]? = some (.cells c t (0, 0)) → (∀ v ∈ vs, v.oneCell' = true) → o + i + vs.length ≤ c.size →
    (storeCells ⟨b, o, none⟩ vs i).run P w = .ok () (World.block w b (.cells (wr c (o + i) vs) t (0, 0))) := by
  induction vs with
  | nil => intro w c o i hw _ _; simp [storeCells, wr, block_self hw]
  | cons v vs ih =>
    intro w c o i hw h1 hf
    simp only [List.length_cons] at hf
    have hlt : o + i < c.size := by omega
    simp only [storeCells, Sem.run_bind, add_at]
    rw [run_store P w _ v _ (h1 v (by simp)), cell_at hw]
    simp only [hlt, Array.getElem?_eq_getElem, frozen_at hw, Bool.false_eq_true, if_false, Result.andThen_ok]
    rw [setCell_block hw]
    rw [ih (World.block w b _) (c.setIfInBounds (o + i) v) o (i + 1) (by rw [block_get hw]; simp) (fun v hv => h1 v (by simp [hv])) (by simp; omega)]
    rw [block_block]
    rfl

theorem run_storeVar {P : Program} {t : TypeId} {i : TI} (h : TIOk P t i) {w : World} {b o : Nat} {c : Array Value} {e : TypeId} (hw : w.heap[b]? = some (.cells c e (0, 0))) {u : Value} (hu : u.cells.size = i.size)
    (h1 : ∀ v ∈ u.cells.toList, v.oneCell' = true) (hf : o + i.size ≤ c.size) :
    (storeVar t ⟨b, o, none⟩ u).run P w = .ok () (World.block w b (.cells (wr c o u.cells.toList) e (0, 0))) := by
  unfold storeVar
  simp only [Sem.run_bind, h.run_sizeOf, Result.andThen_ok, hu, ne_eq, not_true_eq_false, if_false]
  simpa using run_storeCells (P := P) u.cells.toList w c o 0 hw h1 (by simp [hu]; omega)

end Go.Proofs.Ytbieiehfohldjaa
