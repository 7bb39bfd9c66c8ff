/-
  The value-level machine over the model, part 1.
-/
import Derived.Orders
import Derived.OrdersHeld
import Derived.WalkKit
import Derived.Laws.Cells
namespace Go.Proofs.Ytbieiehfohldjaa
open Go
set_option linter.unusedVariables false
set_option linter.unusedSimpArgs false

/-- plain values: 'sl' a slice whose places never change any more (nil or not, where it holds nothing); 'sls' one of which more is known ('nn': it is not nil; 'ex': no room behind it); 'win', 'ptr' into an object (by its key; 'cp': room for so many at least); 'ip' a pointer into memory that never changes. -/
inductive V where
  | lit (v : Value)
  | agg (cs : List V)
  | tup (vs : List V)
  | sl (sz : Nat) (l : List (List V))
  | sls (sz : Nat) (l : List (List V)) (nn ex : Bool)
  | win (k sz lo n cp : Nat)
  | ptr (k sz i off : Nat)
  | ip (cs : List V)
  | fn (f : Nat) (caps : List V)
  | mp (k : Nat)
  | any

instance : Inhabited V := ⟨.any⟩

structure VObj where
  sz : Nat
  rows : List (List V)
  frz : Bool := false
/-- a map's rows -/
def mpRows (ents : List (List V)) : List (List V) := [.lit (.int .i64 (ents.length : Int)), .any] :: ents
/-- a map -/
def mpO (ents : List (List V)) : VObj := ⟨2, mpRows ents, false⟩

def V.undef : V := .tup []
/-- the cells of a value -/
def V.cells : V → List V
  | .agg cs => cs
  | x => [x]
/-- may it be stored in one cell? -/
def V.one : V → Bool
  | .lit v => v.oneCell'
  | .agg _ | .tup _ | .any => false
  | _ => true

def upd {α : Type} (f : Nat → α) (k : Nat) (v : α) : Nat → α := fun t => if t = k then v else f t
theorem upd_same {α : Type} (f : Nat → α) (k : Nat) (v : α) : upd f k v k = v := by simp [upd]
theorem upd_upd {α : Type} (f : Nat → α) (k : Nat) (u v : α) : upd (upd f k u) k v = upd f k v := by
  funext t
  simp only [upd]
  split <;> rfl
theorem upd_ne {α : Type} (f : Nat → α) {k t : Nat} (v : α) (h : t ≠ k) : upd f k v t = f t := by simp [upd, h]

abbrev Hp := Nat → Option VObj
abbrev KM := Nat → Option Nat

/-- nothing has a name -/
abbrev noK : KM := fun _ => none

inductive Rep (S : Nat → Prop) : KM → World → Value → V → Prop
  | any {ρ : KM} {w : World} {u} : Rep S ρ w u .any
  | lit {ρ : KM} {w : World} {v} (h : v.oneCell' = true) : Rep S ρ w v (.lit v)
  | agg {ρ : KM} {w : World} {vs : Array Value} {cs : List V} (hl : vs.size = cs.length) (h : ∀ (i : Nat) (u : Value) (x : V), vs[i]? = some u → cs[i]? = some x → Rep S ρ w u x) : Rep S ρ w (.agg vs) (.agg cs)
  | tup {ρ : KM} {w : World} {vs : Array Value} {cs : List V} (hl : vs.size = cs.length) (h : ∀ (i : Nat) (u : Value) (x : V), vs[i]? = some u → cs[i]? = some x → Rep S ρ w u x) : Rep S ρ w (.tuple vs) (.tup cs)
  | sl0 {ρ : KM} {w : World} {a : Option Addr} {cap sz : Nat} (ha : a = none → cap = 0) : Rep S ρ w (.slice a 0 cap) (.sl sz [])
  | sl {ρ : KM} {w : World} {b off cap sz : Nat} {l : List (List V)} {c : Array Value} {t : TypeId} {fr : Nat × Nat} (hS : S b) (hw : w.heap[b]? = some (.cells c t fr)) (hz : ∀ r ∈ l, r.length = sz)
      (hc : l.length ≤ cap) (hf : off + l.length * sz ≤ c.size) (h : ∀ (i j : Nat) (r : List V) (u : Value) (x : V), l[i]? = some r → r[j]? = some x → c[off + i * sz + j]? = some u → Rep S noK w u x) :
      Rep S ρ w (.slice (some ⟨b, off, none⟩) l.length cap) (.sl sz l)
  | sls {ρ : KM} {w : World} {a : Option Addr} {n cap sz : Nat} {l : List (List V)} {nn ex : Bool} (h : Rep S ρ w (.slice a n cap) (.sl sz l)) (hn : nn = true → a.isSome = true) (he : ex = true → cap = n) : Rep S ρ w (.slice a n cap) (.sls sz l nn ex)
  | win {ρ : KM} {w : World} {k b off cap sz lo n cp : Nat} {c : Array Value} {t : TypeId} {fr : Nat × Nat} (hk : ρ k = some b) (hw : w.heap[b]? = some (.cells c t fr)) (hn : n ≤ cp) (hc : cp ≤ cap) (hf : off + cap * sz ≤ c.size)
      (ho : off = lo * sz ∨ cap = 0) : Rep S ρ w (.slice (some ⟨b, off, none⟩) n cap) (.win k sz lo n cp)
  | win0 {ρ : KM} {w : World} {a : Option Addr} {k sz lo : Nat} : Rep S ρ w (.slice a 0 0) (.win k sz lo 0 0)
  | ptr {ρ : KM} {w : World} {k b sz i off : Nat} {c : Array Value} {t : TypeId} {fr : Nat × Nat} (hk : ρ k = some b) (hw : w.heap[b]? = some (.cells c t fr)) : Rep S ρ w (.pointer (some ⟨b, i * sz + off, none⟩)) (.ptr k sz i off)
  | ip {ρ : KM} {w : World} {b off : Nat} {cs : List V} {c : Array Value} {t : TypeId} {fr : Nat × Nat} (hS : S b) (hw : w.heap[b]? = some (.cells c t fr)) (hf : off + cs.length ≤ c.size)
      (h : ∀ (j : Nat) (u : Value) (x : V), cs[j]? = some x → c[off + j]? = some u → Rep S noK w u x) : Rep S ρ w (.pointer (some ⟨b, off, none⟩)) (.ip cs)
  | fn {ρ : KM} {w : World} {f : Nat} {vs : Array Value} {cs : List V} (hl : vs.size = cs.length) (h : ∀ (i : Nat) (u : Value) (x : V), vs[i]? = some u → cs[i]? = some x → Rep S ρ w u x) : Rep S ρ w (.func (.func f) #[] vs) (.fn f cs)
  | mp {ρ : KM} {w : World} {k b : Nat} {es : Array MapEntry} {n : Nat} (hk : ρ k = some b) (hw : w.heap[b]? = some (.map es n)) : Rep S ρ w (.map (some b)) (.mp k)

/-- a map's keys and values, one behind the other, behind their number -/
def mapCells (es : Array MapEntry) : Array Value := (Value.int .i64 (es.size : Int) :: Value.bool false :: es.toList.flatMap fun e => [e.key, e.val]).toArray
/-- rows of cells stay rows of as many cells; maps stay maps -/
def Keeps (w w' : World) : Prop := (∀ (b : Nat) (c : Array Value) (t : TypeId) (fr : Nat × Nat), w.heap[b]? = some (Obj.cells c t fr) → ∃ (c' : Array Value) (fr' : Nat × Nat), w'.heap[b]? = some (Obj.cells c' t fr') ∧ c'.size = c.size) ∧ ∀ (b : Nat) (es : Array MapEntry) (n : Nat), w.heap[b]? = some (Obj.map es n) → ∃ (es' : Array MapEntry) (n' : Nat), w'.heap[b]? = some (Obj.map es' n')
theorem Keeps.refl (w : World) : Keeps w w := ⟨fun _ c _ fr h => ⟨c, fr, h, rfl⟩, fun _ es n h => ⟨es, n, h⟩⟩
theorem Keeps.trans {a b c : World} (h : Keeps a b) (k : Keeps b c) : Keeps a c := ⟨fun i x t fr hx => by
  obtain ⟨y, fr', hy, e⟩ := h.1 i x t fr hx
  obtain ⟨z, fr'', hz, e'⟩ := k.1 i y t fr' hy
  exact ⟨z, fr'', hz, e'.trans e⟩, fun i es n hx => by
  obtain ⟨es', n', hy⟩ := h.2 i es n hx
  exact k.2 i es' n' hy⟩

theorem Rep.mono {S S' : Nat → Prop} {ρ ρ' : KM} {w w' : World} (hS : ∀ b, S b → S' b) (hb : ∀ b, S b → w'.heap[b]? = w.heap[b]?) (hρ : ∀ k b, ρ k = some b → ρ' k = some b) (hk : Keeps w w')
    {u : Value} {x : V} (h : Rep S ρ w u x) : Rep S' ρ' w' u x := by
  induction h generalizing ρ' with
  | any => exact .any
  | lit h => exact .lit h
  | agg hl _ ih => exact .agg hl fun i u x h1 h2 => ih i u x h1 h2 hb hρ hk
  | tup hl _ ih => exact .tup hl fun i u x h1 h2 => ih i u x h1 h2 hb hρ hk
  | sl0 ha => exact .sl0 ha
  | sl h1 hw hz hc hf _ ih => exact .sl (hS _ h1) ((hb _ h1).trans hw) hz hc hf fun i j r u x a b c => ih i j r u x a b c hb (fun _ _ h => h) hk
  | sls _ hn he ih => exact .sls (ih hb hρ hk) hn he
  | win h1 hw hn hc hf ho =>
    obtain ⟨c', fr', hw', e⟩ := hk.1 _ _ _ _ hw
    exact .win (hρ _ _ h1) hw' hn hc (e ▸ hf) ho
  | win0 => exact .win0
  | ptr h1 hw =>
    obtain ⟨c', fr', hw', e⟩ := hk.1 _ _ _ _ hw
    exact .ptr (hρ _ _ h1) hw'
  | mp h1 hw =>
    obtain ⟨es', n', hw'⟩ := hk.2 _ _ _ hw
    exact .mp (hρ _ _ h1) hw'
  | ip h1 hw hf _ ih => exact .ip (hS _ h1) ((hb _ h1).trans hw) hf fun j u x a b => ih j u x a b hb (fun _ _ h => h) hk
  | fn hl _ ih => exact .fn hl fun i u x h1 h2 => ih i u x h1 h2 hb hρ hk

/-- what has no name in it -/
theorem Rep.up {S : Nat → Prop} {ρ : KM} {w : World} {u : Value} {x : V} (h : Rep S noK w u x) : Rep S ρ w u x := h.mono (fun _ h => h) (fun _ _ => rfl) (fun _ _ h => by cases h) (Keeps.refl w)

/-- an object's rows in a row of cells -/
def RowsAt (S : Nat → Prop) (ρ : KM) (w : World) (sz : Nat) (rows : List (List V)) (c : Array Value) : Prop :=
  (∀ r ∈ rows, r.length = sz) ∧ rows.length * sz ≤ c.size ∧ ∀ (i j : Nat) (r : List V) (u : Value) (x : V), rows[i]? = some r → r[j]? = some x → c[i * sz + j]? = some u → Rep S ρ w u x

/-- a map's entries have stamps of their own -/
def Born (es : Array MapEntry) (n : Nat) : Prop := (es.toList.map (·.born)).Nodup ∧ ∀ x ∈ es.toList, x.born < n
/-- what an object's cells are: a block's, or a map's keys and values -/
def HeapRow (w : World) (b : Nat) (c : Array Value) (t : TypeId) : Prop := w.heap[b]? = some (.cells c t (0, 0)) ∨ ∃ es es' n, w.heap[b]? = some (.map es n) ∧ es'.toList.Perm es.toList ∧ c = mapCells es' ∧ Born es n
theorem HeapRow.of {w w' : World} {b : Nat} {c : Array Value} {t : TypeId} (h : HeapRow w b c t) (e : w'.heap[b]? = w.heap[b]?) : HeapRow w' b c t := by
  unfold HeapRow at *
  rw [e]
  exact h
theorem HeapRow.lt {w : World} {b : Nat} {c : Array Value} {t : TypeId} (h : HeapRow w b c t) : b < w.heap.size := by
  rcases Nat.lt_or_ge b w.heap.size with q | q
  · exact q
  · unfold HeapRow at h
    simp [Array.getElem?_eq_none q] at h
structure Sim (S : Nat → Prop) (ρ : KM) (w : World) (H : Hp) : Prop where
  obj : ∀ k o, H k = some o → (∃ b c t, ρ k = some b ∧ HeapRow w b c t ∧ RowsAt S ρ w o.sz o.rows c ∧ (o.frz = true → S b) ∧ (o.frz = false → ¬ S b)) ∨ (ρ k = none ∧ o.rows = [])
  inj : ∀ k k' o o' b, H k = some o → H k' = some o' → ρ k = some b → ρ k' = some b → k = k'
  bnd : ∀ b, S b → b < w.heap.size

/-- a block of an object that may be written -/
def Own (ρ : KM) (H : Hp) (b : Nat) : Prop := ∃ k o, H k = some o ∧ o.frz = false ∧ ρ k = some b
/-- a block of an object -/
def Live (ρ : KM) (H : Hp) (b : Nat) : Prop := ∃ k o, H k = some o ∧ ρ k = some b

structure Ext (S : Nat → Prop) (ρ : KM) (w : World) (H : Hp) (S' : Nat → Prop) (ρ' : KM) (w' : World) (H' : Hp) : Prop where
  os : w'.os = w.os
  tape : w'.tape = w.tape
  output : w'.output = w.output
  size : w.heap.size ≤ w'.heap.size
  block : ∀ b, b < w.heap.size → ¬ Own ρ H b → w'.heap[b]? = w.heap[b]?
  keeps : Keeps w w'
  more : ∀ b, S b → S' b
  only : ∀ b, S' b → S b ∨ w.heap.size ≤ b ∨ Own ρ H b
  live : ∀ b, Live ρ' H' b → w.heap.size ≤ b ∨ Live ρ H b
  own : ∀ b, Own ρ' H' b → w.heap.size ≤ b ∨ Own ρ H b
  keys : ∀ k b, ρ k = some b → ρ' k = some b
  dom : ∀ k b, ρ' k = some b → ρ k = some b ∨ ∃ o, H' k = some o

theorem Sim.notOwn {S : Nat → Prop} {ρ : KM} {w : World} {H : Hp} (h : Sim S ρ w H) {b : Nat} (hb : S b) : ¬ Own ρ H b := by
  rintro ⟨k, o, hk, hf, hr⟩
  rcases h.obj k o hk with ⟨b', c, t, h1, _, _, _, h2⟩ | ⟨h1, _⟩
  · rw [h1] at hr
    obtain rfl : b' = b := by simpa using hr
    exact h2 hf hb
  · rw [h1] at hr; cases hr

/-- the block of an object that has one -/
theorem Sim.get {S : Nat → Prop} {ρ : KM} {w : World} {H : Hp} (h : Sim S ρ w H) {k b : Nat} {o : VObj} (hk : H k = some o) (hb : ρ k = some b) :
    ∃ c t, HeapRow w b c t ∧ RowsAt S ρ w o.sz o.rows c ∧ (o.frz = true → S b) ∧ (o.frz = false → ¬ S b) := by
  rcases h.obj k o hk with ⟨b', c, t, h1, h2⟩ | ⟨h1, _⟩
  · rw [h1] at hb
    obtain rfl : b' = b := by simpa using hb
    exact ⟨c, t, h2⟩
  · rw [h1] at hb; cases hb
theorem Sim.at {S : Nat → Prop} {ρ : KM} {w : World} {H : Hp} (h : Sim S ρ w H) {k b : Nat} {o : VObj} (hk : H k = some o) (hb : ρ k = some b) {c0 : Array Value} {t0 : TypeId} {fr0 : Nat × Nat} (hc : w.heap[b]? = some (.cells c0 t0 fr0)) :
    ∃ c t, w.heap[b]? = some (.cells c t (0, 0)) ∧ RowsAt S ρ w o.sz o.rows c ∧ (o.frz = true → S b) ∧ (o.frz = false → ¬ S b) := by
  obtain ⟨c, t, h1, h2⟩ := h.get hk hb
  rcases h1 with h1 | ⟨es, es', n, h1, _⟩
  · exact ⟨c, t, h1, h2⟩
  · rw [hc] at h1; cases h1
theorem Sim.frz {S : Nat → Prop} {ρ : KM} {w : World} {H : Hp} (h : Sim S ρ w H) {k b : Nat} {o : VObj} (hk : H k = some o) (hb : ρ k = some b) : (o.frz = true → S b) ∧ (o.frz = false → ¬ S b) := by
  obtain ⟨c, t, _, _, h3⟩ := h.get hk hb
  exact h3
theorem Sim.lt {S : Nat → Prop} {ρ : KM} {w : World} {H : Hp} (h : Sim S ρ w H) {k b : Nat} {o : VObj} (hk : H k = some o) (hb : ρ k = some b) : b < w.heap.size := by
  obtain ⟨c, t, h2, _⟩ := h.get hk hb
  exact h2.lt

theorem Ext.rep {S S' : Nat → Prop} {ρ ρ' : KM} {w w' : World} {H H' : Hp} (e : Ext S ρ w H S' ρ' w' H') (hs : Sim S ρ w H) {u : Value} {x : V} (h : Rep S ρ w u x) : Rep S' ρ' w' u x :=
  h.mono e.more (fun b hb => e.block b (hs.bnd b hb) (hs.notOwn hb)) e.keys e.keeps

theorem Ext.refl (S : Nat → Prop) (ρ : KM) (w : World) (H : Hp) : Ext S ρ w H S ρ w H where
  os := rfl
  tape := rfl
  output := rfl
  size := Nat.le_refl _
  block := fun _ _ _ => rfl
  keeps := Keeps.refl w
  more := fun _ h => h
  only := fun _ h => .inl h
  live := fun _ h => .inr h
  own := fun _ h => .inr h
  keys := fun _ _ h => h
  dom := fun _ _ h => .inl h

/-- two steps; what was an object's name in between and is no more is kept in 'ρ' only if it is listed -/
theorem Ext.trans {S S' S'' : Nat → Prop} {ρ ρ' ρ'' : KM} {w w' w'' : World} {H H' H'' : Hp} (e : Ext S ρ w H S' ρ' w' H') (f : Ext S' ρ' w' H' S'' ρ'' w'' H'')
    (hd : ∀ k b, ρ'' k = some b → ρ k = some b ∨ ∃ o, H'' k = some o) : Ext S ρ w H S'' ρ'' w'' H'' where
  os := f.os.trans e.os
  tape := f.tape.trans e.tape
  output := f.output.trans e.output
  size := Nat.le_trans e.size f.size
  block := fun b hb ho => by
    have h1 := e.block b hb ho
    have h2 := f.block b (Nat.lt_of_lt_of_le hb e.size) (fun h => by rcases e.own b h with h | h; · omega
                                                                     · exact ho h)
    exact h2.trans h1
  keeps := e.keeps.trans f.keeps
  more := fun b h => f.more b (e.more b h)
  only := fun b h => by
    rcases f.only b h with h | h | h
    · exact e.only b h
    · exact .inr (.inl (Nat.le_trans e.size h))
    · rcases e.own b h with h | h
      · exact .inr (.inl h)
      · exact .inr (.inr h)
  live := fun b h => by
    rcases f.live b h with h | h
    · exact .inl (Nat.le_trans e.size h)
    · exact e.live b h
  own := fun b h => by
    rcases f.own b h with h | h
    · exact .inl (Nat.le_trans e.size h)
    · exact e.own b h
  keys := fun k b h => f.keys k b (e.keys k b h)
  dom := hd

end Go.Proofs.Ytbieiehfohldjaa
namespace Go.Proofs.Ytbieiehfohldjaa
open Go
set_option linter.unusedVariables false
set_option linter.unusedSimpArgs false

abbrev HL := List (Nat × VObj)
def hpo : HL → Hp
  | [] => fun _ => none
  | (k, o) :: l => upd (hpo l) k (some o)
def Hp.add (H : Hp) : HL → Hp
  | [] => H
  | (k, o) :: l => upd (Hp.add H l) k (some o)
def Hp.del (H : Hp) : HL → Hp
  | [] => H
  | (k, _) :: l => upd (Hp.del H l) k none

theorem hpo_nil (k : Nat) : hpo [] k = none := rfl
theorem hpo_one (k : Nat) (o : VObj) (t : Nat) : hpo [(k, o)] t = if t = k then some o else none := rfl
theorem add_apply (H : Hp) (l : HL) (k : Nat) : H.add l k = match hpo l k with | some o => some o | none => H k := by
  induction l with
  | nil => rfl
  | cons p l ih =>
    obtain ⟨j, o⟩ := p
    simp only [Hp.add, hpo, upd]
    by_cases h : k = j
    · simp [h]
    · simp [h, ih]
theorem del_apply (H : Hp) (l : HL) (k : Nat) : H.del l k = match hpo l k with | some _ => none | none => H k := by
  induction l with
  | nil => rfl
  | cons p l ih =>
    obtain ⟨j, o⟩ := p
    simp only [Hp.del, hpo, upd]
    by_cases h : k = j
    · simp [h]
    · simp [h, ih]
/-- part of a heap -/
def Sub (G H : Hp) : Prop := ∀ k o, G k = some o → H k = some o
theorem Sub.nil (H : Hp) : Sub (hpo []) H := fun _ _ h => by simp [hpo] at h
theorem Sub.one {H : Hp} {k : Nat} {o : VObj} (h : H k = some o) : Sub (hpo [(k, o)]) H := fun t o' ht => by
  rw [hpo_one] at ht
  split at ht
  · rename_i e; subst e; cases ht; exact h
  · cases ht
theorem Sub.cons {H : Hp} {k : Nat} {o : VObj} {l : HL} (h : H k = some o) (hl : Sub (hpo l) H) : Sub (hpo ((k, o) :: l)) H := fun t o' ht => by
  simp only [hpo, upd] at ht
  split at ht
  · rename_i e; subst e; cases ht; exact h
  · exact hl _ _ ht

theorem Sim.sub {S : Nat → Prop} {ρ : KM} {w : World} {G H : Hp} (h : Sim S ρ w H) (g : Sub G H) : Sim S ρ w G where
  obj := fun k o hk => h.obj k o (g k o hk)
  inj := fun k k' o o' b h1 h2 => h.inj k k' o o' b (g _ _ h1) (g _ _ h2)
  bnd := h.bnd

theorem Sim.empty {S : Nat → Prop} {ρ : KM} {w : World} (hb : ∀ b, S b → b < w.heap.size) : Sim S ρ w (fun _ => none) where
  obj := fun _ _ h => by cases h
  inj := fun _ _ _ _ _ h => by cases h
  bnd := hb

theorem RowsAt.mono {S S' : Nat → Prop} {ρ ρ' : KM} {w w' : World} {sz : Nat} {rows : List (List V)} {c : Array Value} (h : RowsAt S ρ w sz rows c) (hr : ∀ u x, Rep S ρ w u x → Rep S' ρ' w' u x) :
    RowsAt S' ρ' w' sz rows c := ⟨h.1, h.2.1, fun i j r u x h1 h2 h3 => hr _ _ (h.2.2 i j r u x h1 h2 h3)⟩

theorem Own.sub {ρ : KM} {G H : Hp} (g : Sub G H) {b : Nat} (h : Own ρ G b) : Own ρ H b := let ⟨k, o, h1, h2, h3⟩ := h; ⟨k, o, g _ _ h1, h2, h3⟩
theorem Live.sub {ρ : KM} {G H : Hp} (g : Sub G H) {b : Nat} (h : Live ρ G b) : Live ρ H b := let ⟨k, o, h1, h3⟩ := h; ⟨k, o, g _ _ h1, h3⟩

/-- A STEP OVER PART OF THE HEAP IS ONE OVER ALL OF IT. -/
theorem step_frame {S S' : Nat → Prop} {ρ ρ' : KM} {w w' : World} {H : Hp} {pre post : HL} (hs : Sim S ρ w H) (hp : Sub (hpo pre) H) (hn : ∀ k, hpo post k ≠ none → hpo pre k = none → ρ k = none)
    (hs' : Sim S' ρ' w' (hpo post)) (he : Ext S ρ w (hpo pre) S' ρ' w' (hpo post)) :
    Sim S' ρ' w' ((H.del pre).add post) ∧ Ext S ρ w H S' ρ' w' ((H.del pre).add post) := by
  have hrep : ∀ u x, Rep S ρ w u x → Rep S' ρ' w' u x := fun u x h => he.rep (hs.sub hp) h
  have old : ∀ k o, ((H.del pre).add post) k = some o → hpo post k = some o ∨ (hpo post k = none ∧ hpo pre k = none ∧ H k = some o) := fun k o h => by
    rw [add_apply] at h
    cases hk : hpo post k with
    | some o' => rw [hk] at h; exact .inl h
    | none =>
      rw [hk, del_apply] at h
      cases hk' : hpo pre k with
      | some o' => rw [hk'] at h; cases h
      | none => rw [hk'] at h; exact .inr ⟨rfl, rfl, h⟩
  have oldb : ∀ k o b, hpo pre k = none → H k = some o → ρ k = some b → ¬ Live ρ (hpo pre) b := fun k o b hk ho hb ⟨k', o', h1, h2⟩ => by
    have := hs.inj k k' o o' b ho (hp _ _ h1) hb h2
    subst this
    rw [h1] at hk; cases hk
  have own_live : ∀ b, Own ρ (hpo pre) b → Live ρ (hpo pre) b := fun b ⟨k, o, h1, _, h3⟩ => ⟨k, o, h1, h3⟩
  have blt : ∀ k o b, H k = some o → ρ k = some b → b < w.heap.size := fun k o b ho hb => hs.lt ho hb
  have keep : ∀ k, hpo post k = none → ρ k = none → ρ' k = none := fun k h0 h1 => by
    cases h : ρ' k with
    | none => rfl
    | some b =>
      rcases he.dom k b h with h' | ⟨o, h'⟩
      · rw [h1] at h'; cases h'
      · rw [h0] at h'; cases h'
  have back : ∀ k o b, hpo post k = none → H k = some o → ρ' k = some b → ρ k = some b := fun k o b h0 ho hb => by
    cases h : ρ k with
    | none => rw [keep k h0 h] at hb; cases hb
    | some b' =>
      have := he.keys _ _ h
      rw [this] at hb
      exact hb
  refine ⟨⟨fun k o hk => ?_, fun k k' o o' b h1 h2 h3 h4 => ?_, hs'.bnd⟩, ?_⟩
  · rcases old k o hk with h | ⟨h0, h1, h2⟩
    · exact hs'.obj k o h
    · rcases hs.obj k o h2 with ⟨b, c, t, hr, hw, hrow, hf, hnf⟩ | ⟨hr, hrow⟩
      · have hnl := oldb k o b h1 h2 hr
        refine .inl ⟨b, c, t, he.keys _ _ hr, ?_, hrow.mono hrep, fun h => he.more _ (hf h), fun h hb => ?_⟩
        · exact hw.of (he.block b (blt k o b h2 hr) (fun h => hnl (own_live b h)))
        · rcases he.only b hb with h' | h' | h'
          · exact hnf h h'
          · have := blt k o b h2 hr; omega
          · exact hnl (own_live b h')
      · exact .inr ⟨keep k h0 hr, hrow⟩
  · have cross : ∀ k k' o o' b, hpo post k = some o → hpo post k' = none → hpo pre k' = none → H k' = some o' → ρ' k = some b → ρ' k' = some b → False := fun k k' o o' b h1 h0 h2 h3 h4 h5 => by
      have hr := back k' o' b h0 h3 h5
      rcases he.live b ⟨k, o, h1, h4⟩ with h | h
      · have := blt k' o' b h3 hr; omega
      · exact oldb k' o' b h2 h3 hr h
    rcases old k o h1 with a | ⟨a0, a1, a2⟩ <;> rcases old k' o' h2 with c | ⟨c0, c1, c2⟩
    · exact hs'.inj k k' o o' b a c h3 h4
    · exact (cross k k' o o' b a c0 c1 c2 h3 h4).elim
    · exact (cross k' k o' o b c a0 a1 a2 h4 h3).elim
    · exact hs.inj k k' o o' b a2 c2 (back k o b a0 a2 h3) (back k' o' b c0 c2 h4)
  · have onew : ∀ b, Live ρ' ((H.del pre).add post) b → w.heap.size ≤ b ∨ Live ρ H b := fun b ⟨k, o, h1, h2⟩ => by
      rcases old k o h1 with a | ⟨a0, a1, a2⟩
      · rcases he.live b ⟨k, o, a, h2⟩ with h | h
        · exact .inl h
        · exact .inr (h.sub hp)
      · exact .inr ⟨k, o, a2, back k o b a0 a2 h2⟩
    have wnew : ∀ b, Own ρ' ((H.del pre).add post) b → w.heap.size ≤ b ∨ Own ρ H b := fun b ⟨k, o, h1, hf, h2⟩ => by
      rcases old k o h1 with a | ⟨a0, a1, a2⟩
      · rcases he.own b ⟨k, o, a, hf, h2⟩ with h | h
        · exact .inl h
        · exact .inr (h.sub hp)
      · exact .inr ⟨k, o, a2, hf, back k o b a0 a2 h2⟩
    exact { os := he.os, tape := he.tape, output := he.output, size := he.size
            block := fun b hb ho => he.block b hb (fun h => ho (h.sub hp))
            keeps := he.keeps, more := he.more
            only := fun b hb => by
              rcases he.only b hb with h | h | h
              · exact .inl h
              · exact .inr (.inl h)
              · exact .inr (.inr (h.sub hp))
            live := onew, own := wnew, keys := he.keys
            dom := fun k b h => by
              rcases he.dom k b h with h | ⟨o, h⟩
              · exact .inl h
              · exact .inr ⟨o, by rw [add_apply, h]⟩ }

/-- ONE OPERATION, BY WHAT IT TOUCHES: 'rd' is only read, 'pre' becomes 'post'. -/
def LOk (P : Program) (ov : Operand → V) (o : Oper) (rd pre post : HL) (v : V) : Prop :=
  ∀ (S : Nat → Prop) (ρ : KM) (w : World) (a : Act), (∀ x ∈ o.op.operands.toList, Rep S ρ w (a.eval x) (ov x)) → Sim S ρ w (hpo (rd ++ pre)) → (∀ k, hpo post k ≠ none → hpo pre k = none → ρ k = none) →
    ∀ (next : Act → World → Prop) (Q : Exit → Act → World → Prop),
      (∀ u S' ρ' w', Rep S' ρ' w' u v → Sim S' ρ' w' (hpo post) → Ext S ρ w (hpo pre) S' ρ' w' (hpo post) → next (a.put o.dst u) w') → o.wp P a w next Q

theorem Sim.of_pre {S : Nat → Prop} {ρ : KM} {w : World} {rd : HL} (h : Sim S ρ w (hpo (rd ++ []))) : Sim S ρ w (hpo rd) := by simpa using h

/-- an operation that yields a value and leaves the world as it is -/
theorem LOk.read {P : Program} {ov : Operand → V} {o : Oper} {rd : HL} {v : V}
    (h : ∀ (S : Nat → Prop) (ρ : KM) (w : World) (a : Act), (∀ x ∈ o.op.operands.toList, Rep S ρ w (a.eval x) (ov x)) → Sim S ρ w (hpo rd) →
      ∃ u, Rep S ρ w u v ∧ (execOp a.eval o).run P w = .ok (.value u) w) : LOk P ov o rd [] [] v := by
  intro S ρ w a hx hs hn next Q hK
  obtain ⟨u, hu, hr⟩ := h S ρ w a hx hs.of_pre
  simp only [Oper.wp, hr, Oper.upon]
  exact hK u S ρ w hu (Sim.empty hs.bnd) (Ext.refl _ _ _ _)

theorem LOk.pure {P : Program} {ov : Operand → V} {o : Oper} {v : V}
    (h : ∀ (S : Nat → Prop) (ρ : KM) (w : World) (a : Act), (∀ x ∈ o.op.operands.toList, Rep S ρ w (a.eval x) (ov x)) →
      ∃ u, Rep S ρ w u v ∧ (execOp a.eval o).run P w = .ok (.value u) w) : LOk P ov o [] [] [] v :=
  LOk.read fun S ρ w a hx _ => h S ρ w a hx

theorem Rep.lit_inv {S : Nat → Prop} {ρ : KM} {w : World} {u v : Value} (h : Rep S ρ w u (.lit v)) : u = v := by cases h; rfl
theorem Rep.lit_one {S : Nat → Prop} {ρ : KM} {w : World} {u v : Value} (h : Rep S ρ w u (.lit v)) : v.oneCell' = true := by cases h; assumption

end Go.Proofs.Ytbieiehfohldjaa
