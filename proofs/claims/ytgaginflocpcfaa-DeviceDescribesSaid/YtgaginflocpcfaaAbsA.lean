/-
  A VALUE-LEVEL MACHINE over the model: what a slot, a cell, an object of the call's own holds is told by a plain value 'V'; 'Rep' says which value of the model in which world is told by it.
  This text: values, the relation, what keeps it.
-/
import Derived.Orders
import Derived.OrdersHeld
import Derived.WalkKit
import Derived.Laws.Cells
namespace Go.Proofs.Ytgaginflocpcfaa
open Go
set_option linter.unusedVariables false
set_option linter.unusedSimpArgs false

/-- plain values: 'sl' a slice whose places never change any more (nil or not, where it holds nothing); 'sls' one of which more is known ('nn': it is not nil; 'ex': no room behind it); 'win', 'ptr' into an object (by its key; 'cp': room for so many at least); 'ip' a pointer into memory that never changes. -/
inductive V where
  | lit (v : Value)
  | agg (cs : List V)
  | tup (vs : List V)
  | sl (sz : Nat) (l : List (List V))
  | sls (sz : Nat) (l : List (List V)) (nn ex : Bool)
  | win (k sz lo n cp : Nat)
  | ptr (k sz i off : Nat)
  | ip (cs : List V)
  | fn (f : Nat) (caps : List V)
  | mp (k : Nat)
  | any

instance : Inhabited V := ⟨.any⟩

structure VObj where
  sz : Nat
  rows : List (List V)
  frz : Bool := false
/-- a map's rows -/
def mpRows (ents : List (List V)) : List (List V) := [.lit (.int .i64 (ents.length : Int)), .any] :: ents
/-- a map -/
def mpO (ents : List (List V)) : VObj := ⟨2, mpRows ents, false⟩

def V.undef : V := .tup []
/-- the cells of a value -/
def V.cells : V → List V
  | .agg cs => cs
  | x => [x]
/-- may it be stored in one cell? -/
def V.one : V → Bool
  | .lit v => v.oneCell'
  | .agg _ | .tup _ | .any => false
  | _ => true

def upd {α : Type} (f : Nat → α) (k : Nat) (v : α) : Nat → α := fun t => if t = k then v else f t
theorem upd_same {α : Type} (f : Nat → α) (k : Nat) (v : α) : upd f k v k = v := by simp [upd]
theorem upd_upd {α : Type} (f : Nat → α) (k : Nat) (u v : α) : upd (upd f k u) k v = upd f k v := by
  funext t
  simp only [upd]
  split <;> rfl
theorem upd_ne {α : Type} (f : Nat → α) {k t : Nat} (v : α) (h : t ≠ k) : upd f k v t = f t := by simp [upd, h]

abbrev Hp := Nat → Option VObj
abbrev KM := Nat → Option Nat

/-- nothing has a name -/
abbrev noK : KM := fun _ => none

inductive Rep (S : Nat → Prop) : KM → World → Value → V → Prop
  | any {ρ : KM} {w : World} {u} : Rep S ρ w u .any
  | lit {ρ : KM} {w : World} {v} (h : v.oneCell' = true) : Rep S ρ w v (.lit v)
  | agg {ρ : KM} {w : World} {vs : Array Value} {cs : List V} (hl : vs.size = cs.length) (h : ∀ (i : Nat) (u : Value) (x : V), vs[i]? = some u → cs[i]? = some x → Rep S ρ w u x) : Rep S ρ w (.agg vs) (.agg cs)
  | tup {ρ : KM} {w : World} {vs : Array Value} {cs : List V} (hl : vs.size = cs.length) (h : ∀ (i : Nat) (u : Value) (x : V), vs[i]? = some u → cs[i]? = some x → Rep S ρ w u x) : Rep S ρ w (.tuple vs) (.tup cs)
  | sl0 {ρ : KM} {w : World} {a : Option Addr} {cap sz : Nat} (ha : a = none → cap = 0) : Rep S ρ w (.slice a 0 cap) (.sl sz [])
  | sl {ρ : KM} {w : World} {b off cap sz : Nat} {l : List (List V)} {c : Array Value} {t : TypeId} {fr : Nat × Nat} (hS : S b) (hw : w.heap[b]? = some (.cells c t fr)) (hz : ∀ r ∈ l, r.length = sz)
      (hc : l.length ≤ cap) (hf : off + l.length * sz ≤ c.size) (h : ∀ (i j : Nat) (r : List V) (u : Value) (x : V), l[i]? = some r → r[j]? = some x → c[off + i * sz + j]? = some u → Rep S noK w u x) :
      Rep S ρ w (.slice (some ⟨b, off, none⟩) l.length cap) (.sl sz l)
  | sls {ρ : KM} {w : World} {a : Option Addr} {n cap sz : Nat} {l : List (List V)} {nn ex : Bool} (h : Rep S ρ w (.slice a n cap) (.sl sz l)) (hn : nn = true → a.isSome = true) (he : ex = true → cap = n) : Rep S ρ w (.slice a n cap) (.sls sz l nn ex)
  | win {ρ : KM} {w : World} {k b off cap sz lo n cp : Nat} {c : Array Value} {t : TypeId} {fr : Nat × Nat} (hk : ρ k = some b) (hw : w.heap[b]? = some (.cells c t fr)) (hn : n ≤ cp) (hc : cp ≤ cap) (hf : off + cap * sz ≤ c.size)
      (ho : off = lo * sz ∨ cap = 0) : Rep S ρ w (.slice (some ⟨b, off, none⟩) n cap) (.win k sz lo n cp)
  | win0 {ρ : KM} {w : World} {a : Option Addr} {k sz lo : Nat} : Rep S ρ w (.slice a 0 0) (.win k sz lo 0 0)
  | ptr {ρ : KM} {w : World} {k b sz i off : Nat} {c : Array Value} {t : TypeId} {fr : Nat × Nat} (hk : ρ k = some b) (hw : w.heap[b]? = some (.cells c t fr)) : Rep S ρ w (.pointer (some ⟨b, i * sz + off, none⟩)) (.ptr k sz i off)
  | ip {ρ : KM} {w : World} {b off : Nat} {cs : List V} {c : Array Value} {t : TypeId} {fr : Nat × Nat} (hS : S b) (hw : w.heap[b]? = some (.cells c t fr)) (hf : off + cs.length ≤ c.size)
      (h : ∀ (j : Nat) (u : Value) (x : V), cs[j]? = some x → c[off + j]? = some u → Rep S noK w u x) : Rep S ρ w (.pointer (some ⟨b, off, none⟩)) (.ip cs)
  | fn {ρ : KM} {w : World} {f : Nat} {vs : Array Value} {cs : List V} (hl : vs.size = cs.length) (h : ∀ (i : Nat) (u : Value) (x : V), vs[i]? = some u → cs[i]? = some x → Rep S ρ w u x) : Rep S ρ w (.func (.func f) #[] vs) (.fn f cs)
  | mp {ρ : KM} {w : World} {k b : Nat} {es : Array MapEntry} {n : Nat} (hk : ρ k = some b) (hw : w.heap[b]? = some (.map es n)) : Rep S ρ w (.map (some b)) (.mp k)

/-- a map's keys and values, one behind the other, behind their number -/
def mapCells (es : Array MapEntry) : Array Value := (Value.int .i64 (es.size : Int) :: Value.bool false :: es.toList.flatMap fun e => [e.key, e.val]).toArray
/-- rows of cells stay rows of as many cells; maps stay maps -/
def Keeps (w w' : World) : Prop := (∀ (b : Nat) (c : Array Value) (t : TypeId) (fr : Nat × Nat), w.heap[b]? = some (Obj.cells c t fr) → ∃ (c' : Array Value) (fr' : Nat × Nat), w'.heap[b]? = some (Obj.cells c' t fr') ∧ c'.size = c.size) ∧ ∀ (b : Nat) (es : Array MapEntry) (n : Nat), w.heap[b]? = some (Obj.map es n) → ∃ (es' : Array MapEntry) (n' : Nat), w'.heap[b]? = some (Obj.map es' n')
theorem Keeps.refl (w : World) : Keeps w w := ⟨fun _ c _ fr h => ⟨c, fr, h, rfl⟩, fun _ es n h => ⟨es, n, h⟩⟩
theorem Keeps.trans {a b c : World} (h : Keeps a b) (k : Keeps b c) : Keeps a c := ⟨fun i x t fr hx => by
  obtain ⟨y, fr', hy, e⟩ := h.1 i x t fr hx
  obtain ⟨z, fr'', hz, e'⟩ := k.1 i y t fr' hy
  exact ⟨z, fr'', hz, e'.trans e⟩, fun i es n hx => by
  obtain ⟨es', n', hy⟩ := h.2 i es n hx
  exact k.2 i es' n' hy⟩

theorem Rep.mono {S S' : Nat → Prop} {ρ ρ' : KM} {w w' : World} (hS : ∀ b, S b → S' b) (hb : ∀ b, S b → w'.heap[b]? = w.heap[b]?) (hρ : ∀ k b, ρ k = some b → ρ' k = some b) (hk : Keeps w w')
    {u : Value} {x : V} (h : Rep S ρ w u x) : Rep S' ρ' w' u x := by
  induction h generalizing ρ' with
  | any => exact .any
  | lit h => exact .lit h
  | agg hl _ ih => exact .agg hl fun i u x h1 h2 => ih i u x h1 h2 hb hρ hk
  | tup hl _ ih => exact .tup hl fun i u x h1 h2 => ih i u x h1 h2 hb hρ hk
  | sl0 ha => exact .sl0 ha
  | sl h1 hw hz hc hf _ ih => exact .sl (hS _ h1) ((hb _ h1).trans hw) hz hc hf fun i j r u x a b c => ih i j r u x a b c hb (fun _ _ h => h) hk
  | sls _ hn he ih => exact .sls (ih hb hρ hk) hn he
  | win h1 hw hn hc hf ho =>
    obtain ⟨c', fr', hw', e⟩ := hk.1 _ _ _ _ hw
    exact .win (hρ _ _ h1) hw' hn hc (e ▸ hf) ho
  | win0 => exact .win0
  | ptr h1 hw =>
    obtain ⟨c', fr', hw', e⟩ := hk.1 _ _ _ _ hw
    exact .ptr (hρ _ _ h1) hw'
  | mp h1 hw =>
    obtain ⟨es', n', hw'⟩ := hk.2 _ _ _ hw
    exact .mp (hρ _ _ h1) hw'
  | ip h1 hw hf _ ih => exact .ip (hS _ h1) ((hb _ h1).trans hw) hf fun j u x a b => ih j u x a b hb (fun _ _ h => h) hk
  | fn hl _ ih => exact .fn hl fun i u x h1 h2 => ih i u x h1 h2 hb hρ hk

/-- what has no name in it -/
theorem Rep.up {S : Nat → Prop} {ρ : KM} {w : World} {u : Value} {x : V} (h : Rep S noK w u x) : Rep S ρ w u x := h.mono (fun _ h => h) (fun _ _ => rfl) (fun _ _ h => by cases h) (Keeps.refl w)

/-- an object's rows in a row of cells -/
def RowsAt (S : Nat → Prop) (ρ : KM) (w : World) (sz : Nat) (rows : List (List V)) (c : Array Value) : Prop :=
  (∀ r ∈ rows, r.length = sz) ∧ rows.length * sz ≤ c.size ∧ ∀ (i j : Nat) (r : List V) (u : Value) (x : V), rows[i]? = some r → r[j]? = some x → c[i * sz + j]? = some u → Rep S ρ w u x

/-- what an object's cells are: a block's, or a map's keys and values -/
def HeapRow (w : World) (b : Nat) (c : Array Value) (t : TypeId) : Prop := w.heap[b]? = some (.cells c t (0, 0)) ∨ ∃ es es' n, w.heap[b]? = some (.map es n) ∧ es'.toList.Perm es.toList ∧ c = mapCells es'
theorem HeapRow.of {w w' : World} {b : Nat} {c : Array Value} {t : TypeId} (h : HeapRow w b c t) (e : w'.heap[b]? = w.heap[b]?) : HeapRow w' b c t := by
  unfold HeapRow at *
  rw [e]
  exact h
theorem HeapRow.lt {w : World} {b : Nat} {c : Array Value} {t : TypeId} (h : HeapRow w b c t) : b < w.heap.size := by
  rcases Nat.lt_or_ge b w.heap.size with q | q
  · exact q
  · unfold HeapRow at h
    simp [Array.getElem?_eq_none q] at h
structure Sim (S : Nat → Prop) (ρ : KM) (w : World) (H : Hp) : Prop where
  obj : ∀ k o, H k = some o → (∃ b c t, ρ k = some b ∧ HeapRow w b c t ∧ RowsAt S ρ w o.sz o.rows c ∧ (o.frz = true → S b) ∧ (o.frz = false → ¬ S b)) ∨ (ρ k = none ∧ o.rows = [])
  inj : ∀ k k' o o' b, H k = some o → H k' = some o' → ρ k = some b → ρ k' = some b → k = k'
  bnd : ∀ b, S b → b < w.heap.size

/-- a block of an object that may be written -/
def Own (ρ : KM) (H : Hp) (b : Nat) : Prop := ∃ k o, H k = some o ∧ o.frz = false ∧ ρ k = some b
/-- a block of an object -/
def Live (ρ : KM) (H : Hp) (b : Nat) : Prop := ∃ k o, H k = some o ∧ ρ k = some b

structure Ext (S : Nat → Prop) (ρ : KM) (w : World) (H : Hp) (S' : Nat → Prop) (ρ' : KM) (w' : World) (H' : Hp) : Prop where
  os : w'.os = w.os
  tape : w'.tape = w.tape
  output : w'.output = w.output
  size : w.heap.size ≤ w'.heap.size
  block : ∀ b, b < w.heap.size → ¬ Own ρ H b → w'.heap[b]? = w.heap[b]?
  keeps : Keeps w w'
  more : ∀ b, S b → S' b
  only : ∀ b, S' b → S b ∨ w.heap.size ≤ b ∨ Own ρ H b
  live : ∀ b, Live ρ' H' b → w.heap.size ≤ b ∨ Live ρ H b
  own : ∀ b, Own ρ' H' b → w.heap.size ≤ b ∨ Own ρ H b
  keys : ∀ k b, ρ k = some b → ρ' k = some b
  dom : ∀ k b, ρ' k = some b → ρ k = some b ∨ ∃ o, H' k = some o

theorem Sim.notOwn {S : Nat → Prop} {ρ : KM} {w : World} {H : Hp} (h : Sim S ρ w H) {b : Nat} (hb : S b) : ¬ Own ρ H b := by
  rintro ⟨k, o, hk, hf, hr⟩
  rcases h.obj k o hk with ⟨b', c, t, h1, _, _, _, h2⟩ | ⟨h1, _⟩
  · rw [h1] at hr
    obtain rfl : b' = b := by simpa using hr
    exact h2 hf hb
  · rw [h1] at hr; cases hr

/-- the block of an object that has one -/
theorem Sim.get {S : Nat → Prop} {ρ : KM} {w : World} {H : Hp} (h : Sim S ρ w H) {k b : Nat} {o : VObj} (hk : H k = some o) (hb : ρ k = some b) :
    ∃ c t, HeapRow w b c t ∧ RowsAt S ρ w o.sz o.rows c ∧ (o.frz = true → S b) ∧ (o.frz = false → ¬ S b) := by
  rcases h.obj k o hk with ⟨b', c, t, h1, h2⟩ | ⟨h1, _⟩
  · rw [h1] at hb
    obtain rfl : b' = b := by simpa using hb
    exact ⟨c, t, h2⟩
  · rw [h1] at hb; cases hb
theorem Sim.at {S : Nat → Prop} {ρ : KM} {w : World} {H : Hp} (h : Sim S ρ w H) {k b : Nat} {o : VObj} (hk : H k = some o) (hb : ρ k = some b) {c0 : Array Value} {t0 : TypeId} {fr0 : Nat × Nat} (hc : w.heap[b]? = some (.cells c0 t0 fr0)) :
    ∃ c t, w.heap[b]? = some (.cells c t (0, 0)) ∧ RowsAt S ρ w o.sz o.rows c ∧ (o.frz = true → S b) ∧ (o.frz = false → ¬ S b) := by
  obtain ⟨c, t, h1, h2⟩ := h.get hk hb
  rcases h1 with h1 | ⟨es, es', n, h1, _⟩
  · exact ⟨c, t, h1, h2⟩
  · rw [hc] at h1; cases h1
theorem Sim.frz {S : Nat → Prop} {ρ : KM} {w : World} {H : Hp} (h : Sim S ρ w H) {k b : Nat} {o : VObj} (hk : H k = some o) (hb : ρ k = some b) : (o.frz = true → S b) ∧ (o.frz = false → ¬ S b) := by
  obtain ⟨c, t, _, _, h3⟩ := h.get hk hb
  exact h3
theorem Sim.lt {S : Nat → Prop} {ρ : KM} {w : World} {H : Hp} (h : Sim S ρ w H) {k b : Nat} {o : VObj} (hk : H k = some o) (hb : ρ k = some b) : b < w.heap.size := by
  obtain ⟨c, t, h2, _⟩ := h.get hk hb
  exact h2.lt

theorem Ext.rep {S S' : Nat → Prop} {ρ ρ' : KM} {w w' : World} {H H' : Hp} (e : Ext S ρ w H S' ρ' w' H') (hs : Sim S ρ w H) {u : Value} {x : V} (h : Rep S ρ w u x) : Rep S' ρ' w' u x :=
  h.mono e.more (fun b hb => e.block b (hs.bnd b hb) (hs.notOwn hb)) e.keys e.keeps

theorem Ext.refl (S : Nat → Prop) (ρ : KM) (w : World) (H : Hp) : Ext S ρ w H S ρ w H where
  os := rfl
  tape := rfl
  output := rfl
  size := Nat.le_refl _
  block := fun _ _ _ => rfl
  keeps := Keeps.refl w
  more := fun _ h => h
  only := fun _ h => .inl h
  live := fun _ h => .inr h
  own := fun _ h => .inr h
  keys := fun _ _ h => h
  dom := fun _ _ h => .inl h

/-- two steps; what was an object's name in between and is no more is kept in 'ρ' only if it is listed -/
theorem Ext.trans {S S' S'' : Nat → Prop} {ρ ρ' ρ'' : KM} {w w' w'' : World} {H H' H'' : Hp} (e : Ext S ρ w H S' ρ' w' H') (f : Ext S' ρ' w' H' S'' ρ'' w'' H'')
    (hd : ∀ k b, ρ'' k = some b → ρ k = some b ∨ ∃ o, H'' k = some o) : Ext S ρ w H S'' ρ'' w'' H'' where
  os := f.os.trans e.os
  tape := f.tape.trans e.tape
  output := f.output.trans e.output
  size := Nat.le_trans e.size f.size
  block := fun b hb ho => by
    have h1 := e.block b hb ho
    have h2 := f.block b (Nat.lt_of_lt_of_le hb e.size) (fun h => by rcases e.own b h with h | h; · omega
                                                                     · exact ho h)
    exact h2.trans h1
  keeps := e.keeps.trans f.keeps
  more := fun b h => f.more b (e.more b h)
  only := fun b h => by
    rcases f.only b h with h | h | h
    · exact e.only b h
    · exact .inr (.inl (Nat.le_trans e.size h))
    · rcases e.own b h with h | h
      · exact .inr (.inl h)
      · exact .inr (.inr h)
  live := fun b h => by
    rcases f.live b h with h | h
    · exact .inl (Nat.le_trans e.size h)
    · exact e.live b h
  own := fun b h => by
    rcases f.own b h with h | h
    · exact .inl (Nat.le_trans e.size h)
    · exact e.own b h
  keys := fun k b h => f.keys k b (e.keys k b h)
  dom := hd

end Go.Proofs.Ytgaginflocpcfaa
