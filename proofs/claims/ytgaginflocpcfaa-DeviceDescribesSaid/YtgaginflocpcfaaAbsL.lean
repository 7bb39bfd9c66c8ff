/-
  The value-level machine: operations in a row, in the order of the text or in any that their edges allow.
-/
import Derived.Test.YtgaginflocpcfaaAbsKm
namespace Go.Proofs.Ytgaginflocpcfaa
open Go
set_option linter.unusedVariables false
set_option linter.unusedSimpArgs false

/-- what became of the world between two points of a call -/
structure Ext0 (S : Nat → Prop) (ρ : KM) (w : World) (H : Hp) (S' : Nat → Prop) (ρ' : KM) (w' : World) (H' : Hp) : Prop where
  os : w'.os = w.os
  tape : w'.tape = w.tape
  output : w'.output = w.output
  size : w.heap.size ≤ w'.heap.size
  block : ∀ b, b < w.heap.size → ¬ Own ρ H b → w'.heap[b]? = w.heap[b]?
  keeps : Keeps w w'
  more : ∀ b, S b → S' b
  only : ∀ b, S' b → S b ∨ w.heap.size ≤ b ∨ Own ρ H b
  live : ∀ b, Live ρ' H' b → w.heap.size ≤ b ∨ Live ρ H b
  own : ∀ b, Own ρ' H' b → w.heap.size ≤ b ∨ Own ρ H b
  keys : ∀ k b, ρ k = some b → ρ' k = some b

theorem Ext.to0 {S S' : Nat → Prop} {ρ ρ' : KM} {w w' : World} {H H' : Hp} (e : Ext S ρ w H S' ρ' w' H') : Ext0 S ρ w H S' ρ' w' H' :=
  ⟨e.os, e.tape, e.output, e.size, e.block, e.keeps, e.more, e.only, e.live, e.own, e.keys⟩
theorem Ext0.refl (S : Nat → Prop) (ρ : KM) (w : World) (H : Hp) : Ext0 S ρ w H S ρ w H := (Ext.refl S ρ w H).to0
theorem Ext0.trans {S S' S'' : Nat → Prop} {ρ ρ' ρ'' : KM} {w w' w'' : World} {H H' H'' : Hp} (e : Ext0 S ρ w H S' ρ' w' H') (f : Ext0 S' ρ' w' H' S'' ρ'' w'' H'') : Ext0 S ρ w H S'' ρ'' w'' H'' where
  os := f.os.trans e.os
  tape := f.tape.trans e.tape
  output := f.output.trans e.output
  size := Nat.le_trans e.size f.size
  block := fun b hb ho => by
    have h1 := e.block b hb ho
    have h2 := f.block b (Nat.lt_of_lt_of_le hb e.size) (fun h => by
      rcases e.own b h with h | h
      · omega
      · exact ho h)
    exact h2.trans h1
  keeps := e.keeps.trans f.keeps
  more := fun b h => f.more b (e.more b h)
  only := fun b h => by
    rcases f.only b h with h | h | h
    · exact e.only b h
    · exact .inr (.inl (Nat.le_trans e.size h))
    · rcases e.own b h with h | h
      · exact .inr (.inl h)
      · exact .inr (.inr h)
  live := fun b h => by
    rcases f.live b h with h | h
    · exact .inl (Nat.le_trans e.size h)
    · exact e.live b h
  own := fun b h => by
    rcases f.own b h with h | h
    · exact .inl (Nat.le_trans e.size h)
    · exact e.own b h
  keys := fun k b h => f.keys k b (e.keys k b h)
theorem Ext0.rep {S S' : Nat → Prop} {ρ ρ' : KM} {w w' : World} {H H' : Hp} (e : Ext0 S ρ w H S' ρ' w' H') (hs : Sim S ρ w H) {u : Value} {x : V} (h : Rep S ρ w u x) : Rep S' ρ' w' u x :=
  h.mono e.more (fun b hb => e.block b (hs.bnd b hb) (hs.notOwn hb)) e.keys e.keeps

structure St where
  env : Nat → V
  H : Hp
  nx : Nat

def ovOf (env : Nat → V) : Operand → V
  | .tmp t => env t
  | .const v => if constOk v then V.of v else .any
  | .global _ => .any
  | .func f => .fn f []

/-- slots by value -/
def SRep (S : Nat → Prop) (ρ : KM) (w : World) (a : Act) (env : Nat → V) : Prop := ∀ t, Rep S ρ w (a.tmps.getD t undef) (env t)

theorem SRep.ov {S : Nat → Prop} {ρ : KM} {w : World} {a : Act} {env : Nat → V} (h : SRep S ρ w a env) (x : Operand) : Rep S ρ w (a.eval x) (ovOf env x) := by
  cases x with
  | tmp t => exact h t
  | const v =>
    simp only [ovOf, Act.eval]
    split
    · rename_i hc; exact rep_const hc
    · exact .any
  | global g => exact .any
  | func f => exact .fn rfl (fun i u x h => by simp at h)

def updO (env : Nat → V) (d : Option Nat) (v : V) : Nat → V := match d with
  | some d => upd env d v
  | none => env

theorem SRep.put {S : Nat → Prop} {ρ : KM} {w : World} {a : Act} {env : Nat → V} (h : SRep S ρ w a env) {d : Option Nat} {u : Value} {v : V} (hv : Rep S ρ w u v) (hd : ∀ t, d = some t → t < a.tmps.size) : SRep S ρ w (a.put d u) (updO env d v) := by
  cases d with
  | none => exact h
  | some d =>
    intro t
    simp only [Act.put, updO, upd]
    by_cases e : t = d
    · subst e
      simp only [if_true]
      have := hd t rfl
      simpa [Array.getD_eq_getD_getElem?, this] using hv
    · rw [if_neg e]
      have : (a.tmps.setIfInBounds d u).getD t undef = a.tmps.getD t undef := by
        simp [Array.getD_eq_getD_getElem?, Array.getElem?_setIfInBounds_ne (Ne.symm e)]
      rw [this]
      exact h t
theorem put_size (a : Act) (d : Option Nat) (u : Value) : (a.put d u).tmps.size = a.tmps.size := by cases d <;> simp [Act.put]
theorem put_defers (a : Act) (d : Option Nat) (u : Value) : (a.put d u).defers = a.defers := by cases d <;> rfl

/-- one operation's result -/
structure OpR where
  rd : HL
  pre : HL
  post : HL
  v : V
  ins : Option (Nat × List V)

/-- the guard lets it run -/
def gOn (ops : Array Oper) (env : Nat → V) (o : Oper) : Prop := match o.guard with
  | none => True
  | some (j, want) => ∃ t, (ops[j]?).bind (·.dst) = some t ∧ env t = .lit (.bool want)
/-- the guard does not -/
def gOff (ops : Array Oper) (env : Nat → V) (o : Oper) : Prop := match o.guard with
  | none => False
  | some (j, want) => ∃ t, (ops[j]?).bind (·.dst) = some t ∧ (env t = .lit (.bool (!want)) ∨ env t = .undef)

def keysOf (l : HL) : List Nat := l.map (·.1)
theorem mem_keys {l : HL} {k : Nat} : hpo l k ≠ none ↔ k ∈ keysOf l := by
  induction l with
  | nil => simp [hpo, keysOf]
  | cons p l ih =>
    obtain ⟨j, o⟩ := p
    simp only [hpo, upd, keysOf, List.map_cons, List.mem_cons]
    by_cases e : k = j
    · simp [e]
    · simp only [e, if_false, false_or]; exact ih

/-- a map with an entry more -/
def mpAdd (e : List V) : Option VObj → Option VObj
  | some o => some (mpO (o.rows.tail ++ [e]))
  | none => none
/-- what a step makes of a heap -/
def OpR.act (r : OpR) (A : Hp) : Hp := match r.ins with
  | none => (A.del r.pre).add r.post
  | some (k, e) => upd A k (mpAdd e (A k))
/-- are they the same, cell by cell? (which cells are numbers: true; the others are truth values) -/
def eqCells : List Bool → List V → List V → Option Bool
  | [], [], [] => some true
  | true :: sh, .lit (.int k a) :: l, .lit (.int k' b) :: l' => if k = k' then (eqCells sh l l').map fun r => (a == b) && r else none
  | false :: sh, .lit (.bool a) :: l, .lit (.bool b) :: l' => (eqCells sh l l').map fun r => (a == b) && r
  | _, _, _ => none
theorem eqCells_symm : ∀ (sh : List Bool) (a b : List V), eqCells sh a b = eqCells sh b a := by
  intro sh a b
  induction sh, a, b using eqCells.induct with
  | case1 => rfl
  | case2 sh a l k' b l' ih =>
    simp only [eqCells, if_true, ih]
    rw [show (a == b) = (b == a) from by rw [Bool.eq_iff_iff, beq_iff_eq, beq_iff_eq]; exact eq_comm]
  | case3 sh k a l k' b l' hk =>
    simp only [eqCells, if_neg hk, if_neg (Ne.symm hk)]
  | case4 sh a l b l' ih =>
    simp only [eqCells, ih]
    rw [show (a == b) = (b == a) from by cases a <;> cases b <;> rfl]
  | case5 sh a b h1 h2 h3 =>
    have e1 : eqCells sh a b = none := by
      unfold eqCells
      split
      · exact (h1 rfl rfl rfl).elim
      · exact (h2 _ _ _ _ _ _ _ rfl rfl rfl).elim
      · exact (h3 _ _ _ _ _ rfl rfl rfl).elim
      · rfl
    have e2 : eqCells sh b a = none := by
      unfold eqCells
      split
      · exact (h1 rfl rfl rfl).elim
      · exact (h2 _ _ _ _ _ _ _ rfl rfl rfl).elim
      · exact (h3 _ _ _ _ _ rfl rfl rfl).elim
      · rfl
    rw [e1, e2]
/-- two keys that differ -/
def KeyAp (kc : List V) (r : List V) : Prop := ∃ sh c v, r = [.agg c, v] ∧ eqCells sh kc c = some false
/-- an entry that comes into a map, whatever else is there -/
def InsOk (P : Program) (ov : Operand → V) (o : Oper) (k : Nat) (kc : List V) (y : V) : Prop := (∀ ents, (∀ r ∈ ents, KeyAp kc r) → LOk P ov o [] [(k, mpO ents)] [(k, mpO (ents ++ [[.agg kc, y]]))] .undef) ∧
  ∀ (S : Nat → Prop) (ρ : KM) (w : World) (a : Act), (∀ x ∈ o.op.operands.toList, Rep S ρ w (a.eval x) (ov x)) → ∀ b, ρ k = some b → ∃ es n, w.heap[b]? = some (.map es n)
/-- one step by value -/
structure AStep (P : Program) (N : Nat) (ops : Array Oper) (o : Oper) (st : St) (r : OpR) (st' : St) : Prop where
  env : st'.env = updO st.env o.dst r.v
  heap : st'.H = r.act st.H
  nx : st.nx ≤ st'.nx
  dst : ∀ t, o.dst = some t → t < N
  on : (r.ins = none ∧ gOn ops st.env o ∧ LOk P (ovOf st.env) o r.rd r.pre r.post r.v ∧ Sub (hpo r.rd) st.H ∧ Sub (hpo r.pre) st.H ∧ (∀ k, k ∈ keysOf r.post → k ∉ keysOf r.pre → st.nx ≤ k) ∧ (∀ k, k ∈ keysOf r.post → k < st'.nx)) ∨
    (gOff ops st.env o ∧ r = ⟨[], [], [], .undef, none⟩) ∨
    (gOn ops st.env o ∧ ∃ k kc y ents, r = ⟨[], [(k, mpO ents)], [(k, mpO (ents ++ [[.agg kc, y]]))], .undef, some (k, [.agg kc, y])⟩ ∧ st.H k = some (mpO ents) ∧ k < st'.nx ∧ (∀ r ∈ ents, KeyAp kc r) ∧ InsOk P (ovOf st.env) o k kc y)
theorem act_ins {A : Hp} {k : Nat} {e : List V} {ents : List (List V)} {rd : HL} {v : V} (h : A k = some (mpO ents)) : OpR.act ⟨rd, [(k, mpO ents)], [(k, mpO (ents ++ [e]))], v, some (k, e)⟩ A = (A.del [(k, mpO ents)]).add [(k, mpO (ents ++ [e]))] := by
  funext t
  simp only [OpR.act, h, mpAdd, Hp.add, Hp.del, upd_upd]
  rfl
/-- a step, however it is -/
theorem AStep.run {P : Program} {N : Nat} {ops : Array Oper} {o : Oper} {st : St} {r : OpR} {st' : St} (h : AStep P N ops o st r st') :
    st'.H = (st.H.del r.pre).add r.post ∧ ((gOn ops st.env o ∧ LOk P (ovOf st.env) o r.rd r.pre r.post r.v ∧ Sub (hpo r.rd) st.H ∧ Sub (hpo r.pre) st.H ∧ (∀ k, k ∈ keysOf r.post → k ∉ keysOf r.pre → st.nx ≤ k) ∧ (∀ k, k ∈ keysOf r.post → k < st'.nx)) ∨
    (gOff ops st.env o ∧ r = ⟨[], [], [], .undef, none⟩)) := by
  rcases h.on with ⟨hi, g, h1, h2, h3, h4, h5⟩ | ⟨g, rfl⟩ | ⟨g, k, kc, y, ents, rfl, h1, h2, h3, h4⟩
  · exact ⟨by rw [h.heap]; simp only [OpR.act, hi], .inl ⟨g, h1, h2, h3, h4, h5⟩⟩
  · exact ⟨by rw [h.heap]; rfl, .inr ⟨g, rfl⟩⟩
  · refine ⟨by rw [h.heap, act_ins h1], .inl ⟨g, h4.1 ents h3, Sub.nil _, Sub.one h1, fun j a b => absurd a b, fun j a => ?_⟩⟩
    simp [keysOf] at a
    rw [a]
    exact h2

inductive Chain (P : Program) (N : Nat) (ops : Array Oper) : List Oper → St → List OpR → St → Prop
  | nil (st : St) : Chain P N ops [] st [] st
  | cons {o : Oper} {l : List Oper} {st st' st'' : St} {r : OpR} {rs : List OpR} (h : AStep P N ops o st r st') (t : Chain P N ops l st' rs st'') : Chain P N ops (o :: l) st (r :: rs) st''

/-- all of a state by value -/
structure SimSt (N : Nat) (S : Nat → Prop) (ρ : KM) (a : Act) (w : World) (st : St) : Prop where
  sim : Sim S ρ w st.H
  slots : SRep S ρ w a st.env
  size : a.tmps.size = N
  defers : a.defers = []
  new : ∀ k, st.nx ≤ k → ρ k = none
  old : ∀ k o, st.H k = some o → k < st.nx

theorem yielded_of {S : Nat → Prop} {ρ : KM} {w : World} {a : Act} {env : Nat → V} {ops : Array Oper} (h : SRep S ρ w a env) {j t : Nat} {b : Bool} (hj : (ops[j]?).bind (·.dst) = some t) (ht : env t = .lit (.bool b)) : yielded ops a.tmps j = some b := by
  have := h t
  rw [ht] at this
  have := this.lit_inv
  unfold yielded
  rw [hj]
  simp only [Option.bind_some]
  rw [Array.getD_eq_getD_getElem?] at this
  cases hh : a.tmps[t]? with
  | none => rw [hh] at this; cases this
  | some u => rw [hh] at this; simp only [Option.getD_some] at this; rw [this]
theorem yielded_undef {S : Nat → Prop} {ρ : KM} {w : World} {a : Act} {env : Nat → V} {ops : Array Oper} (h : SRep S ρ w a env) {j t : Nat} (hj : (ops[j]?).bind (·.dst) = some t) (ht : env t = .undef) : yielded ops a.tmps j = none := by
  have := h t
  rw [ht] at this
  unfold yielded
  rw [hj]
  simp only [Option.bind_some]
  rw [Array.getD_eq_getD_getElem?] at this
  cases hh : a.tmps[t]? with
  | none => rfl
  | some u =>
    rw [hh] at this
    simp only [Option.getD_some, V.undef] at this
    cases this
    rfl
theorem wanted_on {S : Nat → Prop} {ρ : KM} {w : World} {a : Act} {env : Nat → V} {ops : Array Oper} {o : Oper} (h : SRep S ρ w a env) (g : gOn ops env o) : Region.wanted o (yielded ops a.tmps) = true := by
  unfold gOn at g
  unfold Region.wanted
  cases ho : o.guard with
  | none => rfl
  | some jw =>
    obtain ⟨j, want⟩ := jw
    rw [ho] at g
    obtain ⟨t, h1, h2⟩ := g
    simp [yielded_of h h1 h2]
theorem wanted_off {S : Nat → Prop} {ρ : KM} {w : World} {a : Act} {env : Nat → V} {ops : Array Oper} {o : Oper} (h : SRep S ρ w a env) (g : gOff ops env o) : Region.wanted o (yielded ops a.tmps) = false := by
  unfold gOff at g
  unfold Region.wanted
  cases ho : o.guard with
  | none => rw [ho] at g; exact g.elim
  | some jw =>
    obtain ⟨j, want⟩ := jw
    rw [ho] at g
    obtain ⟨t, h1, h2 | h2⟩ := g
    · simp [yielded_of h h1 h2]
    · simp [yielded_undef h h1 h2]

theorem rep_undef {S : Nat → Prop} {ρ : KM} {w : World} : Rep S ρ w undef .undef := .tup rfl (fun i u x h => by simp at h)

theorem sub_app {l l' : HL} {H : Hp} (h : Sub (hpo l) H) (h' : Sub (hpo l') H) : Sub (hpo (l ++ l')) H := fun k o hk => by
  rw [hpo_app] at hk
  cases hr : hpo l k with
  | some o' => rw [hr] at hk; cases hk; exact h k _ hr
  | none => rw [hr] at hk; exact h' k o hk

/-- one step, run -/
theorem step_sound {P : Program} {N : Nat} {ops : Array Oper} {o : Oper} {st st' : St} {r : OpR} (h : AStep P N ops o st r st') {S : Nat → Prop} {ρ : KM} {a : Act} {w : World} (hs : SimSt N S ρ a w st) {next : Act → World → Prop} {Q : Exit → Act → World → Prop}
    (hK : ∀ S' ρ' a' w', SimSt N S' ρ' a' w' st' → Ext0 S ρ w st.H S' ρ' w' st'.H → next a' w') :
    if Region.wanted o (yielded ops a.tmps) then o.wp P a w next Q ∨ (o.asks P a w ∧ LetsOut Q) else next (a.put o.dst undef) w := by
  obtain ⟨hheap, hon⟩ := h.run
  rcases hon with ⟨g, hl, hrd, hpre, hnew, hlt⟩ | ⟨g, hr⟩
  · rw [if_pos (wanted_on hs.slots g)]
    refine .inl (hl S ρ w a (fun x _ => hs.slots.ov x) (hs.sim.sub (sub_app hrd hpre)) (fun k h1 h2 => ?_) next Q fun u S' ρ' w' hu hsim hext => ?_)
    · exact hs.new k (hnew k (mem_keys.1 h1) (fun hk => (mem_keys.2 hk) h2))
    · have hn : ∀ k, hpo r.post k ≠ none → hpo r.pre k = none → ρ k = none := fun k h1 h2 => hs.new k (hnew k (mem_keys.1 h1) (fun hk => (mem_keys.2 hk) h2))
      obtain ⟨f1, f2⟩ := step_frame hs.sim hpre hn hsim hext
      refine hK S' ρ' _ w' ⟨?_, ?_, ?_, ?_, ?_, ?_⟩ ?_
      · rw [hheap]; exact f1
      · rw [h.env]
        exact SRep.put (fun t => f2.rep hs.sim (hs.slots t)) hu (fun t ht => by rw [hs.size]; exact h.dst t ht)
      · rw [put_size]; exact hs.size
      · rw [put_defers]; exact hs.defers
      · intro k hk
        cases hh : ρ' k with
        | none => rfl
        | some b =>
          rcases hext.dom k b hh with h' | ⟨o', h'⟩
          · rw [hs.new k (Nat.le_trans h.nx hk)] at h'; cases h'
          · have := hlt k (mem_keys.1 (by rw [h']; simp)); omega
      · intro k o' hk
        rw [hheap, add_apply] at hk
        cases hp : hpo r.post k with
        | some o'' => exact hlt k (mem_keys.1 (by rw [hp]; simp))
        | none =>
          rw [hp, del_apply] at hk
          cases hq : hpo r.pre k with
          | some _ => rw [hq] at hk; cases hk
          | none => rw [hq] at hk; exact Nat.lt_of_lt_of_le (hs.old k o' hk) h.nx
      · rw [hheap]; exact f2.to0
  · rw [if_neg (by rw [wanted_off hs.slots g]; simp)]
    subst hr
    refine hK S ρ _ w ⟨?_, ?_, ?_, ?_, ?_, ?_⟩ ?_
    · rw [hheap]; exact hs.sim
    · rw [h.env]; exact hs.slots.put rep_undef (fun t ht => by rw [hs.size]; exact h.dst t ht)
    · rw [put_size]; exact hs.size
    · rw [put_defers]; exact hs.defers
    · exact fun k hk => hs.new k (Nat.le_trans h.nx hk)
    · intro k o' hk; rw [hheap] at hk; exact Nat.lt_of_lt_of_le (hs.old k o' hk) h.nx
    · rw [hheap]; exact Ext0.refl _ _ _ _


/-- in the order of the text -/
theorem chain_sound {P : Program} {N : Nat} {ops : Array Oper} {Q : Exit → Act → World → Prop} {l : List Oper} {st st' : St} {rs : List OpR} (h : Chain P N ops l st rs st') :
    ∀ {S : Nat → Prop} {ρ : KM} {a : Act} {w : World}, SimSt N S ρ a w st → (∀ S' ρ' a' w', SimSt N S' ρ' a' w' st' → Ext0 S ρ w st.H S' ρ' w' st'.H → Q .normal a' w') → wpList P ops Q l a w := by
  induction h with
  | nil st => exact fun hs hQ => hQ _ _ _ _ hs (Ext0.refl _ _ _ _)
  | cons h t ih =>
    intro S ρ a w hs hQ
    unfold wpList
    exact step_sound h hs fun S' ρ' a' w' hs' he => ih hs' fun S'' ρ'' a'' w'' hs'' he' => hQ _ _ _ _ hs'' (he.trans he')

/- ANY ORDER -/
/-- the heap behind those of the first m operations that are in L -/
def hAt (H : Hp) (rs : List OpR) (L : Nat → Bool) : Nat → Hp
  | 0 => H
  | m + 1 => match rs[m]? with
    | some r => if L m then r.act (hAt H rs L m) else hAt H rs L m
    | none => hAt H rs L m
def eAt (E : Nat → V) (ops : List Oper) (rs : List OpR) (L : Nat → Bool) : Nat → Nat → V
  | 0 => E
  | m + 1 => match rs[m]?, ops[m]? with
    | some r, some o => if L m then updO (eAt E ops rs L m) o.dst r.v else eAt E ops rs L m
    | _, _ => eAt E ops rs L m

def OpR.wk (r : OpR) : List Nat := match r.ins with
  | none => keysOf r.pre ++ keysOf r.post
  | some (k, _) => [k, k]
theorem wk_none {r : OpR} (h : r.ins = none) : r.wk = keysOf r.pre ++ keysOf r.post := by unfold OpR.wk; rw [h]
def OpR.tk (r : OpR) : List Nat := keysOf r.rd ++ r.wk

/-- bits of all operations that an operation comes behind -/
def befs (ops : List Oper) : List Nat :=
  ops.foldl (fun acc o => acc ++ [o.after.toList.foldl (fun s e => if Region.binds .any e then s ||| 2 ^ e.on ||| acc.getD e.on 0 else s) 0]) []

/-- may two operations not change places? -/
def clashS (ops : Array Oper) (x y : Oper) : Bool :=
  (match x.dst with | some d => (y.looksAt ops).contains d || y.dst == some d | none => false) || (match y.dst with | some d => (x.looksAt ops).contains d | none => false)
def clashK (x y : OpR) : Bool := !(x.ins.isSome && y.ins.isSome) && (x.wk.any (fun k => y.tk.contains k) || y.wk.any (fun k => x.tk.contains k))
def pairsOk (ops : Array Oper) (rs : List OpR) (bs : List Nat) : Bool :=
  (List.range rs.length).all fun j => (List.range j).all fun i =>
    match ops[i]?, ops[j]?, rs[i]?, rs[j]? with
    | some x, some y, some r, some s => (bs.getD j 0).testBit i || !(clashS ops x y || clashK r s)
    | _, _, _, _ => false
def edgesOk (ops : Array Oper) : Bool := ops.toList.zipIdx.all fun (o, i) => o.after.toList.all fun e => !Region.binds .any e || decide (e.on < i)
def drawOk (ops : Array Oper) (rs : List OpR) : Bool := edgesOk ops && pairsOk ops rs (befs ops.toList)

theorem hpo_none {l : HL} {k : Nat} (h : k ∉ keysOf l) : hpo l k = none := by
  cases hh : hpo l k with
  | none => rfl
  | some o => exact absurd (mem_keys.1 (by rw [hh]; simp)) h
theorem act_in {r : OpR} {k : Nat} (h : k ∈ r.wk) (A B : Hp) (hab : A k = B k) : r.act A k = r.act B k := by
  unfold OpR.act
  cases hi : r.ins with
  | some p =>
    obtain ⟨k', e⟩ := p
    unfold OpR.wk at h
    rw [hi] at h
    simp at h
    subst h
    simp only [upd_same, hab]
  | none =>
  rw [wk_none hi] at h
  simp only [add_apply, del_apply]
  cases h1 : hpo r.post k with
  | some o => rfl
  | none =>
    cases h2 : hpo r.pre k with
    | some o => rfl
    | none =>
      simp only [List.mem_append] at h
      rcases h with h | h
      · exact absurd h2 (mem_keys.2 h)
      · exact absurd h1 (mem_keys.2 h)
theorem act_out {r : OpR} {k : Nat} (h : k ∉ r.wk) (A : Hp) : r.act A k = A k := by
  unfold OpR.act
  cases hi : r.ins with
  | some p =>
    obtain ⟨k', e⟩ := p
    unfold OpR.wk at h
    rw [hi] at h
    simp at h
    exact upd_ne _ _ h
  | none =>
  rw [wk_none hi] at h
  simp only [List.mem_append, not_or] at h
  show ((A.del r.pre).add r.post) k = A k
  rw [add_apply, del_apply, hpo_none h.1, hpo_none h.2]

theorem hAt_succ (H : Hp) (rs : List OpR) (L : Nat → Bool) (m k : Nat) : hAt H rs L (m + 1) k = match rs[m]? with
    | some r => if L m = true ∧ k ∈ r.wk then r.act (hAt H rs L m) k else hAt H rs L m k
    | none => hAt H rs L m k := by
  simp only [hAt]
  cases rs[m]? with
  | none => rfl
  | some r =>
    simp only
    by_cases hL : L m = true
    · by_cases hk : k ∈ r.wk
      · simp [hL, hk]
      · simp only [hL, if_true, hk, and_false, if_false]; exact act_out hk _
    · simp [hL]

theorem hAt_key {H : Hp} {rs : List OpR} {L : Nat → Bool} {k m : Nat} : ∀ (d : Nat), (∀ i r, m ≤ i → i < m + d → L i = true → rs[i]? = some r → k ∉ r.wk) → hAt H rs L (m + d) k = hAt H rs L m k
  | 0, _ => rfl
  | d + 1, h => by
    rw [← hAt_key d (fun i r h1 h2 => h i r h1 (by omega)), ← Nat.add_assoc, hAt_succ]
    cases hr : rs[m + d]? with
    | none => rfl
    | some r =>
      simp only
      rw [if_neg]
      rintro ⟨hL, hk⟩
      exact h (m + d) r (by omega) (by omega) hL hr hk
theorem hAt_same {H : Hp} {rs : List OpR} {L : Nat → Bool} {k : Nat} : ∀ (m : Nat), (∀ i r, i < m → rs[i]? = some r → k ∈ r.wk → L i = true) → hAt H rs L m k = hAt H rs (fun _ => true) m k
  | 0, _ => rfl
  | m + 1, h => by
    have ih := hAt_same (H := H) m (fun i r h1 => h i r (by omega))
    rw [hAt_succ, hAt_succ]
    cases hr : rs[m]? with
    | none => exact ih
    | some r =>
      simp only [true_and]
      by_cases hk : k ∈ r.wk
      · rw [if_pos ⟨h m r (by omega) hr hk, hk⟩, if_pos hk]
        exact act_in hk _ _ ih
      · rw [if_neg (fun h => hk h.2), if_neg hk]
        exact ih

theorem eAt_succ (E : Nat → V) (ops : List Oper) (rs : List OpR) (L : Nat → Bool) (m t : Nat) : eAt E ops rs L (m + 1) t = match rs[m]?, ops[m]? with
    | some r, some o => if L m = true ∧ o.dst = some t then r.v else eAt E ops rs L m t
    | _, _ => eAt E ops rs L m t := by
  simp only [eAt]
  cases rs[m]? with
  | none => rfl
  | some r =>
    cases ops[m]? with
    | none => rfl
    | some o =>
      simp only
      by_cases hL : L m = true
      · rw [if_pos hL]
        cases hd : o.dst with
        | none => simp [updO]
        | some d =>
          simp only [updO, upd, hL, true_and, Option.some.injEq]
          by_cases e : t = d
          · subst e; simp
          · rw [if_neg e, if_neg (Ne.symm e)]
      · simp [hL]
theorem eAt_key {E : Nat → V} {ops : List Oper} {rs : List OpR} {L : Nat → Bool} {t m : Nat} : ∀ (d : Nat), (∀ i o, m ≤ i → i < m + d → L i = true → ops[i]? = some o → o.dst ≠ some t) → eAt E ops rs L (m + d) t = eAt E ops rs L m t
  | 0, _ => rfl
  | d + 1, h => by
    rw [← eAt_key d (fun i r h1 h2 => h i r h1 (by omega)), ← Nat.add_assoc, eAt_succ]
    cases hr : rs[m + d]? with
    | none => rfl
    | some r =>
      cases ho : ops[m + d]? with
      | none => rfl
      | some o =>
        simp only
        rw [if_neg]
        rintro ⟨hL, hk⟩
        exact h (m + d) o (by omega) (by omega) hL ho hk
theorem eAt_same {E : Nat → V} {ops : List Oper} {rs : List OpR} {L : Nat → Bool} {t : Nat} : ∀ (m : Nat), (∀ i o, i < m → ops[i]? = some o → o.dst = some t → L i = true) → eAt E ops rs L m t = eAt E ops rs (fun _ => true) m t
  | 0, _ => rfl
  | m + 1, h => by
    have ih := eAt_same (E := E) (rs := rs) m (fun i r h1 => h i r (by omega))
    rw [eAt_succ, eAt_succ]
    cases hr : rs[m]? with
    | none => exact ih
    | some r =>
      cases ho : ops[m]? with
      | none => exact ih
      | some o =>
        simp only [true_and]
        by_cases hk : o.dst = some t
        · rw [if_pos ⟨h m o (by omega) ho hk, hk⟩, if_pos hk]
        · rw [if_neg (fun h => hk h.2), if_neg hk]
          exact ih

/-- the states of a chain -/
theorem chain_states {P : Program} {N : Nat} {ops : Array Oper} {l : List Oper} {st st' : St} {rs : List OpR} (h : Chain P N ops l st rs st') :
    rs.length = l.length ∧ ∃ f : Nat → St, f 0 = st ∧ f l.length = st' ∧ ∀ m o, l[m]? = some o → ∃ r, rs[m]? = some r ∧ AStep P N ops o (f m) r (f (m + 1)) := by
  induction h with
  | nil st => exact ⟨rfl, fun _ => st, rfl, rfl, fun m o h => by simp at h⟩
  | @cons o l st st1 st2 r rs h t ih =>
    obtain ⟨hl, f, h0, hn, hf⟩ := ih
    refine ⟨by simp [hl], fun m => match m with | 0 => st | m + 1 => f m, rfl, hn, fun m o' hm => ?_⟩
    cases m with
    | zero =>
      simp only [List.getElem?_cons_zero, Option.some.injEq] at hm
      subst hm
      exact ⟨r, rfl, by rw [← h0] at h; exact h⟩
    | succ m => exact hf m o' (by simpa using hm)

theorem chain_at {P : Program} {N : Nat} {ops : Array Oper} {l : List Oper} {st st' : St} {rs : List OpR} (h : Chain P N ops l st rs st') :
    rs.length = l.length ∧ ∃ f : Nat → St, f 0 = st ∧ f l.length = st' ∧ (∀ m o, l[m]? = some o → ∃ r, rs[m]? = some r ∧ AStep P N ops o (f m) r (f (m + 1))) ∧
      (∀ m, m ≤ l.length → (f m).env = eAt st.env l rs (fun _ => true) m ∧ (f m).H = hAt st.H rs (fun _ => true) m) ∧ ∀ m m', m ≤ m' → m' ≤ l.length → (f m).nx ≤ (f m').nx := by
  obtain ⟨hl, f, h0, hn, hf⟩ := chain_states h
  refine ⟨hl, f, h0, hn, hf, fun m => ?_, fun m m' => ?_⟩
  · induction m with
    | zero => intro _; rw [h0]; exact ⟨rfl, rfl⟩
    | succ m ih =>
      intro hm
      obtain ⟨e1, e2⟩ := ih (by omega)
      obtain ⟨r, hr, hs⟩ := hf m _ (List.getElem?_eq_getElem (show m < l.length by omega))
      constructor
      · rw [hs.env, e1]
        funext t
        rw [eAt_succ, hr, List.getElem?_eq_getElem (show m < l.length by omega)]
        simp only [true_and]
        cases hd : l[m].dst with
        | none => simp [updO]
        | some d =>
          simp only [updO, upd, Option.some.injEq]
          by_cases e : t = d
          · subst e; simp
          · rw [if_neg e, if_neg (Ne.symm e)]
      · rw [hs.heap, e2]
        funext k
        rw [hAt_succ, hr]
        simp only [true_and]
        by_cases hk : k ∈ r.wk
        · rw [if_pos hk]
        · rw [if_neg hk]; exact act_out hk _
  · intro hm
    obtain ⟨d, rfl⟩ := Nat.le.dest hm
    clear hm
    induction d with
    | zero => intro _; exact Nat.le_refl _
    | succ d ih =>
      intro hd
      obtain ⟨r, hr, hs⟩ := hf (m + d) _ (List.getElem?_eq_getElem (show m + d < l.length by omega))
      exact Nat.le_trans (ih (by omega)) hs.nx

/-- the bits of those ahead: closed sets hold them -/
theorem befs_spec (ops : List Oper) : (befs ops).length = ops.length ∧ ∀ j o, ops[j]? = some o → (befs ops).getD j 0 = o.after.toList.foldl (fun s e => if Region.binds .any e then s ||| 2 ^ e.on ||| ((befs ops).take j).getD e.on 0 else s) 0 := by
  have key : ∀ (l : List Oper) (acc : List Nat), (l.foldl (fun acc o => acc ++ [o.after.toList.foldl (fun s e => if Region.binds .any e then s ||| 2 ^ e.on ||| acc.getD e.on 0 else s) 0]) acc).length = acc.length + l.length ∧
      (l.foldl (fun acc o => acc ++ [o.after.toList.foldl (fun s e => if Region.binds .any e then s ||| 2 ^ e.on ||| acc.getD e.on 0 else s) 0]) acc).take acc.length = acc ∧
      ∀ j o, l[j]? = some o → (l.foldl (fun acc o => acc ++ [o.after.toList.foldl (fun s e => if Region.binds .any e then s ||| 2 ^ e.on ||| acc.getD e.on 0 else s) 0]) acc).getD (acc.length + j) 0 =
        o.after.toList.foldl (fun s e => if Region.binds .any e then s ||| 2 ^ e.on ||| ((l.foldl (fun acc o => acc ++ [o.after.toList.foldl (fun s e => if Region.binds .any e then s ||| 2 ^ e.on ||| acc.getD e.on 0 else s) 0]) acc).take (acc.length + j)).getD e.on 0 else s) 0 := by
    intro l
    induction l with
    | nil => intro acc; exact ⟨rfl, by simp, fun j o h => by simp at h⟩
    | cons o l ih =>
      intro acc
      simp only [List.foldl_cons]
      generalize hx : o.after.toList.foldl (fun s e => if Region.binds .any e then s ||| 2 ^ e.on ||| acc.getD e.on 0 else s) 0 = x
      obtain ⟨h1, h2, h3⟩ := ih (acc ++ [x])
      generalize hR : l.foldl (fun acc o => acc ++ [o.after.toList.foldl (fun s e => if Region.binds .any e then s ||| 2 ^ e.on ||| acc.getD e.on 0 else s) 0]) (acc ++ [x]) = R at h1 h2 h3
      simp only [List.length_append, List.length_cons, List.length_nil, Nat.zero_add] at h1 h2 h3
      have htake : R.take acc.length = acc := by
        have := congrArg (List.take acc.length) h2
        rw [List.take_take, Nat.min_eq_left (by omega)] at this
        rw [this]; simp
      refine ⟨by rw [h1, List.length_cons]; omega, htake, fun j o' hj => ?_⟩
      cases j with
      | zero =>
        simp only [List.getElem?_cons_zero, Option.some.injEq] at hj
        subst hj
        rw [Nat.add_zero, htake, hx]
        have : R[acc.length]? = some x := by
          have h4 : (R.take (acc.length + 1))[acc.length]? = R[acc.length]? := List.getElem?_take_of_lt (by omega)
          rw [← h4, h2]; simp
        simp [List.getD, this]
      | succ j =>
        have := h3 j o' (by simpa using hj)
        rw [show acc.length + (j + 1) = acc.length + 1 + j by omega]
        exact this
  obtain ⟨h1, _, h3⟩ := key ops []
  exact ⟨by simpa [befs] using h1, fun j o h => by simpa [befs] using h3 j o h⟩

theorem foldl_or (es : List Edge) (f : Nat → Nat) (i : Nat) : ∀ s : Nat, (es.foldl (fun s e => if Region.binds .any e then s ||| 2 ^ e.on ||| f e.on else s) s).testBit i = true →
    s.testBit i = true ∨ ∃ e ∈ es, Region.binds .any e = true ∧ (e.on = i ∨ (f e.on).testBit i = true) := by
  induction es with
  | nil => intro s h; exact .inl h
  | cons e es ih =>
    intro s h
    simp only [List.foldl_cons] at h
    rcases ih _ h with h | ⟨e', he', hb, hh⟩
    · by_cases hb : Region.binds .any e = true
      · rw [if_pos hb, Nat.testBit_or, Nat.testBit_or, Bool.or_eq_true, Bool.or_eq_true] at h
        rcases h with (h | h) | h
        · exact .inl h
        · refine .inr ⟨e, by simp, hb, .inl ?_⟩
          rw [Nat.testBit_two_pow] at h
          simpa using h
        · exact .inr ⟨e, by simp, hb, .inr h⟩
      · rw [if_neg hb] at h; exact .inl h
    · exact .inr ⟨e', by simp [he'], hb, hh⟩

theorem befs_closed {ops : Array Oper} {L : Nat → Bool} (hcl : ∀ j o, ops[j]? = some o → L j = true → ∀ e ∈ o.after, Region.binds .any e = true → L e.on = true) (hed : edgesOk ops = true) :
    ∀ (j : Nat) (o : Oper), ops[j]? = some o → (∀ e ∈ o.after, Region.binds .any e = true → L e.on = true) → ∀ i, ((befs ops.toList).getD j 0).testBit i = true → L i = true := by
  intro j
  induction j using Nat.strongRecOn with
  | _ j ih =>
    intro o ho hr i hi
    obtain ⟨hlen, hsp⟩ := befs_spec ops.toList
    rw [hsp j o (by simpa using ho)] at hi
    rcases foldl_or _ (fun x => ((befs ops.toList).take j).getD x 0) i 0 hi with h | ⟨e, he, hb, h⟩
    · simp at h
    · have he' : e ∈ o.after := by simpa using he
      have hlt : e.on < j := by
        unfold edgesOk at hed
        rw [List.all_eq_true] at hed
        have := hed (o, j) (by rw [List.mem_zipIdx_iff_getElem?]; simpa using ho)
        simp only [List.all_eq_true] at this
        have := this e he
        simpa [hb] using this
      rcases h with h | h
      · subst h; exact hr e he' hb
      · have hL := hr e he' hb
        have hj : e.on < ops.size := by
          have := (Array.getElem?_eq_some_iff.1 ho).1
          omega
        have ho' : ops[e.on]? = some ops[e.on] := by simp [hj]
        refine ih e.on hlt _ ho' (hcl _ _ ho' hL) i ?_
        have : ((befs ops.toList).take j).getD e.on 0 = (befs ops.toList).getD e.on 0 := by
          simp only [List.getD, List.getElem?_take_of_lt hlt]
        simp only [this] at h
        exact h

end Go.Proofs.Ytgaginflocpcfaa
