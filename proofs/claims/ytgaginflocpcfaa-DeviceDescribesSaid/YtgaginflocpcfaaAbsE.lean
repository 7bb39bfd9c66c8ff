/-
  The value-level machine: operations that make, read and write memory.
-/
import Derived.Test.YtgaginflocpcfaaAbsD
namespace Go.Proofs.Ytgaginflocpcfaa
open Go
set_option linter.unusedVariables false
set_option linter.unusedSimpArgs false

theorem keeps_push {w w' : World} {x : Obj} (h : w'.heap = w.heap.push x) : Keeps w w' := by
  have key : ∀ (b : Nat) (y : Obj), w.heap[b]? = some y → w'.heap[b]? = some y := fun b y hb => by
    have : b < w.heap.size := by
      rcases Nat.lt_or_ge b w.heap.size with h' | h'
      · exact h'
      · simp [Array.getElem?_eq_none h'] at hb
    rw [h, Array.getElem?_push, if_neg (by omega)]
    exact hb
  exact ⟨fun b c t fr hb => ⟨c, fr, key _ _ hb, rfl⟩, fun b es n hb => ⟨es, n, key _ _ hb⟩⟩
theorem push_old {w w' : World} {x : Obj} (h : w'.heap = w.heap.push x) {b : Nat} (hb : b < w.heap.size) : w'.heap[b]? = w.heap[b]? := by
  rw [h, Array.getElem?_push, if_neg (by omega)]
theorem push_new {w w' : World} {x : Obj} (h : w'.heap = w.heap.push x) : w'.heap[w.heap.size]? = some x := by
  rw [h, Array.getElem?_push, if_pos rfl]

theorem hpo_one_inv {κ k : Nat} {ob o : VObj} (h : hpo [(κ, ob)] k = some o) : k = κ ∧ o = ob := by
  rw [hpo_one] at h
  split at h
  · rename_i e; cases h; exact ⟨e, rfl⟩
  · cases h
theorem hpo_one_self (κ : Nat) (ob : VObj) : hpo [(κ, ob)] κ = some ob := by simp [hpo_one]

/-- a new object -/
theorem new_simG {S : Nat → Prop} {ρ : KM} {w w' : World} (hb : ∀ b, S b → b < w.heap.size) {κ : Nat} (hκ : ρ κ = none) {x : Obj} {c : Array Value} {t : TypeId} {ob : VObj} (hf : ob.frz = false)
    (hr : RowsAt S ρ w ob.sz ob.rows c) (hh : w'.heap = w.heap.push x) (hx : HeapRow w' w.heap.size c t) (h1 : w'.os = w.os) (h2 : w'.tape = w.tape) (h3 : w'.output = w.output) {pre : HL} :
    Sim S (upd ρ κ (some w.heap.size)) w' (hpo [(κ, ob)]) ∧ Ext S ρ w (hpo pre) S (upd ρ κ (some w.heap.size)) w' (hpo [(κ, ob)]) := by
  have hk : ∀ k b, ρ k = some b → upd ρ κ (some w.heap.size) k = some b := fun k b h => by
    rw [upd_ne]; · exact h
    · rintro rfl; rw [hκ] at h; cases h
  have hrep : ∀ u x, Rep S ρ w u x → Rep S (upd ρ κ (some w.heap.size)) w' u x := fun u x h =>
    h.mono (fun _ h => h) (fun b hS => push_old hh (hb b hS)) hk (keeps_push hh)
  refine ⟨⟨fun k o h => ?_, fun k k' o o' b a1 a2 a3 a4 => ?_, fun b h => ?_⟩, ?_⟩
  · obtain ⟨rfl, rfl⟩ := hpo_one_inv h
    exact .inl ⟨w.heap.size, c, t, upd_same _ _ _, hx, hr.mono hrep, fun h => (by rw [hf] at h; cases h), fun _ h => Nat.lt_irrefl _ (hb _ h)⟩
  · obtain ⟨rfl, _⟩ := hpo_one_inv a1
    obtain ⟨rfl, _⟩ := hpo_one_inv a2
    rfl
  · have := hb b h
    rw [hh]; simp; omega
  · exact { os := h1, tape := h2, output := h3, size := by rw [hh]; simp
            block := fun b hb' _ => push_old hh hb'
            keeps := keeps_push hh
            more := fun _ h => h
            only := fun _ h => .inl h
            live := fun b ⟨k, o, a, r⟩ => by
              obtain ⟨rfl, _⟩ := hpo_one_inv a
              rw [upd_same] at r
              cases r
              exact .inl (Nat.le_refl _)
            own := fun b ⟨k, o, a, _, r⟩ => by
              obtain ⟨rfl, _⟩ := hpo_one_inv a
              rw [upd_same] at r
              cases r
              exact .inl (Nat.le_refl _)
            keys := hk
            dom := fun k b h => by
              by_cases e : k = κ
              · subst e; exact .inr ⟨ob, hpo_one_self _ _⟩
              · rw [upd_ne _ _ e] at h; exact .inl h }

theorem new_sim {S : Nat → Prop} {ρ : KM} {w w' : World} (hb : ∀ b, S b → b < w.heap.size) {κ : Nat} (hκ : ρ κ = none) {c : Array Value} {t : TypeId} {ob : VObj} (hf : ob.frz = false)
    (hr : RowsAt S ρ w ob.sz ob.rows c) (hh : w'.heap = w.heap.push (.cells c t)) (h1 : w'.os = w.os) (h2 : w'.tape = w.tape) (h3 : w'.output = w.output) {pre : HL} :
    Sim S (upd ρ κ (some w.heap.size)) w' (hpo [(κ, ob)]) ∧ Ext S ρ w (hpo pre) S (upd ρ κ (some w.heap.size)) w' (hpo [(κ, ob)]) := new_simG hb hκ hf hr hh (.inl (push_new hh)) h1 h2 h3

/-- an object is written -/
theorem write_simG {S : Nat → Prop} {ρ : KM} {w : World} {k b : Nat} {ob ob' : VObj} {x x' : Obj} {c' : Array Value} {t : TypeId} (hs : Sim S ρ w (hpo [(k, ob)])) (hk : ρ k = some b)
    (hw : w.heap[b]? = some x) (hf : ob.frz = false) (hf' : ob'.frz = false) (hz : (∃ c t c', x = .cells c t (0, 0) ∧ x' = .cells c' t (0, 0) ∧ c'.size = c.size) ∨ (∃ es n es' n', x = .map es n ∧ x' = .map es' n')) (hx : x' = .cells c' t (0, 0) ∨ ∃ es es' n, x' = .map es n ∧ es'.toList.Perm es.toList ∧ c' = mapCells es') (hr : RowsAt S ρ w ob'.sz ob'.rows c') :
    Sim S ρ (World.block w b x') (hpo [(k, ob')]) ∧ Ext S ρ w (hpo [(k, ob)]) S ρ (World.block w b x') (hpo [(k, ob')]) := by
  have hnS : ¬ S b := (hs.frz (hpo_one_self k ob) hk).2 hf
  have old : ∀ b', b' ≠ b → (World.block w b x').heap[b']? = w.heap[b']? := fun b' h => by rw [block_get hw, if_neg h]
  have now : (World.block w b x').heap[b]? = some x' := by rw [block_get hw, if_pos rfl]
  have kp : Keeps w (World.block w b x') := by
    refine ⟨fun b' y e fr h => ?_, fun b' es n h => ?_⟩
    · by_cases e' : b' = b
      · subst e'
        rw [hw] at h
        cases h
        rcases hz with ⟨c, t, c', q1, q2, q3⟩ | ⟨es, n, es', n', q1, q2⟩
        · cases q1
          exact ⟨c', _, by rw [now, q2], q3⟩
        · cases q1
      · exact ⟨y, fr, by rw [old b' e']; exact h, rfl⟩
    · by_cases e' : b' = b
      · subst e'
        rw [hw] at h
        cases h
        rcases hz with ⟨c, t, c', q1, q2, q3⟩ | ⟨es, n, es', n', q1, q2⟩
        · cases q1
        · exact ⟨es', n', by rw [now, q2]⟩
      · exact ⟨es, n, by rw [old b' e']; exact h⟩
  have hrow : HeapRow (World.block w b x') b c' t := by
    rcases hx with q | ⟨es, es', n, q, q2, q3⟩
    · exact .inl (by rw [now, q])
    · exact .inr ⟨es, es', n, by rw [now, q], q2, q3⟩
  have hrep : ∀ u x, Rep S ρ w u x → Rep S ρ (World.block w b x') u x := fun u x h =>
    h.mono (fun _ h => h) (fun b' hS => old b' (fun e => hnS (e ▸ hS))) (fun _ _ h => h) kp
  refine ⟨⟨fun k' o h => ?_, fun k1 k2 o o' b' a1 a2 a3 a4 => ?_, fun b' h => ?_⟩, ?_⟩
  · obtain ⟨rfl, rfl⟩ := hpo_one_inv h
    exact .inl ⟨b, c', t, hk, hrow, hr.mono hrep, fun h => (by rw [hf'] at h; cases h), fun _ => hnS⟩
  · obtain ⟨rfl, _⟩ := hpo_one_inv a1
    obtain ⟨rfl, _⟩ := hpo_one_inv a2
    rfl
  · rw [block_size]; exact hs.bnd b' h
  · exact { os := rfl, tape := rfl, output := rfl, size := by rw [block_size]; exact Nat.le_refl _
            block := fun b' _ ho => old b' (fun e => ho (e ▸ ⟨k, ob, hpo_one_self _ _, hf, hk⟩))
            keeps := kp
            more := fun _ h => h
            only := fun _ h => .inl h
            live := fun b' ⟨k', o, a, r⟩ => by
              obtain ⟨rfl, _⟩ := hpo_one_inv a
              exact .inr ⟨k', ob, hpo_one_self _ _, r⟩
            own := fun b' ⟨k', o, a, _, r⟩ => by
              obtain ⟨rfl, _⟩ := hpo_one_inv a
              exact .inr ⟨k', ob, hpo_one_self _ _, hf, r⟩
            keys := fun _ _ h => h
            dom := fun _ _ h => .inl h }

theorem write_sim {S : Nat → Prop} {ρ : KM} {w : World} {k b : Nat} {ob ob' : VObj} {c c' : Array Value} {t : TypeId} (hs : Sim S ρ w (hpo [(k, ob)])) (hk : ρ k = some b)
    (hw : w.heap[b]? = some (.cells c t (0, 0))) (hf : ob.frz = false) (hf' : ob'.frz = false) (hz : c'.size = c.size) (hr : RowsAt S ρ w ob'.sz ob'.rows c') :
    Sim S ρ (World.block w b (.cells c' t (0, 0))) (hpo [(k, ob')]) ∧ Ext S ρ w (hpo [(k, ob)]) S ρ (World.block w b (.cells c' t (0, 0))) (hpo [(k, ob')]) :=
  write_simG hs hk hw hf hf' (.inl ⟨c, t, c', rfl, rfl, hz⟩) (.inl rfl) hr

section
variable {P : Program} {T : TT} {ov : Operand → V} {o : Oper}

theorem LOk.new {κ : Nat} {ob : VObj} {v : V} {rd : HL} (hf : ob.frz = false)
    (h : ∀ (S : Nat → Prop) (ρ : KM) (w : World) (a : Act), (∀ x ∈ o.op.operands.toList, Rep S ρ w (a.eval x) (ov x)) → Sim S ρ w (hpo rd) →
      ∃ (w' : World) (c : Array Value) (t : TypeId) (u : Value), (execOp a.eval o).run P w = .ok (.value u) w' ∧ w'.heap = w.heap.push (.cells c t) ∧ w'.os = w.os ∧ w'.tape = w.tape ∧ w'.output = w.output ∧
        RowsAt S ρ w ob.sz ob.rows c ∧ ∀ ρ', ρ' κ = some w.heap.size → Rep S ρ' w' u v) : LOk P ov o rd [] [(κ, ob)] v := by
  intro S ρ w a hx hs hn next Q hK
  obtain ⟨w', c, t, u, hr, hh, h1, h2, h3, hrow, hu⟩ := h S ρ w a hx hs.of_pre
  have hκ : ρ κ = none := hn κ (by simp [hpo_one]) rfl
  obtain ⟨g1, g2⟩ := new_sim (pre := []) hs.bnd hκ hf hrow hh h1 h2 h3
  simp only [Oper.wp, hr, Oper.upon]
  exact hK u S _ w' (hu _ (upd_same _ _ _)) g1 g2

theorem rowsAt_one {S : Nat → Prop} {ρ : KM} {w : World} {cs : List V} {c : Array Value} (hl : cs.length ≤ c.size) (h : ∀ (i : Nat) (u : Value) (x : V), c[i]? = some u → cs[i]? = some x → Rep S ρ w u x) {n : Nat} (hn : n = cs.length) :
    RowsAt S ρ w n [cs] c := by
  subst hn
  refine ⟨by simp, by simpa using hl, fun i j r u x h1 h2 h3 => ?_⟩
  cases i with
  | zero =>
    simp only [List.getElem?_cons_zero, Option.some.injEq] at h1
    subst h1
    exact h j u x (by simpa using h3) h2
  | succ i => simp at h1

/-- a value's cells -/
theorem Rep.cells {S : Nat → Prop} {ρ : KM} {w : World} {u : Value} {x : V} (h : Rep S ρ w u x) (hx : x ≠ .any) :
    u.cells.size = x.cells.length ∧ ∀ (i : Nat) (v : Value) (y : V), u.cells[i]? = some v → x.cells[i]? = some y → Rep S ρ w v y := by
  have one : ∀ (u : Value) (x : V), Rep S ρ w u x → u.cells = #[u] → x.cells = [x] → u.cells.size = x.cells.length ∧ ∀ (i : Nat) (v : Value) (y : V), u.cells[i]? = some v → x.cells[i]? = some y → Rep S ρ w v y := by
    intro u x hr h1 h2
    rw [h1, h2]
    refine ⟨rfl, fun i v y a b => ?_⟩
    cases i with
    | zero =>
      simp at a b
      subst a; subst b
      exact hr
    | succ i => simp at a
  cases h with
  | any => exact absurd rfl hx
  | lit hv => refine one _ _ (.lit hv) ?_ rfl; cases u <;> first | rfl | cases hv
  | agg hl hr => exact ⟨hl, hr⟩
  | tup hl hr => exact one _ _ (.tup hl hr) rfl rfl
  | sl0 ha => exact one _ _ (.sl0 ha) rfl rfl
  | sl h1 h2 h3 h4 h5 h6 => exact one _ _ (.sl h1 h2 h3 h4 h5 h6) rfl rfl
  | sls h1 h2 h3 => exact one _ _ (.sls h1 h2 h3) rfl rfl
  | win h1 h2 h3 h4 h5 h6 => exact one _ _ (.win h1 h2 h3 h4 h5 h6) rfl rfl
  | win0 => exact one _ _ .win0 rfl rfl
  | ptr h1 h2 => exact one _ _ (.ptr h1 h2) rfl rfl
  | mp h1 h2 => exact one _ _ (.mp h1 h2) rfl rfl
  | ip h1 h2 h3 h4 => exact one _ _ (.ip h1 h2 h3 h4) rfl rfl
  | fn h1 h2 => exact one _ _ (.fn h1 h2) rfl rfl

theorem zero_rep {S : Nat → Prop} {ρ : KM} {w : World} {t : TypeId} {i : TI} (h : TIOk P t i) {z : Value} (hz : zAll z.cells.toList i.zero = true) :
    z.cells.size = i.size ∧ ∀ (j : Nat) (u : Value) (x : V), z.cells[j]? = some u → i.zero[j]? = some x → Rep S ρ w u x := by
  refine ⟨by rw [← h.zlen, ← zAll_len _ _ hz]; simp, fun j u x a b => ?_⟩
  exact zAll_rep _ _ hz j u x (by simpa using a) b

theorem ptr0 {S : Nat → Prop} {ρ : KM} {w : World} {k b sz : Nat} {c : Array Value} {t : TypeId} {fr : Nat × Nat} (h : ρ k = some b) (hw : w.heap[b]? = some (.cells c t fr)) : Rep S ρ w (.pointer (some ⟨b, 0, none⟩)) (.ptr k sz 0 0) := by
  have := Rep.ptr (S := S) (w := w) (sz := sz) (i := 0) (off := 0) h hw
  simpa using this

theorem lok_alloc (hT : TOk P T) {e : TypeId} {i : TI} {κ : Nat} (ho : o.op = .alloc e) (ht : T e = some i) : LOk P ov o [] [] [(κ, ⟨i.size, [i.zero], false⟩)] (.ptr κ i.size 0 0) :=
  LOk.new rfl fun S ρ w a hx hs => by
    obtain ⟨z, hz, hz'⟩ := (hT e i ht).run_zero w
    obtain ⟨h1, h2⟩ := zero_rep (S := S) (ρ := ρ) (w := w) (hT e i ht) hz'
    refine ⟨w.alloc (.cells z.cells e), z.cells, e, .pointer (some ⟨w.heap.size, 0, none⟩), ?_, rfl, rfl, rfl, rfl, ?_, fun ρ' h => ptr0 h (push_new rfl)⟩
    · simp [execOp, ho, Instr.alloc, hz, newVar, newRow]
    · exact rowsAt_one (by simp [h1, (hT e i ht).zlen]) h2 (by simp [(hT e i ht).zlen])

theorem lok_box {e : TypeId} {x : Operand} {xv : V} {κ : Nat} (ho : o.op = .box e x) (hx : ov x = xv) (hn : xv ≠ .any) : LOk P ov o [] [] [(κ, ⟨xv.cells.length, [xv.cells], false⟩)] (.ptr κ xv.cells.length 0 0) :=
  LOk.new rfl fun S ρ w a hr hs => by
    rw [ho] at hr
    have e1 := hr x (by simp [Op.operands])
    rw [hx] at e1
    obtain ⟨h1, h2⟩ := e1.cells hn
    refine ⟨w.alloc (.cells (a.eval x).cells e), (a.eval x).cells, e, .pointer (some ⟨w.heap.size, 0, none⟩), ?_, rfl, rfl, rfl, rfl, ?_, fun ρ' h => ptr0 h (push_new rfl)⟩
    · simp [execOp, ho, Instr.box, newVar, newRow]
    · exact rowsAt_one (by simp [h1]) h2 rfl

/-- what a variable of a type holds, from the cells from its first one on -/
def ldV (i : TI) (cs : List V) : V := if i.agg then .agg (cs.take i.size) else cs.headD .any

theorem load_rep {S : Nat → Prop} {ρ : KM} {w : World} {t e : TypeId} {i : TI} (h : TIOk P t i) {b off : Nat} {c : Array Value} {fr : Nat × Nat} (hw : w.heap[b]? = some (.cells c e fr)) {cs : List V} (hl : i.size ≤ cs.length) (hf : off + i.size ≤ c.size)
    (hr : ∀ (j : Nat) (u : Value) (x : V), cs[j]? = some x → c[off + j]? = some u → Rep S ρ w u x) :
    ∃ u, (loadVar t ⟨b, off, none⟩).run P w = .ok u w ∧ Rep S ρ w u (ldV i cs) := by
  obtain ⟨u, hu, ha, hb⟩ := run_loadVar h hw hf
  refine ⟨u, hu, ?_⟩
  unfold ldV
  cases hi : i.agg with
  | true =>
    obtain ⟨vs, rfl, hz, hv⟩ := ha hi
    simp only [if_true]
    refine .agg (by simp [hz]; omega) fun j u x h1 h2 => ?_
    have hj : j < i.size := by
      rcases Nat.lt_or_ge j i.size with h' | h'
      · exact h'
      · simp [Array.getElem?_eq_none (by omega : vs.size ≤ j)] at h1
    rw [hv j hj] at h1
    rw [List.getElem?_take_of_lt hj] at h2
    exact hr j u x h2 h1
  | false =>
    have h1 := h.scal hi
    simp only [Bool.false_eq_true, if_false]
    cases cs with
    | nil => simp at hl; omega
    | cons x cs => exact hr 0 u x rfl (hb hi)

theorem lok_load {t : TypeId} {x : Operand} {i : TI} {k sz ix off : Nat} {ob : VObj} {row : List V} (hT : TOk P T) (ho : o.op = .load t x) (ht : T t = some i) (hx : ov x = .ptr k sz ix off) (hz : ob.sz = sz)
    (hrow : ob.rows[ix]? = some row) (hl : off + i.size ≤ row.length) : LOk P ov o [(k, ob)] [] [] (ldV i (row.drop off)) :=
  LOk.read fun S ρ w a hr hs => by
    rw [ho] at hr
    have e1 := hr x (by simp [Op.operands])
    rw [hx] at e1
    generalize hc : a.eval x = cx at e1
    cases e1 with
    | ptr hk hwp =>
      rename_i b
      obtain ⟨c, e, hw, hR, _⟩ := hs.at (hpo_one_self k ob) hk hwp
      rw [hz] at hR
      have hrl : row.length = sz := hR.1 row (List.mem_of_getElem? hrow)
      have hix : ix < ob.rows.length := (List.getElem?_eq_some_iff.1 hrow).1
      have hfit : ix * sz + off + i.size ≤ c.size := by
        have h1 := hR.2.1
        have h2 : (ix + 1) * sz ≤ ob.rows.length * sz := Nat.mul_le_mul_right sz (by omega)
        rw [Nat.add_mul, Nat.one_mul] at h2
        omega
      obtain ⟨u, hu, hur⟩ := load_rep (S := S) (ρ := ρ) (hT t i ht) hw (cs := row.drop off) (off := ix * sz + off) (by simp; omega) hfit (fun j u x h1 h2 => by
        rw [List.getElem?_drop] at h1
        exact hR.2.2 ix (off + j) row u x hrow h1 (by rw [← Nat.add_assoc]; exact h2))
      exact ⟨u, hur, by simp [execOp, ho, hc, Instr.loadAt, Instr.sureAddr, hu]⟩

theorem lok_loadI {t : TypeId} {x : Operand} {i : TI} {cs : List V} (hT : TOk P T) (ho : o.op = .load t x) (ht : T t = some i) (hx : ov x = .ip cs) (hl : i.size ≤ cs.length) : LOk P ov o [] [] [] (ldV i cs) :=
  LOk.pure fun S ρ w a hr => by
    rw [ho] at hr
    have e1 := hr x (by simp [Op.operands])
    rw [hx] at e1
    generalize hc : a.eval x = cx at e1
    cases e1 with
    | ip hS hw hf hR =>
      rename_i b off c e fr
      have hfit : off + i.size ≤ c.size := by omega
      obtain ⟨u, hu, hur⟩ := load_rep (S := S) (ρ := ρ) (hT t i ht) hw (cs := cs) hl hfit (fun j u x p q => (hR j u x p q).up)
      exact ⟨u, hur, by simp [execOp, ho, hc, Instr.loadAt, Instr.sureAddr, hu]⟩

/-- cells of a row written over -/
def spl (row : List V) (off : Nat) (cs : List V) : List V := row.take off ++ cs ++ row.drop (off + cs.length)
theorem spl_length {row : List V} {off : Nat} {cs : List V} (h : off + cs.length ≤ row.length) : (spl row off cs).length = row.length := by
  simp [spl]; omega
theorem spl_get {row : List V} {off : Nat} {cs : List V} (h : off + cs.length ≤ row.length) (j : Nat) : (spl row off cs)[j]? = if off ≤ j ∧ j < off + cs.length then cs[j - off]? else row[j]? := by
  unfold spl
  rw [List.append_assoc]
  by_cases h1 : j < off
  · rw [if_neg (by omega), List.getElem?_append_left (by simp; omega), List.getElem?_take_of_lt h1]
  · rw [List.getElem?_append_right (by simp; omega)]
    have ht : (row.take off).length = off := by simp; omega
    rw [ht]
    by_cases h2 : j < off + cs.length
    · rw [if_pos (by omega), List.getElem?_append_left (by omega)]
    · rw [if_neg (by omega), List.getElem?_append_right (by omega), List.getElem?_drop]
      congr 1; omega

theorem one_rep {S : Nat → Prop} {ρ : KM} {w : World} {u : Value} {x : V} (h : Rep S ρ w u x) (hx : x.one = true) : u.oneCell' = true := by
  cases h <;> first | rfl | cases hx | skip
  · exact hx

theorem lok_store {t : TypeId} {x y : Operand} {i : TI} {k sz ix off : Nat} {ob : VObj} {row : List V} {yv : V} (hT : TOk P T) (ho : o.op = .store t x y) (ht : T t = some i) (hx : ov x = .ptr k sz ix off) (hy : ov y = yv) (hz : ob.sz = sz) (hfz : ob.frz = false)
    (hrow : ob.rows[ix]? = some row) (hc : yv.cells.length = i.size) (h1 : yv.cells.all V.one = true) (hl : off + i.size ≤ row.length) :
    LOk P ov o [] [(k, ob)] [(k, ⟨sz, ob.rows.set ix (spl row off yv.cells), false⟩)] .undef := by
  intro S ρ w a hr hs hn next Q hK
  rw [ho] at hr
  have e1 := hr x (by simp [Op.operands])
  have e2 := hr y (by simp [Op.operands])
  rw [hx] at e1; rw [hy] at e2
  have hne : yv ≠ .any := by rintro rfl; simp [V.cells, V.one] at h1
  obtain ⟨g1, g2⟩ := e2.cells hne
  generalize hcx : a.eval x = cx at e1
  cases e1 with
  | ptr hk hwp =>
    rename_i b
    simp only [List.nil_append] at hs
    obtain ⟨c, e, hw, hR, _⟩ := hs.at (hpo_one_self k ob) hk hwp
    rw [hz] at hR
    have hrl : row.length = sz := hR.1 row (List.mem_of_getElem? hrow)
    have hix : ix < ob.rows.length := (List.getElem?_eq_some_iff.1 hrow).1
    have hfit : ix * sz + off + i.size ≤ c.size := by
      have h1 := hR.2.1
      have h2 : (ix + 1) * sz ≤ ob.rows.length * sz := Nat.mul_le_mul_right sz (by omega)
      rw [Nat.add_mul, Nat.one_mul] at h2
      omega
    have hone : ∀ v ∈ (a.eval y).cells.toList, v.oneCell' = true := fun v hv => by
      obtain ⟨j, hj, rfl⟩ := List.getElem_of_mem hv
      have hj' : j < yv.cells.length := by rw [← g1]; simpa using hj
      refine one_rep (g2 j _ (yv.cells[j]) (by simp) (by simp [hj'])) ?_
      rw [List.all_eq_true] at h1
      exact h1 _ (List.getElem_mem hj')
    have hst := run_storeVar (hT t i ht) hw (u := a.eval y) (by omega) hone hfit
    have hrows : RowsAt S ρ w sz (ob.rows.set ix (spl row off yv.cells)) (wr c (ix * sz + off) (a.eval y).cells.toList) := by
      refine ⟨fun r hr => ?_, by rw [wr_size]; simpa using hR.2.1, fun i' j r u x h1 h2 h3 => ?_⟩
      · rcases List.mem_or_eq_of_mem_set hr with h | h
        · exact hR.1 r h
        · rw [h, spl_length (by omega)]; exact hrl
      · rw [wr_get _ _ _ _ (by simp [g1]; omega)] at h3
        simp only [Array.length_toList, g1, hc] at h3
        by_cases hi : i' = ix
        · subst hi
          rw [List.getElem?_set_self hix] at h1
          cases h1
          rw [spl_get (by omega)] at h2
          by_cases hj : off ≤ j ∧ j < off + yv.cells.length
          · rw [if_pos hj] at h2
            rw [if_pos (by omega), show i' * sz + j - (i' * sz + off) = j - off by omega, Array.getElem?_toList] at h3
            exact g2 _ u x h3 h2
          · rw [if_neg hj] at h2
            rw [if_neg (by omega)] at h3
            exact hR.2.2 i' j row u x hrow h2 h3
        · rw [List.getElem?_set_ne (fun e => hi e.symm)] at h1
          have hj : j < sz := by rw [← hR.1 r (List.mem_of_getElem? h1)]; exact (List.getElem?_eq_some_iff.1 h2).1
          rw [if_neg (by
            rintro ⟨q1, q2⟩
            rcases Nat.lt_or_ge i' ix with h | h
            · have : (i' + 1) * sz ≤ ix * sz := Nat.mul_le_mul_right sz (by omega)
              rw [Nat.add_mul, Nat.one_mul] at this
              omega
            · have : (ix + 1) * sz ≤ i' * sz := Nat.mul_le_mul_right sz (by omega)
              rw [Nat.add_mul, Nat.one_mul] at this
              omega)] at h3
          exact hR.2.2 i' j r u x h1 h2 h3
    obtain ⟨q1, q2⟩ := write_sim (ob' := ⟨sz, ob.rows.set ix (spl row off yv.cells), false⟩) hs hk hw hfz rfl (wr_size _ _ _) hrows
    simp only [Oper.wp, execOp, ho, hcx, Instr.storeAt, Instr.sureAddr, Sem.run_bind, Sem.run_pure, Result.andThen_ok, hst, Oper.upon]
    exact hK undef S ρ _ (.tup (by simp) (fun i u x h1 h2 => by simp at h2)) q1 q2

end
end Go.Proofs.Ytgaginflocpcfaa
