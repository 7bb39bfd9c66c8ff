/-
  The value-level machine: building, making, appending, copying.
-/
import Derived.Test.YtgaginflocpcfaaAbsG
namespace Go.Proofs.Ytgaginflocpcfaa
open Go
set_option linter.unusedVariables false
set_option linter.unusedSimpArgs false

def V.isAny : V → Bool
  | .any => true
  | _ => false
theorem V.ne_any {x : V} (h : x.isAny = false) : x ≠ .any := by rintro rfl; cases h

/-- cells filled in, part by part -/
def fillV (place : Nat → Option (Nat × Nat)) (cells : List V) : List (Nat × V) → Option (List V)
  | [] => some cells
  | (i, v) :: rest =>
    match place i with
    | none => none
    | some (off, size) => if v.cells.length = size ∧ off + size ≤ cells.length ∧ v.isAny = false then fillV place (spl cells off v.cells) rest else none

theorem foldl_wr (l : List Value) (off : Nat) : ∀ (k : Nat) (c : Array Value), (l.zipIdx k).foldl (fun cs (x : Value × Nat) => cs.setIfInBounds (off + x.2) x.1) c = wr c (off + k) l := by
  induction l with
  | nil => intro k c; rfl
  | cons v l ih => intro k c; simp only [List.zipIdx_cons, List.foldl_cons, wr]; rw [ih]; rfl
theorem foldl_wrA (vs : Array Value) (off : Nat) (c : Array Value) : vs.zipIdx.foldl (fun cs (x : Value × Nat) => cs.setIfInBounds (off + x.2) x.1) c = wr c off vs.toList := by
  rw [← Array.foldl_toList, Array.toList_zipIdx]
  exact foldl_wr vs.toList off 0 c

/-- cells by value -/
def CRep (S : Nat → Prop) (ρ : KM) (w : World) (c : Array Value) (cs : List V) : Prop := c.size = cs.length ∧ ∀ (i : Nat) (u : Value) (x : V), c[i]? = some u → cs[i]? = some x → Rep S ρ w u x

theorem fill_rep {S : Nat → Prop} {ρ : KM} {w : World} {place : Nat → Option (Nat × Nat)} : ∀ (ps : List (Nat × Value)) (qs : List (Nat × V)) (c : Array Value) (cs cs' : List V), CRep S ρ w c cs →
    ps.length = qs.length → (∀ (n : Nat) (p : Nat × Value) (q : Nat × V), ps[n]? = some p → qs[n]? = some q → p.1 = q.1 ∧ Rep S ρ w p.2 q.2) → fillV place cs qs = some cs' →
    ∃ c', Instr.fill place c ps = some c' ∧ CRep S ρ w c' cs'
  | [], qs, c, cs, cs', hc, hl, hr, hf => by
    cases qs with
    | nil => simp only [fillV, Option.some.injEq] at hf; subst hf; exact ⟨c, rfl, hc⟩
    | cons q qs => simp at hl
  | p :: ps, qs, c, cs, cs', hc, hl, hr, hf => by
    cases qs with
    | nil => simp at hl
    | cons q qs =>
      obtain ⟨i, u⟩ := p
      obtain ⟨i', v⟩ := q
      obtain ⟨e, hrep⟩ := hr 0 _ _ rfl rfl
      simp only at e hrep
      subst e
      simp only [fillV] at hf
      cases hp : place i with
      | none => rw [hp] at hf; cases hf
      | some os =>
        obtain ⟨off, size⟩ := os
        rw [hp] at hf
        simp only at hf
        split at hf
        · rename_i hcond
          obtain ⟨h1, h2, h3⟩ := hcond
          obtain ⟨g1, g2⟩ := hrep.cells (V.ne_any h3)
          have hw : CRep S ρ w (wr c off u.cells.toList) (spl cs off v.cells) := by
            refine ⟨by rw [wr_size, spl_length (by omega)]; exact hc.1, fun j a x q1 q2 => ?_⟩
            rw [wr_get _ _ _ _ (by simp [g1]; have := hc.1; omega)] at q1
            rw [spl_get (by omega)] at q2
            simp only [Array.length_toList, g1] at q1
            by_cases hj : off ≤ j ∧ j < off + v.cells.length
            · rw [if_pos hj, Array.getElem?_toList] at q1
              rw [if_pos hj] at q2
              exact g2 _ _ _ q1 q2
            · rw [if_neg hj] at q1 q2
              exact hc.2 _ _ _ q1 q2
          obtain ⟨c', hc', hr'⟩ := fill_rep ps qs _ _ cs' hw (by simpa using hl) (fun n p q a b => hr (n + 1) p q (by simpa using a) (by simpa using b)) hf
          refine ⟨c', ?_, hr'⟩
          simp only [Instr.fill, hp]
          have hcs := hc.1
          have hnot : ¬ (u.cells.size ≠ size ∨ off + u.cells.size > c.size) := by omega
          rw [if_neg (by simp only [Bool.or_eq_true, decide_eq_true_eq]; exact hnot), ← hc']
          congr 1
          exact foldl_wrA u.cells off c
        · cases hf

section
variable {P : Program} {T : TT} {ov : Operand → V} {o : Oper}

def TD.place (d : TD) (esz : Nat) : Nat → Option (Nat × Nat) :=
  match d with
  | .struct fs => fun i => (fs[i]?).map fun x => (x.1, x.2.1)
  | _ => fun i => some (i * esz, esz)

theorem mapM_places (fs : List Field) (w : World) (h : ∀ f ∈ fs, ∃ x, P.info? f.type = some x) :
    (fs.mapM fun f => do pure (f.offset, ← sizeOf f.type) : Sem (List (Nat × Nat))).run P w = .ok (fs.map fun f => (f.offset, P.cellsOf f.type)) w := by
  induction fs with
  | nil => rfl
  | cons f fs ih =>
    obtain ⟨x, hx⟩ := h f (by simp)
    have hsz : (sizeOf f.type).run P w = .ok (P.cellsOf f.type) w := by simp [sizeOf, typeInfo, hx, Program.cellsOf]
    simp only [List.mapM_cons, Sem.run_bind, hsz, Result.andThen_ok, Sem.run_pure]
    rw [ih (fun g hg => h g (by simp [hg]))]
    rfl

theorem run_build (hT : TOk P T) {t : TypeId} {i : TI} (ht : T t = some i) {esz : Nat} (hd : (∃ fs, i.d = .struct fs) ∨ ∃ n e ie, i.d = .arr n e ∧ T e = some ie ∧ ie.size = esz) {S : Nat → Prop} {ρ : KM} {w : World}
    (ps : Array (Nat × Value)) (qs : List (Nat × V)) (hl : ps.size = qs.length) (hr : ∀ (n : Nat) (p : Nat × Value) (q : Nat × V), ps[n]? = some p → qs[n]? = some q → p.1 = q.1 ∧ Rep S ρ w p.2 q.2) {cs : List V}
    (hf : fillV (i.d.place esz) i.zero qs = some cs) : ∃ c, (Instr.build t ps).run P w = .ok (.agg c) w ∧ CRep S ρ w c cs := by
  obtain ⟨z, hz, hz'⟩ := (hT t i ht).run_zero w
  have hzr := zero_rep (S := S) (ρ := ρ) (w := w) (hT t i ht) hz'
  have hc : CRep S ρ w z.cells i.zero := ⟨by rw [hzr.1]; simp [(hT t i ht).zlen], hzr.2⟩
  obtain ⟨c', h1, h2⟩ := fill_rep ps.toList qs z.cells _ cs hc (by simpa using hl) (fun n p q a b => hr n p q (by simpa using a) b) hf
  have hu := (hT t i ht).d
  rcases hd with ⟨fs, hd⟩ | ⟨n, e, ie, hd, he, hes⟩
  · rw [hd] at hu h1
    obtain ⟨f, hu, hm, hall⟩ := hu
    refine ⟨c', ?_, h2⟩
    have hinfo : ∀ g ∈ f.toList, ∃ x, P.info? g.type = some x := fun g hg => by
      rw [List.all_eq_true] at hall
      have := hall g hg
      simp only [Bool.and_eq_true] at this
      cases hq : P.info? g.type with
      | some x => exact ⟨x, rfl⟩
      | none => simp [Program.underlying, hq] at this
    have hmm : (f.mapM fun f => do pure (f.offset, ← sizeOf f.type) : Sem (Array (Nat × Nat))).run P w = .ok (f.toList.map fun f => (f.offset, P.cellsOf f.type)).toArray w := by
      rw [Array.mapM_eq_mapM_toList, Sem.run_map, mapM_places f.toList w hinfo]
      rfl
    have hpl : ∀ i : Nat, ((f.toList.map fun f => (f.offset, P.cellsOf f.type)).toArray)[i]? = (TD.struct fs).place esz i := fun i => by
      simp only [TD.place, ← hm, List.getElem?_toArray, List.getElem?_map, Option.map_map]
      rfl
    simp only [Instr.build, Sem.run_bind, hz, Result.andThen_ok, run_underlying hu, hmm]
    have : (fun x => (f.toList.map fun f => (f.offset, P.cellsOf f.type)).toArray[x]?) = (TD.struct fs).place esz := funext hpl
    rw [this, h1]
    rfl
  · rw [hd] at hu h1
    refine ⟨c', ?_, h2⟩
    simp only [Instr.build, Sem.run_bind, hz, Result.andThen_ok, run_underlying hu, (hT e ie he).run_sizeOf, hes]
    have : (fun i => some (i * esz, esz)) = (TD.arr n e).place esz := rfl
    rw [this, h1]
    rfl

theorem lok_build (hT : TOk P T) {t : TypeId} {i : TI} {ps : Array (Nat × Operand)} {esz : Nat} {qs : List (Nat × V)} {cs : List V} (ho : o.op = .build t ps) (ht : T t = some i)
    (hd : (∃ fs, i.d = .struct fs) ∨ ∃ n e ie, i.d = .arr n e ∧ T e = some ie ∧ ie.size = esz) (hq : (ps.toList.map fun p => (p.1, ov p.2)) = qs) (hf : fillV (i.d.place esz) i.zero qs = some cs) : LOk P ov o [] [] [] (.agg cs) :=
  LOk.pure fun S ρ w a hr => by
    rw [ho] at hr
    obtain ⟨c, h1, h2⟩ := run_build hT ht hd (S := S) (ρ := ρ) (w := w) (ps.map fun (i, x) => (i, a.eval x)) qs (by rw [← hq]; simp) (fun n p q h1 h2 => by
      rw [← hq] at h2
      simp only [Array.getElem?_map, List.getElem?_map, Array.getElem?_toList, Option.map_eq_some_iff] at h1 h2
      obtain ⟨p', hp', rfl⟩ := h1
      obtain ⟨q', hq', rfl⟩ := h2
      rw [hp'] at hq'
      cases hq'
      exact ⟨rfl, hr p'.2 (by simp only [Op.operands, List.mem_map]; exact ⟨p', by simpa using Array.mem_of_getElem? hp', rfl⟩)⟩) hf
    exact ⟨.agg c, .agg h2.1 h2.2, by simp [execOp, ho, h1]⟩

/-- cells of rows -/
theorem rows_of_flat {S : Nat → Prop} {ρ : KM} {w : World} {c : Array Value} {sz : Nat} {rows : List (List V)} (hz : ∀ r ∈ rows, r.length = sz) (h : CRep S ρ w c rows.flatten) : RowsAt S ρ w sz rows c := by
  have hlen : rows.flatten.length = rows.length * sz := by
    clear h
    induction rows with
    | nil => simp
    | cons r rows ih =>
      simp only [List.flatten_cons, List.length_append, List.length_cons]
      rw [ih (fun r hr => hz r (by simp [hr])), hz r (by simp), Nat.add_mul, Nat.one_mul, Nat.add_comm]
  have hget : ∀ (rows : List (List V)), (∀ r ∈ rows, r.length = sz) → ∀ (i j : Nat) (r : List V) (x : V), rows[i]? = some r → r[j]? = some x → rows.flatten[i * sz + j]? = some x := by
    intro rows
    induction rows with
    | nil => intro _ i j r x h1; simp at h1
    | cons r0 rows ih =>
      intro hz i j r x h1 h2
      have hr0 : r0.length = sz := hz r0 (by simp)
      cases i with
      | zero =>
        simp only [List.getElem?_cons_zero, Option.some.injEq] at h1
        subst h1
        have hj : j < r0.length := (List.getElem?_eq_some_iff.1 h2).1
        rw [Nat.zero_mul, Nat.zero_add, List.flatten_cons, List.getElem?_append_left hj]
        exact h2
      | succ i =>
        rw [List.getElem?_cons_succ] at h1
        rw [List.flatten_cons, List.getElem?_append_right (by rw [Nat.add_mul, Nat.one_mul]; omega)]
        rw [show (i + 1) * sz + j - r0.length = i * sz + j by rw [Nat.add_mul, Nat.one_mul]; omega]
        exact ih (fun r hr => hz r (by simp [hr])) i j r x h1 h2
  exact ⟨hz, by rw [h.1, hlen]; exact Nat.le_refl _, fun i j r u x h1 h2 h3 => h.2 _ u x h3 (hget rows hz i j r x h1 h2)⟩

theorem range_zero_get (z : Array Value) (n k : Nat) (hz : z.size ≠ 0) (hn : n = k * z.size) (i : Nat) : ((Array.range n).map (fun i => z[i % z.size]!))[i]? = if i < n then z[i % z.size]? else none := by
  simp only [Array.getElem?_map]
  by_cases hi : i < n
  · rw [if_pos hi]
    have hr : (Array.range n)[i]? = some i := by simp [hi]
    have hm : i % z.size < z.size := Nat.mod_lt _ (by omega)
    rw [hr, Option.map_some, getElem!_pos z _ hm, getElem?_pos z _ hm]
  · rw [if_neg hi]
    rw [Array.getElem?_eq_none (by simpa using hi)]
    rfl

theorem zero_rows {S : Nat → Prop} {ρ : KM} {w : World} {t : TypeId} {i : TI} (h : TIOk P t i) {z : Value} (hz : zAll z.cells.toList i.zero = true) (k : Nat) :
    RowsAt S ρ w i.size (List.replicate k i.zero) ((Array.range (k * i.size)).map (fun j => z.cells[j % z.cells.size]!)) ∧ ((Array.range (k * i.size)).map (fun j => z.cells[j % z.cells.size]!)).size = k * i.size := by
  obtain ⟨h1, h2⟩ := zero_rep (S := S) (ρ := ρ) (w := w) h hz
  have hpos := h.pos
  refine ⟨⟨fun r hr => ?_, by simp, fun a b r u x q1 q2 q3 => ?_⟩, by simp⟩
  · rw [List.mem_replicate] at hr
    rw [hr.2]; simp [h.zlen]
  · rw [List.getElem?_replicate] at q1
    split at q1
    · rename_i ha
      cases q1
      have hb : b < i.size := by rw [← h.zlen]; simpa using (List.getElem?_eq_some_iff.1 q2).1
      rw [range_zero_get z.cells (k * i.size) k (by omega) (by rw [h1])] at q3
      split at q3
      · rw [h1, Nat.mul_comm a, Nat.mul_add_mod, Nat.mod_eq_of_lt hb] at q3
        exact h2 b u x q3 q2
      · cases q3
    · cases q1

theorem win_new {S : Nat → Prop} {ρ : KM} {w : World} {k b sz n cp : Nat} {c : Array Value} {t : TypeId} (h : ρ k = some b) (hw : w.heap[b]? = some (.cells c t (0, 0))) (h1 : n ≤ cp) (h2 : cp * sz ≤ c.size) : Rep S ρ w (.slice (some ⟨b, 0, none⟩) n cp) (.win k sz 0 n cp) :=
  .win h hw h1 (Nat.le_refl _) (by omega) (.inl (by simp))

theorem wrap_small {n : Int} (h0 : 0 ≤ n) (h1 : n ≤ 2 ^ 48) : IntKind.i64.wrap n = n := by
  have e : n % (2 ^ 64 : Int) = n := Int.emod_eq_of_lt h0 (by omega)
  simp only [IntKind.wrap, IntKind.bits, IntKind.signed, e]
  rw [if_neg (by simp; omega)]

theorem lok_makeSlice (hT : TOk P T) {t e : Nat} {x y : Operand} {i ie : TI} {κ : Nat} {q q' : IntKind} {n c : Int} (ho : o.op = .makeSlice t x y) (ht : T t = some i) (hd : i.d = .slice e) (he : T e = some ie) (hx : ov x = .lit (.int q n)) (hy : ov y = .lit (.int q' c))
    (h0 : 0 ≤ n) (h1 : n ≤ c) (h2 : c ≤ 2 ^ 48) (h3 : ie.bytes * c ≤ 2 ^ 48) :
    LOk P ov o [] [] [(κ, ⟨ie.size, List.replicate c.toNat ie.zero, false⟩)] (.win κ ie.size 0 n.toNat c.toNat) :=
  LOk.new rfl fun S ρ w a hr hs => by
    rw [ho] at hr
    have e1 := hr x (by simp [Op.operands])
    have e2 := hr y (by simp [Op.operands])
    rw [hx] at e1; rw [hy] at e2
    have e1 := e1.lit_inv
    have e2 := e2.lit_inv
    have hu := (hT t i ht).d
    rw [hd] at hu
    obtain ⟨z, hz, hz'⟩ := (hT e ie he).run_zero w
    obtain ⟨ti, hti, hb, hsz⟩ := (hT e ie he).run_typeInfo w
    obtain ⟨hrow, hrs⟩ := zero_rows (S := S) (ρ := ρ) (w := w) (hT e ie he) hz' c.toNat
    have wn := wrap_small h0 (by omega)
    have wc := wrap_small (show 0 ≤ c by omega) h2
    have hszr := (hT e ie he).run_sizeOf w
    refine ⟨w.alloc (.cells ((Array.range (c.toNat * ie.size)).map (fun j => z.cells[j % z.cells.size]!)) e), _, e, .slice (some ⟨w.heap.size, 0, none⟩) n.toNat c.toNat, ?_, rfl, rfl, rfl, rfl, hrow, fun ρ' h => win_new h (push_new rfl) (by omega) (by rw [hrs]; exact Nat.le_refl _)⟩
    have c1 : ¬ (c < 0 ∨ ie.bytes * c > 2 ^ 48) := by omega
    have c2 : ¬ (n < 0) := by omega
    have c3 : ¬ (n > c) := by omega
    simp only [execOp, ho, e1, e2, Instr.makeSlice, Sem.run_bind, run_underlying hu, Result.andThen_ok, asInt, asIntOf, Sem.run_pure, hti, hb, wn, wc, Bool.or_eq_true, decide_eq_true_eq, c1, c2, c3, or_false, if_false, run_askRoom, hszr]
    by_cases h00 : c.toNat * ie.size = 0
    · simp [h00, newRow, Array.range_zero']
    · simp [h00, newRow, hz]


/-- a slice's first cells, as they are appended or copied -/
def Src (P : Program) (xv : V) (sz m : Nat) (rd : HL) (N : List (List V)) : Prop :=
  ∀ (S : Nat → Prop) (ρ : KM) (w : World) (u : Value), Rep S ρ w u xv → Sim S ρ w (hpo rd) → (Builtin.lenOf u).run P w = .ok m w ∧
    ∀ n, n ≤ m → ∃ cs, (Builtin.firstCells sz n u).run P w = .ok cs w ∧ RowsAt S ρ w sz (N.take n) cs ∧ cs.size = n * sz

theorem load_rows {S : Nat → Prop} {ρ : KM} {w : World} {b off n sz : Nat} {c : Array Value} {t : TypeId} {fr : Nat × Nat} {L : List (List V)} (hw : w.heap[b]? = some (.cells c t fr)) (hn : n ≤ L.length) (hz : ∀ r ∈ L, r.length = sz) (hf : off + n * sz ≤ c.size)
    (hR : ∀ (i j : Nat) (r : List V) (u : Value) (x : V), L[i]? = some r → r[j]? = some x → c[off + i * sz + j]? = some u → Rep S ρ w u x) :
    ∃ cs, (loadCells ⟨b, off, none⟩ (n * sz)).run P w = .ok cs w ∧ RowsAt S ρ w sz (L.take n) cs ∧ cs.size = n * sz := by
  refine ⟨_, run_loadCells w ⟨b, off, none⟩ (n * sz) (fun j => c.getD (off + j) undef) (fun j hj => by
      rw [add_at, cell_at hw]
      have : off + j < c.size := by omega
      simp [this]), ⟨fun r hr => hz r (List.mem_of_mem_take hr), by simp; rw [Nat.min_eq_left hn]; exact Nat.le_refl _, fun i j r u x h1 h2 h3 => ?_⟩, by simp⟩
  rw [map_range_get c off (n * sz) hf] at h3
  split at h3
  · have hi : i < n := by
      rcases Nat.lt_or_ge i n with h | h
      · exact h
      · rw [List.getElem?_eq_none (by simp; omega)] at h1; cases h1
    rw [List.getElem?_take_of_lt hi] at h1
    exact hR i j r u x h1 h2 (by rw [Nat.add_assoc]; exact h3)
  · cases h3

theorem src_sl {xv : V} {L : List (List V)} (hL : xv.sl? = some L) {sz : Nat} (hz : sz = xv.slz ∨ L = []) : Src P xv sz L.length [] L := by
  intro S ρ w u hr _
  have e1 := rep_sl hr hL
  clear hr
  generalize hL0 : xv.slz = zz at *
  cases e1 with
  | sl0 =>
    refine ⟨rfl, fun n hn => ?_⟩
    have : n = 0 := by simpa using hn
    subst this
    rename_i a cap ha
    cases a with
    | none => exact ⟨#[], rfl, ⟨by simp, by simp, by simp⟩, by simp⟩
    | some a => exact ⟨#[], by simp [Builtin.firstCells, loadCells, loadCellsFrom], ⟨by simp, by simp, by simp⟩, by simp⟩
  | sl hS hw hzz hc hf hR =>
    refine ⟨rfl, fun n hn => ?_⟩
    rcases hz with hz | hz
    · subst hz
      exact load_rows hw hn hzz (by have := Nat.mul_le_mul_right sz hn; omega) (fun i j r u x p q s => (hR i j r u x p q s).up)
    · subst hz
      have : n = 0 := by simpa using hn
      subst this
      exact ⟨#[], by simp [Builtin.firstCells, loadCells, loadCellsFrom], ⟨by simp, by simp, by simp⟩, by simp⟩

theorem src_win {k sz lo m cp : Nat} {ob : VObj} (hz : ob.sz = sz) (hl : lo + m ≤ ob.rows.length) : Src P (.win k sz lo m cp) sz m [(k, ob)] ((ob.rows.drop lo).take m) := by
  intro S ρ w u hr hs
  generalize hcu : u = cu at hr
  cases hr with
  | win hk hw hn hc hf hoff =>
    rename_i b off cap c t fr
    obtain ⟨c', t', hw', hR, _⟩ := hs.at (hpo_one_self k ob) hk hw
    rw [hw] at hw'
    cases hw'
    rw [hz] at hR
    refine ⟨rfl, fun n hn' => ?_⟩
    have hlen : ((ob.rows.drop lo).take m).length = m := by simp; omega
    rcases hoff with hoff | hoff
    · subst hoff
      have h1 := Nat.mul_le_mul_right sz hl
      have h2 := Nat.mul_le_mul_right sz hn'
      rw [Nat.add_mul] at h1
      have h3 := hR.2.1
      refine load_rows hw (by omega) (fun r hr => hR.1 r (List.mem_of_mem_drop (List.mem_of_mem_take hr))) (by omega) fun i j r u x g1 g2 g3 => ?_
      have hi : i < m := by
        rcases Nat.lt_or_ge i m with h | h
        · exact h
        · rw [List.getElem?_eq_none (by omega)] at g1; cases g1
      rw [List.getElem?_take_of_lt hi, List.getElem?_drop] at g1
      exact hR.2.2 (lo + i) j r u x g1 g2 (by rw [Nat.add_mul]; exact g3)
    · have : m = 0 := by omega
      subst this
      have : n = 0 := by omega
      subst this
      exact ⟨#[], by simp [Builtin.firstCells, loadCells, loadCellsFrom], ⟨by simp, by simp, by simp⟩, by simp⟩
  | win0 =>
    rename_i aa
    refine ⟨rfl, fun n hn' => ?_⟩
    have : n = 0 := by omega
    subst this
    exact ⟨#[], by cases aa <;> simp [Builtin.firstCells, loadCells, loadCellsFrom], ⟨by simp, by simp, by simp⟩, by simp⟩

def u8V (b : UInt8) : V := .lit (.int .u8 b.toNat)
/-- the bytes of a text as rows -/
def strRows (s : ByteArray) : List (List V) := s.data.toList.map fun b => [u8V b]
theorem src_str (s : ByteArray) : Src P (.lit (.string s)) 1 s.size [] (strRows s) := by
  intro S ρ w u hr _
  have e := hr.lit_inv
  subst e
  have hsz : ∀ n, n ≤ s.size → ((s.extract 0 n).data.map fun b : UInt8 => Value.int .u8 b.toNat).size = n := fun n hn => by
    have hn' : n ≤ s.data.size := hn
    rw [Array.size_map, ByteArray.data_extract, Array.size_extract]
    omega
  refine ⟨rfl, fun n hn => ⟨(s.extract 0 n).data.map fun b => .int .u8 b.toNat, rfl, ⟨fun r hr => ?_, ?_, fun i j r u x h1 h2 h3 => ?_⟩, ?_⟩⟩
  · have := List.mem_of_mem_take hr
    simp only [strRows, List.mem_map] at this
    obtain ⟨b, _, rfl⟩ := this
    rfl
  · have e1 : (strRows s).length = s.size := by simp only [strRows, List.length_map, Array.length_toList]; rfl
    rw [hsz n hn, List.length_take, e1, Nat.min_eq_left hn, Nat.mul_one]
    exact Nat.le_refl _
  · simp only [strRows] at h1
    rw [List.getElem?_take] at h1
    split at h1
    · rename_i hi
      rw [List.getElem?_map] at h1
      simp only [Option.map_eq_some_iff] at h1
      obtain ⟨b, hb, rfl⟩ := h1
      cases j with
      | zero =>
        simp only [List.getElem?_cons_zero, Option.some.injEq] at h2
        subst h2
        rw [Nat.mul_one, Nat.add_zero] at h3
        simp only [Array.getElem?_map, Option.map_eq_some_iff] at h3
        obtain ⟨b', hb', rfl⟩ := h3
        have : b' = b := by
          simp [ByteArray.data_extract, Array.getElem?_extract] at hb'
          rw [Array.getElem?_toList] at hb
          obtain ⟨_, hb'⟩ := hb'
          rw [hb] at hb'
          exact (Option.some.inj hb').symm
        subst this
        exact .lit rfl
      | succ j => simp at h2
    · cases h1
  · rw [hsz n hn, Nat.mul_one]


/-- rows filled in -/
def fillR (sz : Nat) (rows : List (List V)) : List (Nat × V) → Option (List (List V))
  | [] => some rows
  | (i, v) :: rest => if v.cells.length = sz ∧ i < rows.length ∧ v.isAny = false then fillR sz (rows.set i v.cells) rest else none

theorem flatten_len {sz : Nat} : ∀ (rows : List (List V)), (∀ r ∈ rows, r.length = sz) → rows.flatten.length = rows.length * sz
  | [], _ => by simp
  | r :: rows, h => by
    simp only [List.flatten_cons, List.length_append, List.length_cons]
    rw [flatten_len rows (fun r hr => h r (by simp [hr])), h r (by simp), Nat.add_mul, Nat.one_mul, Nat.add_comm]
theorem flatten_set {sz : Nat} (cs : List V) (hc : cs.length = sz) : ∀ (rows : List (List V)) (i : Nat), (∀ r ∈ rows, r.length = sz) → i < rows.length → (rows.set i cs).flatten = spl rows.flatten (i * sz) cs
  | [], i, _, h => by simp at h
  | r :: rows, 0, hz, _ => by
    have hr := hz r (by simp)
    simp only [List.set_cons_zero, List.flatten_cons, spl, Nat.zero_mul, List.take_zero, List.nil_append, Nat.zero_add]
    rw [hc, List.drop_append, ← hr, List.drop_length]
    simp
  | r :: rows, i + 1, hz, h => by
    have hr := hz r (by simp)
    have ih := flatten_set cs hc rows i (fun r hr => hz r (by simp [hr])) (by simpa using h)
    simp only [List.set_cons_succ, List.flatten_cons, ih, spl]
    have e : (i + 1) * sz = r.length + i * sz := by rw [Nat.add_mul, Nat.one_mul, hr, Nat.add_comm]
    rw [e, List.take_length_add_append, Nat.add_assoc, List.drop_length_add_append]
    simp only [List.append_assoc]
theorem fillR_flat {sz : Nat} : ∀ (qs : List (Nat × V)) (rows rows' : List (List V)), (∀ r ∈ rows, r.length = sz) → fillR sz rows qs = some rows' →
    fillV (fun i => some (i * sz, sz)) rows.flatten qs = some rows'.flatten ∧ (∀ r ∈ rows', r.length = sz) ∧ rows'.length = rows.length
  | [], rows, rows', hz, h => by
    simp only [fillR, Option.some.injEq] at h
    subst h
    exact ⟨rfl, hz, rfl⟩
  | (i, v) :: qs, rows, rows', hz, h => by
    simp only [fillR] at h
    split at h
    · rename_i hc
      obtain ⟨h1, h2, h3⟩ := hc
      obtain ⟨g1, g2, g3⟩ := fillR_flat qs (rows.set i v.cells) rows' (fun r hr => by
        rcases List.mem_or_eq_of_mem_set hr with h | h
        · exact hz r h
        · rw [h]; exact h1) h
      refine ⟨?_, g2, by rw [g3]; simp⟩
      simp only [fillV]
      have hl := flatten_len rows hz
      have hq := Nat.mul_le_mul_right sz h2
      rw [Nat.succ_mul] at hq
      rw [if_pos ⟨h1, by omega, h3⟩, ← flatten_set v.cells h1 rows i hz h2]
      exact g1
    · cases h

theorem lok_buildSlice (hT : TOk P T) {t e n : Nat} {i ie : TI} {ps : Array (Nat × Operand)} {qs : List (Nat × V)} {rows : List (List V)} {κ : Nat} (ho : o.op = .buildSlice t n ps) (ht : T t = some i) (hd : i.d = .slice e) (he : T e = some ie) (hn : n * ie.size ≤ 2 ^ 24)
    (hq : (ps.toList.map fun p => (p.1, ov p.2)) = qs) (hf : fillR ie.size (List.replicate n ie.zero) qs = some rows) : LOk P ov o [] [] [(κ, ⟨ie.size, rows, false⟩)] (.win κ ie.size 0 n n) :=
  LOk.new rfl fun S ρ w a hr hs => by
    rw [ho] at hr
    have hu := (hT t i ht).d
    rw [hd] at hu
    have hsz := (hT e ie he).run_sizeOf w
    obtain ⟨z, hz, hz'⟩ := (hT e ie he).run_zero w
    obtain ⟨hzr, hzs⟩ := zero_rows (S := S) (ρ := ρ) (w := w) (hT e ie he) hz' n
    have hzl : ∀ r ∈ List.replicate n ie.zero, r.length = ie.size := fun r hr => by rw [List.mem_replicate] at hr; rw [hr.2]; exact (hT e ie he).zlen
    obtain ⟨f1, f2, f3⟩ := fillR_flat qs _ rows hzl hf
    have hlen : rows.length = n := by rw [f3]; simp
    have hc0 : CRep S ρ w ((Array.range (n * ie.size)).map (fun j => z.cells[j % z.cells.size]!)) (List.replicate n ie.zero).flatten := by
      have hfl := flatten_len _ hzl
      refine ⟨by rw [hzs, hfl]; simp, fun j u x h1 h2 => ?_⟩
      have hj : j < n * ie.size := by rw [← hzs]; exact (Array.getElem?_eq_some_iff.1 h1).1
      have hp := (hT e ie he).pos
      have hi : j / ie.size < n := (Nat.div_lt_iff_lt_mul (by omega)).2 hj
      have hm : j % ie.size < ie.size := Nat.mod_lt _ (by omega)
      have hjj : j / ie.size * ie.size + j % ie.size = j := by rw [Nat.mul_comm]; exact Nat.div_add_mod j ie.size
      have hx : ie.zero[j % ie.size]? = some x := by
        have : (List.replicate n ie.zero).flatten[j]? = ie.zero[j % ie.size]? := by
          clear h1 h2 hj hfl hlen f1 f2 f3 hf hzl hzr hzs hn ho
          have key : ∀ (n i k : Nat), i < n → k < ie.size → (List.replicate n ie.zero).flatten[i * ie.size + k]? = ie.zero[k]? := by
            intro n
            induction n with
            | zero => intro i k h; omega
            | succ n ih =>
              intro i k h hk
              rw [List.replicate_succ, List.flatten_cons]
              cases i with
              | zero => rw [Nat.zero_mul, Nat.zero_add, List.getElem?_append_left (by rw [(hT e ie he).zlen]; exact hk)]
              | succ i =>
                rw [List.getElem?_append_right (by rw [(hT e ie he).zlen, Nat.add_mul, Nat.one_mul]; omega), (hT e ie he).zlen, show (i + 1) * ie.size + k - ie.size = i * ie.size + k by rw [Nat.add_mul, Nat.one_mul]; omega]
                exact ih i k (by omega) hk
          have := key n (j / ie.size) (j % ie.size) hi hm
          rw [hjj] at this
          exact this
        rw [← this]; exact h2
      exact hzr.2.2 (j / ie.size) (j % ie.size) ie.zero u x (by simp [hi]) hx (by rw [hjj]; exact h1)
    obtain ⟨c', h1, h2⟩ := fill_rep (ps.toList.map fun (p : Nat × Operand) => (p.1, a.eval p.2)) qs _ _ _ hc0 (by rw [← hq]; simp) (fun m p q a1 a2 => by
      rw [← hq] at a2
      simp only [List.getElem?_map, Option.map_eq_some_iff] at a1 a2
      obtain ⟨p', hp', rfl⟩ := a1
      obtain ⟨q', hq', rfl⟩ := a2
      rw [hp'] at hq'
      cases hq'
      exact ⟨rfl, hr p'.2 (by simp only [Op.operands, List.mem_map]; exact ⟨p', List.mem_of_getElem? hp', rfl⟩)⟩) f1
    have hrow := rows_of_flat f2 h2
    have hcs : c'.size = n * ie.size := by rw [h2.1, flatten_len rows f2, hlen]
    refine ⟨w.alloc (.cells c' e), c', e, .slice (some ⟨w.heap.size, 0, none⟩) n n, ?_, rfl, rfl, rfl, rfl, hrow, fun ρ' h => win_new h (push_new rfl) (Nat.le_refl _) (by rw [hcs]; exact Nat.le_refl _)⟩
    have c1 : ¬ (n * ie.size > 2 ^ 24) := by omega
    have hmap : ((ps.map fun (x : Nat × Operand) => (x.1, a.eval x.2))).toList = ps.toList.map fun (p : Nat × Operand) => (p.1, a.eval p.2) := by simp
    by_cases h00 : n * ie.size = 0
    · have h1' : Instr.fill (fun i => some (i * ie.size, ie.size)) #[] (ps.toList.map fun (p : Nat × Operand) => (p.1, a.eval p.2)) = some c' := by
        rw [← h1, h00]; simp [Array.range_zero']
      simp [execOp, ho, Instr.buildSlice, run_underlying hu, hsz, c1, h00, newRow, Array.range_zero', h1']
    · simp [execOp, ho, Instr.buildSlice, run_underlying hu, hsz, c1, h00, hz, newRow, h1]

end
end Go.Proofs.Ytgaginflocpcfaa
