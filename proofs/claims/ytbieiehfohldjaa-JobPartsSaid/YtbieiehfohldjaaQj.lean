/-
  The value-level machine over the model, part 10.
-/
import Derived.Test.YtbieiehfohldjaaQi
import Derived.Test.YtbieiehfohldjaaRows
import Derived.ProofKit
import Derived.OpenShut
namespace Go.Proofs.Ytbieiehfohldjaa
open Go Go.ChangeShapes Go.WideShapes Go.ChangeAt Go.RowKit
set_option linter.unusedVariables false
set_option linter.unusedSimpArgs false
set_option maxRecDepth 100000

/-- cells of several types, one behind the other -/
def TyFs (f : TypeId → List V → Prop) (ts : List TypeId) : List V → Prop := List.rec (motive := fun _ => List V → Prop) (fun xs => xs = []) (fun t _ ih xs => ∃ p q, xs = p ++ q ∧ f t p ∧ ih q) ts
/-- cells of a type of plain data -/
def Ty (P : Program) (n : Nat) : TypeId → List V → Prop := Nat.rec (motive := fun _ => TypeId → List V → Prop) (fun _ _ => False) (fun _ ih t xs => match P.underlying t with
  | some .bool => ∃ b, xs = [bV b]
  | some (.int k) => ∃ z, xs = [.lit (.int k z)] ∧ k.min ≤ z ∧ z ≤ k.max
  | some .string => ∃ s, xs = [.lit (.string s)] ∧ s.size ≤ maxLen
  | some (.slice e) => ∃ l, xs = [.sl (P.cellsOf e) l] ∧ l.length ≤ maxLen ∧ ∀ r ∈ l, ih e r
  | some (.struct fs) => TyFs ih (fs.toList.map (·.type)) xs
  | some (.array m e) => TyFs ih (List.replicate m e) xs
  | _ => False) n
/-- types of plain data -/
def plainT (P : Program) (n : Nat) : TypeId → Bool := Nat.rec (motive := fun _ => TypeId → Bool) (fun _ => false) (fun _ ih t => match P.underlying t with
  | some .bool | some (.int _) | some .string => true
  | some (.slice e) => ih e && decide (0 < P.cellsOf e)
  | some (.struct fs) => fs.toList.all fun f => ih f.type
  | some (.array m e) => ih e
  | _ => false) n

/-- told in a world in which nothing turns -/
def AllS (w : World) : Nat → Prop := fun b => b < w.heap.size
def RepL (w : World) (us : List Value) (xs : List V) : Prop := us.length = xs.length ∧ ∀ (i : Nat) (u : Value) (x : V), us[i]? = some u → xs[i]? = some x → Rep (AllS w) noK w u x
theorem RepL.nil (w : World) : RepL w [] [] := ⟨rfl, fun i u x h => by simp at h⟩
theorem RepL.app {w : World} {us us' : List Value} {xs xs' : List V} (h : RepL w us xs) (h' : RepL w us' xs') : RepL w (us ++ us') (xs ++ xs') := by
  refine ⟨by simp [h.1, h'.1], fun i u x a b => ?_⟩
  by_cases hi : i < us.length
  · rw [List.getElem?_append_left hi] at a
    rw [List.getElem?_append_left (h.1 ▸ hi)] at b
    exact h.2 i u x a b
  · rw [List.getElem?_append_right (by omega)] at a
    rw [List.getElem?_append_right (by rw [← h.1]; omega), ← h.1] at b
    exact h'.2 _ u x a b
theorem RepL.one {w : World} {u : Value} {x : V} (h : Rep (AllS w) noK w u x) : RepL w [u] [x] := ⟨rfl, fun i a b h1 h2 => by
  cases i with
  | zero => simp at h1 h2; subst h1; subst h2; exact h
  | succ i => simp at h1⟩

theorem tyFs_fields {w : World} {ih : TypeId → List V → Prop} {cell : TypeId → Nat} (cs : List Value) : ∀ (fs : List Field) (o : Nat), (∀ (j : Nat) f, fs[j]? = some f → f.offset = o + ((fs.take j).map fun f => cell f.type).sum) →
    (∀ f ∈ fs, ∃ xs, RepL w ((cs.drop f.offset).take (cell f.type)) xs ∧ ih f.type xs) → ∃ xs, RepL w ((cs.drop o).take (fs.map fun f => cell f.type).sum) xs ∧ TyFs ih (fs.map (·.type)) xs
  | [], o, _, _ => ⟨[], by simpa using RepL.nil w, rfl⟩
  | f :: fs, o, ho, h => by
    have h0 : f.offset = o := by simpa using ho 0 f rfl
    obtain ⟨xs, h1, h2⟩ := h f (by simp)
    obtain ⟨ys, h3, h4⟩ := tyFs_fields cs fs (o + cell f.type) (fun j g hg => by
      have := ho (j + 1) g (by simpa using hg)
      simp only [List.take_succ_cons, List.map_cons, List.sum_cons] at this
      omega) (fun g hg => h g (by simp [hg]))
    refine ⟨xs ++ ys, ?_, xs, ys, rfl, h2, h4⟩
    rw [h0] at h1
    simp only [List.map_cons, List.sum_cons]
    rw [List.take_add, List.drop_drop]
    exact h1.app h3
theorem tyFs_array {w : World} {ih : TypeId → List V → Prop} {e : TypeId} {sz : Nat} (cs : List Value) : ∀ (m i : Nat), (∀ j, j < m → ∃ xs, RepL w ((cs.drop ((i + j) * sz)).take sz) xs ∧ ih e xs) → ∃ xs, RepL w ((cs.drop (i * sz)).take (m * sz)) xs ∧ TyFs ih (List.replicate m e) xs
  | 0, i, _ => ⟨[], by simpa using RepL.nil w, rfl⟩
  | m + 1, i, h => by
    obtain ⟨xs, h1, h2⟩ := h 0 (by omega)
    obtain ⟨ys, h3, h4⟩ := tyFs_array cs m (i + 1) (fun j hj => by
      have := h (j + 1) (by omega)
      rwa [show i + (j + 1) = i + 1 + j by omega] at this)
    refine ⟨xs ++ ys, ?_, xs, ys, rfl, h2, h4⟩
    rw [show (m + 1) * sz = sz + m * sz by rw [Nat.add_mul, Nat.one_mul, Nat.add_comm], List.take_add, List.drop_drop]
    rw [Nat.add_zero] at h1
    rw [Nat.add_mul, Nat.one_mul] at h3
    exact h1.app h3

section
variable {H : Type} {enc : TypeId × Value → H} {P : Program} {w : World} {base : Nat} {spare : Nat → Bool} {held : Bool}

theorem add_zero (a : Addr) : a.add 0 = a := by simp [Addr.add]
theorem add_eq (a : Addr) (n : Nat) (h : a.spot = none) : a.add n = ⟨a.block, a.off + n, none⟩ := by
  obtain ⟨b, o, s⟩ := a
  simp only at h
  subst h
  unfold Addr.add
  split
  · rename_i e; subst e; rfl
  · rfl
theorem cell_some {a : Addr} {v : Value} (h : w.cell? a = some v) : a.spot = none ∧ ∃ c t fr, w.heap[a.block]? = some (.cells c t fr) ∧ c[a.off]? = some v := by
  unfold World.cell? at h
  split at h
  · rename_i c t fr hc
    split at h
    · cases h
    · rename_i hs
      exact ⟨by simpa using hs, c, t, fr, hc, h⟩
  · cases h

theorem trod_ty (hl : laidOutB P = true) : ∀ (n : Nat) (m : Nat) (t : TypeId) (cs : List Value) (x : DataW H × List MemPlace), t < P.types.size → plainT P m t = true → DataW.trod enc P w base spare held n t cs = some x →
    ∃ xs, RepL w cs xs ∧ Ty P m t xs
  | n, 0, t, cs, x, _, hp, _ => by cases hp
  | 0, m + 1, t, cs, x, _, _, h => by simp [DataW.trod] at h
  | n + 1, m + 1, t, cs, x, ht, hp, h => by
    have ih := fun t cs x => trod_ty hl n m t cs x
    have hp : (match P.underlying t with
      | some .bool | some (.int _) | some .string => true
      | some (.slice e) => plainT P m e && decide (0 < P.cellsOf e)
      | some (.struct fs) => fs.toList.all fun f => plainT P m f.type
      | some (.array m' e) => plainT P m e
      | _ => false) = true := hp
    show ∃ xs, RepL w cs xs ∧ (match P.underlying t with
      | some .bool => ∃ b, xs = [bV b]
      | some (.int k) => ∃ z, xs = [.lit (.int k z)] ∧ k.min ≤ z ∧ z ≤ k.max
      | some .string => ∃ s, xs = [.lit (.string s)] ∧ s.size ≤ maxLen
      | some (.slice e) => ∃ l, xs = [.sl (P.cellsOf e) l] ∧ l.length ≤ maxLen ∧ ∀ r ∈ l, Ty P m e r
      | some (.struct fs) => TyFs (Ty P m) (fs.toList.map (·.type)) xs
      | some (.array m' e) => TyFs (Ty P m) (List.replicate m' e) xs
      | _ => False)
    cases hu : P.underlying t with
    | none => rw [hu] at hp; cases hp
    | some d =>
      rw [hu] at hp
      cases d with
      | bool =>
        obtain ⟨b, rfl, _⟩ := DataW.trod_bool hu h
        exact ⟨_, RepL.one (.lit rfl), b, rfl⟩
      | int k =>
        obtain ⟨z, rfl, _, h1⟩ := DataW.trod_int hu h
        simp only [Lit.wf, Bool.and_eq_true, decide_eq_true_eq] at h1
        exact ⟨_, RepL.one (.lit rfl), z, rfl, h1.1, h1.2⟩
      | string =>
        obtain ⟨z, rfl, _, h1⟩ := DataW.trod_string hu h
        exact ⟨_, RepL.one (.lit rfl), z, rfl, h1⟩
      | struct fs =>
        obtain ⟨xs, n', hn, hx, hlen, _, hf⟩ := DataW.trod_struct hu h
        obtain rfl : n = n' := by omega
        obtain ⟨k1, k2, k3⟩ := kid_struct hl ht hu
        have hp : (fs.toList.all fun f => plainT P m f.type) = true := hp
        obtain ⟨ys, h1, h2⟩ := tyFs_fields (w := w) (ih := Ty P m) (cell := P.cellsOf) cs fs.toList 0 (fun j f hj => by simpa using k3 j f hj) (fun f hf' => by
          obtain ⟨j, hj⟩ := List.mem_iff_getElem?.1 hf'
          have hsome := hf j f (by simpa using hj)
          obtain ⟨y, hy⟩ : ∃ y, xs[j]? = some y := by
            have : j < xs.length := by
              have := (List.getElem?_eq_some_iff.1 hj).1
              simp at this; omega
            exact ⟨_, List.getElem?_eq_getElem this⟩
          rw [hy] at hsome
          exact ih f.type _ y (k1 f hf') (List.all_eq_true.1 hp f hf') hsome)
        refine ⟨ys, ?_, h2⟩
        rw [← k2, ← hlen] at h1
        simpa using h1
      | array m' e =>
        obtain ⟨xs, n', hn, hx, hlen, hxl, hf⟩ := DataW.trod_array hu h
        obtain rfl : n = n' := by omega
        obtain ⟨k1, k2⟩ := kid_array hl ht hu
        have hp : plainT P m e = true := hp
        obtain ⟨ys, h1, h2⟩ := tyFs_array (w := w) (ih := Ty P m) (e := e) (sz := P.cellsOf e) cs m' 0 (fun j hj => by
          have hsome := hf j hj
          rw [Nat.zero_add]
          have : j < xs.length := by omega
          rw [List.getElem?_eq_getElem this] at hsome
          exact ih e _ _ k1 hp hsome)
        refine ⟨ys, ?_, h2⟩
        rw [← k2, ← hlen] at h1
        simpa using h1
      | slice e =>
        have hp : (plainT P m e && decide (0 < P.cellsOf e)) = true := hp
        rw [Bool.and_eq_true, decide_eq_true_eq] at hp
        obtain ⟨hp, hz⟩ := hp
        have hel := kid_slice hl ht hu
        rw [DataW.trod.eq_def] at h
        simp only [hu] at h
        have key : cs = [.slice none 0 0] ∨ ∃ a len cap, cs = [.slice (some a) len cap] ∧ cap ≤ maxLen ∧ len ≤ cap ∧ ∃ elems, (List.range len).mapM (fun i => (w.cells? base (a.add (i * P.cellsOf e)) (P.cellsOf e)).bind (DataW.trod enc P w base spare held n e)) = some elems := by
          split at h
          all_goals first
            | (rename_i hh; cases hh; done)
            | skip
          · rename_i hh
            exact .inl rfl
          · rename_i hh
            split at h
            · rename_i hc
              obtain ⟨elems, h1, _⟩ := Option.bind_eq_some_iff.1 h
              cases hh
              exact .inr ⟨_, _, _, rfl, hc.2.2, hc.2.1, elems, h1⟩
            · cases h
          · cases h
        clear h
        rcases key with rfl | ⟨a, len, cap, rfl, hmax, hcap, elems, hel'⟩
        · exact ⟨_, RepL.one (.sl0 (fun _ => rfl)), [], rfl, by simp, fun r hr => by cases hr⟩
        · skip
          have hlen : elems.length = len := by simpa using mapM_some_length hel'
          have each : ∀ i, i < len → ∃ us y, w.cells? base (a.add (i * P.cellsOf e)) (P.cellsOf e) = some us ∧ DataW.trod enc P w base spare held n e us = some y := fun i hi => by
            have := mapM_some_get hel' i i (by simp [hi])
            rw [List.getElem?_eq_getElem (by omega)] at this
            obtain ⟨us, h1, h2⟩ := Option.bind_eq_some_iff.1 this
            exact ⟨us, _, h1, h2⟩
          have pick : ∀ i, ∃ r : List V, i < len → ∃ us, w.cells? base (a.add (i * P.cellsOf e)) (P.cellsOf e) = some us ∧ RepL w us r ∧ Ty P m e r := fun i => by
            by_cases hi : i < len
            · obtain ⟨us, y, h1, h2⟩ := each i hi
              obtain ⟨r, h3, h4⟩ := ih e us y hel hp h2
              exact ⟨r, fun _ => ⟨us, h1, h3, h4⟩⟩
            · exact ⟨[], fun h => absurd h hi⟩
          let f : Nat → List V := fun i => Classical.choose (pick i)
          have hf : ∀ i, i < len → ∃ us, w.cells? base (a.add (i * P.cellsOf e)) (P.cellsOf e) = some us ∧ RepL w us (f i) ∧ Ty P m e (f i) := fun i => Classical.choose_spec (pick i)
          refine ⟨[.sl (P.cellsOf e) ((List.range len).map f)], RepL.one ?_, _, rfl, by simp; omega, fun r hr => ?_⟩
          · by_cases h0 : len = 0
            · subst h0
              exact .sl0 (fun hh => by cases hh)
            · obtain ⟨us0, q1, q2, _⟩ := hf 0 (by omega)
              obtain ⟨_, q3, q4⟩ := World.cells?_some q1
              have hus : us0[0]? = some us0[0] := List.getElem?_eq_getElem (by omega)
              have c0 := q4 0 hz
              rw [Nat.zero_mul, add_zero, add_zero, hus] at c0
              obtain ⟨hs, c, tt, fr, hb, hc0⟩ := cell_some c0
              obtain ⟨b, off, sp⟩ := a
              simp only at hs hb hc0
              subst hs
              have hcell : ∀ i j, i < len → j < P.cellsOf e → ∃ us, RepL w us (f i) ∧ us.length = P.cellsOf e ∧ us[j]? = c[off + i * P.cellsOf e + j]? := fun i j hi hj => by
                obtain ⟨us, g1, g2, _⟩ := hf i hi
                obtain ⟨_, g3, g4⟩ := World.cells?_some g1
                have := g4 j hj
                rw [add_eq ⟨b, off, none⟩ _ rfl, add_eq _ _ rfl] at this
                simp only [World.cell?, hb] at this
                exact ⟨us, g2, g3, this.symm⟩
              have hsz : ∀ i, i < len → (f i).length = P.cellsOf e := fun i hi => by
                obtain ⟨us, g1, g2, _⟩ := hcell i 0 hi hz
                rw [← g1.1, g2]
              have hlenl : ((List.range len).map f).length = len := by simp
              have := Rep.sl (S := AllS w) (ρ := noK) (w := w) (b := b) (off := off) (cap := cap) (sz := P.cellsOf e) (l := (List.range len).map f) (c := c) (t := tt) (fr := fr) ?_ hb ?_ ?_ ?_ ?_
              · rwa [hlenl] at this
              · exact (Array.getElem?_eq_some_iff.1 hb).1
              · intro r hr
                simp only [List.mem_map, List.mem_range] at hr
                obtain ⟨i, hi, rfl⟩ := hr
                exact hsz i hi
              · rw [hlenl]; exact hcap
              · rw [hlenl]
                obtain ⟨us, g1, g2, g3⟩ := hcell (len - 1) (P.cellsOf e - 1) (by omega) (by omega)
                rw [List.getElem?_eq_getElem (by omega)] at g3
                have := (Array.getElem?_eq_some_iff.1 g3.symm).1
                have hm : len * P.cellsOf e = (len - 1) * P.cellsOf e + P.cellsOf e := by
                  rw [← Nat.succ_mul, show (len - 1).succ = len by omega]
                omega
              · intro i j r u x g1 g2 g3
                have hi : i < len := by have := (List.getElem?_eq_some_iff.1 g1).1; simpa using this
                simp only [List.getElem?_map, List.getElem?_range hi, Option.map_some, Option.some.injEq] at g1
                subst g1
                have hj : j < P.cellsOf e := by rw [← hsz i hi]; exact (List.getElem?_eq_some_iff.1 g2).1
                obtain ⟨us, k1, k2, k3⟩ := hcell i j hi hj
                rw [g3] at k3
                exact k1.2 j u x k3 g2
          · simp only [List.mem_map, List.mem_range] at hr
            obtain ⟨i, hi, rfl⟩ := hr
            exact (hf i hi).choose_spec.2.2
      | _ => cases hp

/-- a value of a type of plain data -/
def TyV (P : Program) (t : TypeId) (x : V) : Prop := match aggOf P t with
  | true => ∃ xs, x = .agg xs ∧ Ty P 12 t xs
  | false => Ty P 12 t [x]
def TysV (P : Program) (ts : List TypeId) : List V → Prop := List.rec (motive := fun _ => List V → Prop) (fun xs => xs = []) (fun t _ ih xs => ∃ x ys, xs = x :: ys ∧ TyV P t x ∧ ih ys) ts
theorem trod_tyV (hl : laidOutB P = true) {t : TypeId} (ht : t < P.types.size) (hp : plainT P 12 t = true) {v : Value} {d : DataW H} {ps : List MemPlace} {r : Reach} {b' : Nat} (hv : Value.okWide P w r b' t v) (h : DataW.Trod enc P w base spare held t v d ps) : ∃ x, Rep (AllS w) noK w v x ∧ TyV P t x := by
  obtain ⟨n, h⟩ := h
  obtain ⟨xs, h1, h2⟩ := trod_ty hl n 12 t _ _ ht hp h
  unfold TyV
  cases ha : aggOf P t with
  | true =>
    have : ∃ cs, v = .agg cs := by
      unfold aggOf at ha
      unfold Value.okWide at hv
      split at ha
      · rename_i e; rw [e] at hv; obtain ⟨cs, h, _⟩ := hv; exact ⟨cs, h⟩
      · rename_i e; rw [e] at hv; obtain ⟨cs, h, _⟩ := hv; exact ⟨cs, h⟩
      · cases ha
    obtain ⟨cs, rfl⟩ := this
    have hl' : cs.size = xs.length := by simpa [Value.cells] using h1.1
    exact ⟨.agg xs, .agg hl' fun i u x a b => h1.2 i u x (by simpa [Value.cells] using a) b, xs, rfl, h2⟩
  | false =>
    have hc : ∃ x, xs = [x] := by
      have h2 : (match P.underlying t with
        | some .bool => ∃ b, xs = [bV b]
        | some (.int k) => ∃ z, xs = [.lit (.int k z)] ∧ k.min ≤ z ∧ z ≤ k.max
        | some .string => ∃ s, xs = [.lit (.string s)] ∧ s.size ≤ maxLen
        | some (.slice e) => ∃ l, xs = [.sl (P.cellsOf e) l] ∧ l.length ≤ maxLen ∧ ∀ r ∈ l, Ty P 11 e r
        | some (.struct fs) => TyFs (Ty P 11) (fs.toList.map (·.type)) xs
        | some (.array m' e) => TyFs (Ty P 11) (List.replicate m' e) xs
        | _ => False) := h2
      unfold aggOf at ha
      split at h2
      · obtain ⟨b, rfl⟩ := h2; exact ⟨_, rfl⟩
      · obtain ⟨b, rfl, _⟩ := h2; exact ⟨_, rfl⟩
      · obtain ⟨b, rfl, _⟩ := h2; exact ⟨_, rfl⟩
      · obtain ⟨b, rfl, _⟩ := h2; exact ⟨_, rfl⟩
      · rename_i e; rw [e] at ha; cases ha
      · rename_i e; rw [e] at ha; cases ha
      · exact h2.elim
    obtain ⟨x, rfl⟩ := hc
    have hv1 : v.cells = #[v] := by
      have h1 := h1.1
      unfold aggOf at ha
      unfold Value.okWide at hv
      cases v with
      | agg cs =>
        exfalso
        split at hv
        · rename_i e; rw [e] at ha; cases ha
        · rename_i e; rw [e] at ha; cases ha
        · unfold Cell.okWide at hv
          split at hv <;> simp_all [Cell.ok]
      | _ => rfl
    rw [hv1] at h1
    exact ⟨x, h1.2 0 v x rfl rfl, h2⟩
theorem trodAll_tys (hl : laidOutB P = true) : ∀ (ts : List TypeId) (vs : List Value) (ds : List (DataW H)) (ps : List MemPlace), (∀ t ∈ ts, t < P.types.size ∧ plainT P 12 t = true) → (∀ (j : Nat) t v, ts[j]? = some t → vs[j]? = some v → ∃ r b, Value.okWide P w r b t v) →
    DataW.TrodAll enc P w base spare held ts vs ds ps → ∃ xs, RepL w vs xs ∧ TysV P ts xs ∧ ds.length = ts.length
  | [], [], [], _, _, _, _ => ⟨[], RepL.nil w, rfl, rfl⟩
  | t :: ts, v :: vs, d :: ds, ps, hp, hv, ⟨p, q, h1, h2, _⟩ => by
    obtain ⟨r, b, hv0⟩ := hv 0 t v rfl rfl
    obtain ⟨x, a1, a2⟩ := trod_tyV hl (hp t (by simp)).1 (hp t (by simp)).2 hv0 h1
    obtain ⟨xs, b1, b2, b3⟩ := trodAll_tys hl ts vs ds q (fun t ht => hp t (by simp [ht])) (fun j t v h h' => hv (j + 1) t v (by simpa using h) (by simpa using h')) h2
    exact ⟨x :: xs, (RepL.one a1).app b1, ⟨x, xs, rfl, a2, b2⟩, by simp [b3]⟩
  | [], _ :: _, _, _, _, _, h => by simp [DataW.TrodAll] at h
  | [], [], _ :: _, _, _, _, h => by simp [DataW.TrodAll] at h
  | _ :: _, [], _, _, _, _, h => by simp [DataW.TrodAll] at h
  | _ :: _, _ :: _, [], _, _, _, h => by simp [DataW.TrodAll] at h
theorem trodAll_stays (hl : laidOutB P = true) {W W' : World} {sp' : Nat → Bool} (hsame : ∀ b, b < W.heap.size → W'.heap[b]? = W.heap[b]?) : ∀ (ts : List TypeId) (vs : List Value) (ds : List (DataW H)) (ps : List MemPlace), (∀ t ∈ ts, t < P.types.size ∧ P.readableRec t = true) →
    DataW.TrodAll enc P W 0 (fun _ => true) true ts vs ds ps → (∀ x ∈ ps, x.block < W.heap.size) → (∀ x ∈ ps, sp' x.block = true) → DataW.TrodAll enc P W' 0 sp' true ts vs ds ps
  | [], [], [], _, _, h, _, _ => h
  | t :: ts, v :: vs, d :: ds, ps, hp, ⟨p, q, h1, h2, e⟩, hlt, hs => by
    subst e
    refine ⟨p, q, WideElems.Trod_stays hl (hp t (by simp)).2 (hp t (by simp)).1 h1 (fun x hx => ?_) (fun x hx => hs x (by simp [hx])), trodAll_stays hl hsame ts vs ds q (fun t ht => hp t (by simp [ht])) h2 (fun x hx => hlt x (by simp [hx])) (fun x hx => hs x (by simp [hx])), rfl⟩
    have hb := hlt x (by simp [hx])
    cases x with
    | cell b o => exact World.cell?_of_block (w := W) (hsame b hb)
    | map b => exact hsame b hb
  | [], _ :: _, _, _, _, h, _, _ => by simp [DataW.TrodAll] at h
  | [], [], _ :: _, _, _, h, _, _ => by simp [DataW.TrodAll] at h
  | _ :: _, [], _, _, _, h, _, _ => by simp [DataW.TrodAll] at h
  | _ :: _, _ :: _, [], _, _, h, _, _ => by simp [DataW.TrodAll] at h

end

/- opening -/
section
variable {P : Program} {n : Nat} {t : TypeId} {xs : List V}
theorem ty_bool (hu : P.underlying t = some .bool) (h : Ty P (n + 1) t xs) : ∃ b, xs = [bV b] := by
  have h : (match P.underlying t with
      | some .bool => ∃ b, xs = [bV b]
      | some (.int k) => ∃ z, xs = [.lit (.int k z)] ∧ k.min ≤ z ∧ z ≤ k.max
      | some .string => ∃ s, xs = [.lit (.string s)] ∧ s.size ≤ maxLen
      | some (.slice e) => ∃ l, xs = [.sl (P.cellsOf e) l] ∧ l.length ≤ maxLen ∧ ∀ r ∈ l, Ty P n e r
      | some (.struct fs) => TyFs (Ty P n) (fs.toList.map (·.type)) xs
      | some (.array m' e) => TyFs (Ty P n) (List.replicate m' e) xs
      | _ => False) := h
  rw [hu] at h; exact h
theorem ty_int {k : IntKind} (hu : P.underlying t = some (.int k)) (h : Ty P (n + 1) t xs) : ∃ z, xs = [.lit (.int k z)] ∧ k.min ≤ z ∧ z ≤ k.max := by
  have h : (match P.underlying t with
      | some .bool => ∃ b, xs = [bV b]
      | some (.int k) => ∃ z, xs = [.lit (.int k z)] ∧ k.min ≤ z ∧ z ≤ k.max
      | some .string => ∃ s, xs = [.lit (.string s)] ∧ s.size ≤ maxLen
      | some (.slice e) => ∃ l, xs = [.sl (P.cellsOf e) l] ∧ l.length ≤ maxLen ∧ ∀ r ∈ l, Ty P n e r
      | some (.struct fs) => TyFs (Ty P n) (fs.toList.map (·.type)) xs
      | some (.array m' e) => TyFs (Ty P n) (List.replicate m' e) xs
      | _ => False) := h
  rw [hu] at h; exact h
theorem ty_str (hu : P.underlying t = some .string) (h : Ty P (n + 1) t xs) : ∃ s, xs = [.lit (.string s)] ∧ s.size ≤ maxLen := by
  have h : (match P.underlying t with
      | some .bool => ∃ b, xs = [bV b]
      | some (.int k) => ∃ z, xs = [.lit (.int k z)] ∧ k.min ≤ z ∧ z ≤ k.max
      | some .string => ∃ s, xs = [.lit (.string s)] ∧ s.size ≤ maxLen
      | some (.slice e) => ∃ l, xs = [.sl (P.cellsOf e) l] ∧ l.length ≤ maxLen ∧ ∀ r ∈ l, Ty P n e r
      | some (.struct fs) => TyFs (Ty P n) (fs.toList.map (·.type)) xs
      | some (.array m' e) => TyFs (Ty P n) (List.replicate m' e) xs
      | _ => False) := h
  rw [hu] at h; exact h
theorem ty_slice {e : TypeId} (hu : P.underlying t = some (.slice e)) (h : Ty P (n + 1) t xs) : ∃ l, xs = [.sl (P.cellsOf e) l] ∧ l.length ≤ maxLen ∧ ∀ r ∈ l, Ty P n e r := by
  have h : (match P.underlying t with
      | some .bool => ∃ b, xs = [bV b]
      | some (.int k) => ∃ z, xs = [.lit (.int k z)] ∧ k.min ≤ z ∧ z ≤ k.max
      | some .string => ∃ s, xs = [.lit (.string s)] ∧ s.size ≤ maxLen
      | some (.slice e) => ∃ l, xs = [.sl (P.cellsOf e) l] ∧ l.length ≤ maxLen ∧ ∀ r ∈ l, Ty P n e r
      | some (.struct fs) => TyFs (Ty P n) (fs.toList.map (·.type)) xs
      | some (.array m' e) => TyFs (Ty P n) (List.replicate m' e) xs
      | _ => False) := h
  rw [hu] at h; exact h
theorem ty_struct {fs : Array Field} (hu : P.underlying t = some (.struct fs)) (h : Ty P (n + 1) t xs) : TyFs (Ty P n) (fs.toList.map (·.type)) xs := by
  have h : (match P.underlying t with
      | some .bool => ∃ b, xs = [bV b]
      | some (.int k) => ∃ z, xs = [.lit (.int k z)] ∧ k.min ≤ z ∧ z ≤ k.max
      | some .string => ∃ s, xs = [.lit (.string s)] ∧ s.size ≤ maxLen
      | some (.slice e) => ∃ l, xs = [.sl (P.cellsOf e) l] ∧ l.length ≤ maxLen ∧ ∀ r ∈ l, Ty P n e r
      | some (.struct fs) => TyFs (Ty P n) (fs.toList.map (·.type)) xs
      | some (.array m' e) => TyFs (Ty P n) (List.replicate m' e) xs
      | _ => False) := h
  rw [hu] at h; exact h
theorem ty_arr {m : Nat} {e : TypeId} (hu : P.underlying t = some (.array m e)) (h : Ty P (n + 1) t xs) : TyFs (Ty P n) (List.replicate m e) xs := by
  have h : (match P.underlying t with
      | some .bool => ∃ b, xs = [bV b]
      | some (.int k) => ∃ z, xs = [.lit (.int k z)] ∧ k.min ≤ z ∧ z ≤ k.max
      | some .string => ∃ s, xs = [.lit (.string s)] ∧ s.size ≤ maxLen
      | some (.slice e) => ∃ l, xs = [.sl (P.cellsOf e) l] ∧ l.length ≤ maxLen ∧ ∀ r ∈ l, Ty P n e r
      | some (.struct fs) => TyFs (Ty P n) (fs.toList.map (·.type)) xs
      | some (.array m' e) => TyFs (Ty P n) (List.replicate m' e) xs
      | _ => False) := h
  rw [hu] at h; exact h
theorem tyFs_cons {f : TypeId → List V → Prop} {ts : List TypeId} (h : TyFs f (t :: ts) xs) : ∃ p q, xs = p ++ q ∧ f t p ∧ TyFs f ts q := h
theorem tyFs_nil {f : TypeId → List V → Prop} (h : TyFs f [] xs) : xs = [] := h
theorem tyV_agg {x : V} (ha : aggOf P t = true) (h : TyV P t x) : ∃ xs, x = .agg xs ∧ Ty P 12 t xs := by
  unfold TyV at h; rw [ha] at h; exact h
theorem tyV_one {x : V} (ha : aggOf P t = false) (h : TyV P t x) : Ty P 12 t [x] := by
  unfold TyV at h; rw [ha] at h; exact h
theorem tysV_cons {ts : List TypeId} (h : TysV P (t :: ts) xs) : ∃ x ys, xs = x :: ys ∧ TyV P t x ∧ TysV P ts ys := h
theorem tysV_nil (h : TysV P [] xs) : xs = [] := h
theorem sl_inj {sz sz' : Nat} {l : List (List V)} {x : V} (h : [x] = [V.sl sz l]) : x = .sl sz l := by cases h; rfl
end

theorem own : ownKnob Try.prog.godebug = none := by kernel_rfl
theorem laidOut : laidOutB Try.prog = true := by kernel_rfl
/-- the call of a law, out of what is shown of its values -/
theorem law_calls {H : Type} {enc : TypeId × Value → H} {spec : ChangeSpec} {k : Nat} {fn : Func} {tb : TypeId} {W : World} {base : Nat} {args : Array Value} {ds gs : List (DataW H)} {before : List MemPlace} (hv : spec.vars = []) (hfn : ∀ ds : List (DataW H), ds.length = fn.params.toList.length → spec.fn H ds = { results := [.lit (.bool true)], args := ds })
    (hrt : fn.resultTypes = #[tb]) (htb : Try.prog.underlying tb = some .bool) (hts : (fn.params.toList.all fun t => decide (t < Try.prog.types.size) && plainT Try.prog 12 t && Try.prog.readableRec t) = true)
    (hlaw : ∀ xs, TysV Try.prog fn.params.toList xs → FnC Try.prog k xs [] (bV true) [])
    (hval : ∀ (j : Nat) t v, fn.params[j]? = some t → args[j]? = some v → Value.okWide Try.prog W .any base t v) (hW : DataW.Whole enc Try.prog fn.params.toList spec.vars false W args.toList ds gs before) :
    Calls Try.prog k args W fun e W' => ∃ v, e = .returned v ∧ spec.post enc Try.prog fn false true false false W args v W' := by
  have hW' := hW
  obtain ⟨p, q, hA, hV, hb, hfz, hnd⟩ := hW
  rw [hv] at hV
  obtain ⟨rfl, rfl⟩ : gs = [] ∧ q = [] := by
    cases gs with
    | nil => exact ⟨rfl, hV⟩
    | cons g gs => exact hV.elim
  have hall : ∀ t ∈ fn.params.toList, t < Try.prog.types.size ∧ plainT Try.prog 12 t = true ∧ Try.prog.readableRec t = true := fun t ht => by
    have := List.all_eq_true.1 hts t ht
    simp only [Bool.and_eq_true, decide_eq_true_eq] at this
    exact ⟨this.1.1, this.1.2, this.2⟩
  obtain ⟨xs, h1, h2, h3⟩ := trodAll_tys laidOut _ _ _ _ (fun t ht => ⟨(hall t ht).1, (hall t ht).2.1⟩) (fun j t v a b => ⟨_, _, hval j t v (by simpa using a) (by simpa using b)⟩) hA
  refine ((hlaw xs h2).fn (AllS W) noK W args (by simpa using h1.1) (fun i u x a b => h1.2 i u x (by simpa using a) b) (Sim.empty fun b h => h) (fun k h => by simp [keysOf] at h) (fun _ _ => rfl)).mono fun e W' h => ?_
  obtain ⟨v, S', ρ', rfl, q1, q2, q3⟩ := h
  obtain rfl := q1.lit_inv
  have hsame : ∀ b, b < W.heap.size → W'.heap[b]? = W.heap[b]? := fun b hb => q3.block b hb (fun ⟨k, o, h, _⟩ => by cases h)
  have hbel : Below W.heap.size W W' := ⟨q3.os, q3.tape, q3.output, q3.size, hsame⟩
  have hlt : ∀ x ∈ before, x.block < W.heap.size := fun x hx => by simpa using hW'.lt x hx
  have hfn' : spec.fn H (ds ++ []) = { results := [.lit (.bool true)], args := ds } := by rw [List.append_nil]; exact hfn ds h3
  have hb' : before = p := by simpa using hb
  have hargs : ∀ sp : Nat → Bool, (∀ x ∈ before, sp x.block = true) → DataW.TrodAll enc Try.prog W' 0 sp true fn.params.toList args.toList (spec.fn H (ds ++ [])).args p := fun sp hsp => by
    rw [hfn']
    exact trodAll_stays laidOut hsame _ _ _ _ (fun t ht => ⟨(hall t ht).1, (hall t ht).2.2⟩) hA (fun x hx => hlt x (by rw [hb]; simp [hx])) (fun x hx => hsp x (by rw [hb]; simp [hx]))
  have hres : ∀ (b : Nat) (sp : Nat → Bool) (hd : Bool), DataW.TrodAll enc Try.prog W' b sp hd fn.resultTypes.toList ((Value.bool true).resultList fn.resultTypes.size) (spec.fn H (ds ++ [])).results [] := fun b sp hd => by
    rw [hfn', hrt]
    exact trodAll_mk1 (shut_bool htb _)
  have hvars : ∀ sp : Nat → Bool, DataW.TrodVars enc Try.prog W' sp spec.vars (spec.fn H (ds ++ [])).vars [] := fun sp => by rw [hfn', hv]; rfl
  have hold : ∀ x ∈ before, (fun b => decide (b < W.heap.size)) x.block = true := fun x hx => by simpa using hlt x hx
  refine ⟨_, rfl, ds, [], before, [], p, [], hW', hres _ _ _, hargs _ hold, hvars _, ?_, fun _ => ?_⟩
  · exact hbel.frame _
  · refine ⟨ok_one hrt rfl (okWide_bool_mk htb _), _, _, ([] ++ p) ++ [], ⟨[] ++ p, [], trodAll_append (hargs _ (fun _ _ => rfl)) (hres _ _ _), hvars _, rfl, ?_, fun ha => ?_⟩, ?_⟩
    · intro b off hp
      have hp : MemPlace.cell b off ∈ before := by rw [hb']; simpa using hp
      have : b < W.heap.size := hlt _ hp
      simp only [World.frozen?, hsame b this]
      exact hfz b off hp
    · cases ha
    · intro x hx _
      simpa [hb'] using hx
end Go.Proofs.Ytbieiehfohldjaa
namespace Go.Proofs.Ytbieiehfohldjaa
open Go Go.ChangeShapes Go.WideShapes Go.ChangeAt Go.RowKit
set_option linter.unusedVariables false
set_option linter.unusedSimpArgs false
set_option maxRecDepth 100000

theorem bnd_i64 {z : Int} (h1 : IntKind.i64.min ≤ z) (h2 : z ≤ IntKind.i64.max) : -9223372036854775808 ≤ z ∧ z ≤ 9223372036854775807 := by simp [IntKind.min, IntKind.max, IntKind.signed, IntKind.bits] at h1 h2; omega
theorem bnd_u64 {z : Int} (h1 : IntKind.u64.min ≤ z) (h2 : z ≤ IntKind.u64.max) : 0 ≤ z ∧ z ≤ 18446744073709551615 := by simp [IntKind.min, IntKind.max, IntKind.signed, IntKind.bits] at h1 h2; omega
theorem bnd_u32 {z : Int} (h1 : IntKind.u32.min ≤ z) (h2 : z ≤ IntKind.u32.max) : 0 ≤ z ∧ z ≤ 4294967295 := by simp [IntKind.min, IntKind.max, IntKind.signed, IntKind.bits] at h1 h2; omega
theorem bnd_u16 {z : Int} (h1 : IntKind.u16.min ≤ z) (h2 : z ≤ IntKind.u16.max) : 0 ≤ z ∧ z ≤ 65535 := by simp [IntKind.min, IntKind.max, IntKind.signed, IntKind.bits] at h1 h2; omega
theorem bnd_u8 {z : Int} (h1 : IntKind.u8.min ≤ z) (h2 : z ≤ IntKind.u8.max) : 0 ≤ z ∧ z ≤ 255 := by simp [IntKind.min, IntKind.max, IntKind.signed, IntKind.bits] at h1 h2; omega
theorem list_pick {α β : Type} {f : β → α} {p : β → Prop} : ∀ (l : List α), (∀ r ∈ l, ∃ y, r = f y ∧ p y) → ∃ ys : List β, l = ys.map f ∧ ∀ y ∈ ys, p y
  | [], _ => ⟨[], rfl, fun y h => by cases h⟩
  | r :: l, h => by
    obtain ⟨y, rfl, hy⟩ := h r (by simp)
    obtain ⟨ys, rfl, hs⟩ := list_pick l fun r hr => h r (by simp [hr])
    exact ⟨y :: ys, rfl, fun z hz => by rcases List.mem_cons.1 hz with rfl | hz; exact hy; exact hs z hz⟩
theorem open_list {P : Program} {n : Nat} {t e : TypeId} {sz : Nat} {xs : List V} {β : Type} {f : β → List V} {wf : β → Prop} (hz : P.cellsOf e = sz) (hu : P.underlying t = some (.slice e)) (he : ∀ r, Ty P n e r → ∃ y, r = f y ∧ wf y) (h : Ty P (n + 1) t xs) : ∃ l : List β, xs = [.sl sz (l.map f)] ∧ l.length ≤ maxLen ∧ ∀ y ∈ l, wf y := by
  obtain ⟨l, rfl, h1, h2⟩ := ty_slice hu h
  obtain ⟨ys, rfl, h3⟩ := list_pick l fun r hr => he r (h2 r hr)
  exact ⟨ys, by rw [hz], by simpa using h1, h3⟩
theorem open_bytes {P : Program} {n : Nat} {t e : TypeId} {xs : List V} (hz : P.cellsOf e = 1) (hu : P.underlying t = some (.slice e)) (he : P.underlying e = some (.int .u8)) (h : Ty P (n + 2) t xs) : ∃ l : BS, xs = [bsV l] ∧ l.length ≤ maxLen := by
  obtain ⟨l, rfl, h1, h2⟩ := open_list (f := fun c : UInt8 => [u8V c]) (wf := fun _ => True) hz hu (fun r hr => by
    obtain ⟨z, rfl, a, b⟩ := ty_int he hr
    obtain ⟨a, b⟩ := bnd_u8 a b
    refine ⟨UInt8.ofNat z.toNat, ?_, trivial⟩
    simp only [u8V, UInt8.toNat_ofNat', List.cons.injEq, V.lit.injEq, Value.int.injEq, true_and, and_true]
    omega) h
  exact ⟨l, rfl, h1⟩
theorem tyFs_bytes {P : Program} {n : Nat} {e : TypeId} (he : P.underlying e = some (.int .u8)) : ∀ (k : Nat) (xs : List V), TyFs (Ty P (n + 1)) (List.replicate k e) xs → ∃ l : BS, l.length = k ∧ xs = l.map u8V
  | 0, xs, h => ⟨[], rfl, tyFs_nil h⟩
  | k + 1, xs, h => by
    obtain ⟨p, q, rfl, h1, h2⟩ := tyFs_cons h
    obtain ⟨l, hl, rfl⟩ := tyFs_bytes he k q h2
    obtain ⟨z, rfl, a, b⟩ := ty_int he h1
    obtain ⟨a, b⟩ := bnd_u8 a b
    refine ⟨UInt8.ofNat z.toNat :: l, by simp [hl], ?_⟩
    simp only [u8V, List.map_cons, UInt8.toNat_ofNat', List.cons_append, List.nil_append, List.cons.injEq, V.lit.injEq, Value.int.injEq, true_and, and_true]
    omega
theorem open_blk {P : Program} {n : Nat} {t e : TypeId} {xs : List V} (hu : P.underlying t = some (.array 64 e)) (he : P.underlying e = some (.int .u8)) (h : Ty P (n + 2) t xs) : ∃ x : Blk, xs = x.row := by
  obtain ⟨l, hl, rfl⟩ := tyFs_bytes he 64 xs (ty_arr hu h)
  exact ⟨Blk.of l, blk_pick hl⟩
theorem open_blks {P : Program} {n : Nat} {t e ee : TypeId} {xs : List V} (hz : P.cellsOf e = 64) (hu : P.underlying t = some (.slice e)) (he : P.underlying e = some (.array 64 ee)) (hee : P.underlying ee = some (.int .u8)) (h : Ty P (n + 3) t xs) : ∃ l : List Blk, xs = [.sl 64 (l.map Blk.row)] ∧ l.length ≤ maxLen := by
  obtain ⟨l, rfl, h1, _⟩ := open_list (f := Blk.row) (wf := fun _ => True) hz hu (fun r hr => by
    obtain ⟨x, rfl⟩ := open_blk he hee hr
    exact ⟨x, rfl, trivial⟩) h
  exact ⟨l, rfl, h1⟩
end Go.Proofs.Ytbieiehfohldjaa
