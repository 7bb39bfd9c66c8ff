/-
  The value-level machine: operations in any order that their edges allow.
-/
import Derived.Test.YtgaginflocpcfaaAbsL
namespace Go.Proofs.Ytgaginflocpcfaa
open Go
set_option linter.unusedVariables false
set_option linter.unusedSimpArgs false

theorem LOk.congr {P : Program} {ov ov' : Operand → V} {o : Oper} {rd pre post : HL} {v : V} (h : LOk P ov o rd pre post v) (he : ∀ x ∈ o.op.operands.toList, ov' x = ov x) : LOk P ov' o rd pre post v :=
  fun S ρ w a hx => h S ρ w a (fun x hm => by rw [← he x hm]; exact hx x hm)

theorem hAt_flip {H : Hp} {rs : List OpR} {L L' : Nat → Bool} {j k : Nat} {r : OpR} (hr : rs[j]? = some r) (hk : k ∉ r.wk) (he : ∀ i, i ≠ j → L' i = L i) : ∀ m, hAt H rs L' m k = hAt H rs L m k
  | 0 => rfl
  | m + 1 => by
    have ih := hAt_flip hr hk he m (H := H)
    rw [hAt_succ, hAt_succ]
    cases hm : rs[m]? with
    | none => exact ih
    | some s =>
      simp only
      by_cases e : m = j
      · subst e
        rw [hr] at hm
        cases hm
        rw [if_neg (fun h => hk h.2), if_neg (fun h => hk h.2)]
        exact ih
      · rw [he m e]
        split
        · rename_i h; exact act_in h.2 _ _ ih
        · exact ih
theorem eAt_flip {E : Nat → V} {ops : List Oper} {rs : List OpR} {L L' : Nat → Bool} {j t : Nat} {o : Oper} (ho : ops[j]? = some o) (hk : o.dst ≠ some t) (he : ∀ i, i ≠ j → L' i = L i) : ∀ m, eAt E ops rs L' m t = eAt E ops rs L m t
  | 0 => rfl
  | m + 1 => by
    have ih := eAt_flip (rs := rs) ho hk he m (E := E)
    rw [eAt_succ, eAt_succ]
    cases hm : rs[m]? with
    | none => exact ih
    | some s =>
      cases hom : ops[m]? with
      | none => exact ih
      | some om =>
        simp only
        by_cases e : m = j
        · subst e
          rw [ho] at hom
          cases hom
          rw [if_neg (fun h => hk h.2), if_neg (fun h => hk h.2)]
          exact ih
        · rw [he m e]
          split
          · rfl
          · exact ih

section
variable {P : Program} {N : Nat} {ops : Array Oper} {rs : List OpR} {st st' : St} {f : Nat → St}

/-- what a chain gives -/
structure Can (P : Program) (N : Nat) (ops : Array Oper) (rs : List OpR) (st st' : St) (f : Nat → St) : Prop where
  len : rs.length = ops.size
  zero : f 0 = st
  last : f ops.size = st'
  step : ∀ m o, ops[m]? = some o → ∃ r, rs[m]? = some r ∧ AStep P N ops o (f m) r (f (m + 1))
  env : ∀ m, m ≤ ops.size → (f m).env = eAt st.env ops.toList rs (fun _ => true) m
  heap : ∀ m, m ≤ ops.size → (f m).H = hAt st.H rs (fun _ => true) m
  nx : ∀ m m', m ≤ m' → m' ≤ ops.size → (f m).nx ≤ (f m').nx

theorem can_of (h : Chain P N ops ops.toList st rs st') : ∃ f, Can P N ops rs st st' f := by
  obtain ⟨h1, f, h2, h3, h4, h5, h6⟩ := chain_at h
  exact ⟨f, ⟨by simpa using h1, h2, by simpa using h3, fun m o ho => h4 m o (by simpa using ho), fun m hm => (h5 m (by simpa using hm)).1, fun m hm => (h5 m (by simpa using hm)).2, fun m m' a b => h6 m m' a (by simpa using b)⟩⟩

theorem Can.post_lt (h : Can P N ops rs st st' f) {i : Nat} {r : OpR} (hr : rs[i]? = some r) {k : Nat} (hk : k ∈ keysOf r.post) : k < (f (i + 1)).nx := by
  have hi : i < ops.size := by rw [← h.len]; exact (List.getElem?_eq_some_iff.1 hr).1
  obtain ⟨r', hr', hs⟩ := h.step i _ (Array.getElem?_eq_getElem hi)
  rw [hr] at hr'
  cases hr'
  rcases hs.run.2 with ⟨_, _, _, _, _, h5⟩ | ⟨_, h5⟩
  · exact h5 k hk
  · rw [h5] at hk; simp [keysOf] at hk

theorem pairs_of {bs : List Nat} (h : pairsOk ops rs bs = true) {i j : Nat} (hij : i < j) {x y : Oper} {r s : OpR} (hx : ops[i]? = some x) (hy : ops[j]? = some y) (hr : rs[i]? = some r) (hs : rs[j]? = some s) :
    (bs.getD j 0).testBit i = true ∨ (clashS ops x y = false ∧ clashK r s = false) := by
  unfold pairsOk at h
  rw [List.all_eq_true] at h
  have := h j (by simpa using (List.getElem?_eq_some_iff.1 hs).1)
  rw [List.all_eq_true] at this
  have := this i (by simpa using hij)
  rw [hx, hy, hr, hs] at this
  simp only [Bool.or_eq_true, Bool.not_eq_true', Bool.or_eq_false_iff] at this
  exact this

/-- the invariant: those in L are done -/
structure DInv (N : Nat) (ops : Array Oper) (rs : List OpR) (st : St) (S0 : Nat → Prop) (ρ0 : KM) (w0 : World) (L : Nat → Bool) (S : Nat → Prop) (ρ : KM) (a : Act) (w : World) : Prop where
  sim : Sim S ρ w (hAt st.H rs L ops.size)
  slots : SRep S ρ w a (eAt st.env ops.toList rs L ops.size)
  size : a.tmps.size = N
  defers : a.defers = []
  ext : Ext0 S0 ρ0 w0 st.H S ρ w (hAt st.H rs L ops.size)
  dom : ∀ k, ρ k ≠ none → ρ0 k ≠ none ∨ ∃ i r, L i = true ∧ rs[i]? = some r ∧ k ∈ keysOf r.post
  closed : ∀ j o, ops[j]? = some o → L j = true → ∀ e ∈ o.after, Region.binds .any e = true → L e.on = true

def setL (L : Nat → Bool) (j : Nat) : Nat → Bool := fun i => if i = j then true else L i

theorem clash_l {r s : OpR} (hi : r.ins = none) {k : Nat} (h : (k ∈ r.wk ∧ k ∈ s.tk) ∨ (k ∈ s.wk ∧ k ∈ r.tk)) : clashK r s = true := by
  simp only [clashK, hi, Option.isSome_none, Bool.false_and, Bool.not_false, Bool.true_and, Bool.or_eq_true, List.any_eq_true, List.contains_iff_mem]
  rcases h with ⟨h1, h2⟩ | ⟨h1, h2⟩
  · exact .inl ⟨k, h1, h2⟩
  · exact .inr ⟨k, h1, h2⟩
theorem clash_r {r s : OpR} (hi : r.ins = none) {k : Nat} (h : (k ∈ r.wk ∧ k ∈ s.tk) ∨ (k ∈ s.wk ∧ k ∈ r.tk)) : clashK s r = true := by
  simp only [clashK, hi, Option.isSome_none, Bool.and_false, Bool.not_false, Bool.true_and, Bool.or_eq_true, List.any_eq_true, List.contains_iff_mem]
  rcases h with ⟨h1, h2⟩ | ⟨h1, h2⟩
  · exact .inr ⟨k, h1, h2⟩
  · exact .inl ⟨k, h1, h2⟩
theorem tk_wk {r : OpR} {k : Nat} (h : k ∈ r.wk) : k ∈ r.tk := by simp only [OpR.tk, List.mem_append]; exact .inr h
theorem act_none_in {r : OpR} (hi : r.ins = none) {k : Nat} (h : k ∈ r.wk) (A B : Hp) : r.act A k = r.act B k := by
  rw [wk_none hi] at h
  unfold OpR.act
  rw [hi]
  simp only [add_apply, del_apply]
  cases h1 : hpo r.post k with
  | some o => rfl
  | none =>
    cases h2 : hpo r.pre k with
    | some o => rfl
    | none =>
      simp only [List.mem_append] at h
      rcases h with h | h
      · exact absurd h2 (mem_keys.2 h)
      · exact absurd h1 (mem_keys.2 h)
theorem wk_ins {r : OpR} {k k' : Nat} {e : List V} (hi : r.ins = some (k', e)) : k ∈ r.wk ↔ k = k' := by
  unfold OpR.wk
  rw [hi]
  simp
theorem act_some {r : OpR} {k : Nat} {e : List V} (hi : r.ins = some (k, e)) (A : Hp) : r.act A k = mpAdd e (A k) := by
  unfold OpR.act
  rw [hi]
  exact upd_same _ _ _
theorem hAt_congr {H : Hp} {rs : List OpR} {L L' : Nat → Bool} : ∀ (m : Nat), (∀ i, i < m → L i = L' i) → hAt H rs L m = hAt H rs L' m
  | 0, _ => rfl
  | m + 1, h => by
    have ih := hAt_congr (H := H) (rs := rs) m fun i hi => h i (by omega)
    simp only [hAt, ih, h m (by omega)]
theorem mpO_tail (X : List (List V)) : (mpO X).rows.tail = X := rfl
/-- a map's entries, by those that are done -/
theorem ins_heap (hc : Can P N ops rs st st' f) (hok : drawOk ops rs = true) {L : Nat → Bool} (hcl : ∀ j o, ops[j]? = some o → L j = true → ∀ e ∈ o.after, Region.binds .any e = true → L e.on = true)
    {j : Nat} {o : Oper} (ho : ops[j]? = some o) (hL : L j = false) (hready : ∀ e ∈ o.after, Region.binds .any e = true → L e.on = true) {r : OpR} (hr : rs[j]? = some r) {k : Nat} {kc : List V} {y : V} {ents : List (List V)} (hi : r.ins = some (k, [.agg kc, y]))
    (hst : AStep P N ops o (f j) r (f (j + 1))) (hk0 : (f j).H k = some (mpO ents)) (hap : ∀ r ∈ ents, KeyAp kc r) :
    ∃ X Y, hAt st.H rs L ops.size k = some (mpO X) ∧ (∀ r ∈ X, KeyAp kc r) ∧ hAt st.H rs (setL L j) ops.size k = some (mpO Y) ∧ (X ++ [[.agg kc, y]]).Perm Y := by
  have hj : j < ops.size := (Array.getElem?_eq_some_iff.1 ho).1
  simp only [drawOk, Bool.and_eq_true] at hok
  obtain ⟨hed, hpr⟩ := hok
  have rat : ∀ i, i < ops.size → ∃ x s, ops[i]? = some x ∧ rs[i]? = some s ∧ AStep P N ops x (f i) s (f (i + 1)) := fun i h => by
    obtain ⟨s, hs, ha⟩ := hc.step i _ (Array.getElem?_eq_getElem h)
    exact ⟨_, s, Array.getElem?_eq_getElem h, hs, ha⟩
  have hkr : k ∈ r.wk := (wk_ins hi).2 rfl
  have ahead : ∀ i s, i < j → rs[i]? = some s → s.ins = none → k ∈ s.wk → L i = true := fun i s hij hs hn hk => by
    obtain ⟨x, s', hx, hs', _⟩ := rat i (by omega)
    rw [hs] at hs'; cases hs'
    rcases pairs_of hpr hij hx ho hs hr with h | ⟨_, h2⟩
    · exact befs_closed hcl hed j o ho hready i h
    · rw [clash_l hn (.inl ⟨hk, tk_wk hkr⟩)] at h2; cases h2
  have behind : ∀ i s, j < i → i < ops.size → rs[i]? = some s → s.ins = none → k ∈ s.wk → L i = false := fun i s hij hi' hs hn hk => by
    obtain ⟨x, s', hx, hs', _⟩ := rat i hi'
    rw [hs] at hs'; cases hs'
    cases hLi : L i with
    | false => rfl
    | true =>
      rcases pairs_of hpr hij ho hx hr hs with h | ⟨_, h2⟩
      · have := befs_closed hcl hed i x hx (fun e he hb => hcl i x hx hLi e he hb) j h
        rw [hL] at this; cases this
      · rw [clash_r hn (.inl ⟨hk, tk_wk hkr⟩)] at h2; cases h2
  -- below j
  have low : ∀ m, m ≤ j → (hAt st.H rs (fun _ => true) m k = none ∧ hAt st.H rs L m k = none) ∨ ∃ o o', hAt st.H rs (fun _ => true) m k = some o ∧ hAt st.H rs L m k = some o' ∧ (∀ r ∈ o'.rows.tail, r ∈ o.rows.tail) ∧ (o' = o ∨ ∃ X, o' = mpO X) := by
    intro m
    induction m with
    | zero =>
      intro _
      cases h : st.H k with
      | none => exact .inl ⟨h, h⟩
      | some o => exact .inr ⟨o, o, h, h, fun _ h => h, .inl rfl⟩
    | succ m ih =>
      intro hm
      have ih := ih (by omega)
      obtain ⟨x, s, hx, hs, ha⟩ := rat m (by omega)
      rw [hAt_succ, hAt_succ, hs]
      simp only [true_and]
      by_cases hk : k ∈ s.wk
      · rw [if_pos hk]
        cases hn : s.ins with
        | none =>
          rw [if_pos ⟨ahead m s (by omega) hs hn hk, hk⟩, act_none_in hn hk (hAt st.H rs L m) (hAt st.H rs (fun _ => true) m)]
          cases h : s.act (hAt st.H rs (fun _ => true) m) k with
          | none => exact .inl ⟨rfl, rfl⟩
          | some o => exact .inr ⟨o, o, rfl, rfl, fun _ h => h, .inl rfl⟩
        | some p =>
          obtain ⟨k', e'⟩ := p
          obtain rfl := (wk_ins hn).1 hk
          have hm0 : ∃ E, hAt st.H rs (fun _ => true) m k = some (mpO E) := by
            rw [← hc.heap m (by omega)]
            rcases ha.on with ⟨h, _⟩ | ⟨_, rfl⟩ | ⟨_, k1, kc1, y1, E, rfl, h1, _⟩
            · rw [hn] at h; cases h
            · cases hn
            · cases hn; exact ⟨E, h1⟩
          obtain ⟨E, hE⟩ := hm0
          rcases ih with ⟨h1, _⟩ | ⟨o1, o2, h1, h2, h3, h4⟩
          · rw [hE] at h1; cases h1
          · rw [hE] at h1
            cases h1
            rw [act_some hn, hE]
            have hX : ∃ X, o2 = mpO X := by rcases h4 with h4 | h4; exact ⟨E, h4⟩; exact h4
            obtain ⟨X, rfl⟩ := hX
            refine .inr ⟨mpO (E ++ [e']), if L m = true then mpO (X ++ [e']) else mpO X, rfl, ?_, ?_, ?_⟩
            · by_cases hLm : L m = true
              · rw [if_pos ⟨hLm, hk⟩, if_pos hLm, act_some hn, h2]; rfl
              · rw [if_neg (fun h => hLm h.1), if_neg hLm, h2]
            · intro t ht
              simp only [mpO_tail] at h3
              by_cases hLm : L m = true
              · rw [if_pos hLm, mpO_tail] at ht
                rw [mpO_tail]
                rcases List.mem_append.1 ht with h | h
                · exact List.mem_append_left _ (h3 t h)
                · exact List.mem_append_right _ h
              · rw [if_neg hLm, mpO_tail] at ht
                rw [mpO_tail]
                exact List.mem_append_left _ (h3 t ht)
            · right
              by_cases hLm : L m = true
              · exact ⟨_, if_pos hLm⟩
              · exact ⟨_, if_neg hLm⟩
      · rw [if_neg hk, if_neg (fun h => hk h.2)]
        exact ih
  obtain ⟨X0, hX0, hX1⟩ : ∃ X0, hAt st.H rs L j k = some (mpO X0) ∧ ∀ r ∈ X0, r ∈ ents := by
    rcases low j (Nat.le_refl _) with ⟨h1, _⟩ | ⟨o1, o2, h1, h2, h3, h4⟩
    · rw [← hc.heap j (by omega), hk0] at h1; cases h1
    · rw [← hc.heap j (by omega), hk0] at h1
      cases h1
      rcases h4 with rfl | ⟨X, rfl⟩
      · exact ⟨ents, h2, fun _ h => h⟩
      · exact ⟨X, h2, fun t ht => h3 t ht⟩
  -- our entry stays where it is, in the order of the text
  have stays : ∀ m, j < m → m < ops.size → L m = true → (∃ s p, rs[m]? = some s ∧ s.ins = some p ∧ k ∈ s.wk) → ∀ d, j + 1 + d ≤ m → ∃ Z, (f (j + 1 + d)).H k = some (mpO Z) ∧ [.agg kc, y] ∈ Z := by
    intro m hjm hm hLm ⟨s, p, hs, hn, hk⟩ d
    induction d with
    | zero =>
      intro _
      refine ⟨ents ++ [[.agg kc, y]], ?_, by simp⟩
      rw [Nat.add_zero, hst.heap, act_some hi, hk0]
      rfl
    | succ d ih =>
      intro hd
      obtain ⟨Z, h1, h2⟩ := ih (by omega)
      obtain ⟨x, s1, hx, hs1, ha⟩ := rat (j + 1 + d) (by omega)
      rw [← Nat.add_assoc, ha.heap]
      by_cases hk1 : k ∈ s1.wk
      · cases hn1 : s1.ins with
        | none =>
          exfalso
          obtain ⟨xm, sm, hxm, hsm, _⟩ := rat m hm
          rw [hs] at hsm; cases hsm
          rcases pairs_of hpr (show j + 1 + d < m by omega) hx hxm hs1 hs with h | ⟨_, h⟩
          · have hLi := befs_closed hcl hed m xm hxm (fun e he hb => hcl m xm hxm hLm e he hb) _ h
            have := behind (j + 1 + d) s1 (by omega) (by omega) hs1 hn1 hk1
            rw [hLi] at this; cases this
          · rw [clash_l hn1 (.inl ⟨hk1, tk_wk hk⟩)] at h; cases h
        | some p1 =>
          obtain ⟨k', e'⟩ := p1
          obtain rfl := (wk_ins hn1).1 hk1
          rw [act_some hn1, h1]
          exact ⟨Z ++ [e'], rfl, List.mem_append_left _ h2⟩
      · rw [act_out hk1]
        exact ⟨Z, h1, h2⟩
  have high : ∀ d, j + 1 + d ≤ ops.size → ∃ X Y, hAt st.H rs L (j + 1 + d) k = some (mpO X) ∧ (∀ r ∈ X, KeyAp kc r) ∧ hAt st.H rs (setL L j) (j + 1 + d) k = some (mpO Y) ∧ (X ++ [[.agg kc, y]]).Perm Y := by
    intro d
    induction d with
    | zero =>
      intro _
      refine ⟨X0, X0 ++ [[.agg kc, y]], ?_, fun t ht => hap t (hX1 t ht), ?_, .refl _⟩
      · rw [Nat.add_zero, hAt_succ, hr]
        simp only [hL, Bool.false_eq_true, false_and, if_false]
        exact hX0
      · rw [Nat.add_zero, hAt_succ, hr]
        simp only [setL, if_true, true_and, hkr]
        rw [act_some hi, hAt_congr (L' := L) j (fun i hi => by simp [setL, Nat.ne_of_lt hi]), hX0]
        rfl
    | succ d ih =>
      intro hd
      obtain ⟨X, Y, h1, h2, h3, h4⟩ := ih (by omega)
      obtain ⟨x, s, hx, hs, ha⟩ := rat (j + 1 + d) (by omega)
      have hne : setL L j (j + 1 + d) = L (j + 1 + d) := by simp [setL]; omega
      rw [← Nat.add_assoc, hAt_succ, hAt_succ, hs]
      simp only [hne]
      by_cases hb : L (j + 1 + d) = true ∧ k ∈ s.wk
      · rw [if_pos hb, if_pos hb]
        cases hn : s.ins with
        | none =>
          have := behind (j + 1 + d) s (by omega) (by omega) hs hn hb.2
          rw [hb.1] at this; cases this
        | some p =>
          obtain ⟨k', e'⟩ := p
          obtain rfl := (wk_ins hn).1 hb.2
          rw [act_some hn, act_some hn, h1, h3]
          refine ⟨X ++ [e'], Y ++ [e'], rfl, fun t ht => ?_, rfl, ?_⟩
          · rcases List.mem_append.1 ht with ht | ht
            · exact h2 t ht
            · simp at ht
              subst ht
              obtain ⟨Z, g1, g2⟩ := stays (j + 1 + d) (by omega) (by omega) hb.1 ⟨s, _, hs, hn, hb.2⟩ d (Nat.le_refl _)
              rcases ha.on with ⟨h, _⟩ | ⟨_, rfl⟩ | ⟨_, k1, kc1, y1, E, rfl, q1, _, q2, _⟩
              · rw [hn] at h; cases h
              · cases hn
              · cases hn
                rw [g1] at q1
                have hZE : Z = E := by
                  have := congrArg (fun o : Option VObj => o.map (·.rows.tail)) q1
                  simpa [mpO_tail] using this
                subst hZE
                obtain ⟨sh, c, v, e1, e2⟩ := q2 _ g2
                simp only [List.cons.injEq, V.agg.injEq, and_true] at e1
                obtain ⟨rfl, rfl⟩ := e1
                exact ⟨sh, kc1, y1, rfl, by rw [eqCells_symm]; exact e2⟩
          · have p1 : ((X ++ [e']) ++ [[.agg kc, y]]).Perm ((X ++ [[.agg kc, y]]) ++ [e']) := by
              rw [List.append_assoc, List.append_assoc]
              exact List.Perm.append_left X (List.Perm.swap _ _ _)
            exact p1.trans (h4.append_right _)
      · rw [if_neg hb, if_neg hb]
        exact ⟨X, Y, h1, h2, h3, h4⟩
  obtain ⟨d, hd⟩ := Nat.le.dest (show j + 1 ≤ ops.size by omega)
  rw [← hd]
  exact high d (by omega)

theorem post_wk (hc : Can P N ops rs st st' f) {i : Nat} {s : OpR} (hs : rs[i]? = some s) {k : Nat} (hk : k ∈ keysOf s.post) : k ∈ s.wk := by
  have hi : i < ops.size := by rw [← hc.len]; exact (List.getElem?_eq_some_iff.1 hs).1
  obtain ⟨s', hs', ha⟩ := hc.step i _ (Array.getElem?_eq_getElem hi)
  rw [hs] at hs'
  cases hs'
  rcases ha.on with ⟨hin, _⟩ | ⟨_, rfl⟩ | ⟨_, k1, kc1, y1, E, rfl, _⟩
  · rw [wk_none hin]; exact List.mem_append_right _ hk
  · simp [keysOf] at hk
  · simp [keysOf] at hk
    exact (wk_ins rfl).2 hk
theorem draw_step (hc : Can P N ops rs st st' f) (hok : drawOk ops rs = true) {S0 : Nat → Prop} {ρ0 : KM} {a0 : Act} {w0 : World} (hs0 : SimSt N S0 ρ0 a0 w0 st) {L : Nat → Bool} {S : Nat → Prop} {ρ : KM} {a : Act} {w : World} (hi : DInv N ops rs st S0 ρ0 w0 L S ρ a w)
    {j : Nat} {o : Oper} (ho : ops[j]? = some o) (hL : L j = false) (hready : ∀ e ∈ o.after, Region.binds .any e = true → L e.on = true) {K : Act → World → Prop} {Q : Exit → Act → World → Prop}
    (hK : ∀ S' ρ' a' w', DInv N ops rs st S0 ρ0 w0 (setL L j) S' ρ' a' w' → K a' w') : wpOp P ops Q j K a w := by
  have hj : j < ops.size := (Array.getElem?_eq_some_iff.1 ho).1
  have hok0 := hok
  simp only [drawOk, Bool.and_eq_true] at hok
  obtain ⟨hed, hpr⟩ := hok
  obtain ⟨r, hr, hst⟩ := hc.step j o ho
  -- those that clash with j, and stand ahead, are done; those behind are not
  have ahead : ∀ i x s, i < j → ops[i]? = some x → rs[i]? = some s → clashS ops x o = true ∨ clashK s r = true → L i = true := fun i x s hij hx hs hcl => by
    rcases pairs_of hpr hij hx ho hs hr with h | ⟨h1, h2⟩
    · exact befs_closed hi.closed hed j o ho hready i h
    · rcases hcl with h | h
      · rw [h1] at h; cases h
      · rw [h2] at h; cases h
  have behind : ∀ i x s, j < i → ops[i]? = some x → rs[i]? = some s → clashS ops o x = true ∨ clashK r s = true → L i = false := fun i x s hij hx hs hcl => by
    cases hLi : L i with
    | false => rfl
    | true =>
      rcases pairs_of hpr hij ho hx hr hs with h | ⟨h1, h2⟩
      · have := befs_closed hi.closed hed i x hx (fun e he hb => hi.closed i x hx hLi e he hb) j h
        rw [hL] at this; cases this
      · rcases hcl with h | h
        · rw [h1] at h; cases h
        · rw [h2] at h; cases h
  have opat : ∀ i s, rs[i]? = some s → ∃ x, ops[i]? = some x := fun i s h => by
    have := (List.getElem?_eq_some_iff.1 h).1
    rw [hc.len] at this
    exact ⟨_, Array.getElem?_eq_getElem this⟩
  have rat : ∀ i x, ops[i]? = some x → ∃ s, rs[i]? = some s := fun i x h => by
    obtain ⟨s, hs, _⟩ := hc.step i x h
    exact ⟨s, hs⟩
  obtain ⟨d, hd⟩ : ∃ d, ops.size = j + 1 + d := ⟨ops.size - (j + 1), by omega⟩
  have hkey : r.ins = none → ∀ k, k ∈ r.tk → hAt st.H rs L ops.size k = (f j).H k := fun hin k hk => by
    rw [hc.heap j (by omega), hd]
    rw [hAt_key d (fun i s h1 _ h3 h4 hw => by
      obtain ⟨x, hx⟩ := opat i s h4
      have := behind i x s (by omega) hx h4 (.inr (clash_l hin (.inr ⟨hw, hk⟩)))
      rw [h3] at this; cases this)]
    rw [hAt_succ, hr]
    simp only [hL, Bool.false_eq_true, false_and, if_false]
    exact hAt_same j fun i s h1 h2 hw => by
      obtain ⟨x, hx⟩ := opat i s h2
      exact ahead i x s h1 hx h2 (.inr (clash_r hin (.inr ⟨hw, hk⟩)))
  have hslot : ∀ t, t ∈ o.looksAt ops → eAt st.env ops.toList rs L ops.size t = (f j).env t := fun t ht => by
    rw [hc.env j (by omega), hd]
    rw [eAt_key d (fun i x h1 _ h3 h4 hw => by
      have h4 : ops[i]? = some x := by simpa using h4
      obtain ⟨s, hs⟩ := rat i x h4
      have := behind i x s (by omega) h4 hs (.inl (by
        simp only [clashS, hw, Bool.or_eq_true]
        exact .inr (by simpa using ht)))
      rw [h3] at this; cases this)]
    rw [eAt_succ, hr]
    have ho' : ops.toList[j]? = some o := by simpa using ho
    rw [ho']
    simp only [hL, Bool.false_eq_true, false_and, if_false]
    exact eAt_same j fun i x h1 h2 hw => by
      have h2 : ops[i]? = some x := by simpa using h2
      obtain ⟨s, hs⟩ := rat i x h2
      refine ahead i x s h1 h2 hs (.inl ?_)
      simp only [clashS, hw, Bool.or_eq_true]
      exact .inl (.inl (by simpa using ht))
  have hset : ∀ i, i ≠ j → setL L j i = L i := fun i h => by simp [setL, h]
  have hheap : r.ins = none → hAt st.H rs (setL L j) ops.size = ((hAt st.H rs L ops.size).del r.pre).add r.post := fun hin => by
    rw [show ((hAt st.H rs L ops.size).del r.pre).add r.post = r.act (hAt st.H rs L ops.size) from by simp only [OpR.act, hin]]
    funext k
    by_cases hk : k ∈ r.wk
    · rw [hd, hAt_key d (fun i s h1 _ h3 h4 hw => by
        obtain ⟨x, hx⟩ := opat i s h4
        have := behind i x s (by omega) hx h4 (.inr (clash_l hin (.inl ⟨hk, tk_wk hw⟩)))
        rw [hset i (by omega), this] at h3; cases h3)]
      rw [hAt_succ, hr]
      simp only [setL, true_and, hk, if_true]
      exact act_none_in hin hk _ _
    · rw [hAt_flip hr hk hset, act_out hk]
  have henv : eAt st.env ops.toList rs (setL L j) ops.size = updO (eAt st.env ops.toList rs L ops.size) o.dst r.v := by
    funext t
    have ho' : ops.toList[j]? = some o := by simpa using ho
    by_cases hk : o.dst = some t
    · rw [hd, eAt_key d (fun i x h1 _ h3 h4 hw => by
        have h4 : ops[i]? = some x := by simpa using h4
        obtain ⟨s, hs⟩ := rat i x h4
        have := behind i x s (by omega) h4 hs (.inl (by
          simp only [clashS, hk, Bool.or_eq_true]
          exact .inl (.inr (by simp [hw]))))
        rw [hset i (by omega), this] at h3; cases h3)]
      rw [eAt_succ, hr, ho', hk]
      simp only [setL, if_true, true_and, updO, upd_same, hk]
    · rw [eAt_flip ho' hk hset]
      cases hdst : o.dst with
      | none => rfl
      | some d' =>
        simp only [updO]
        rw [upd_ne]
        rintro rfl
        exact hk hdst
  have hclosed : ∀ i x, ops[i]? = some x → setL L j i = true → ∀ e ∈ x.after, Region.binds .any e = true → setL L j e.on = true := fun i x hx h e he hb => by
    have : L e.on = true := by
      by_cases e' : i = j
      · subst e'
        rw [ho] at hx
        cases hx
        exact hready e he hb
      · rw [hset i e'] at h
        exact hi.closed i x hx h e he hb
    simp only [setL]
    split
    · rfl
    · exact this
  have hlooks : ∀ x ∈ o.op.operands.toList, ovOf (eAt st.env ops.toList rs L ops.size) x = ovOf (f j).env x := fun x hx => by
    cases x with
    | tmp t =>
      exact hslot t (List.mem_append_left _ (List.mem_filterMap.2 ⟨.tmp t, hx, rfl⟩))
    | _ => rfl
  have hguard : ∀ g want t, o.guard = some (g, want) → (ops[g]?).bind (·.dst) = some t → eAt st.env ops.toList rs L ops.size t = (f j).env t := fun g want t h1 h2 => by
    refine hslot t (List.mem_append_right _ ?_)
    rw [h1]
    simp only [h2]
    simp
  have hput : ∀ t, o.dst = some t → t < a.tmps.size := fun t ht => by rw [hi.size]; exact hst.dst t ht
  unfold wpOp
  rw [ho]
  simp only
  rcases hst.on with ⟨hin, g, hl, hrd, hpre, hnew, hlt⟩ | ⟨g, hrr⟩ | ⟨g, km, kc, ym, ents, hrr, hk0, hk1, hap, hins⟩
  · have g' : gOn ops (eAt st.env ops.toList rs L ops.size) o := by
      unfold gOn at g ⊢
      cases hg : o.guard with
      | none => trivial
      | some gw =>
        obtain ⟨gi, want⟩ := gw
        rw [hg] at g
        obtain ⟨t, h1, h2⟩ := g
        exact ⟨t, h1, by rw [hguard gi want t hg h1]; exact h2⟩
    have hrd' : Sub (hpo r.rd) (hAt st.H rs L ops.size) := fun k o' hk => by
      rw [hkey hin k (by simp only [OpR.tk, List.mem_append]; exact .inl (mem_keys.1 (by rw [hk]; simp)))]
      exact hrd k o' hk
    have hpre' : Sub (hpo r.pre) (hAt st.H rs L ops.size) := fun k o' hk => by
      rw [hkey hin k (tk_wk (by rw [wk_none hin]; exact List.mem_append_left _ (mem_keys.1 (by rw [hk]; simp))))]
      exact hpre k o' hk
    have hfresh : ∀ k, hpo r.post k ≠ none → hpo r.pre k = none → ρ k = none := fun k h1 h2 => by
      have hkp := mem_keys.1 h1
      have hge := hnew k hkp (fun h => (mem_keys.2 h) h2)
      cases hρ : ρ k with
      | none => rfl
      | some b =>
        rcases hi.dom k (by rw [hρ]; simp) with h | ⟨i, s, hLi, hs, hks⟩
        · have h0 := hc.nx 0 j (by omega) (by omega)
          rw [hc.zero] at h0
          exact absurd (hs0.new k (by omega)) h
        · have hne : i ≠ j := by rintro rfl; rw [hL] at hLi; cases hLi
          rcases Nat.lt_or_ge i j with hij | hij
          · have := hc.post_lt hs hks
            have := hc.nx (i + 1) j (by omega) (by omega)
            omega
          · obtain ⟨x, hx⟩ := opat i s hs
            have := behind i x s (by omega) hx hs (.inr (clash_l hin (.inl ⟨by rw [wk_none hin]; exact List.mem_append_right _ hkp, tk_wk (post_wk hc hs hks)⟩)))
            rw [this] at hLi; cases hLi
    rw [if_pos (wanted_on hi.slots g')]
    refine .inl ((hl.congr hlooks) S ρ w a (fun x _ => hi.slots.ov x) (hi.sim.sub (sub_app hrd' hpre')) hfresh K Q fun u S' ρ' w' hu hsim hext => ?_)
    obtain ⟨f1, f2⟩ := step_frame hi.sim hpre' hfresh hsim hext
    refine hK S' ρ' _ w' ⟨?_, ?_, ?_, ?_, ?_, ?_, hclosed⟩
    · rw [hheap hin]; exact f1
    · rw [henv]; exact SRep.put (fun t => f2.rep hi.sim (hi.slots t)) hu hput
    · rw [put_size]; exact hi.size
    · rw [put_defers]; exact hi.defers
    · rw [hheap hin]; exact hi.ext.trans f2.to0
    · intro k hk
      cases hh : ρ' k with
      | none => exact absurd hh hk
      | some b =>
        rcases hext.dom k b hh with h | ⟨o', h⟩
        · rcases hi.dom k (by rw [h]; simp) with h | ⟨i, s, hLi, hs, hks⟩
          · exact .inl h
          · refine .inr ⟨i, s, ?_, hs, hks⟩
            simp only [setL]; split
            · rfl
            · exact hLi
        · exact .inr ⟨j, r, by simp [setL], hr, mem_keys.1 (by rw [h]; simp)⟩
  · have g' : gOff ops (eAt st.env ops.toList rs L ops.size) o := by
      unfold gOff at g ⊢
      cases hg : o.guard with
      | none => rw [hg] at g; exact g.elim
      | some gw =>
        obtain ⟨gi, want⟩ := gw
        rw [hg] at g
        obtain ⟨t, h1, h2⟩ := g
        exact ⟨t, h1, by rw [hguard gi want t hg h1]; exact h2⟩
    rw [if_neg (by rw [wanted_off hi.slots g']; simp)]
    subst hrr
    have hh : ((hAt st.H rs L ops.size).del []).add [] = hAt st.H rs L ops.size := rfl
    refine hK S ρ _ w ⟨?_, ?_, ?_, ?_, ?_, ?_, hclosed⟩
    · rw [hheap rfl]; exact hi.sim
    · rw [henv]; exact hi.slots.put rep_undef hput
    · rw [put_size]; exact hi.size
    · rw [put_defers]; exact hi.defers
    · rw [hheap rfl]; exact hi.ext
    · intro k hk
      rcases hi.dom k hk with h | ⟨i, s, hLi, hs, hks⟩
      · exact .inl h
      · refine .inr ⟨i, s, ?_, hs, hks⟩
        simp only [setL]; split
        · rfl
        · exact hLi
  · have hri : r.ins = some (km, [.agg kc, ym]) := by rw [hrr]
    obtain ⟨X, Y, hX1, hX2, hY, hXY⟩ := ins_heap hc hok0 hi.closed ho hL hready hr hri hst hk0 hap
    have g' : gOn ops (eAt st.env ops.toList rs L ops.size) o := by
      unfold gOn at g ⊢
      cases hg : o.guard with
      | none => trivial
      | some gw =>
        obtain ⟨gi, want⟩ := gw
        rw [hg] at g
        obtain ⟨t, h1, h2⟩ := g
        exact ⟨t, h1, by rw [hguard gi want t hg h1]; exact h2⟩
    have hpre' : Sub (hpo [(km, mpO X)]) (hAt st.H rs L ops.size) := Sub.one hX1
    have hfresh : ∀ k, hpo [(km, mpO (X ++ [[.agg kc, ym]]))] k ≠ none → hpo [(km, mpO X)] k = none → ρ k = none := fun k h1 h2 => by
      rw [hpo_one] at h1 h2
      split at h2
      · cases h2
      · rename_i h3; rw [if_neg h3] at h1; exact absurd rfl h1
    rw [if_pos (wanted_on hi.slots g')]
    have hmap0 := hins.2 S ρ w a (fun x hx => by rw [← hlooks x hx]; exact hi.slots.ov x) 
    refine .inl (((hins.1 X hX2).congr hlooks) S ρ w a (fun x _ => hi.slots.ov x) (hi.sim.sub (sub_app (Sub.nil _) hpre')) hfresh K Q fun u S' ρ' w' hu hsim hext => ?_)
    obtain ⟨f1, f2⟩ := step_frame hi.sim hpre' hfresh hsim hext
    have hkm : ((hAt st.H rs L ops.size).del [(km, mpO X)]).add [(km, mpO (X ++ [[.agg kc, ym]]))] = upd (hAt st.H rs L ops.size) km (some (mpO (X ++ [[.agg kc, ym]]))) := by
      simp only [Hp.add, Hp.del, upd_upd]
    have hset' : hAt st.H rs (setL L j) ops.size = upd (((hAt st.H rs L ops.size).del [(km, mpO X)]).add [(km, mpO (X ++ [[.agg kc, ym]]))]) km (some (mpO Y)) := by
      rw [hkm, upd_upd]
      funext t
      by_cases e : t = km
      · subst e; rw [upd_same]; exact hY
      · rw [upd_ne _ _ e, hAt_flip hr (fun h => e ((wk_ins hri).1 h)) hset]
    obtain ⟨b0, hb0⟩ : ∃ b, ρ km = some b := by
      rcases hi.sim.obj km _ hX1 with ⟨b, c, t, q, _⟩ | ⟨_, q⟩
      · exact ⟨b, q⟩
      · simp [mpO, mpRows] at q
    have hmap' : ∀ b, ρ' km = some b → ∃ es n, w'.heap[b]? = some (.map es n) := fun b hb => by
      rw [f2.keys km b0 hb0] at hb
      cases hb
      obtain ⟨es, n, hes⟩ := hmap0 b0 hb0
      exact f2.keeps.2 b0 es n hes
    have f1' : Sim S' ρ' w' (hAt st.H rs (setL L j) ops.size) := by
      rw [hset']
      exact sim_perm f1 (by rw [hkm, upd_same]) hXY hmap'
    have same : ∀ t o, hAt st.H rs (setL L j) ops.size t = some o → ∃ o', (((hAt st.H rs L ops.size).del [(km, mpO X)]).add [(km, mpO (X ++ [[.agg kc, ym]]))]) t = some o' ∧ (o.frz = false → o'.frz = false) := fun t o ht => by
      rw [hset'] at ht
      by_cases e : t = km
      · subst e
        exact ⟨mpO (X ++ [[.agg kc, ym]]), by rw [hkm, upd_same], fun _ => rfl⟩
      · rw [upd_ne _ _ e] at ht
        exact ⟨o, ht, fun h => h⟩
    refine hK S' ρ' _ w' ⟨f1', ?_, ?_, ?_, ?_, ?_, hclosed⟩
    · rw [henv, hrr]; exact SRep.put (fun t => f2.rep hi.sim (hi.slots t)) hu hput
    · rw [put_size]; exact hi.size
    · rw [put_defers]; exact hi.defers
    · have e0 := hi.ext.trans f2.to0
      exact ⟨e0.os, e0.tape, e0.output, e0.size, e0.block, e0.keeps, e0.more, e0.only, fun b ⟨t, o, h1, h2⟩ => by
        obtain ⟨o', h3, _⟩ := same t o h1
        exact e0.live b ⟨t, o', h3, h2⟩, fun b ⟨t, o, h1, h4, h2⟩ => by
        obtain ⟨o', h3, h5⟩ := same t o h1
        exact e0.own b ⟨t, o', h3, h5 h4, h2⟩, e0.keys⟩
    · intro k hk
      cases hh : ρ' k with
      | none => exact absurd hh hk
      | some b =>
        rcases hext.dom k b hh with h | ⟨o', h⟩
        · rcases hi.dom k (by rw [h]; simp) with h | ⟨i, s, hLi, hs, hks⟩
          · exact .inl h
          · refine .inr ⟨i, s, ?_, hs, hks⟩
            simp only [setL]; split
            · rfl
            · exact hLi
        · refine .inr ⟨j, r, by simp [setL], hr, ?_⟩
          have := mem_keys.1 (show hpo [(km, mpO (X ++ [[.agg kc, ym]]))] k ≠ none by rw [h]; simp)
          rw [hrr]
          simpa [keysOf] using this

def LB (listed : Array Bool) : Nat → Bool := fun i => listed.getD i false
theorem LB_set {listed : Array Bool} {j : Nat} (hj : j < listed.size) : LB (listed.setIfInBounds j true) = setL (LB listed) j := by
  funext i
  simp only [LB, setL]
  by_cases e : i = j
  · subst e; simp [hj]
  · rw [if_neg e, getD_set_ne false (Ne.symm e)]
def left (listed : Array Bool) : Nat := ((List.range listed.size).filter fun i => !LB listed i).length
theorem left_set {listed : Array Bool} {j : Nat} (hj : j < listed.size) (hl : LB listed j = false) : left (listed.setIfInBounds j true) < left listed := by
  unfold left
  rw [LB_set hj]
  have hsz : (listed.setIfInBounds j true).size = listed.size := by simp
  rw [hsz]
  have hsub : (List.range listed.size).filter (fun i => !setL (LB listed) j i) = ((List.range listed.size).filter fun i => !LB listed i).filter (fun i => i != j) := by
    rw [List.filter_filter]
    apply List.filter_congr
    intro i _
    simp only [setL]
    by_cases e : i = j
    · subst e; simp
    · simp [e]
  rw [hsub]
  refine List.length_filter_lt_length_iff_exists.2 ⟨j, ?_, by simp⟩
  simp [hj, hl]

theorem all_listed (hc : Can P N ops rs st st' f) (hed : edgesOk ops = true) {listed : Array Bool} (hsz : listed.size = ops.size) (hr : Region.ready .any ops listed = []) : ∀ i, i < ops.size → LB listed i = true := by
  intro i
  induction i using Nat.strongRecOn with
  | _ i ih =>
    intro hi
    cases hL : LB listed i with
    | true => rfl
    | false =>
      exfalso
      have : i ∈ Region.ready .any ops listed := by
        rw [mem_ready]
        refine ⟨?_, ops[i], by simp [hi], fun e he hb => ?_⟩
        · have hi' : i < listed.size := by omega
          simp only [LB, Array.getD_eq_getD_getElem?, Array.getElem?_eq_getElem hi', Option.getD_some] at hL ⊢
          exact hL
        · unfold edgesOk at hed
          rw [List.all_eq_true] at hed
          have := hed (ops[i], i) (by rw [List.mem_zipIdx_iff_getElem?]; simp [hi])
          simp only [List.all_eq_true] at this
          have := this e (by simpa using he)
          simp only [hb, Bool.not_true, Bool.false_or, decide_eq_true_eq] at this
          exact ih e.on this (by omega)
      rw [hr] at this
      cases this

theorem can_old (hc : Can P N ops rs st st' f) (h0 : ∀ k o, st.H k = some o → k < st.nx) : ∀ m, m ≤ ops.size → ∀ k o, (f m).H k = some o → k < (f m).nx := by
  intro m
  induction m with
  | zero => intro _; rw [hc.zero]; exact h0
  | succ m ih =>
    intro hm k o hk
    obtain ⟨r, hr, hs⟩ := hc.step m _ (Array.getElem?_eq_getElem (show m < ops.size by omega))
    rw [hs.run.1, add_apply] at hk
    cases hp : hpo r.post k with
    | some o' => exact hc.post_lt hr (mem_keys.1 (by rw [hp]; simp))
    | none =>
      rw [hp, del_apply] at hk
      cases hq : hpo r.pre k with
      | some _ => rw [hq] at hk; cases hk
      | none => rw [hq] at hk; exact Nat.lt_of_lt_of_le (ih (by omega) k o hk) hs.nx

theorem draw_any (hc : Can P N ops rs st st' f) (hok : drawOk ops rs = true) {S0 : Nat → Prop} {ρ0 : KM} {a0 : Act} {w0 : World} (hs0 : SimSt N S0 ρ0 a0 w0 st) {Q : Exit → Act → World → Prop}
    (hQ : ∀ S' ρ' a' w', SimSt N S' ρ' a' w' st' → Ext0 S0 ρ0 w0 st.H S' ρ' w' st'.H → Q .normal a' w') :
    ∀ (fuel : Nat) (listed : Array Bool) (S : Nat → Prop) (ρ : KM) (a : Act) (w : World), listed.size = ops.size → left listed ≤ fuel → DInv N ops rs st S0 ρ0 w0 (LB listed) S ρ a w → wpAny P .any ops Q fuel listed a w := by
  have hed : edgesOk ops = true := by simp only [drawOk, Bool.and_eq_true] at hok; exact hok.1
  have fin : ∀ (listed : Array Bool) (S : Nat → Prop) (ρ : KM) (a : Act) (w : World), (∀ i, i < ops.size → LB listed i = true) → DInv N ops rs st S0 ρ0 w0 (LB listed) S ρ a w → Q .normal a w := by
    intro listed S ρ a w hall hi
    have e1 : hAt st.H rs (LB listed) ops.size = st'.H := by
      rw [← hc.last, hc.heap ops.size (Nat.le_refl _)]
      funext k
      exact hAt_same ops.size (fun i r h _ _ => hall i h)
    have e2 : eAt st.env ops.toList rs (LB listed) ops.size = st'.env := by
      rw [← hc.last, hc.env ops.size (Nat.le_refl _)]
      funext k
      exact eAt_same ops.size (fun i r h _ _ => hall i h)
    refine hQ S ρ a w ⟨e1 ▸ hi.sim, e2 ▸ hi.slots, hi.size, hi.defers, fun k hk => ?_, ?_⟩ (e1 ▸ hi.ext)
    · cases hh : ρ k with
      | none => rfl
      | some b =>
        have hn := hc.nx 0 ops.size (Nat.zero_le _) (Nat.le_refl _)
        rw [hc.zero, hc.last] at hn
        rcases hi.dom k (by rw [hh]; simp) with h | ⟨i, r, hL, hr, hkp⟩
        · exact absurd (hs0.new k (by omega)) h
        · have h1 := hc.post_lt hr hkp
          have hi' : i < ops.size := by rw [← hc.len]; exact (List.getElem?_eq_some_iff.1 hr).1
          have h2 := hc.nx (i + 1) ops.size (by omega) (Nat.le_refl _)
          rw [hc.last] at h2
          omega
    · have := can_old hc hs0.old ops.size (Nat.le_refl _)
      rw [hc.last] at this
      exact this
  intro fuel
  induction fuel with
  | zero =>
    intro listed S ρ a w hsz hl hi
    have h0 : left listed = 0 := by omega
    have hall : ∀ i, i < ops.size → LB listed i = true := fun i hi' => by
      unfold left at h0
      have := List.length_eq_zero_iff.1 h0
      rw [List.filter_eq_nil_iff] at this
      have := this i (by simp [hsz, hi'])
      simpa using this
    refine ⟨?_, fin listed S ρ a w hall hi⟩
    cases hr : Region.ready .any ops listed with
    | nil => rfl
    | cons x xs =>
      exfalso
      have hx : x ∈ Region.ready .any ops listed := by rw [hr]; simp
      rw [mem_ready] at hx
      obtain ⟨h1, o, ho, _⟩ := hx
      have hlt := (Array.getElem?_eq_some_iff.1 ho).1
      have h2 := hall x hlt
      have hlt' : x < listed.size := by omega
      simp only [LB, Array.getD_eq_getD_getElem?, Array.getElem?_eq_getElem hlt', Option.getD_some] at h1 h2
      rw [h1] at h2; cases h2
  | succ fuel ih =>
    intro listed S ρ a w hsz hl hi
    refine ⟨fun hr => fin listed S ρ a w (all_listed hc hed hsz hr) hi, fun j hj => ?_⟩
    rw [mem_ready] at hj
    obtain ⟨h1, o, ho, h2⟩ := hj
    have hlt : j < listed.size := by rw [hsz]; exact (Array.getElem?_eq_some_iff.1 ho).1
    have hL : LB listed j = false := by
      simp only [LB, Array.getD_eq_getD_getElem?, Array.getElem?_eq_getElem hlt, Option.getD_some] at h1 ⊢
      exact h1
    refine draw_step hc hok hs0 hi ho hL (fun e he hb => h2 e he hb) fun S' ρ' a' w' hi' => ?_
    refine ih _ S' ρ' a' w' (by simp [hsz]) ?_ ?_
    · have := left_set hlt hL
      omega
    · rw [LB_set hlt]; exact hi'

theorem region_drawn (hm : P.follows .mixedOrders = true) {id : Nat} (h : Chain P N ops ops.toList st rs st') (hok : drawOk ops rs = true) {S : Nat → Prop} {ρ : KM} {a : Act} {w : World} (hs : SimSt N S ρ a w st) {Q : Exit → Act → World → Prop}
    (hQ : ∀ S' ρ' a' w', SimSt N S' ρ' a' w' st' → Ext0 S ρ w st.H S' ρ' w' st'.H → Q .normal a' w') : (Code.region id ops true).wp P Q a w := by
  obtain ⟨f, hc⟩ := can_of h
  have mono : ∀ {u : Value} {x : V}, Rep S ρ w u x → Rep S ρ w.drew u x := fun h => Rep.mono (w := w) (w' := w.drew) (fun _ h => h) (fun _ _ => rfl) (fun _ _ h => h) ⟨fun _ c _ fr h => ⟨c, fr, h, rfl⟩, fun _ es n h => ⟨es, n, h⟩⟩ h
  have hs' : SimSt N S ρ a w.drew st := ⟨⟨fun k o hk => by
    rcases hs.sim.obj k o hk with ⟨b, c, t, q1, q2, q3, q4⟩ | q
    · exact .inl ⟨b, c, t, q1, q2.of rfl, q3.mono (fun _ _ h => mono h), q4⟩
    · exact .inr q, hs.sim.inj, hs.sim.bnd⟩, fun t => mono (hs.slots t), hs.size, hs.defers, hs.new, hs.old⟩
  have hE : Ext0 S ρ w st.H S ρ w.drew st.H := ⟨rfl, rfl, rfl, Nat.le_refl _, fun _ _ _ => rfl, ⟨fun _ c _ fr h => ⟨c, fr, h, rfl⟩, fun _ es n h => ⟨es, n, h⟩⟩, fun _ h => h, fun _ h => .inl h, fun _ h => .inr h, fun _ h => .inr h, fun _ _ h => h⟩
  have hz : ∀ i, LB (Array.replicate ops.size false) i = false := fun i => by
    simp only [LB, Array.getD_eq_getD_getElem?]
    by_cases h : i < ops.size <;> simp [h]
  have e1 : ∀ m, hAt st.H rs (LB (Array.replicate ops.size false)) m = st.H := by
    intro m
    induction m with
    | zero => rfl
    | succ m ih =>
      funext k
      rw [hAt_succ, ih]
      cases rs[m]? with
      | none => rfl
      | some r => simp [hz]
  have e2 : ∀ m, eAt st.env ops.toList rs (LB (Array.replicate ops.size false)) m = st.env := by
    intro m
    induction m with
    | zero => rfl
    | succ m ih =>
      funext k
      rw [eAt_succ, ih]
      cases rs[m]? with
      | none => rfl
      | some r =>
        cases ops.toList[m]? with
        | none => rfl
        | some o => simp [hz]
  refine wp_region_any hm (draw_any hc hok hs' (fun S' ρ' a' w' h e => hQ S' ρ' a' w' h (hE.trans e)) ops.size _ S ρ a w.drew (by simp) ?_ ⟨?_, ?_, hs.size, hs.defers, ?_, fun k hk => .inl hk, fun j o ho h => ?_⟩)
  · unfold left
    refine Nat.le_trans (List.length_filter_le _ _) ?_
    simp
  · rw [e1]; exact hs'.sim
  · rw [e2]; exact hs'.slots
  · rw [e1]; exact Ext0.refl _ _ _ _
  · rw [hz] at h; cases h

theorem region_plain {id : Nat} (h : Chain P N ops ops.toList st rs st') {S : Nat → Prop} {ρ : KM} {a : Act} {w : World} (hs : SimSt N S ρ a w st) {Q : Exit → Act → World → Prop}
    (hQ : ∀ S' ρ' a' w', SimSt N S' ρ' a' w' st' → Ext0 S ρ w st.H S' ρ' w' st'.H → Q .normal a' w') : (Code.region id ops false).wp P Q a w :=
  wp_region_list (chain_sound h hs hQ)

end
end Go.Proofs.Ytgaginflocpcfaa
