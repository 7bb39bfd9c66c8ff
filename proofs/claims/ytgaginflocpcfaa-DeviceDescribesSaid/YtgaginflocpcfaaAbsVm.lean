/-
  The value-level machine: keys of maps.
-/
import Derived.Test.YtgaginflocpcfaaAbsV
namespace Go.Proofs.Ytgaginflocpcfaa
open Go
set_option linter.unusedVariables false
set_option linter.unusedSimpArgs false

theorem forIn_ok {P : Program} {α : Type} {w : World} (body : α → PUnit → Sem (ForInStep PUnit)) : ∀ (l : List α), (∀ x ∈ l, (body x ⟨⟩).run P w = .ok (.yield ⟨⟩) w) → (forIn l PUnit.unit body : Sem PUnit).run P w = .ok ⟨⟩ w
  | [], _ => by simp
  | x :: l, h => by
    have ih := forIn_ok body l fun y hy => h y (List.mem_cons_of_mem _ hy)
    simp only [List.forIn_cons, Sem.run_bind, h x (List.mem_cons_self ..), Result.andThen_ok, ih]
theorem chkFields_run {P : Program} {xs : Array Value} : ∀ (fs : List Field) (sh : List Bool) (o : Nat), flatFields P fs sh o = true →
    (∀ (i : Nat) (b : Bool), sh[i]? = some b → ∃ v, xs[o + i]? = some v) → ∀ f ∈ fs, ∃ v, xs[f.offset]? = some v ∧ f.name ≠ "_" ∧ aggOf P f.type = false ∧ ((∃ q, P.underlying f.type = some (.int q)) ∨ P.underlying f.type = some .bool)
  | [], _, _, _, _ => fun f hf => by simp at hf
  | f :: fs, [], o, h, _ => by simp [flatFields] at h
  | f :: fs, b :: sh, o, h, hx => by
    simp only [flatFields, Bool.and_eq_true, bne_iff_ne, ne_eq, beq_iff_eq, Bool.not_eq_true'] at h
    obtain ⟨⟨⟨⟨h1, h2⟩, h3⟩, h4⟩, h5⟩ := h
    intro g hg
    rcases List.mem_cons.1 hg with rfl | hg
    · obtain ⟨v, hv⟩ := hx 0 b rfl
      refine ⟨v, by rw [h2]; exact hv, h1, h3, ?_⟩
      revert h4
      cases P.underlying g.type with
      | none => intro h; cases h
      | some D => cases D <;> cases b <;> intro h <;> first | exact .inl ⟨_, rfl⟩ | exact .inr rfl | cases h
    · exact chkFields_run fs sh (o + 1) h5 (fun i b hb => by
        have := hx (i + 1) b (by simpa using hb)
        rwa [show o + (i + 1) = o + 1 + i by omega] at this) g hg
theorem eqCells_len {sh : List Bool} {cs ds : List V} : ∀ {r : Bool}, eqCells sh cs ds = some r → sh.length = cs.length := by
  induction sh, cs, ds using eqCells.induct with
  | case1 => intro r _; rfl
  | case2 sh a l k' b l' ih =>
    intro r h
    simp only [eqCells, if_true, Option.map_eq_some_iff] at h
    obtain ⟨r', h', _⟩ := h
    simp [ih h']
  | case3 sh k a l k' b l' hk =>
    intro r h
    simp [eqCells, hk] at h
  | case4 sh a l b l' ih =>
    intro r h
    simp only [eqCells, Option.map_eq_some_iff] at h
    obtain ⟨r', h', _⟩ := h
    simp [ih h']
  | case5 =>
    intro r h
    simp_all [eqCells]
theorem ck_struct {P : Program} {t : Nat} {fs : Array Field} (hu : P.underlying t = some (.struct fs)) (e : Bool) (n : Nat) (xs : Array Value) (w : World) (h : (forIn fs.toList PUnit.unit (fun f (_ : PUnit) => (do
    if f.name ≠ "_" then Instr.checkKey e n f.type (← part f.type xs f.offset)
    pure (ForInStep.yield PUnit.unit) : Sem (ForInStep PUnit))) : Sem PUnit).run P w = .ok ⟨⟩ w) : (Instr.checkKey e (n + 1) t (.agg xs)).run P w = .ok () w := by
  simp only [Instr.checkKey, Sem.run_bind, run_underlying hu, Result.andThen_ok]
  rw [← Array.forIn_toList]
  simp at h ⊢
  rw [h]
  rfl
theorem ck_leaf {P : Program} {t : Nat} {d : TypeDesc} (hu : P.underlying t = some d) (hd : (∃ q, d = .int q) ∨ d = .bool) (e : Bool) (n : Nat) (v : Value) (w : World) : (Instr.checkKey e (n + 1) t v).run P w = .ok () w := by
  rcases hd with ⟨q, rfl⟩ | rfl <;> simp [Instr.checkKey, run_underlying hu]
theorem keyOk_of {P : Program} {t : Nat} {sh : List Bool} (hu : P.underlying t = some (.struct (P.fieldsOf t))) (hs : P.stoodInHeld t = false) (hf : flatFields P (P.fieldsOf t).toList sh 0 = true) : KeyOk P t sh where
  kind := ⟨_, hu⟩
  eq := fun xs ys cs ds r w hx hy hr => by
    have lift : ∀ (xs : Array Value) (cs : List V), LitsAt xs cs → ∀ (i : Nat) (v : Value), cs[i]? = some (.lit v) → xs[0 + i]? = some v := fun xs cs h i v e => by
      have hi : i < cs.length := (List.getElem?_eq_some_iff.1 e).1
      have hi' : i < xs.size := by rw [h.1]; exact hi
      rw [Nat.zero_add, Array.getElem?_eq_getElem hi', h.2 i xs[i] _ (Array.getElem?_eq_getElem hi') e v rfl]
    have h1 := eqFields_run (d := 9998) (w := w) (P.fieldsOf t).toList sh 0 cs ds r hf (lift xs cs hx) (lift ys ds hy) hr
    have he := run_equalIn_struct (P := P) w 9999 t xs ys hu hs
    rw [h1] at he
    exact he
  chk := fun e xs cs w hx hc => by
    obtain ⟨r, hr⟩ := Option.isSome_iff_exists.1 hc
    have hl := eqCells_len hr
    have hall := chkFields_run (xs := xs) (P.fieldsOf t).toList sh 0 hf fun i b hb => by
      have hi : i < xs.size := by rw [hx.1, ← hl]; exact (List.getElem?_eq_some_iff.1 hb).1
      exact ⟨xs[i], by rw [Nat.zero_add, Array.getElem?_eq_getElem hi]⟩
    refine ck_struct hu e 9999 xs w (forIn_ok _ _ fun f hf' => ?_)
    obtain ⟨v, h1, h2, h3, h4⟩ := hall f hf'
    have hs : (P.underlying f.type).isSome = true := by rcases h4 with ⟨q, h⟩ | h <;> rw [h] <;> rfl
    have hck : ∀ w, (Instr.checkKey e 9999 f.type v).run P w = .ok () w := fun w => by
      rcases h4 with ⟨q, h⟩ | h
      · exact ck_leaf h (.inl ⟨q, rfl⟩) e 9998 v w
      · exact ck_leaf h (.inr rfl) e 9998 v w
    generalize hn : (9999 : Nat) = m at hck ⊢
    simp [h2, run_part hs h3 h1, hck]
end Go.Proofs.Ytgaginflocpcfaa
