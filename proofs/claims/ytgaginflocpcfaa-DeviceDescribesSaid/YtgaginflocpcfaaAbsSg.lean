/-
  The value-level machine: calls that share the caller's objects.
-/
import Derived.Test.YtgaginflocpcfaaAbsSf
namespace Go.Proofs.Ytgaginflocpcfaa
open Go
set_option linter.unusedVariables false
set_option linter.unusedSimpArgs false

/-- the names in a value -/
inductive Nm (p : Nat → Prop) : V → Prop
  | any : Nm p .any
  | lit {v} : Nm p (.lit v)
  | agg {cs : List V} (h : ∀ x ∈ cs, Nm p x) : Nm p (.agg cs)
  | tup {cs : List V} (h : ∀ x ∈ cs, Nm p x) : Nm p (.tup cs)
  | sl {sz l} : Nm p (.sl sz l)
  | sls {sz l nn ex} : Nm p (.sls sz l nn ex)
  | win {k sz lo n cp} (h : p k) : Nm p (.win k sz lo n cp)
  | ptr {k sz i off} (h : p k) : Nm p (.ptr k sz i off)
  | ip {cs} : Nm p (.ip cs)
  | mp {k} (h : p k) : Nm p (.mp k)
  | fn {f} {cs : List V} (h : ∀ x ∈ cs, Nm p x) : Nm p (.fn f cs)
theorem Nm.rep {p : Nat → Prop} {x : V} (hn : Nm p x) {S : Nat → Prop} {ρ ρ' : KM} {w : World} (hρ : ∀ k b, p k → ρ k = some b → ρ' k = some b) : ∀ {u : Value}, Rep S ρ w u x → Rep S ρ' w u x := by
  induction hn with
  | any => intro u _; exact .any
  | lit => intro u h; cases h; exact .lit (by assumption)
  | agg _ ih => intro u h; cases h with | agg hl h => exact .agg hl fun i u x h1 h2 => ih x (List.mem_of_getElem? h2) (h i u x h1 h2)
  | tup _ ih => intro u h; cases h with | tup hl h => exact .tup hl fun i u x h1 h2 => ih x (List.mem_of_getElem? h2) (h i u x h1 h2)
  | sl =>
    intro u h
    cases h with
    | sl0 h => exact .sl0 h
    | sl a b c d e f => exact .sl a b c d e f
  | sls =>
    intro u h
    cases h with
    | sls h g1 g2 =>
      refine .sls ?_ g1 g2
      cases h with
      | sl0 h => exact .sl0 h
      | sl a b c d e f => exact .sl a b c d e f
  | win hp =>
    intro u h
    cases h with
    | win a b c d e f => exact .win (hρ _ _ hp a) b c d e f
    | win0 => exact .win0
  | ptr hp => intro u h; cases h with | ptr a b => exact .ptr (hρ _ _ hp a) b
  | ip => intro u h; cases h with | ip a b c d => exact .ip a b c d
  | mp hp => intro u h; cases h with | mp a b => exact .mp (hρ _ _ hp a) b
  | fn _ ih => intro u h; cases h with | fn hl h => exact .fn hl fun i u x h1 h2 => ih x (List.mem_of_getElem? h2) (h i u x h1 h2)
theorem Nm.mono {p q : Nat → Prop} {x : V} (h : Nm p x) (hpq : ∀ k, p k → q k) : Nm q x := by
  induction h with
  | any => exact .any
  | lit => exact .lit
  | agg _ ih => exact .agg ih
  | tup _ ih => exact .tup ih
  | sl => exact .sl
  | sls => exact .sls
  | win h => exact .win (hpq _ h)
  | ptr h => exact .ptr (hpq _ h)
  | ip => exact .ip
  | mp h => exact .mp (hpq _ h)
  | fn _ ih => exact .fn ih
def nmQ (q : Nat → Bool) (n : Nat) : V → Bool := Nat.rec (motive := fun _ => V → Bool) (fun _ => false) (fun _ ih v => match v with
  | .agg cs => cs.all ih
  | .tup cs => cs.all ih
  | .fn _ cs => cs.all ih
  | .win k _ _ _ _ => q k
  | .ptr k _ _ _ => q k
  | .mp k => q k
  | _ => true) n
theorem nmQ_sound {q : Nat → Bool} : ∀ (n : Nat) (v : V), nmQ q n v = true → Nm (fun k => q k = true) v
  | 0, v, h => by cases h
  | n + 1, v, h => by
    have ih := nmQ_sound (q := q) n
    cases v with
    | agg cs => exact .agg fun x hx => ih x (List.all_eq_true.1 h x hx)
    | tup cs => exact .tup fun x hx => ih x (List.all_eq_true.1 h x hx)
    | fn f cs => exact .fn fun x hx => ih x (List.all_eq_true.1 h x hx)
    | win k sz lo n cp => exact .win h
    | ptr k sz i off => exact .ptr h
    | lit v => exact .lit
    | sl sz l => exact .sl
    | sls sz l nn ex => exact .sls
    | ip cs => exact .ip
    | mp k => exact .mp h
    | any => exact .any
theorem kfc_nm {p : Nat → Prop} {x : V} (h : kfc x = true) : Nm p x := by
  cases x <;> first | exact .lit | exact .sl | cases h
/-- the names in rows -/
def RowsNm (p : Nat → Prop) (rows : List (List V)) : Prop := ∀ r ∈ rows, ∀ x ∈ r, Nm p x
theorem RowsNm.plain {p : Nat → Prop} {rows : List (List V)} (h : ∀ r ∈ rows, r.all kfc = true) : RowsNm p rows := fun r hr x hx => kfc_nm (List.all_eq_true.1 (h r hr) x hx)
/-- the names in objects: told, or found -/
def objsNm (q : Nat → Bool) : GH → Prop → Prop
  | [], X => X
  | (_, true, o) :: l, X => RowsNm (fun k => q k = true) o.rows ∧ objsNm q l X
  | (_, false, o) :: l, X => chkK (o.rows.all fun r => r.all (nmQ q 3)) <| objsNm q l X
theorem objsNm_sound {q : Nat → Bool} : ∀ (B : GH) {X : Prop}, objsNm q B X → (∀ p ∈ B, RowsNm (fun k => q k = true) p.2.2.rows) ∧ X
  | [], X, h => ⟨fun p hp => (by cases hp), h⟩
  | (k, true, o) :: l, X, h => by
    obtain ⟨h1, h2⟩ := h
    obtain ⟨h3, h4⟩ := objsNm_sound l h2
    refine ⟨fun p hp => ?_, h4⟩
    rcases List.mem_cons.1 hp with rfl | hp
    · exact h1
    · exact h3 p hp
  | (k, false, o) :: l, X, h => by
    obtain ⟨h1, h2⟩ := chkK_sound h
    obtain ⟨h3, h4⟩ := objsNm_sound l h2
    refine ⟨fun p hp => ?_, h4⟩
    rcases List.mem_cons.1 hp with rfl | hp
    · exact fun r hr x hx => nmQ_sound 3 x (List.all_eq_true.1 (List.all_eq_true.1 h1 r hr) x hx)
    · exact h3 p hp

def GH.keys : GH → List Nat
  | [] => []
  | (k, _, _) :: l => k :: GH.keys l
theorem GH.keys_hl (B : GH) : keysOf B.hl = B.keys := by
  induction B with
  | nil => rfl
  | cons p B ih =>
    obtain ⟨k, s, o⟩ := p
    simp only [keysOf, GH.hl, GH.keys, List.map_cons] at ih ⊢
    rw [ih]
theorem GH.hp_mem : ∀ {B : GH} {k : Nat} {o : VObj}, B.hp k = some o → ∃ s, (k, s, o) ∈ B
  | [], k, o, h => by cases h
  | (j, s, p) :: B, k, o, h => by
    simp only [GH.hp, upd] at h
    split at h
    · rename_i e; subst e; cases h; exact ⟨s, by simp⟩
    · obtain ⟨s', h'⟩ := GH.hp_mem h; exact ⟨s', by simp [h']⟩
theorem GH.hp_keys {B : GH} {k : Nat} : B.hp k ≠ none ↔ k ∈ B.keys := by
  rw [← GH.keys_hl, ← mem_keys, GH.hp_hl]

/-- A CONTRACT OVER THE CALLER's OWN OBJECTS: called at values that may name objects of B; new ones bear names from nx on. -/
structure FnG (P : Program) (k : FuncId) (args : List V) (B : GH) (nx : Nat) (r : V) (B' : GH) (nx' : Nat) : Prop where
  ok : callOk P k = true
  le : nx ≤ nx'
  lt : ∀ j, j ∈ B'.keys → j < nx'
  new : ∀ j, j ∈ B'.keys → j ∉ B.keys → nx ≤ j
  fn : ∀ (S : Nat → Prop) (ρ : KM) (w : World) (vs : Array Value), vs.size = args.length → (∀ (i : Nat) (u : Value) (x : V), vs[i]? = some u → args[i]? = some x → Rep S ρ w u x) → Sim S ρ w B.hp → (∀ j, nx ≤ j → ρ j = none) →
    Calls P k vs w fun e w' => ∃ v S' ρ', e = .returned v ∧ Rep S' ρ' w' v r ∧ Sim S' ρ' w' B'.hp ∧ Ext0 S ρ w B.hp S' ρ' w' B'.hp

section
variable {P : Program} {T : TT} {ov : Operand → V} {o : Oper}

theorem lok_callG {f : Operand} {xs : Array Operand} {ts : Array TypeId} {kf nx nx' : Nat} {caps args : List V} {B B' : GH} {r : V} (ho : o.op = .call { callee := .value f, args := xs, argTypes := ts }) (hf : ov f = .fn kf caps) (hg : FnG P kf args B nx r B' nx')
    (hargs : args = xs.toList.map ov ++ caps) (hna : ∀ x ∈ args, Nm (· < nx) x) (hnb : ∀ p ∈ B, RowsNm (· < nx) p.2.2.rows) (hB : ∀ j ∈ B.keys, j < nx) (hnr : Nm (· ∈ B'.keys) r) (hnb' : ∀ p ∈ B', RowsNm (· ∈ B'.keys) p.2.2.rows) :
    LOk P ov o [] B.hl B'.hl r := by
  intro S ρ w a hx hs hn next Q hK
  simp only [List.nil_append] at hs
  rw [GH.hp_hl] at hs
  obtain ⟨vs, hrun, h1, h2⟩ := run_call ho hf hg.ok hx
  rw [← hargs] at h1 h2
  let ρ0 : KM := fun k => if k < nx then ρ k else none
  have e0 : ∀ k, k < nx → ρ0 k = ρ k := fun k h => by simp only [ρ0, h, if_true]
  have n0 : ∀ k, nx ≤ k → ρ0 k = none := fun k h => by simp only [ρ0]; rw [if_neg (by omega)]
  have up : ∀ k b, k < nx → ρ k = some b → ρ0 k = some b := fun k b h h' => by rw [e0 k h]; exact h'
  have dn : ∀ k b, ρ0 k = some b → ρ k = some b := fun k b h => by
    simp only [ρ0] at h
    split at h
    · exact h
    · cases h
  have hs0 : Sim S ρ0 w B.hp := by
    refine ⟨fun k o hk => ?_, fun k k' o o' b a1 a2 a3 a4 => hs.inj k k' o o' b a1 a2 (dn _ _ a3) (dn _ _ a4), hs.bnd⟩
    have hkl : k < nx := hB k (GH.hp_keys.1 (by rw [hk]; simp))
    obtain ⟨s, hm⟩ := GH.hp_mem hk
    rcases hs.obj k o hk with ⟨b, c, t, q1, q2, q3, q4, q5⟩ | ⟨q1, q2⟩
    · refine .inl ⟨b, c, t, up k b hkl q1, q2, ⟨q3.1, q3.2.1, fun i j rr u x g1 g2 g3 => ?_⟩, q4, q5⟩
      exact (hnb _ hm rr (List.mem_of_getElem? g1) x (List.mem_of_getElem? g2)).rep (fun k b h h' => up k b h h') (q3.2.2 i j rr u x g1 g2 g3)
    · exact .inr ⟨by rw [e0 k hkl]; exact q1, q2⟩
  simp only [Oper.wp, hrun, Oper.upon]
  refine (hg.fn S ρ0 w vs h1 (fun i u x a b => (hna x (List.mem_of_getElem? b)).rep (fun k b h h' => up k b h h') (h2 i u x a b)) hs0 n0).mono fun e w' h => ?_
  obtain ⟨v, S', ρ', rfl, q1, q2, q3⟩ := h
  let ρ'' : KM := fun k => match ρ k with
    | some b => some b
    | none => if k ∈ B'.keys then ρ' k else none
  have old : ∀ k b, ρ k = some b → ρ'' k = some b := fun k b h => by simp only [ρ'', h]
  have same : ∀ k, k ∈ B'.keys → ρ'' k = ρ' k := fun k hk => by
    cases hρ : ρ k with
    | none => simp only [ρ'', hρ, hk, if_true]
    | some b =>
      rw [old k b hρ]
      have hlt : k < nx := by
        by_cases hkB : k ∈ B.keys
        · exact hB k hkB
        · have h3 := hn k (by rw [GH.hp_hl]; exact GH.hp_keys.2 hk) (by rw [GH.hp_hl]; exact Classical.byContradiction fun h => hkB (GH.hp_keys.1 h))
          rw [h3] at hρ; cases hρ
      exact (q3.keys k b (up k b hlt hρ)).symm
  have kin : ∀ k o, B'.hp k = some o → k ∈ B'.keys := fun k o h => GH.hp_keys.1 (by rw [h]; simp)
  have lv : ∀ b, Live ρ'' B'.hp b → Live ρ' B'.hp b := fun b ⟨k, o, g1, g2⟩ => ⟨k, o, g1, by rw [← same k (kin k o g1)]; exact g2⟩
  have ow : ∀ b, Own ρ'' B'.hp b → Own ρ' B'.hp b := fun b ⟨k, o, g1, g3, g2⟩ => ⟨k, o, g1, g3, by rw [← same k (kin k o g1)]; exact g2⟩
  have lv0 : ∀ b, Live ρ0 B.hp b → Live ρ B.hp b := fun b ⟨k, o, g1, g2⟩ => ⟨k, o, g1, dn _ _ g2⟩
  have ow0 : ∀ b, Own ρ0 B.hp b → Own ρ B.hp b := fun b ⟨k, o, g1, g3, g2⟩ => ⟨k, o, g1, g3, dn _ _ g2⟩
  refine hK v S' ρ'' w' (hnr.rep (fun k b h h' => by rw [same k h]; exact h') q1) ?_ ?_
  · rw [GH.hp_hl]
    refine ⟨fun k o hk => ?_, fun k k' o o' b a1 a2 a3 a4 => q2.inj k k' o o' b a1 a2 (by rw [← same k (kin k o a1)]; exact a3) (by rw [← same k' (kin k' o' a2)]; exact a4), q2.bnd⟩
    obtain ⟨s, hm⟩ := GH.hp_mem hk
    rcases q2.obj k o hk with ⟨b, c, t, g1, g2, g3, g4⟩ | ⟨g1, g2⟩
    · refine .inl ⟨b, c, t, by rw [same k (kin k o hk)]; exact g1, g2, ⟨g3.1, g3.2.1, fun i j rr u x a1 a2 a3 => ?_⟩, g4⟩
      exact (hnb' _ hm rr (List.mem_of_getElem? a1) x (List.mem_of_getElem? a2)).rep (fun k b h h' => by rw [same k h]; exact h') (g3.2.2 i j rr u x a1 a2 a3)
    · exact .inr ⟨by rw [same k (kin k o hk)]; exact g1, g2⟩
  · rw [GH.hp_hl, GH.hp_hl]
    exact { os := q3.os, tape := q3.tape, output := q3.output, size := q3.size
            block := fun b hb ho => q3.block b hb (fun h => ho (ow0 b h))
            keeps := q3.keeps, more := q3.more
            only := fun b hb => by
              rcases q3.only b hb with h | h | h
              · exact .inl h
              · exact .inr (.inl h)
              · exact .inr (.inr (ow0 b h))
            live := fun b hb => (q3.live b (lv b hb)).imp_right (lv0 b)
            own := fun b hb => (q3.own b (ow b hb)).imp_right (ow0 b)
            keys := old
            dom := fun k b h => by
              cases hρ : ρ k with
              | some b0 => rw [old k b0 hρ] at h; exact .inl h
              | none =>
                refine .inr ?_
                by_cases hk : k ∈ B'.keys
                · exact Option.ne_none_iff_exists'.1 (GH.hp_keys.2 hk)
                · simp only [ρ'', hρ, hk, if_false] at h; cases h }

end
end Go.Proofs.Ytgaginflocpcfaa
