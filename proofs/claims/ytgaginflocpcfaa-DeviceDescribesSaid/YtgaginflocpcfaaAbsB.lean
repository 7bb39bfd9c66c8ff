/-
  The value-level machine: objects by their names, one step's frame, steps that only read.
-/
import Derived.Test.YtgaginflocpcfaaAbsA
namespace Go.Proofs.Ytgaginflocpcfaa
open Go
set_option linter.unusedVariables false
set_option linter.unusedSimpArgs false

abbrev HL := List (Nat × VObj)
def hpo : HL → Hp
  | [] => fun _ => none
  | (k, o) :: l => upd (hpo l) k (some o)
def Hp.add (H : Hp) : HL → Hp
  | [] => H
  | (k, o) :: l => upd (Hp.add H l) k (some o)
def Hp.del (H : Hp) : HL → Hp
  | [] => H
  | (k, _) :: l => upd (Hp.del H l) k none

theorem hpo_nil (k : Nat) : hpo [] k = none := rfl
theorem hpo_one (k : Nat) (o : VObj) (t : Nat) : hpo [(k, o)] t = if t = k then some o else none := rfl
theorem add_apply (H : Hp) (l : HL) (k : Nat) : H.add l k = match hpo l k with | some o => some o | none => H k := by
  induction l with
  | nil => rfl
  | cons p l ih =>
    obtain ⟨j, o⟩ := p
    simp only [Hp.add, hpo, upd]
    by_cases h : k = j
    · simp [h]
    · simp [h, ih]
theorem del_apply (H : Hp) (l : HL) (k : Nat) : H.del l k = match hpo l k with | some _ => none | none => H k := by
  induction l with
  | nil => rfl
  | cons p l ih =>
    obtain ⟨j, o⟩ := p
    simp only [Hp.del, hpo, upd]
    by_cases h : k = j
    · simp [h]
    · simp [h, ih]
/-- part of a heap -/
def Sub (G H : Hp) : Prop := ∀ k o, G k = some o → H k = some o
theorem Sub.nil (H : Hp) : Sub (hpo []) H := fun _ _ h => by simp [hpo] at h
theorem Sub.one {H : Hp} {k : Nat} {o : VObj} (h : H k = some o) : Sub (hpo [(k, o)]) H := fun t o' ht => by
  rw [hpo_one] at ht
  split at ht
  · rename_i e; subst e; cases ht; exact h
  · cases ht
theorem Sub.cons {H : Hp} {k : Nat} {o : VObj} {l : HL} (h : H k = some o) (hl : Sub (hpo l) H) : Sub (hpo ((k, o) :: l)) H := fun t o' ht => by
  simp only [hpo, upd] at ht
  split at ht
  · rename_i e; subst e; cases ht; exact h
  · exact hl _ _ ht

theorem Sim.sub {S : Nat → Prop} {ρ : KM} {w : World} {G H : Hp} (h : Sim S ρ w H) (g : Sub G H) : Sim S ρ w G where
  obj := fun k o hk => h.obj k o (g k o hk)
  inj := fun k k' o o' b h1 h2 => h.inj k k' o o' b (g _ _ h1) (g _ _ h2)
  bnd := h.bnd

theorem Sim.empty {S : Nat → Prop} {ρ : KM} {w : World} (hb : ∀ b, S b → b < w.heap.size) : Sim S ρ w (fun _ => none) where
  obj := fun _ _ h => by cases h
  inj := fun _ _ _ _ _ h => by cases h
  bnd := hb

theorem RowsAt.mono {S S' : Nat → Prop} {ρ ρ' : KM} {w w' : World} {sz : Nat} {rows : List (List V)} {c : Array Value} (h : RowsAt S ρ w sz rows c) (hr : ∀ u x, Rep S ρ w u x → Rep S' ρ' w' u x) :
    RowsAt S' ρ' w' sz rows c := ⟨h.1, h.2.1, fun i j r u x h1 h2 h3 => hr _ _ (h.2.2 i j r u x h1 h2 h3)⟩

theorem Own.sub {ρ : KM} {G H : Hp} (g : Sub G H) {b : Nat} (h : Own ρ G b) : Own ρ H b := let ⟨k, o, h1, h2, h3⟩ := h; ⟨k, o, g _ _ h1, h2, h3⟩
theorem Live.sub {ρ : KM} {G H : Hp} (g : Sub G H) {b : Nat} (h : Live ρ G b) : Live ρ H b := let ⟨k, o, h1, h3⟩ := h; ⟨k, o, g _ _ h1, h3⟩

/-- A STEP OVER PART OF THE HEAP IS ONE OVER ALL OF IT. -/
theorem step_frame {S S' : Nat → Prop} {ρ ρ' : KM} {w w' : World} {H : Hp} {pre post : HL} (hs : Sim S ρ w H) (hp : Sub (hpo pre) H) (hn : ∀ k, hpo post k ≠ none → hpo pre k = none → ρ k = none)
    (hs' : Sim S' ρ' w' (hpo post)) (he : Ext S ρ w (hpo pre) S' ρ' w' (hpo post)) :
    Sim S' ρ' w' ((H.del pre).add post) ∧ Ext S ρ w H S' ρ' w' ((H.del pre).add post) := by
  have hrep : ∀ u x, Rep S ρ w u x → Rep S' ρ' w' u x := fun u x h => he.rep (hs.sub hp) h
  have old : ∀ k o, ((H.del pre).add post) k = some o → hpo post k = some o ∨ (hpo post k = none ∧ hpo pre k = none ∧ H k = some o) := fun k o h => by
    rw [add_apply] at h
    cases hk : hpo post k with
    | some o' => rw [hk] at h; exact .inl h
    | none =>
      rw [hk, del_apply] at h
      cases hk' : hpo pre k with
      | some o' => rw [hk'] at h; cases h
      | none => rw [hk'] at h; exact .inr ⟨rfl, rfl, h⟩
  have oldb : ∀ k o b, hpo pre k = none → H k = some o → ρ k = some b → ¬ Live ρ (hpo pre) b := fun k o b hk ho hb ⟨k', o', h1, h2⟩ => by
    have := hs.inj k k' o o' b ho (hp _ _ h1) hb h2
    subst this
    rw [h1] at hk; cases hk
  have own_live : ∀ b, Own ρ (hpo pre) b → Live ρ (hpo pre) b := fun b ⟨k, o, h1, _, h3⟩ => ⟨k, o, h1, h3⟩
  have blt : ∀ k o b, H k = some o → ρ k = some b → b < w.heap.size := fun k o b ho hb => hs.lt ho hb
  have keep : ∀ k, hpo post k = none → ρ k = none → ρ' k = none := fun k h0 h1 => by
    cases h : ρ' k with
    | none => rfl
    | some b =>
      rcases he.dom k b h with h' | ⟨o, h'⟩
      · rw [h1] at h'; cases h'
      · rw [h0] at h'; cases h'
  have back : ∀ k o b, hpo post k = none → H k = some o → ρ' k = some b → ρ k = some b := fun k o b h0 ho hb => by
    cases h : ρ k with
    | none => rw [keep k h0 h] at hb; cases hb
    | some b' =>
      have := he.keys _ _ h
      rw [this] at hb
      exact hb
  refine ⟨⟨fun k o hk => ?_, fun k k' o o' b h1 h2 h3 h4 => ?_, hs'.bnd⟩, ?_⟩
  · rcases old k o hk with h | ⟨h0, h1, h2⟩
    · exact hs'.obj k o h
    · rcases hs.obj k o h2 with ⟨b, c, t, hr, hw, hrow, hf, hnf⟩ | ⟨hr, hrow⟩
      · have hnl := oldb k o b h1 h2 hr
        refine .inl ⟨b, c, t, he.keys _ _ hr, ?_, hrow.mono hrep, fun h => he.more _ (hf h), fun h hb => ?_⟩
        · exact hw.of (he.block b (blt k o b h2 hr) (fun h => hnl (own_live b h)))
        · rcases he.only b hb with h' | h' | h'
          · exact hnf h h'
          · have := blt k o b h2 hr; omega
          · exact hnl (own_live b h')
      · exact .inr ⟨keep k h0 hr, hrow⟩
  · have cross : ∀ k k' o o' b, hpo post k = some o → hpo post k' = none → hpo pre k' = none → H k' = some o' → ρ' k = some b → ρ' k' = some b → False := fun k k' o o' b h1 h0 h2 h3 h4 h5 => by
      have hr := back k' o' b h0 h3 h5
      rcases he.live b ⟨k, o, h1, h4⟩ with h | h
      · have := blt k' o' b h3 hr; omega
      · exact oldb k' o' b h2 h3 hr h
    rcases old k o h1 with a | ⟨a0, a1, a2⟩ <;> rcases old k' o' h2 with c | ⟨c0, c1, c2⟩
    · exact hs'.inj k k' o o' b a c h3 h4
    · exact (cross k k' o o' b a c0 c1 c2 h3 h4).elim
    · exact (cross k' k o' o b c a0 a1 a2 h4 h3).elim
    · exact hs.inj k k' o o' b a2 c2 (back k o b a0 a2 h3) (back k' o' b c0 c2 h4)
  · have onew : ∀ b, Live ρ' ((H.del pre).add post) b → w.heap.size ≤ b ∨ Live ρ H b := fun b ⟨k, o, h1, h2⟩ => by
      rcases old k o h1 with a | ⟨a0, a1, a2⟩
      · rcases he.live b ⟨k, o, a, h2⟩ with h | h
        · exact .inl h
        · exact .inr (h.sub hp)
      · exact .inr ⟨k, o, a2, back k o b a0 a2 h2⟩
    have wnew : ∀ b, Own ρ' ((H.del pre).add post) b → w.heap.size ≤ b ∨ Own ρ H b := fun b ⟨k, o, h1, hf, h2⟩ => by
      rcases old k o h1 with a | ⟨a0, a1, a2⟩
      · rcases he.own b ⟨k, o, a, hf, h2⟩ with h | h
        · exact .inl h
        · exact .inr (h.sub hp)
      · exact .inr ⟨k, o, a2, hf, back k o b a0 a2 h2⟩
    exact { os := he.os, tape := he.tape, output := he.output, size := he.size
            block := fun b hb ho => he.block b hb (fun h => ho (h.sub hp))
            keeps := he.keeps, more := he.more
            only := fun b hb => by
              rcases he.only b hb with h | h | h
              · exact .inl h
              · exact .inr (.inl h)
              · exact .inr (.inr (h.sub hp))
            live := onew, own := wnew, keys := he.keys
            dom := fun k b h => by
              rcases he.dom k b h with h | ⟨o, h⟩
              · exact .inl h
              · exact .inr ⟨o, by rw [add_apply, h]⟩ }

/-- ONE OPERATION, BY WHAT IT TOUCHES: 'rd' is only read, 'pre' becomes 'post'. -/
def LOk (P : Program) (ov : Operand → V) (o : Oper) (rd pre post : HL) (v : V) : Prop :=
  ∀ (S : Nat → Prop) (ρ : KM) (w : World) (a : Act), (∀ x ∈ o.op.operands.toList, Rep S ρ w (a.eval x) (ov x)) → Sim S ρ w (hpo (rd ++ pre)) → (∀ k, hpo post k ≠ none → hpo pre k = none → ρ k = none) →
    ∀ (next : Act → World → Prop) (Q : Exit → Act → World → Prop),
      (∀ u S' ρ' w', Rep S' ρ' w' u v → Sim S' ρ' w' (hpo post) → Ext S ρ w (hpo pre) S' ρ' w' (hpo post) → next (a.put o.dst u) w') → o.wp P a w next Q

theorem Sim.of_pre {S : Nat → Prop} {ρ : KM} {w : World} {rd : HL} (h : Sim S ρ w (hpo (rd ++ []))) : Sim S ρ w (hpo rd) := by simpa using h

/-- an operation that yields a value and leaves the world as it is -/
theorem LOk.read {P : Program} {ov : Operand → V} {o : Oper} {rd : HL} {v : V}
    (h : ∀ (S : Nat → Prop) (ρ : KM) (w : World) (a : Act), (∀ x ∈ o.op.operands.toList, Rep S ρ w (a.eval x) (ov x)) → Sim S ρ w (hpo rd) →
      ∃ u, Rep S ρ w u v ∧ (execOp a.eval o).run P w = .ok (.value u) w) : LOk P ov o rd [] [] v := by
  intro S ρ w a hx hs hn next Q hK
  obtain ⟨u, hu, hr⟩ := h S ρ w a hx hs.of_pre
  simp only [Oper.wp, hr, Oper.upon]
  exact hK u S ρ w hu (Sim.empty hs.bnd) (Ext.refl _ _ _ _)

theorem LOk.pure {P : Program} {ov : Operand → V} {o : Oper} {v : V}
    (h : ∀ (S : Nat → Prop) (ρ : KM) (w : World) (a : Act), (∀ x ∈ o.op.operands.toList, Rep S ρ w (a.eval x) (ov x)) →
      ∃ u, Rep S ρ w u v ∧ (execOp a.eval o).run P w = .ok (.value u) w) : LOk P ov o [] [] [] v :=
  LOk.read fun S ρ w a hx _ => h S ρ w a hx

theorem Rep.lit_inv {S : Nat → Prop} {ρ : KM} {w : World} {u v : Value} (h : Rep S ρ w u (.lit v)) : u = v := by cases h; rfl
theorem Rep.lit_one {S : Nat → Prop} {ρ : KM} {w : World} {u v : Value} (h : Rep S ρ w u (.lit v)) : v.oneCell' = true := by cases h; assumption

end Go.Proofs.Ytgaginflocpcfaa
