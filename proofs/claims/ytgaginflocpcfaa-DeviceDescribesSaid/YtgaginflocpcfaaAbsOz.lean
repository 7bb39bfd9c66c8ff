/-
  The value-level machine: objects that never change any more, ahead of an operation.
-/
import Derived.Test.YtgaginflocpcfaaAbsO
namespace Go.Proofs.Ytgaginflocpcfaa
open Go
set_option linter.unusedVariables false
set_option linter.unusedSimpArgs false

theorem lok_freeze {P : Program} {ov ov' : Operand → V} {o : Oper} {B post : HL} {v : V} (hB : ∀ x ∈ o.op.operands.toList, ∀ (S : Nat → Prop) (ρ : KM) (w : World) (u : Value), Sim S ρ w (hpo B) → Rep S ρ w u (ov x) → Rep (SB S ρ (hpo B)) ρ w u (ov' x)) (hap : ∀ k, hpo post k ≠ none → hpo B k = none) (h : LOk P ov' o [] [] post v) :
    LOk P ov o [] B (post ++ frozen B) v := by
  intro S ρ w a hx hs hn next Q hK
  simp only [List.nil_append] at hs
  have fz : ∀ k o, hpo (frozen B) k = some o → ∃ o0, hpo B k = some o0 ∧ o = { o0 with frz := true } := fun k o h => by
    rw [frozen_at'] at h
    cases hb : hpo B k with
    | none => rw [hb] at h; cases h
    | some o0 => rw [hb] at h; cases h; exact ⟨o0, rfl, rfl⟩
  have both : ∀ k o, hpo (post ++ frozen B) k = some o → hpo post k = some o ∨ (hpo post k = none ∧ ∃ o0, hpo B k = some o0 ∧ o = { o0 with frz := true }) := fun k o h => by
    rw [hpo_app] at h
    cases hp : hpo post k with
    | some o' => rw [hp] at h; exact .inl h
    | none => rw [hp] at h; exact .inr ⟨rfl, fz k o h⟩
  refine h (SB S ρ (hpo B)) ρ w a (fun x hx' => ?_) (Sim.empty (sb_bnd hs)) (fun k h1 _ => hn k (by rw [hpo_app]; intro h2; cases hp : hpo post k with
      | some o' => rw [hp] at h2; cases h2
      | none => exact h1 hp) (hap k h1)) next Q fun u S' ρ' w' hu hsim hext => ?_
  · exact hB x hx' S ρ w _ hs (hx x hx')
  · have hold : ∀ b, b < w.heap.size → w'.heap[b]? = w.heap[b]? := fun b hb => hext.block b hb (fun ⟨k, o, h, _⟩ => by cases h)
    have hup : ∀ {u : Value} {x : V}, Rep S ρ w u x → Rep S' ρ' w' u x := fun h => h.mono (fun b h => hext.more b (.inl h)) (fun b hb => hold b (hs.bnd b hb)) hext.keys hext.keeps
    have hnone : ∀ k o, hpo B k = some o → ρ k = none → ρ' k = none := fun k o h1 h2 => by
      cases hh : ρ' k with
      | none => rfl
      | some b =>
        rcases hext.dom k b hh with h | ⟨o', h⟩
        · rw [h2] at h; cases h
        · rw [hap k (by rw [h]; simp)] at h1; cases h1
    have old : ∀ k o b, hpo B k = some o → ρ' k = some b → ρ k = some b := fun k o b h1 h2 => by
      cases hh : ρ k with
      | none => rw [hnone k o h1 hh] at h2; cases h2
      | some b' => rw [hext.keys k b' hh] at h2; exact h2
    refine hK u S' ρ' w' hu ⟨fun k o hk => ?_, fun k k' o o' b a1 a2 a3 a4 => ?_, hsim.bnd⟩ ?_
    · rcases both k o hk with hk | ⟨_, o0, h0, rfl⟩
      · exact hsim.obj k o hk
      · rcases hs.obj k o0 h0 with ⟨b, c, t, p1, p2, p3, p4, p5⟩ | ⟨p1, p2⟩
        · refine .inl ⟨b, c, t, hext.keys k b p1, ?_, p3.mono fun u x h => hup h, fun _ => hext.more b (.inr ⟨k, o0, h0, p1⟩), fun h => by cases h⟩
          exact p2.of (hold b (hs.lt h0 p1))
        · exact .inr ⟨hnone k o0 h0 p1, p2⟩
    · have mix : ∀ k k' o o', hpo post k = some o → hpo B k' = some o' → ρ' k = some b → ρ' k' = some b → False := fun k k' o o' h1 h2 h3 h4 => by
        have h5 := old k' o' b h2 h4
        have h6 := hs.lt h2 h5
        rcases hext.live b ⟨k, o, h1, h3⟩ with h | ⟨_, _, h, _⟩
        · omega
        · cases h
      rcases both k o a1 with b1 | ⟨_, o0, b1, _⟩
      · rcases both k' o' a2 with b2 | ⟨_, o0', b2, _⟩
        · exact hsim.inj k k' o o' b b1 b2 a3 a4
        · exact (mix k k' o o0' b1 b2 a3 a4).elim
      · rcases both k' o' a2 with b2 | ⟨_, o0', b2, _⟩
        · exact (mix k' k o' o0 b2 b1 a4 a3).elim
        · exact hs.inj k k' o0 o0' b b1 b2 (old k o0 b b1 a3) (old k' o0' b b2 a4)
    · exact { os := hext.os, tape := hext.tape, output := hext.output, size := hext.size, block := fun b hb _ => hold b hb, keeps := hext.keeps, more := fun b h => hext.more b (.inl h)
              only := fun b h => by
                rcases hext.only b h with h | h | ⟨k, o, h, _⟩
                · rcases h with h | ⟨k, o, g1, g2⟩
                  · exact .inl h
                  · have g3 := (hs.frz g1 g2).1
                    cases hf : o.frz with
                    | true => exact .inl (g3 hf)
                    | false => exact .inr (.inr ⟨k, o, g1, hf, g2⟩)
                · exact .inr (.inl h)
                · cases h
              live := fun b ⟨k, o, h, hb⟩ => by
                rcases both k o h with h | ⟨_, o0, h0, _⟩
                · rcases hext.live b ⟨k, o, h, hb⟩ with h | ⟨_, _, h, _⟩
                  · exact .inl h
                  · cases h
                · exact .inr ⟨k, o0, h0, old k o0 b h0 hb⟩
              own := fun b ⟨k, o, h, hf, hb⟩ => by
                rcases both k o h with h | ⟨_, o0, h0, rfl⟩
                · rcases hext.own b ⟨k, o, h, hf, hb⟩ with h | ⟨_, _, h, _⟩
                  · exact .inl h
                  · cases h
                · cases hf
              keys := hext.keys
              dom := fun k b h => by
                rcases hext.dom k b h with h | ⟨o, h⟩
                · exact .inl h
                · exact .inr ⟨o, by rw [hpo_app, h]⟩ }
end Go.Proofs.Ytgaginflocpcfaa
