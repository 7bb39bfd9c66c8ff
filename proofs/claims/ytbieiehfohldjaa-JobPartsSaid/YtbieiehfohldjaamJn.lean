/-
  Jobs (layer 10): how much a unit holds stays bounded.
-/
import Derived.Test.YtbieiehfohldjaamJl
namespace Go.Proofs.Ytbieiehfohldjaa
open Go
set_option linter.unusedVariables false
set_option linter.unusedSimpArgs false
set_option maxRecDepth 100000
set_option maxHeartbeats 8000000

theorem write_len {m : Med} {p : Int} {x : Blk} {t : Bool} (h : (mWrite m p x t).2 = 0) : (mWrite m p x t).1.blocks.length = m.blocks.length ∧ (mWrite m p x t).1.dirty.length ≤ 65 := by
  have hd := fun hr => ((right_iff m).1 hr).2.1
  unfold mWrite at *
  by_cases h1 : mRight m = false
  · rw [if_pos h1] at h; exact absurd h (by decide)
  · rw [if_neg h1] at h ⊢
    rw [Bool.not_eq_false] at h1
    have hd := hd h1
    by_cases h2 : ¬ (0 ≤ p ∧ p < m.blocks.length)
    · rw [if_pos h2] at h; exact absurd h (by decide)
    · rw [if_neg h2]
      by_cases h3 : t = true
      · rw [if_pos h3]
        have := flush_len (q_wr m.dirty.length p true) m
        have := flush_dlen (q_wr m.dirty.length p true) m
        refine ⟨?_, ?_⟩
        · dsimp only; rw [List.length_set]; assumption
        · dsimp only; omega
      · rw [if_neg h3]
        have := flush_len (q_wr m.dirty.length p false) m
        have := flush_dlen (q_wr m.dirty.length p false) m
        refine ⟨?_, ?_⟩
        · dsimp only; assumption
        · dsimp only; rw [List.length_append]; simp; omega
theorem put_len {s : Slt} {p : Int} {x : Blk} {t : Bool} (hp : 0 ≤ p) : (sPut s p x t).1.med.blocks.length = s.med.blocks.length ∧ (sPut s p x t).1.med.dirty.length ≤ max s.med.dirty.length 65 := by
  unfold sPut
  by_cases h : (sCheck s p 1 true).good = true
  · rw [if_pos h]
    obtain ⟨a, b⟩ := write_len (chk_write (x := x) (thr := t) h hp)
    exact ⟨a, by dsimp only; omega⟩
  · rw [if_neg h]
    exact ⟨rfl, by dsimp only; omega⟩
/-- a unit that holds no more than another one -/
def Few (u v : Unt) : Prop := v.slot.med.blocks.length = u.slot.med.blocks.length ∧ v.slot.med.dirty.length ≤ max u.slot.med.dirty.length 65 ∧ v.atts = u.atts ∧ v.last = u.last
theorem Few.refl (u : Unt) : Few u u := ⟨rfl, by omega, rfl, rfl⟩
theorem Few.trans {u v w : Unt} (h : Few u v) (k : Few v w) : Few u w := ⟨k.1.trans h.1, by have := h.2.1; have := k.2.1; omega, k.2.2.1.trans h.2.2.1, k.2.2.2.trans h.2.2.2⟩
theorem blk_few {u : Unt} {j : Job} {p : Int} {x : Blk} (hp : 0 ≤ p) : Few u (jBlk u j p x).1 := by
  unfold jBlk
  split
  · exact Few.refl u
  · split
    · exact Few.refl u
    · obtain ⟨a, b⟩ := put_len (s := u.slot) (x := x) (t := decide (j.cmd.bits = 1) || !u.caching) hp
      exact ⟨a, b, rfl, rfl⟩
theorem pos_nn {c : Cmd} {i : Int} (hc : 0 ≤ c.pos) (hi : 0 ≤ i) : 0 ≤ jPos c i := by
  unfold jPos jClamp
  (repeat' split) <;> omega
theorem st_few {u : Unt} {c : Cmd} {bad : Sns} {i0 : Int} {rest : BS} (hc : 0 ≤ c.pos) (hi : 0 ≤ i0) : ∀ k, Few u (jSt u c bad i0 rest k).1
  | 0 => Few.refl u
  | k + 1 => (st_few hc hi k).trans (by
    show Few _ (jBk (jSt u c bad i0 rest k).1 c (jSt u c bad i0 rest k).2 (jPos c (i0 + k)) (Blk.of (rest.drop (64 * k)))).1
    exact blk_few (pos_nn hc (by omega)))
theorem take_few {u : Unt} {j : Job} {b : BS} (hc : 0 ≤ j.cmd.pos) : Few u (jTake u j b).1 := by
  unfold jTake
  by_cases h : jRight j = false
  · rw [if_pos h]; exact Few.refl u
  · rw [if_neg h]
    rw [Bool.not_eq_false] at h
    have := (right_facts h).1
    split
    · exact Few.refl u
    · exact st_few hc (by omega) _
theorem fin_few {u : Unt} {j : Job} : Few u (jFin u j).1 := by
  unfold jFin
  (repeat' split) <;> exact Few.refl u
theorem take_rest {u : Unt} {j : Job} {b : BS} : (jTake u j b).2.rest.length ≤ j.rest.length + b.length := by
  unfold jTake jRest
  (repeat' split)
  · dsimp only; omega
  · dsimp only; rw [List.length_append, List.length_take]; omega
  · dsimp only; rw [List.length_drop, List.length_append, List.length_take]; omega
end Go.Proofs.Ytbieiehfohldjaa
