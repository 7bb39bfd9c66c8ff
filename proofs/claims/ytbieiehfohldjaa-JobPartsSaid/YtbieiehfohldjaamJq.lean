/-
  Jobs (layer 10): bytes in parts.
-/
import Derived.Test.YtbieiehfohldjaamJl
namespace Go.Proofs.Ytbieiehfohldjaa
open Go
set_option linter.unusedVariables false
set_option linter.unusedSimpArgs false
set_option maxRecDepth 100000

theorem st_congr {u : Unt} {c : Cmd} {bad : Sns} {i0 : Int} {r s : BS} : ∀ n : Nat, (∀ k, k < n → Blk.of (r.drop (64 * k)) = Blk.of (s.drop (64 * k))) → jSt u c bad i0 r n = jSt u c bad i0 s n
  | 0, _ => rfl
  | n + 1, h => by
    have ih := st_congr (u := u) (c := c) (bad := bad) (i0 := i0) n (fun k hk => h k (by omega))
    show jBk (jSt u c bad i0 r n).1 c (jSt u c bad i0 r n).2 (jPos c (i0 + n)) (Blk.of (r.drop (64 * n))) = _
    rw [ih, h n (by omega)]
    rfl
theorem of_pre {a b : BS} {k : Nat} (h : 64 * k + 64 ≤ a.length) : Blk.of ((a ++ b).drop (64 * k)) = Blk.of (a.drop (64 * k)) := by
  rw [← of_take, ← of_take (a.drop (64 * k)), List.drop_append_of_le_length (by omega), List.take_append_of_le_length (by rw [List.length_drop]; omega)]
theorem st_add {u : Unt} {c : Cmd} {bad : Sns} {i0 : Int} {r : BS} {n : Nat} : ∀ m : Nat, jSt (jSt u c bad i0 r n).1 c (jSt u c bad i0 r n).2 (i0 + n) (r.drop (64 * n)) m = jSt u c bad i0 r (n + m)
  | 0 => rfl
  | m + 1 => by
    have ih := st_add (u := u) (c := c) (bad := bad) (i0 := i0) (r := r) (n := n) m
    show jBk (jSt _ c _ (i0 + n) (r.drop (64 * n)) m).1 c (jSt _ c _ (i0 + n) (r.drop (64 * n)) m).2 (jPos c (i0 + n + m)) (Blk.of ((r.drop (64 * n)).drop (64 * m))) = jBk (jSt u c bad i0 r (n + m)).1 c (jSt u c bad i0 r (n + m)).2 (jPos c (i0 + (n + m : Nat))) (Blk.of (r.drop (64 * (n + m))))
    rw [ih, List.drop_drop, show i0 + (n : Int) + m = i0 + (n + m : Nat) by omega, show 64 * n + 64 * m = 64 * (n + m) by omega]
theorem take_rest_app {j : Job} {a b : BS} (h1 : 0 ≤ j.took) (h2 : j.took ≤ j.len) : jTook j a + min (b.length : Int) (j.len - jTook j a) = jTook j (a ++ b) ∧ jRest j a ++ b.take (j.len - jTook j a).toNat = jRest j (a ++ b) := by
  unfold jTook jRest
  constructor
  · rw [List.length_append]; omega
  · rw [List.take_append, List.append_assoc, show (j.len - j.took).toNat - a.length = (j.len - (j.took + min (a.length : Int) (j.len - j.took))).toNat by omega]
theorem take_app (u : Unt) (j : Job) (a b : BS) : jTake (jTake u j a).1 (jTake u j a).2 b = jTake u j (a ++ b) := by
  have hR := take_right u j a
  cases hr : jRight j with
  | false =>
    have e : ∀ x, jTake u j x = (u, j) := fun x => by unfold jTake; rw [if_pos hr]
    rw [e, e, e]
  | true =>
    rw [hr] at hR
    obtain ⟨r1, r2, r3, r4, r5, r6⟩ := right_facts hr
    obtain ⟨q1, q2⟩ := take_rest_app (a := a) (b := b) r1 r2
    cases hs : jSel j.cmd.op with
    | true =>
      have e : ∀ x, jTake u j x = (u, ⟨j.cmd, j.len, jTook j x, jRest j x, j.bad⟩) := fun x => by unfold jTake; rw [if_neg (by rw [hr]; decide), if_pos hs]
      rw [e] at hR ⊢
      dsimp only at hR ⊢
      unfold jTake
      rw [if_neg (by rw [hR]; decide), if_pos hs, if_neg (by rw [hr]; decide), if_pos hs, ← q1, ← q2]
      rfl
    | false =>
      have r5 := r5 hs
      have e : ∀ x, jTake u j x = ((jSt u j.cmd j.bad (j.took / 64) (jRest j x) ((jRest j x).length / 64)).1, ⟨j.cmd, j.len, jTook j x, (jRest j x).drop (64 * ((jRest j x).length / 64)), (jSt u j.cmd j.bad (j.took / 64) (jRest j x) ((jRest j x).length / 64)).2⟩) := fun x => by unfold jTake; rw [if_neg (by rw [hr]; decide), if_neg (by rw [hs]; decide)]
      rw [e] at hR
      rw [e a, e (a ++ b)]
      dsimp only at hR ⊢
      unfold jTake
      rw [if_neg (by rw [hR]; decide), if_neg (by rw [hs]; decide)]
      have hl : ((jRest j a).length : Int) = j.took % 64 + min (a.length : Int) (j.len - j.took) := by unfold jRest; rw [List.length_append, List.length_take]; omega
      have hT : jTook j a = j.took + min (a.length : Int) (j.len - j.took) := rfl
      have hi : jTook j a / 64 = j.took / 64 + ((jRest j a).length / 64 : Nat) := by omega
      have c1 : ∀ s, jRest ⟨j.cmd, j.len, jTook j a, (jRest j a).drop (64 * ((jRest j a).length / 64)), s⟩ b = (jRest j (a ++ b)).drop (64 * ((jRest j a).length / 64)) := fun s => by
        rw [← q2, List.drop_append_of_le_length (by omega)]
        rfl
      have c2 : ∀ s, jTook ⟨j.cmd, j.len, jTook j a, (jRest j a).drop (64 * ((jRest j a).length / 64)), s⟩ b = jTook j (a ++ b) := fun s => by rw [← q1]; rfl
      rw [c1, c2]
      dsimp only
      generalize hA : (jRest j a).length / 64 = n at *
      have hP : jSt u j.cmd j.bad (j.took / 64) (jRest j a) n = jSt u j.cmd j.bad (j.took / 64) (jRest j (a ++ b)) n := by
        refine st_congr n (fun k hk => ?_)
        rw [← q2, of_pre (by omega)]
      have hle : 64 * n ≤ (jRest j (a ++ b)).length := by rw [← q2, List.length_append]; omega
      have hm : (jRest j (a ++ b)).length / 64 = n + ((jRest j (a ++ b)).drop (64 * n)).length / 64 := by rw [List.length_drop]; omega
      rw [hi, hP, st_add, ← hm, List.drop_drop, show 64 * n + 64 * (((jRest j (a ++ b)).drop (64 * n)).length / 64) = 64 * ((jRest j (a ++ b)).length / 64) by omega]
theorem take_nil {u : Unt} {j : Job} (h : jRight j = true) (h0 : j.rest = []) (h1 : j.took = 0) : jTake u j [] = (u, j) := by
  obtain ⟨c, len, took, rest, bad⟩ := j
  subst h0 h1
  have e1 : jRest ⟨c, len, 0, [], bad⟩ [] = [] := by unfold jRest; rw [List.take_nil]; rfl
  have e2 : jTook ⟨c, len, 0, [], bad⟩ [] = 0 := by
    obtain ⟨r1, r2, _⟩ := right_facts h
    unfold jTook
    dsimp only at *
    rw [show (([] : BS).length : Int) = 0 from rfl]
    omega
  unfold jTake
  rw [if_neg (by rw [h]; decide), e1, e2]
  split <;> rfl
theorem take_cmd (u : Unt) (j : Job) (b : BS) : (jTake u j b).2.cmd = j.cmd := by
  unfold jTake
  (repeat' split) <;> rfl
theorem take_len (u : Unt) (j : Job) (b : BS) : (jTake u j b).2.len = j.len := by
  unfold jTake
  (repeat' split) <;> rfl
theorem take_took {u : Unt} {j : Job} {b : BS} (h : jRight j = true) : (jTake u j b).2.took = jTook j b := by
  unfold jTake
  rw [if_neg (by rw [h]; decide)]
  split <;> rfl
theorem start_facts {c : Cmd} (h : (jStart c).2 = true) : jRight (jStart c).1 = true ∧ (jStart c).1.rest = [] ∧ (jStart c).1.took = 0 ∧ (jStart c).1.cmd = c ∧ 0 ≤ (jStart c).1.len ∧ (jStart c).1.len = jSize c * c.n ∧ (jStart c).1.bad = sOk := by
  have hs : jStart c = (⟨c, jSize c * c.n, 0, [], sOk⟩, true) := by
    unfold jStart at h ⊢
    split at h
    · cases h
    · rename_i hn
      rw [if_neg hn]
  have hz : (jStart c).1.len = jSize c * c.n := by rw [hs]
  have hlen : 0 ≤ jSize c * c.n := by
    have hn : ¬ (jSize c = 0 ∨ c.n < 1 ∨ c.n > 4294967296) := fun q => by
      unfold jStart at h
      rw [if_pos q] at h
      cases h
    have : jSize c = 1 ∨ jSize c = 64 := by
      unfold jSize at *
      (repeat' split) <;> simp_all
    rcases this with e | e <;> rw [e] <;> omega
  refine ⟨?_, by rw [hs], by rw [hs], by rw [hs], by rw [hz]; exact hlen, hz, by rw [hs]⟩
  unfold jRight
  rw [hs]
  dsimp only
  rw [hs]
  dsimp only
  have : ((([] : BS).length : Int) = if jSel c.op = true then 0 else 0 % 64) := by split <;> simp
  simp [hlen]
/-- so many parts, one behind the other -/
def jCat (ps : List BS) (k : Nat) : BS := (ps.take k).flatten
theorem jCat_succ {ps : List BS} {k : Nat} (h : k < ps.length) : jCat ps (k + 1) = jCat ps k ++ ps[k]?.getD [] := by
  unfold jCat
  rw [take_getD [] h, List.flatten_append]
  simp
end Go.Proofs.Ytbieiehfohldjaa
