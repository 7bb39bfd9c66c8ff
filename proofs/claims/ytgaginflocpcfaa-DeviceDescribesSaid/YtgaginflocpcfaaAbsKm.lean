/-
  The value-level machine: what a map holds, in whatever order.
-/
import Derived.Test.YtgaginflocpcfaaAbsKz
namespace Go.Proofs.Ytgaginflocpcfaa
open Go
set_option linter.unusedVariables false
set_option linter.unusedSimpArgs false

def flatE (l : List MapEntry) : List Value := l.flatMap fun e => [e.key, e.val]
theorem flatE_get : ∀ (l : List MapEntry) (i : Nat), (flatE l)[2 * i]? = (l[i]?).map (·.key) ∧ (flatE l)[2 * i + 1]? = (l[i]?).map (·.val)
  | [], i => by simp [flatE]
  | e :: l, 0 => by simp [flatE]
  | e :: l, i + 1 => by
    have h := flatE_get l i
    have e1 : flatE (e :: l) = e.key :: e.val :: flatE l := rfl
    rw [e1, show 2 * (i + 1) = 2 * i + 1 + 1 by omega]
    simp only [List.getElem?_cons_succ]
    exact h
theorem flatE_len (l : List MapEntry) : (flatE l).length = 2 * l.length := by
  induction l with
  | nil => rfl
  | cons e l ih => rw [show flatE (e :: l) = e.key :: e.val :: flatE l from rfl]; simp [ih]; omega
theorem mapCells_eq (es : Array MapEntry) : mapCells es = (Value.int .i64 (es.size : Int) :: Value.bool false :: flatE es.toList).toArray := rfl
theorem mapCells_key (es : Array MapEntry) (i : Nat) : (mapCells es)[(i + 1) * 2]? = (es[i]?).map (·.key) := by
  rw [mapCells_eq, List.getElem?_toArray, show (i + 1) * 2 = 2 * i + 1 + 1 by omega, List.getElem?_cons_succ, List.getElem?_cons_succ, (flatE_get _ i).1, Array.getElem?_toList]
theorem mapCells_val (es : Array MapEntry) (i : Nat) : (mapCells es)[(i + 1) * 2 + 1]? = (es[i]?).map (·.val) := by
  rw [mapCells_eq, List.getElem?_toArray, show (i + 1) * 2 + 1 = 2 * i + 1 + 1 + 1 by omega, List.getElem?_cons_succ, List.getElem?_cons_succ, (flatE_get _ i).2, Array.getElem?_toList]
theorem mapCells_size (es : Array MapEntry) : (mapCells es).size = 2 * es.size + 2 := by
  rw [mapCells_eq]; simp [flatE_len]

/-- what a map holds is told by rows -/
def MapAt (S : Nat → Prop) (ρ : KM) (w : World) (ents : List (List V)) (es : Array MapEntry) : Prop :=
  es.size = ents.length ∧ ∀ (i : Nat) (e : MapEntry) (r : List V), es[i]? = some e → ents[i]? = some r → ∃ x y, r = [x, y] ∧ Rep S ρ w e.key x ∧ Rep S ρ w e.val y
theorem mapAt_of {S : Nat → Prop} {ρ : KM} {w : World} {ents : List (List V)} {es : Array MapEntry} (h : RowsAt S ρ w 2 (mpRows ents) (mapCells es)) : MapAt S ρ w ents es := by
  obtain ⟨h1, h2, h3⟩ := h
  have e0 := (h3 0 0 _ (.int .i64 (es.size : Int)) _ rfl rfl (by rw [mapCells_eq]; rfl)).lit_inv
  have hs : es.size = ents.length := by simp at e0; omega
  refine ⟨hs, fun i e r g1 g2 => ?_⟩
  have hl : r.length = 2 := h1 r (by simp [mpRows]; exact .inr (List.mem_of_getElem? g2))
  match r, hl with
  | [x, y], _ =>
    refine ⟨x, y, rfl, ?_, ?_⟩
    · exact h3 (i + 1) 0 [x, y] _ x (by simpa [mpRows] using g2) rfl (by rw [Nat.add_zero, mapCells_key, g1]; rfl)
    · exact h3 (i + 1) 1 [x, y] _ y (by simpa [mpRows] using g2) rfl (by rw [mapCells_val, g1]; rfl)
theorem rows_of_mapAt {S : Nat → Prop} {ρ : KM} {w : World} {ents : List (List V)} {es : Array MapEntry} (h : MapAt S ρ w ents es) (h2 : ∀ r ∈ ents, r.length = 2) : RowsAt S ρ w 2 (mpRows ents) (mapCells es) := by
  refine ⟨fun r hr => ?_, by rw [mapCells_size, h.1]; simp [mpRows]; omega, fun i j r u x g1 g2 g3 => ?_⟩
  · simp only [mpRows, List.mem_cons] at hr
    rcases hr with rfl | hr
    · rfl
    · exact h2 r hr
  · cases i with
    | zero =>
      simp only [mpRows, List.getElem?_cons_zero, Option.some.injEq] at g1
      subst g1
      match j, g2 with
      | 0, g2 =>
        simp only [List.getElem?_cons_zero, Option.some.injEq] at g2
        subst g2
        rw [mapCells_eq] at g3
        simp at g3
        subst g3
        rw [h.1]
        exact .lit rfl
      | 1, g2 =>
        simp at g2
        subst g2
        exact .any
    | succ i =>
      simp only [mpRows, List.getElem?_cons_succ] at g1
      have hi : i < es.size := by rw [h.1]; exact (List.getElem?_eq_some_iff.1 g1).1
      obtain ⟨a, b, rfl, ha, hb⟩ := h.2 i es[i] r (Array.getElem?_eq_getElem hi) g1
      match j, g2 with
      | 0, g2 =>
        simp only [List.getElem?_cons_zero, Option.some.injEq] at g2
        subst g2
        rw [Nat.add_zero, mapCells_key, Array.getElem?_eq_getElem hi] at g3
        cases g3
        exact ha
      | 1, g2 =>
        simp only [List.getElem?_cons_succ, List.getElem?_cons_zero, Option.some.injEq] at g2
        subst g2
        rw [mapCells_val, Array.getElem?_eq_getElem hi] at g3
        cases g3
        exact hb


/-- the same, entry by entry -/
inductive MapL (S : Nat → Prop) (ρ : KM) (w : World) : List (List V) → List MapEntry → Prop
  | nil : MapL S ρ w [] []
  | cons {x y : V} {e : MapEntry} {l es} (hx : Rep S ρ w e.key x) (hy : Rep S ρ w e.val y) (t : MapL S ρ w l es) : MapL S ρ w ([x, y] :: l) (e :: es)
theorem mapL_of_at {S : Nat → Prop} {ρ : KM} {w : World} : ∀ {ents : List (List V)} {es : List MapEntry}, es.length = ents.length →
    (∀ (i : Nat) (e : MapEntry) (r : List V), es[i]? = some e → ents[i]? = some r → ∃ x y, r = [x, y] ∧ Rep S ρ w e.key x ∧ Rep S ρ w e.val y) → MapL S ρ w ents es
  | [], [], _, _ => .nil
  | [], _ :: _, h, _ => by simp at h
  | _ :: _, [], h, _ => by simp at h
  | r :: l, e :: es, h, hr => by
    obtain ⟨x, y, rfl, h1, h2⟩ := hr 0 e r rfl rfl
    exact .cons h1 h2 (mapL_of_at (by simpa using h) fun i e r a b => hr (i + 1) e r (by simpa using a) (by simpa using b))
theorem MapL.at {S : Nat → Prop} {ρ : KM} {w : World} {ents : List (List V)} {es : List MapEntry} (h : MapL S ρ w ents es) : es.length = ents.length ∧
    ∀ (i : Nat) (e : MapEntry) (r : List V), es[i]? = some e → ents[i]? = some r → ∃ x y, r = [x, y] ∧ Rep S ρ w e.key x ∧ Rep S ρ w e.val y := by
  induction h with
  | nil => exact ⟨rfl, fun i e r a => by simp at a⟩
  | cons hx hy t ih =>
    refine ⟨by simp [ih.1], fun i e r a b => ?_⟩
    cases i with
    | zero => simp at a b; subst a; subst b; exact ⟨_, _, rfl, hx, hy⟩
    | succ i => exact ih.2 i e r (by simpa using a) (by simpa using b)
theorem MapL.len2 {S : Nat → Prop} {ρ : KM} {w : World} {ents : List (List V)} {es : List MapEntry} (h : MapL S ρ w ents es) : ∀ r ∈ ents, r.length = 2 := by
  induction h with
  | nil => intro r hr; simp at hr
  | cons hx hy t ih => intro r hr; rcases List.mem_cons.1 hr with rfl | hr; rfl; exact ih r hr
theorem MapL.perm {S : Nat → Prop} {ρ : KM} {w : World} {X Y : List (List V)} (hp : X.Perm Y) : ∀ {es : List MapEntry}, MapL S ρ w X es → ∃ es', es'.Perm es ∧ MapL S ρ w Y es' := by
  induction hp with
  | nil => intro es h; exact ⟨es, .refl _, h⟩
  | cons r _ ih =>
    intro es h
    cases h with
    | cons hx hy t =>
      obtain ⟨es', h1, h2⟩ := ih t
      exact ⟨_, .cons _ h1, .cons hx hy h2⟩
  | swap r s l =>
    intro es h
    cases h with
    | cons hx hy t =>
      cases t with
      | cons hx' hy' t => exact ⟨_, .swap _ _ _, .cons hx' hy' (.cons hx hy t)⟩
  | trans _ _ ih1 ih2 =>
    intro es h
    obtain ⟨es1, h1, h2⟩ := ih1 h
    obtain ⟨es2, h3, h4⟩ := ih2 h2
    exact ⟨es2, h3.trans h1, h4⟩
theorem rows_mapL {S : Nat → Prop} {ρ : KM} {w : World} {ents : List (List V)} {es : Array MapEntry} (h : RowsAt S ρ w 2 (mpRows ents) (mapCells es)) : MapL S ρ w ents es.toList := by
  have hM := mapAt_of h
  exact mapL_of_at (by simpa using hM.1) fun i e r a b => hM.2 i e r (by simpa using a) b
theorem mapL_rows {S : Nat → Prop} {ρ : KM} {w : World} {ents : List (List V)} {es : List MapEntry} (h : MapL S ρ w ents es) : RowsAt S ρ w 2 (mpRows ents) (mapCells es.toArray) :=
  rows_of_mapAt ⟨by simpa using h.at.1, fun i e r a b => h.at.2 i e r (by simpa using a) b⟩ h.len2
/-- a map told in another order -/
theorem sim_perm {S : Nat → Prop} {ρ : KM} {w : World} {H : Hp} {k : Nat} {X Y : List (List V)} (hs : Sim S ρ w H) (hk : H k = some (mpO X)) (hp : X.Perm Y) (hm : ∀ b, ρ k = some b → ∃ es n, w.heap[b]? = some (.map es n)) : Sim S ρ w (upd H k (some (mpO Y))) := by
  refine ⟨fun t o ht => ?_, fun k1 k2 o o' b a1 a2 a3 a4 => ?_, hs.bnd⟩
  · by_cases e : t = k
    · subst e
      rw [upd_same] at ht
      cases ht
      rcases hs.obj t _ hk with ⟨b, c, ty, h1, h2, h3, h4⟩ | ⟨h1, h2⟩
      · obtain ⟨es0, n0, hb⟩ := hm b h1
        rcases h2 with h2 | ⟨es, es', n, h2, h5, rfl⟩
        · rw [hb] at h2; cases h2
        · obtain ⟨es2, g1, g2⟩ := (rows_mapL h3).perm hp
          exact .inl ⟨b, mapCells es2.toArray, ty, h1, .inr ⟨es, es2.toArray, n, h2, by simpa using g1.trans h5, rfl⟩, mapL_rows g2, h4⟩
      · simp [mpO, mpRows] at h2
    · rw [upd_ne _ _ e] at ht
      exact hs.obj t o ht
  · have old : ∀ t o, upd H k (some (mpO Y)) t = some o → ∃ o', H t = some o' := fun t o h => by
      by_cases e : t = k
      · subst e; exact ⟨_, hk⟩
      · rw [upd_ne _ _ e] at h; exact ⟨_, h⟩
    obtain ⟨p, hp1⟩ := old k1 o a1
    obtain ⟨q, hq1⟩ := old k2 o' a2
    exact hs.inj k1 k2 p q b hp1 hq1 a3 a4
end Go.Proofs.Ytgaginflocpcfaa
