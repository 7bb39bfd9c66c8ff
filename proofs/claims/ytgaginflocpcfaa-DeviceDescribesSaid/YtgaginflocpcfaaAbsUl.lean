/-
  The value-level machine: the evaluator, loops.
-/
import Derived.Test.YtgaginflocpcfaaAbsU
namespace Go.Proofs.Ytgaginflocpcfaa
open Go
set_option linter.unusedVariables false
set_option linter.unusedSimpArgs false

attribute [local semireducible] LoopN
/-- several slots are written -/
def setsK (l : List (Nat × V)) : Tr → (Tr → Prop) → Prop := List.rec (motive := fun _ => Tr → (Tr → Prop) → Prop) (fun e K => K e) (fun p _ ih e K => match p with
  | (k, v) => e.setK k v fun e => ih e K) l
def updL (f : Nat → V) : List (Nat × V) → Nat → V
  | [] => f
  | p :: l => updL (upd f p.1 p.2) l
theorem setsK_sound : ∀ (l : List (Nat × V)) (e : Tr) {K : Tr → Prop}, setsK l e K → ∃ e', e'.get = updL e.get l ∧ K e'
  | [], e, K, h => ⟨e, rfl, h⟩
  | p :: l, e, K, h => by
    obtain ⟨k, v⟩ := p
    have h : e.setK k v fun e => setsK l e K := h
    obtain ⟨e1, h1, h⟩ := Tr.setK_sound _ _ h
    obtain ⟨e2, h2, h⟩ := setsK_sound l e1 h
    exact ⟨e2, by rw [h2, h1]; rfl, h⟩

/- one state told by another one: 't': the new name's old one -/
abbrev Ren := List (Nat × Nat)
noncomputable def lookN (l : Ren) (k : Nat) : Option Nat := List.rec (motive := fun _ => Option Nat) none (fun p _ ih => match Nat.beq k p.1 with
  | true => some p.2
  | false => ih) l
noncomputable def tauF (m : Nat) (l : Ren) (k : Nat) : Option Nat := match Nat.blt k m with
  | true => some k
  | false => lookN l k
noncomputable def tauQ (m : Nat) (l : Ren) (k k' : Nat) : Bool := match tauF m l k with
  | some j => Nat.beq j k'
  | none => false
theorem tauQ_eq {m : Nat} {l : Ren} {k k' : Nat} (h : tauQ m l k k' = true) : tauF m l k = some k' := by
  unfold tauQ at h
  split at h
  · rename_i j hj; rw [hj, Nat.eq_of_beq_eq_true h]
  · cases h
theorem lookN_mem : ∀ {l : Ren} {k j : Nat}, lookN l k = some j → (k, j) ∈ l
  | [], k, j, h => by cases h
  | p :: l, k, j, h => by
    have h : (match Nat.beq k p.1 with | true => some p.2 | false => lookN l k) = some j := h
    split at h
    · rename_i hb
      have := Nat.eq_of_beq_eq_true hb
      cases h
      subst this
      simp
    · exact List.mem_cons_of_mem _ (lookN_mem h)
def nodupN : List Nat → Bool
  | [] => true
  | k :: l => !(l.contains k) && nodupN l
theorem nodupN_sound : ∀ {l : List Nat}, nodupN l = true → l.Nodup
  | [], _ => List.nodup_nil
  | k :: l, h => by
    simp only [nodupN, Bool.and_eq_true, Bool.not_eq_true', List.contains_eq_mem, decide_eq_false_iff_not] at h
    exact List.nodup_cons.2 ⟨h.1, nodupN_sound h.2⟩
/-- is it a renaming, of names from m up to nx? -/
noncomputable def renOk (m nx : Nat) (l : Ren) : Bool := Nat.ble m nx && nodupN (l.map (·.2)) && nodupN (l.map (·.1)) && l.all fun p => Nat.ble m p.1 && Nat.blt p.1 nx && Nat.ble m p.2
structure TauOk (m nx : Nat) (τ : Nat → Option Nat) : Prop where
  low : ∀ k, k < m → τ k = some k
  nx : ∀ k, nx ≤ k → τ k = none
  inj : ∀ k k' k0, τ k = some k0 → τ k' = some k0 → k = k'
theorem nodup_snd : ∀ {l : Ren}, (l.map (·.2)).Nodup → ∀ {p q : Nat × Nat}, p ∈ l → q ∈ l → p.2 = q.2 → p = q
  | [], _, p, q, h, _, _ => by cases h
  | r :: l, hn, p, q, h1, h2, e => by
    rw [List.map_cons, List.nodup_cons] at hn
    rcases List.mem_cons.1 h1 with h1 | h1 <;> rcases List.mem_cons.1 h2 with h2 | h2
    · rw [h1, h2]
    · exact absurd (List.mem_map.2 ⟨q, h2, by rw [← e, h1]⟩) hn.1
    · exact absurd (List.mem_map.2 ⟨p, h1, by rw [e, h2]⟩) hn.1
    · exact nodup_snd hn.2 h1 h2 e
theorem tau_ok {m nx : Nat} {l : Ren} (h : renOk m nx l = true) : TauOk m nx (tauF m l) := by
  simp only [renOk, Bool.and_eq_true] at h
  obtain ⟨⟨⟨h1, h2⟩, _⟩, h3⟩ := h
  have h1 := Nat.le_of_ble_eq_true h1
  have hn := nodupN_sound h2
  have hm : ∀ p ∈ l, m ≤ p.1 ∧ p.1 < nx ∧ m ≤ p.2 := fun p hp => by
    have := List.all_eq_true.1 h3 p hp
    simp only [Bool.and_eq_true] at this
    exact ⟨Nat.le_of_ble_eq_true this.1.1, Nat.le_of_ble_eq_true this.1.2, Nat.le_of_ble_eq_true this.2⟩
  have hlow : ∀ k, k < m → tauF m l k = some k := fun k hk => by
    simp only [tauF]
    rw [show Nat.blt k m = true from Nat.ble_eq_true_of_le hk]
  have hhigh : ∀ k, ¬ k < m → tauF m l k = lookN l k := fun k hk => by
    simp only [tauF]
    cases hb : Nat.blt k m with
    | true => exact absurd (Nat.le_of_ble_eq_true hb) hk
    | false => rfl
  refine ⟨hlow, fun k hk => ?_, fun k k' k0 a b => ?_⟩
  · rw [hhigh k (by omega)]
    cases hl : lookN l k with
    | none => rfl
    | some j => have := (hm _ (lookN_mem hl)).2.1; simp only at this; omega
  · by_cases hk : k < m <;> by_cases hk' : k' < m
    · rw [hlow k hk] at a; rw [hlow k' hk'] at b; cases a; cases b; rfl
    · rw [hlow k hk] at a; rw [hhigh k' hk'] at b; cases a
      have := (hm _ (lookN_mem b)).2.2; simp only at this; omega
    · rw [hlow k' hk'] at b; rw [hhigh k hk] at a; cases b
      have := (hm _ (lookN_mem a)).2.2; simp only at this; omega
    · rw [hhigh k hk] at a; rw [hhigh k' hk'] at b
      have := nodup_snd hn (lookN_mem a) (lookN_mem b) rfl
      exact (Prod.mk.inj this).1

abbrev WVF := V → V → Prop → Prop
def wvL (f : WVF) (cs : List V) : List V → Prop → Prop := List.rec (motive := fun _ => List V → Prop → Prop) (fun ds X => match ds with
  | [] => X
  | _ => False) (fun c _ ih ds X => match ds with
  | d :: ds => f c d (ih ds X)
  | [] => False) cs
/-- a value told more weakly -/
def wvK (m : Nat) (t : Ren) (n : Nat) : WVF := Nat.rec (motive := fun _ => WVF) (fun _ _ _ => False) (fun _ ih x y X => match x with
  | .any => X
  | .lit a => match y with
    | .lit b => a = b ∧ X
    | _ => False
  | .sl sz l => match y with
    | .sl sz' l' => chkK (Nat.beq sz sz') (l = l' ∧ X)
    | .sls sz' l' _ _ => chkK (Nat.beq sz sz') (l = l' ∧ X)
    | .lit (.slice none 0 0) => l = [] ∧ X
    | _ => False
  | .win k sz lo n cp => match y with
    | .win k' sz' lo' n' cp' => chkK (tauQ m t k k' && Nat.beq sz sz') (lo = lo' ∧ n = n' ∧ cp = cp' ∧ X)
    | .lit (.slice none 0 0) => n = 0 ∧ cp = 0 ∧ X
    | _ => False
  | .ptr k sz i off => match y with
    | .ptr k' sz' i' off' => chkK (tauQ m t k k' && Nat.beq sz sz') (i = i' ∧ off = off' ∧ X)
    | _ => False
  | .mp k => match y with
    | .mp k' => chkK (tauQ m t k k') X
    | _ => False
  | .ip cs => match y with
    | .ip ds => cs = ds ∧ X
    | _ => False
  | .sls sz l nn ex => match y with
    | .sls sz' l' nn' ex' => sz = sz' ∧ l = l' ∧ nn = nn' ∧ ex = ex' ∧ X
    | _ => False
  | .agg cs => match y with
    | .agg ds => wvL ih cs ds X
    | _ => False
  | .tup cs => match y with
    | .tup ds => wvL ih cs ds X
    | _ => False
  | .fn f cs => match y with
    | .fn f' ds => chkK (Nat.beq f f') (wvL ih cs ds X)
    | _ => False) n
def WVS (B : Hp) (τ : Nat → Option Nat) (f : WVF) : Prop := ∀ x y X, f x y X → Wv B τ x y ∧ X
theorem wvL_sound {B : Hp} {τ : Nat → Option Nat} {f : WVF} (hf : WVS B τ f) : ∀ (cs ds : List V) (X : Prop), wvL f cs ds X → (cs.length = ds.length ∧ ∀ (i : Nat) (x y : V), cs[i]? = some x → ds[i]? = some y → Wv B τ x y) ∧ X
  | [], [], X, h => ⟨⟨rfl, fun i x y a => by simp at a⟩, h⟩
  | [], _ :: _, X, h => h.elim
  | c :: cs, [], X, h => h.elim
  | c :: cs, d :: ds, X, h => by
    have h : f c d (wvL f cs ds X) := h
    obtain ⟨h1, h⟩ := hf _ _ _ h
    obtain ⟨⟨h2, h3⟩, h4⟩ := wvL_sound hf cs ds X h
    refine ⟨⟨by simp [h2], fun i x y a b => ?_⟩, h4⟩
    cases i with
    | zero => simp at a b; subst a; subst b; exact h1
    | succ i => exact h3 i x y (by simpa using a) (by simpa using b)
theorem wvK_sound {B : Hp} {m : Nat} {t : Ren} : ∀ (n : Nat), WVS B (tauF m t) (wvK m t n)
  | 0 => fun x y X h => h.elim
  | n + 1 => fun x y X h => by
    have ih := wvK_sound (B := B) (m := m) (t := t) n
    cases x with
    | any => exact ⟨.any, h⟩
    | lit a =>
      cases y with
      | lit b => obtain ⟨rfl, h⟩ := h; exact ⟨.lit, h⟩
      | _ => exact h.elim
    | sl sz l =>
      cases y with
      | sl sz' l' =>
        obtain ⟨hc, rfl, h9⟩ := chkK_sound (b := Nat.beq sz sz') h
        obtain rfl := Nat.eq_of_beq_eq_true hc
        exact ⟨.sl, h9⟩
      | sls sz' l' nn ex =>
        obtain ⟨hc, rfl, h9⟩ := chkK_sound (b := Nat.beq sz sz') h
        obtain rfl := Nat.eq_of_beq_eq_true hc
        exact ⟨.slsl, h9⟩
      | lit v =>
        have h : (match v with | .slice none 0 0 => l = [] ∧ X | _ => False) := by
          revert h; simp only [wvK]
          intro h
          split at h <;> first | (rename_i e; cases e; exact h) | (rename_i e; cases e) | exact h.elim
        split at h
        · obtain ⟨rfl, h⟩ := h; exact ⟨.nil, h⟩
        · exact h.elim
      | _ => exact h.elim
    | win k sz lo n cp =>
      cases y with
      | win k' sz' lo' n' cp' =>
        obtain ⟨hc, rfl, rfl, rfl, h9⟩ := chkK_sound (b := tauQ m t k k' && Nat.beq sz sz') h
        rw [Bool.and_eq_true] at hc
        obtain rfl := Nat.eq_of_beq_eq_true hc.2
        exact ⟨.win (tauQ_eq hc.1), h9⟩
      | lit v =>
        have h : (match v with | .slice none 0 0 => n = 0 ∧ cp = 0 ∧ X | _ => False) := by
          revert h; simp only [wvK]
          intro h
          split at h <;> first | (rename_i e; cases e; exact h) | (rename_i e; cases e) | exact h.elim
        split at h
        · obtain ⟨rfl, rfl, h⟩ := h; exact ⟨.winN, h⟩
        · exact h.elim
      | _ => exact h.elim
    | ptr k sz i off =>
      cases y with
      | ptr k' sz' i' off' =>
        obtain ⟨hc, rfl, rfl, h9⟩ := chkK_sound (b := tauQ m t k k' && Nat.beq sz sz') h
        rw [Bool.and_eq_true] at hc
        obtain rfl := Nat.eq_of_beq_eq_true hc.2
        exact ⟨.ptr (tauQ_eq hc.1), h9⟩
      | _ => exact h.elim
    | mp k =>
      cases y with
      | mp k' =>
        obtain ⟨hc, h9⟩ := chkK_sound (b := tauQ m t k k') h
        exact ⟨.mp (tauQ_eq hc), h9⟩
      | _ => exact h.elim
    | ip cs =>
      cases y with
      | ip ds => obtain ⟨rfl, h⟩ := h; exact ⟨.ip, h⟩
      | _ => exact h.elim
    | sls sz l nn ex =>
      cases y with
      | sls sz' l' nn' ex' => obtain ⟨rfl, rfl, rfl, rfl, h⟩ := h; exact ⟨.sls, h⟩
      | _ => exact h.elim
    | agg cs =>
      cases y with
      | agg ds => obtain ⟨⟨h1, h2⟩, h⟩ := wvL_sound ih cs ds X h; exact ⟨.agg h1 h2, h⟩
      | _ => exact h.elim
    | tup cs =>
      cases y with
      | tup ds => obtain ⟨⟨h1, h2⟩, h⟩ := wvL_sound ih cs ds X h; exact ⟨.tup h1 h2, h⟩
      | _ => exact h.elim
    | fn f cs =>
      cases y with
      | fn f' ds =>
        obtain ⟨hc, h9⟩ := chkK_sound (b := Nat.beq f f') h
        obtain rfl := Nat.eq_of_beq_eq_true hc
        obtain ⟨⟨h1, h2⟩, h8⟩ := wvL_sound ih cs ds X h9
        exact ⟨.fn h1 h2, h8⟩
      | _ => exact h.elim

/-- slots -/
def wkTr (f : WVF) (e2 : Tr) : Tr → Prop → Prop := Tr.rec (motive := fun _ => Tr → Prop → Prop) (fun e1 X => match e1 with
  | .lf => X
  | _ => False) (fun v2 _ _ ihl ihr e1 X => match e1 with
  | .nd v1 l1 r1 => f v2 v1 (ihl l1 (ihr r1 X))
  | .lf => False) e2
theorem wkTr_sound {B : Hp} {τ : Nat → Option Nat} {f : WVF} (hf : WVS B τ f) : ∀ (e2 e1 : Tr) (X : Prop), wkTr f e2 e1 X → (∀ t, Wv B τ (e2.get t) (e1.get t)) ∧ X
  | .lf, .lf, X, h => ⟨fun t => .tup rfl (fun i x y a => by simp at a), h⟩
  | .lf, .nd _ _ _, X, h => h.elim
  | .nd _ _ _, .lf, X, h => h.elim
  | .nd v2 l2 r2, .nd v1 l1 r1, X, h => by
    have h : f v2 v1 (wkTr f l2 l1 (wkTr f r2 r1 X)) := h
    obtain ⟨h1, h⟩ := hf _ _ _ h
    obtain ⟨h2, h⟩ := wkTr_sound hf l2 l1 _ h
    obtain ⟨h3, h⟩ := wkTr_sound hf r2 r1 _ h
    refine ⟨fun t => ?_, h⟩
    simp only [Tr.get]
    split
    · exact h1
    · split
      · exact h2 _
      · exact h3 _
def rowsWk (f : WVF) (rs : List (List V)) : List (List V) → Prop → Prop := List.rec (motive := fun _ => List (List V) → Prop → Prop) (fun qs X => match qs with
  | [] => X
  | _ => False) (fun r _ ih qs X => match qs with
  | q :: qs => wvL f r q (ih qs X)
  | [] => False) rs
theorem rowsWk_sound {B : Hp} {τ : Nat → Option Nat} {f : WVF} (hf : WVS B τ f) : ∀ (rs qs : List (List V)) (X : Prop), rowsWk f rs qs X → (rs.length = qs.length ∧ (∀ (i : Nat) (r s : List V), rs[i]? = some r → qs[i]? = some s → r.length = s.length) ∧
    ∀ (i j : Nat) (r s : List V) (x y : V), rs[i]? = some r → qs[i]? = some s → r[j]? = some x → s[j]? = some y → Wv B τ x y) ∧ X
  | [], [], X, h => ⟨⟨rfl, (fun i r s a => by simp at a), fun i j r s x y a => by simp at a⟩, h⟩
  | [], _ :: _, X, h => h.elim
  | c :: cs, [], X, h => h.elim
  | c :: cs, d :: ds, X, h => by
    have h : wvL f c d (rowsWk f cs ds X) := h
    obtain ⟨⟨h1, h1'⟩, h⟩ := wvL_sound hf _ _ _ h
    obtain ⟨⟨h2, h3, h4⟩, h5⟩ := rowsWk_sound hf cs ds X h
    refine ⟨⟨by simp [h2], fun i r s a b => ?_, fun i j r s x y a b p q => ?_⟩, h5⟩
    · cases i with
      | zero => simp at a b; subst a; subst b; exact h1
      | succ i => exact h3 i r s (by simpa using a) (by simpa using b)
    · cases i with
      | zero => simp at a b; subst a; subst b; exact h1' j x y p q
      | succ i => exact h4 i j r s x y (by simpa using a) (by simpa using b) p q
/-- objects -/
def objsWk (m : Nat) (t : Ren) (f : WVF) (H1 : GH) (H2 : GH) : Prop → Prop := List.rec (motive := fun _ => Prop → Prop) (fun X => X) (fun p _ ih X => match p with
  | (k2, sy, o2) => match tauF m t k2 with
    | some k1 => H1.getK k1 fun _ o1 => chkK (Nat.beq o2.sz o1.sz && (o2.frz == o1.frz)) <| condN sy (o2.rows = o1.rows ∧ rowsPlain o2.rows ∧ ih X) (rowsWk f o2.rows o1.rows (ih X))
    | none => o2.rows = [] ∧ ih X) H2
theorem objsWk_sound {m : Nat} {t : Ren} {f : WVF} (hf : WVS noH (tauF m t) f) {H1 : GH} : ∀ (H2 : GH) (X : Prop), objsWk m t f H1 H2 X →
    (∀ k o, H2.hp k = some o → (∃ k0 o0, tauF m t k = some k0 ∧ H1.hp k0 = some o0 ∧ ORel noH (tauF m t) o o0) ∨ (tauF m t k = none ∧ o.rows = [])) ∧ X
  | [], X, h => ⟨fun k o h => (by cases h), h⟩
  | (k2, sy, o2) :: H2, X, h => by
    have h : (match tauF m t k2 with
      | some k1 => H1.getK k1 fun _ o1 => chkK (Nat.beq o2.sz o1.sz && (o2.frz == o1.frz)) <| condN sy (o2.rows = o1.rows ∧ rowsPlain o2.rows ∧ objsWk m t f H1 H2 X) (rowsWk f o2.rows o1.rows (objsWk m t f H1 H2 X))
      | none => o2.rows = [] ∧ objsWk m t f H1 H2 X : Prop) := h
    have key : ((∃ k0 o0, tauF m t k2 = some k0 ∧ H1.hp k0 = some o0 ∧ ORel noH (tauF m t) o2 o0) ∨ (tauF m t k2 = none ∧ o2.rows = [])) ∧ objsWk m t f H1 H2 X := by
      split at h
      · rename_i k1 hk
        obtain ⟨s1, o1, h1, h⟩ := GH.getK_sound _ _ h
        obtain ⟨hc, h⟩ := chkK_sound h
        rw [Bool.and_eq_true] at hc
        have hz := Nat.eq_of_beq_eq_true hc.1
        have hfr : o2.frz = o1.frz := by simpa using hc.2
        rcases condN_sound h with ⟨_, h⟩ | ⟨_, h⟩
        · obtain ⟨h2, h3, h4⟩ := h
          refine And.intro (.inl ⟨k1, o1, hk, h1, ⟨hz, hfr, by rw [h2], fun i r s a b => by rw [h2, b] at a; cases a; rfl, fun i j r s x y a b p q => ?_⟩⟩) h4
          rw [← h2, a] at b
          obtain rfl : r = s := Option.some.inj b
          rw [p] at q
          obtain rfl : x = y := Option.some.inj q
          have := h3 r (List.mem_of_getElem? a)
          rw [List.all_eq_true] at this
          exact kfc_wv (this x (List.mem_of_getElem? p))
        · obtain ⟨⟨h2, h3, h4⟩, h5⟩ := rowsWk_sound hf _ _ _ h
          exact ⟨.inl ⟨k1, o1, hk, h1, ⟨hz, hfr, h2, h3, h4⟩⟩, h5⟩
      · rename_i hk
        exact ⟨.inr ⟨hk, h.1⟩, h.2⟩
    obtain ⟨hkey, h⟩ := key
    obtain ⟨ih1, ih2⟩ := objsWk_sound hf H2 X h
    refine ⟨fun k o hk => ?_, ih2⟩
    simp only [GH.hp, upd] at hk
    split at hk
    · rename_i e; subst e; cases hk; exact hkey
    · exact ih1 k o hk

/-- the state e1, H1 is told by e2, H2, nx2 -/
def wkE (m : Nat) (t : Ren) (e1 : Tr) (H1 : GH) (e2 : Tr) (H2 : GH) (nx2 : Nat) (X : Prop) : Prop :=
  chkK (renOk m nx2 t && H2.keys.all fun k => Nat.blt k nx2) <| wkTr (wvK m t 5) e2 e1 <| objsWk m t (wvK m t 4) H1 H2 X
theorem wkE_sound {m nx1 : Nat} {t : Ren} {e1 e2 : Tr} {H1 H2 : GH} {nx2 : Nat} {X : Prop} (h : wkE m t e1 H1 e2 H2 nx2 X) : Wk m (tauF m t) (stOf e1 H1 nx1) (stOf e2 H2 nx2) ∧ X := by
  obtain ⟨hc, h⟩ := chkK_sound h
  rw [Bool.and_eq_true] at hc
  obtain ⟨h1, h⟩ := wkTr_sound (B := noH) (wvK_sound 5) _ _ _ h
  obtain ⟨h2, h⟩ := objsWk_sound (wvK_sound 4) _ _ h
  have ht := tau_ok hc.1
  refine ⟨⟨h1, h2, ht.inj, ht.nx, fun k o hk => ?_, ht.low⟩, h⟩
  exact Nat.le_of_ble_eq_true (List.all_eq_true.1 hc.2 k (GH.hp_keys.1 (by simp only [stOf] at hk; rw [hk]; simp)))

/- the renaming, found -/
abbrev RVF := V → V → Ren → (Ren → Prop) → Prop
noncomputable def addRen (m : Nat) (k k' : Nat) (acc : Ren) (K : Ren → Prop) : Prop := match Nat.blt k m with
  | true => K acc
  | false => match lookN acc k with
    | some _ => K acc
    | none => K ((k, k') :: acc)
def renLK (f : RVF) (cs : List V) : List V → Ren → (Ren → Prop) → Prop := List.rec (motive := fun _ => List V → Ren → (Ren → Prop) → Prop) (fun _ acc K => K acc) (fun c _ ih ds acc K => match ds with
  | d :: ds => f c d acc fun acc => ih ds acc K
  | [] => K acc) cs
noncomputable def renVK (m n : Nat) : RVF := Nat.rec (motive := fun _ => RVF) (fun _ _ acc K => K acc) (fun _ ih x y acc K => match x with
  | .win k _ _ _ _ => match y with
    | .win k' _ _ _ _ => addRen m k k' acc K
    | _ => K acc
  | .ptr k _ _ _ => match y with
    | .ptr k' _ _ _ => addRen m k k' acc K
    | _ => K acc
  | .agg cs => match y with
    | .agg ds => renLK ih cs ds acc K
    | _ => K acc
  | .tup cs => match y with
    | .tup ds => renLK ih cs ds acc K
    | _ => K acc
  | .fn _ cs => match y with
    | .fn _ ds => renLK ih cs ds acc K
    | _ => K acc
  | _ => K acc) n
def renTrK (f : RVF) (e2 : Tr) : Tr → Ren → (Ren → Prop) → Prop := Tr.rec (motive := fun _ => Tr → Ren → (Ren → Prop) → Prop) (fun _ acc K => K acc) (fun v2 _ _ ihl ihr e1 acc K => match e1 with
  | .nd v1 l1 r1 => f v2 v1 acc fun acc => ihl l1 acc fun acc => ihr r1 acc K
  | .lf => K acc) e2
def renRowsK (f : RVF) (rs : List (List V)) : List (List V) → Ren → (Ren → Prop) → Prop := List.rec (motive := fun _ => List (List V) → Ren → (Ren → Prop) → Prop) (fun _ acc K => K acc) (fun r _ ih qs acc K => match qs with
  | q :: qs => renLK f r q acc fun acc => ih qs acc K
  | [] => K acc) rs
def GH.getO : GH → Nat → Option (Bool × VObj)
  | [], _ => none
  | (j, s, o) :: l, k => match Nat.beq k j with
    | true => some (s, o)
    | false => GH.getO l k
noncomputable def renHK (f : RVF) (H1 : GH) (H2 : GH) : Ren → (Ren → Prop) → Prop := List.rec (motive := fun _ => Ren → (Ren → Prop) → Prop) (fun acc K => K acc) (fun p _ ih acc K => match p with
  | (k2, false, o2) => match lookN acc k2 with
    | some k1 => match H1.getO k1 with
      | some (_, o1) => renRowsK f o2.rows o1.rows acc fun acc => ih acc K
      | none => ih acc K
    | none => ih acc K
  | (_, true, _) => ih acc K) H2
def RVS (f : RVF) : Prop := ∀ x y acc K, f x y acc K → ∃ t, K t
theorem addRen_sound {m k k' : Nat} {acc : Ren} {K : Ren → Prop} (h : addRen m k k' acc K) : ∃ t, K t := by
  unfold addRen at h
  split at h
  · exact ⟨_, h⟩
  · split at h <;> exact ⟨_, h⟩
theorem renLK_sound {f : RVF} (hf : RVS f) : ∀ (cs ds : List V) (acc : Ren) (K : Ren → Prop), renLK f cs ds acc K → ∃ t, K t
  | [], ds, acc, K, h => ⟨_, h⟩
  | c :: cs, [], acc, K, h => ⟨_, h⟩
  | c :: cs, d :: ds, acc, K, h => by
    obtain ⟨t, h⟩ := hf c d acc (fun acc => renLK f cs ds acc K) h
    exact renLK_sound hf cs ds t K h
theorem renVK_sound {m : Nat} : ∀ n, RVS (renVK m n)
  | 0 => fun x y acc K h => ⟨_, h⟩
  | n + 1 => fun x y acc K h => by
    have ih := renVK_sound (m := m) n
    cases x with
    | win k sz lo n' cp => cases y <;> first | exact addRen_sound (K := K) h | exact ⟨_, h⟩
    | ptr k sz i off => cases y <;> first | exact addRen_sound (K := K) h | exact ⟨_, h⟩
    | agg cs => cases y <;> first | exact renLK_sound ih cs _ acc K h | exact ⟨_, h⟩
    | tup cs => cases y <;> first | exact renLK_sound ih cs _ acc K h | exact ⟨_, h⟩
    | fn f cs => cases y <;> first | exact renLK_sound ih cs _ acc K h | exact ⟨_, h⟩
    | _ => exact ⟨_, h⟩
theorem renTrK_sound {f : RVF} (hf : RVS f) : ∀ (e2 e1 : Tr) (acc : Ren) (K : Ren → Prop), renTrK f e2 e1 acc K → ∃ t, K t
  | .lf, e1, acc, K, h => ⟨_, h⟩
  | .nd v2 l2 r2, .lf, acc, K, h => ⟨_, h⟩
  | .nd v2 l2 r2, .nd v1 l1 r1, acc, K, h => by
    obtain ⟨t, h⟩ := hf v2 v1 acc (fun acc => renTrK f l2 l1 acc fun acc => renTrK f r2 r1 acc K) h
    obtain ⟨t, h⟩ := renTrK_sound hf l2 l1 t (fun acc => renTrK f r2 r1 acc K) h
    exact renTrK_sound hf r2 r1 t K h
theorem renRowsK_sound {f : RVF} (hf : RVS f) : ∀ (rs qs : List (List V)) (acc : Ren) (K : Ren → Prop), renRowsK f rs qs acc K → ∃ t, K t
  | [], qs, acc, K, h => ⟨_, h⟩
  | r :: rs, [], acc, K, h => ⟨_, h⟩
  | r :: rs, q :: qs, acc, K, h => by
    obtain ⟨t, h⟩ := renLK_sound hf r q acc (fun acc => renRowsK f rs qs acc K) h
    exact renRowsK_sound hf rs qs t K h
theorem renHK_sound {f : RVF} (hf : RVS f) {H1 : GH} : ∀ (H2 : GH) (acc : Ren) (K : Ren → Prop), renHK f H1 H2 acc K → ∃ t, K t
  | [], acc, K, h => ⟨_, h⟩
  | (k2, true, o2) :: H2, acc, K, h => renHK_sound hf H2 acc K h
  | (k2, false, o2) :: H2, acc, K, h => by
    have h : (match lookN acc k2 with
      | some k1 => match H1.getO k1 with
        | some (_, o1) => renRowsK f o2.rows o1.rows acc fun acc => renHK f H1 H2 acc K
        | none => renHK f H1 H2 acc K
      | none => renHK f H1 H2 acc K) := h
    split at h
    · split at h
      · obtain ⟨t, h⟩ := renRowsK_sound hf _ _ _ _ h
        exact renHK_sound hf H2 t K h
      · exact renHK_sound hf H2 acc K h
    · exact renHK_sound hf H2 acc K h
/-- told by e2, H2, nx2, by a renaming that is found -/
def wkA (m : Nat) (e1 : Tr) (H1 : GH) (e2 : Tr) (H2 : GH) (nx2 : Nat) : Prop := renTrK (renVK m 4) e2 e1 [] fun t => renHK (renVK m 3) H1 H2 t fun t => wkE m t e1 H1 e2 H2 nx2 True
theorem wkA_sound {m : Nat} {e1 : Tr} {H1 : GH} {e2 : Tr} {H2 : GH} {nx2 : Nat} (h : wkA m e1 H1 e2 H2 nx2) : ∃ t, wkE m t e1 H1 e2 H2 nx2 True := by
  obtain ⟨t, h⟩ := renTrK_sound (renVK_sound 4) _ _ _ _ h
  exact renHK_sound (renVK_sound 3) _ _ _ h

section
variable {P : Program} {N m : Nat}
theorem awp_wkpost {c : Code} {Q : Exit → St → Prop} {st : St} (h : AWp P N m c (fun ex st1 => ∃ τ st2, Wk m τ st1 st2 ∧ Q ex st2) st) : AWp P N m c Q st := fun S ρ a w hs R hR =>
  h S ρ a w hs R fun e st' S' ρ' a' w' hq hs' he => by
    obtain ⟨τ, st2, hw, hq⟩ := hq
    obtain ⟨h1, h2⟩ := wk_sound hw hs'
    exact hR e st2 S' _ a' w' hq h1 (he.trans h2)
theorem wk_refl {st : St} (h1 : m ≤ st.nx) (h2 : ∀ k o, st.H k = some o → k < st.nx) : ∀ τ : Nat → Option Nat, (∀ k, τ k = if k < st.nx then some k else none) → (∀ t, Wv noH τ (st.env t) (st.env t)) → (∀ k o, st.H k = some o → ORel noH τ o o) → Wk m τ st st := fun τ hτ he ho =>
  { env := he
    heap := fun k o hk => .inl ⟨k, o, by rw [hτ, if_pos (h2 k o hk)], hk, ho k o hk⟩
    inj := fun k k' k0 a b => by
      rw [hτ] at a b
      split at a
      · split at b
        · cases a; cases b; rfl
        · cases b
      · cases a
    nx := fun k hk => by rw [hτ, if_neg (by omega)]
    old := h2
    low := fun k hk => by rw [hτ, if_pos (by omega)] }

/-- what is to hold behind a round, where the loop's end is known -/
def qRoundD {X : Type} (m : Nat) (I : X → Prop) (μ : X → Nat) (x : X) (hv : List (Nat × V)) (e0 : Tr) (sl : X → List (Nat × V)) (hp : X → GH) (nx1 : Nat) (exF : Exit) (lF : List (Nat × V)) (HF : GH) (nxF : Nat) : QT := fun ex e1 H1 _ => match ex with
  | .normal => ∃ x', I x' ∧ μ x' < μ x ∧ setsK hv e0 fun e0 => setsK (sl x') e0 fun e2 => wkA m e1 H1 e2 (hp x') nx1
  | ex => ex = exF ∧ setsK hv e0 fun e0 => setsK lF e0 fun e2 => wkA m e1 H1 e2 HF nxF
/-- what is to hold behind a round -/
def qRound {X : Type} (m : Nat) (I : X → Prop) (μ : X → Nat) (x : X) (hv : List (Nat × V)) (e0 : Tr) (sl : X → List (Nat × V)) (hp : X → GH) (nx1 : Nat) (Q : QT) : QT := fun ex e1 H1 nx => match ex with
  | .normal => ∃ x', I x' ∧ μ x' < μ x ∧ setsK hv e0 fun e0 => setsK (sl x') e0 fun e2 => wkA m e1 H1 e2 (hp x') nx1
  | ex => Q ex e1 H1 nx
theorem two_sets {hv : List (Nat × V)} {e : Tr} (l : List (Nat × V)) {K : Tr → Prop} (h : setsK hv e fun e0 => setsK l e0 K) : ∃ e', e'.get = updL (updL e.get hv) l ∧ K e' := by
  obtain ⟨a, ha, h⟩ := setsK_sound _ _ h
  obtain ⟨b, hb, h⟩ := setsK_sound _ _ h
  exact ⟨b, by rw [hb, ha], h⟩
theorem wk_sets {hv : List (Nat × V)} {e e1 : Tr} {H1 : GH} {n1 : Nat} {l : List (Nat × V)} {H2 : GH} {n2 : Nat} (h : setsK hv e fun e0 => setsK l e0 fun e2 => wkA m e1 H1 e2 H2 n2) : ∃ t, Wk m (tauF m t) (stOf e1 H1 n1) ⟨updL (updL e.get hv) l, H2.hp, n2⟩ := by
  obtain ⟨e2, h2, h⟩ := two_sets l h
  obtain ⟨t, h⟩ := wkA_sound h
  refine ⟨t, ?_⟩
  have := (wkE_sound (nx1 := n1) h).1
  simp only [stOf, h2] at this
  exact this
/-- A LOOP: 'hv': slots that are written and not told; at its head, for an x of which I holds, the slots 'sl x' and the objects 'hp x'. -/
theorem loop_vc {T : TT} {CE : CET} (hT : TOk P T) (hCE : CESound P CE) (hm : P.follows .mixedOrders = true) {c : Code} {Q : QT} {e : Tr} {H : GH} {nx : Nat} {X : Type} (hv : List (Nat × V)) (x0 : X) (sl : X → List (Nat × V)) (hp : X → GH) (nx1 : Nat) (I : X → Prop) (μ : X → Nat)
    (h0 : I x0) (hs : setsK hv e fun e0 => setsK (sl x0) e0 fun e2 => wkA m e H e2 (hp x0) nx1)
    (hr : ∀ x, I x → setsK hv e fun e0 => setsK (sl x) e0 fun e1 => vc P T CE false N m c (qRound m I μ x hv e sl hp nx1 Q) e1 (hp x) nx1) : LoopN P T CE false N m c Q e H nx := by
  refine ⟨fun h => (by cases h), fun _ => ?_⟩
  obtain ⟨t0, hs⟩ := wk_sets (n1 := nx) hs
  refine awp_loop (fun x => ⟨updL (updL e.get hv) (sl x), (hp x).hp, nx1⟩) I μ h0 hs fun x hx => ?_
  obtain ⟨e1, h1, h⟩ := two_sets (sl x) (hr x hx)
  have := vc_sound hT hCE hm c _ e1 (hp x) nx1 h
  rw [show stOf e1 (hp x) nx1 = ⟨updL (updL e.get hv) (sl x), (hp x).hp, nx1⟩ by simp only [stOf, h1]] at this
  refine awp_mono this fun ex st hq => ?_
  obtain ⟨e', H', nx', rfl, hq⟩ := hq
  cases ex with
  | normal =>
    obtain ⟨x', h1, h2, h3⟩ := hq
    obtain ⟨t, h3⟩ := wk_sets (n1 := nx') h3
    exact ⟨x', _, h1, h2, h3⟩
  | _ => exact ⟨e', H', nx', rfl, hq⟩
/-- a loop whose end is known: it ends by exF, with slots lF and objects HF -/
theorem loop_vcD {T : TT} {CE : CET} (hT : TOk P T) (hCE : CESound P CE) (hm : P.follows .mixedOrders = true) {c : Code} {Q : QT} {e : Tr} {H : GH} {nx : Nat} {X : Type} (hv : List (Nat × V)) (x0 : X) (sl : X → List (Nat × V)) (hp : X → GH) (nx1 : Nat) (I : X → Prop) (μ : X → Nat) (exF : Exit) (lF : List (Nat × V)) (HF : GH) (nxF : Nat) (hex : exF ≠ .normal)
    (h0 : I x0) (hs : setsK hv e fun e0 => setsK (sl x0) e0 fun e2 => wkA m e H e2 (hp x0) nx1)
    (hr : ∀ x, I x → setsK hv e fun e0 => setsK (sl x) e0 fun e1 => vc P T CE true N m c (qRoundD m I μ x hv e sl hp nx1 exF lF HF nxF) e1 (hp x) nx1)
    (hq : setsK hv e fun e0 => setsK lF e0 fun e2 => Q exF e2 HF nxF) : LoopN P T CE true N m c Q e H nx := by
  obtain ⟨eF, hF, hQ⟩ := two_sets lF hq
  refine ⟨fun _ => ⟨exF, eF, HF, nxF, hQ, ?_⟩, fun h => (by cases h)⟩
  refine awp_wkpost ?_
  obtain ⟨t0, hs⟩ := wk_sets (n1 := nx) hs
  refine awp_loop (fun x => ⟨updL (updL e.get hv) (sl x), (hp x).hp, nx1⟩) I μ h0 hs fun x hx => ?_
  obtain ⟨e1, h1, h⟩ := two_sets (sl x) (hr x hx)
  obtain ⟨ex, e', H', nx', hq, hd⟩ := vc_det hT hCE hm c _ e1 (hp x) nx1 h
  rw [show stOf e1 (hp x) nx1 = ⟨updL (updL e.get hv) (sl x), (hp x).hp, nx1⟩ by simp only [stOf, h1]] at hd
  refine awp_mono hd fun ex1 st hst => ?_
  obtain ⟨rfl, rfl⟩ := hst
  have other : (ex1 = exF ∧ setsK hv e fun e0 => setsK lF e0 fun e2 => wkA m e' H' e2 HF nxF) → ∃ τ st2, Wk m τ (stOf e' H' nx') st2 ∧ ex1 = exF ∧ st2 = stOf eF HF nxF := fun hq => by
    obtain ⟨he, hqq⟩ := hq
    obtain ⟨t, hqq⟩ := wk_sets (n1 := nx') hqq
    refine ⟨_, _, hqq, he, ?_⟩
    simp only [stOf, hF]
  cases ex1 with
  | normal =>
    obtain ⟨x', h1, h2, h3⟩ := hq
    obtain ⟨t, h3⟩ := wk_sets (n1 := nx') h3
    exact ⟨x', _, h1, h2, h3⟩
  | _ => exact other hq
/-- a loop, one round of it -/
def qAgain (P : Program) (T : TT) (CE : CET) (dt : Bool) (N m : Nat) (c : Code) (Q : QT) : QT := fun ex e H nx => match ex with
  | .normal => LoopN P T CE dt N m c Q e H nx
  | ex => Q ex e H nx
/-- a loop, one round behind the other, so many -/
def Unr (P : Program) (N m : Nat) (c : Code) (Q : Exit → St → Prop) : Nat → St → Prop
  | 0, _ => False
  | n + 1, st => AWp P N m c (aThen (Unr P N m c Q n) Q) st
theorem unr_loop {c : Code} {Q : Exit → St → Prop} : ∀ {n : Nat} {st : St}, Unr P N m c Q n st → AWp P N m (.loop c) Q st := by
  intro n0 st0 h0 S ρ a w hs R hR b k cs
  have key : ∀ n st S' ρ' a' w', Unr P N m c Q n st → SimSt N S' ρ' a' w' st → Ext1 m S ρ w st0.H S' ρ' w' st.H →
      ∃ e a'' w'', R e a'' w'' ∧ Arrives P (lone (b.at a' (.code c :: .inLoop c :: k)) cs w') b k cs e a'' w'' := by
    intro n
    induction n with
    | zero => intro st S' ρ' a' w' h; exact h.elim
    | succ n ih =>
      intro st S' ρ' a' w' h hs' he
      obtain ⟨e, a₁, w₁, hq, harr⟩ := h S' ρ' a' w' hs' (fun e a₁ w₁ => match e with
        | .normal => ∃ st' S'' ρ'', Unr P N m c Q n st' ∧ SimSt N S'' ρ'' a₁ w₁ st' ∧ Ext1 m S ρ w st0.H S'' ρ'' w₁ st'.H
        | e => R e a₁ w₁) (fun e st' S'' ρ'' a₁ w₁ hq hs'' he' => by
          cases e with
          | normal => exact ⟨st', S'', ρ'', hq, hs'', he.trans he'⟩
          | _ => exact hR _ st' S'' ρ'' a₁ w₁ hq hs'' (he.trans he')) b (.inLoop c :: k) cs
      cases e with
      | normal =>
        obtain ⟨st', S'', ρ'', h1, h2, h3⟩ := hq
        obtain ⟨e₂, a₂, w₂, hq₂, harr₂⟩ := ih st' S'' ρ'' a₁ w₁ h1 h2 h3
        exact ⟨e₂, a₂, w₂, hq₂, .of_steps (Steps.trans harr (.one step_inLoop)) harr₂⟩
      | exit id => exact ⟨_, a₁, w₁, hq, .pass (x := .inLoop c) rfl (fun _ _ => .inl (by simp)) harr⟩
      | goto l => exact ⟨_, a₁, w₁, hq, .pass (x := .inLoop c) rfl (fun _ _ => .inl (by simp)) harr⟩
      | ret => exact ⟨_, a₁, w₁, hq, .pass (x := .inLoop c) rfl (fun _ _ => .inl (by simp)) harr⟩
      | panic ch => exact ⟨_, a₁, w₁, hq, .pass (x := .inLoop c) rfl (fun _ _ => .inl (by simp)) harr⟩
      | outgrown => exact ⟨_, a₁, w₁, hq, .pass (x := .inLoop c) rfl (fun _ _ => .inl (by simp)) harr⟩
  obtain ⟨e, a', w', hq, harr⟩ := key _ st0 S ρ a w h0 hs (Ext1.refl _ _ _ _ _)
  exact ⟨e, a', w', hq, .of_steps (.one step_loop) harr⟩
theorem Unr.mono {c : Code} {Q Q' : Exit → St → Prop} (hq : ∀ ex st, Q ex st → Q' ex st) : ∀ {n : Nat} {st : St}, Unr P N m c Q n st → Unr P N m c Q' n st
  | 0, _, h => h
  | n + 1, st, h => awp_mono h fun ex st' h => by
    cases ex with
    | normal => exact Unr.mono hq h
    | _ => exact hq _ _ h
/-- so many rounds, by value -/
def UnrK (P : Program) (T : TT) (CE : CET) (dt : Bool) (N m : Nat) (c : Code) (Q : QT) (n : Nat) : Tr → GH → Nat → Prop := Nat.rec (motive := fun _ => Tr → GH → Nat → Prop) (fun _ _ _ => False) (fun _ ih e H nx => vc P T CE dt N m c (fun ex e H nx => match ex with
  | .normal => ih e H nx
  | ex => Q ex e H nx) e H nx) n
theorem loop_unr {T : TT} {CE : CET} (hT : TOk P T) (hCE : CESound P CE) (hm : P.follows .mixedOrders = true) {dt : Bool} {c : Code} {Q : QT} {e : Tr} {H : GH} {nx : Nat} (n : Nat) (h : UnrK P T CE dt N m c Q n e H nx) : LoopN P T CE dt N m c Q e H nx := by
  cases dt with
  | false =>
    refine ⟨fun h => (by cases h), fun _ => unr_loop (n := n) ?_⟩
    revert e H nx
    induction n with
    | zero => intro e H nx h; exact h.elim
    | succ n ih =>
      intro e H nx h
      have h : vc P T CE false N m c (fun ex e H nx => match ex with
        | .normal => UnrK P T CE false N m c Q n e H nx
        | ex => Q ex e H nx) e H nx := h
      refine awp_mono (vc_sound hT hCE hm c _ e H nx h) fun ex st hq => ?_
      obtain ⟨e', H', nx', rfl, hq⟩ := hq
      cases ex with
      | normal => exact ih hq
      | _ => exact ⟨e', H', nx', rfl, hq⟩
  | true =>
    refine ⟨fun _ => ?_, fun h => (by cases h)⟩
    have key : ∀ (n : Nat) (e : Tr) (H : GH) (nx : Nat), UnrK P T CE true N m c Q n e H nx → ∃ ex e' H' nx', Q ex e' H' nx' ∧ Unr P N m c (fun ex1 st1 => ex1 = ex ∧ st1 = stOf e' H' nx') n (stOf e H nx) := by
      intro n
      induction n with
      | zero => intro e H nx h; exact h.elim
      | succ n ih =>
        intro e H nx h
        have h : vc P T CE true N m c (fun ex e H nx => match ex with
          | .normal => UnrK P T CE true N m c Q n e H nx
          | ex => Q ex e H nx) e H nx := h
        obtain ⟨ex, e1, H1, nx1, hq, hd⟩ := vc_det hT hCE hm c _ e H nx h
        cases ex with
        | normal =>
          obtain ⟨ex, e2, H2, nx2, hQ, hu⟩ := ih e1 H1 nx1 hq
          exact ⟨ex, e2, H2, nx2, hQ, awp_mono hd fun ex' st' ⟨h1, h2⟩ => by subst h1; subst h2; exact hu⟩
        | _ => exact ⟨_, e1, H1, nx1, hq, awp_mono hd fun ex' st' ⟨h1, h2⟩ => by subst h1; exact ⟨rfl, h2⟩⟩
    obtain ⟨ex, e', H', nx', hQ, hu⟩ := key n e H nx h
    exact ⟨ex, e', H', nx', hQ, unr_loop hu⟩
end

/-- the slots that code writes -/
noncomputable def wrs (c : Code) : List Nat := Code.rec (motive := fun _ => List Nat) [] (fun _ ops _ => ops.toList.filterMap (·.dst)) (fun _ _ x y => x ++ y) (fun _ _ _ x y => x ++ y) (fun _ _ x => x) (fun _ x => x) (fun _ _ _ _ x y => x ++ y) (fun _ => []) (fun _ x => x) (fun _ => []) (fun _ => []) [] (fun _ => []) c
noncomputable def hvOf (c : Code) : List (Nat × V) := (wrs c).map fun k => (k, .any)

/-- slots from d on -/
noncomputable def deadL (d n : Nat) : List (Nat × V) := Nat.rec (motive := fun _ => Nat → List (Nat × V)) (fun _ => []) (fun _ ih d => (d, .any) :: ih (d + 1)) n d
/-- what is not told at a loop's head: what its body writes, and the slots from d on -/
noncomputable def hvD (d N : Nat) (c : Code) : List (Nat × V) := hvOf c ++ deadL d (N - d)
section
variable {P : Program} {N m : Nat}
/-- a loop: what it writes, and the slots from d on, are not told, but for 'sl x' -/
theorem loop_w {T : TT} {CE : CET} (hT : TOk P T) (hCE : CESound P CE) (hm : P.follows .mixedOrders = true) (d : Nat) {c : Code} {Q : QT} {e : Tr} {H : GH} {nx : Nat} {X : Type} (x0 : X) (sl : X → List (Nat × V)) (hp : X → GH) (nx1 : Nat) (I : X → Prop) (μ : X → Nat)
    (h0 : I x0) (hs : setsK (hvD d N c) e fun e0 => setsK (sl x0) e0 fun e2 => wkA m e H e2 (hp x0) nx1)
    (hr : ∀ x, I x → setsK (hvD d N c) e fun e0 => setsK (sl x) e0 fun e1 => vc P T CE false N m c (qRound m I μ x (hvD d N c) e sl hp nx1 Q) e1 (hp x) nx1) : LoopN P T CE false N m c Q e H nx :=
  loop_vc hT hCE hm (hvD d N c) x0 sl hp nx1 I μ h0 hs hr
/-- the same, where the objects stay as they are -/
theorem loop_k {T : TT} {CE : CET} (hT : TOk P T) (hCE : CESound P CE) (hm : P.follows .mixedOrders = true) (d : Nat) {c : Code} {Q : QT} {e : Tr} {H : GH} {nx : Nat} {X : Type} (x0 : X) (sl : X → List (Nat × V)) (I : X → Prop) (μ : X → Nat)
    (h0 : I x0) (hs : setsK (hvD d N c) e fun e0 => setsK (sl x0) e0 fun e2 => wkA m e H e2 H nx)
    (hr : ∀ x, I x → setsK (hvD d N c) e fun e0 => setsK (sl x) e0 fun e1 => vc P T CE false N m c (qRound m I μ x (hvD d N c) e sl (fun _ => H) nx Q) e1 H nx) : LoopN P T CE false N m c Q e H nx :=
  loop_w hT hCE hm d x0 sl (fun _ => H) nx I μ h0 hs hr
theorem loop_wD {T : TT} {CE : CET} (hT : TOk P T) (hCE : CESound P CE) (hm : P.follows .mixedOrders = true) (d : Nat) {c : Code} {Q : QT} {e : Tr} {H : GH} {nx : Nat} {X : Type} (x0 : X) (sl : X → List (Nat × V)) (hp : X → GH) (nx1 : Nat) (I : X → Prop) (μ : X → Nat) (exF : Exit) (lF : List (Nat × V)) (HF : GH) (nxF : Nat) (hex : exF ≠ .normal)
    (h0 : I x0) (hs : setsK (hvD d N c) e fun e0 => setsK (sl x0) e0 fun e2 => wkA m e H e2 (hp x0) nx1)
    (hr : ∀ x, I x → setsK (hvD d N c) e fun e0 => setsK (sl x) e0 fun e1 => vc P T CE true N m c (qRoundD m I μ x (hvD d N c) e sl hp nx1 exF lF HF nxF) e1 (hp x) nx1)
    (hq : setsK (hvD d N c) e fun e0 => setsK lF e0 fun e2 => Q exF e2 HF nxF) : LoopN P T CE true N m c Q e H nx :=
  loop_vcD hT hCE hm (hvD d N c) x0 sl hp nx1 I μ exF lF HF nxF hex h0 hs hr hq
end

/- a table of texts, as a list -/
def bodyOf (fn : Func) : Code := match fn.body with
  | some c => c
  | none => .skip
abbrev IRow := Nat × Func × Nat × Nat
noncomputable def inlTab (l : List IRow) : ITab := fun k => List.rec (motive := fun _ => Option (Func × Code × Nat × Nat)) none (fun p _ ih => match Nat.beq k p.1 with
  | true => some (p.2.1, bodyOf p.2.1, p.2.2.1, p.2.2.2)
  | false => ih) l
def InlOk (P : Program) : List IRow → Prop
  | [] => True
  | p :: l => (P.funcs[p.1]? = some p.2.1 ∧ callOk P p.1 = true ∧ p.2.1.body.isSome = true) ∧ InlOk P l
theorem inl_ok {P : Program} : ∀ {l : List IRow}, InlOk P l → IOk P (inlTab l)
  | [], _, k, fn, c, N, d, h => by cases h
  | p :: l, ⟨⟨h1, h2, h3⟩, h4⟩, k, fn, c, N, d, h => by
    have h : (match Nat.beq k p.1 with
      | true => some (p.2.1, bodyOf p.2.1, p.2.2.1, p.2.2.2)
      | false => inlTab l k) = some (fn, c, N, d) := h
    split at h
    · rename_i hb
      have := Nat.eq_of_beq_eq_true hb
      simp only [Option.some.injEq, Prod.mk.injEq] at h
      obtain ⟨rfl, rfl, _⟩ := h
      rw [this]
      refine ⟨h1, ?_, h2⟩
      unfold bodyOf
      cases hb : p.2.1.body with
      | none => rw [hb] at h3; cases h3
      | some c => rfl
    · exact inl_ok h4 k fn c N d h
end Go.Proofs.Ytgaginflocpcfaa
