/-
  The value-level machine: slices out of what is listed: what their cells name never changes any more.
-/
import Derived.Test.YtgaginflocpcfaaAbsS
namespace Go.Proofs.Ytgaginflocpcfaa
open Go
set_option linter.unusedVariables false
set_option linter.unusedSimpArgs false

def rowsPlain (N : List (List V)) : Prop := ∀ r ∈ N, r.all kfc = true
def GH.look (H : GH) (k : Nat) : Option (Bool × VObj) := match H with
  | [] => none
  | (j, s, o) :: l => match Nat.beq k j with
    | true => some (s, o)
    | false => GH.look l k
theorem GH.look_sound : ∀ (H : GH) {k : Nat} {s : Bool} {o : VObj}, H.look k = some (s, o) → H.hp k = some o
  | [], _, _, _, h => by cases h
  | (j, s', o') :: l, k, s, o, h => by
    simp only [GH.look] at h
    simp only [GH.hp, upd]
    cases h0 : Nat.beq k j with
    | true =>
      rw [h0] at h
      cases h
      rw [if_pos (Nat.eq_of_beq_eq_true h0)]
    | false =>
      rw [h0] at h
      rw [if_neg (fun e => by subst e; simp at h0)]
      exact GH.look_sound l h
/-- may it be told as what never changes? -/
def fzTest (sy : Bool) (ob : VObj) (sz : Nat) : Bool := (sy || plainQ ob.rows) && Nat.beq ob.sz sz
def fz0V (H : GH) (v : V) : V := match v with
  | .win k sz lo n cp => match H.look k with
    | some (sy, ob) => match fzTest sy ob sz with
      | true => .sl sz ((ob.rows.drop lo).take n)
      | false => .win k sz lo n cp
    | none => .win k sz lo n cp
  | v => v
def fz1V (H : GH) (v : V) : V := match v with
  | .agg cs => .agg (cs.map (fz0V H))
  | v => fz0V H v
def fz0K (H : GH) (v : V) (K : HL → Prop) : Prop := match v with
  | .win k sz lo n cp => match H.look k with
    | some (sy, ob) => match fzTest sy ob sz with
      | true => lo + n ≤ ob.rows.length ∧ rowsPlain ob.rows ∧ K [(k, ob)]
      | false => K []
    | none => K []
  | _ => K []
def fzCs (H : GH) : List V → (HL → Prop) → Prop
  | [], K => K []
  | v :: l, K => fz0K H v fun B => fzCs H l fun B' => K (B ++ B')
def fz1K (H : GH) (v : V) (K : HL → Prop) : Prop := match v with
  | .agg cs => fzCs H cs K
  | v => fz0K H v K
def fzPs (H : GH) : List (Nat × V) → (HL → Prop) → Prop
  | [], K => K []
  | p :: l, K => fz1K H p.2 fun B => fzPs H l fun B' => K (B ++ B')

/-- told anew, where these objects never change any more -/
def FzOk (B : HL) (c a : V) : Prop := ∀ (S : Nat → Prop) (ρ : KM) (w : World) (u : Value), Sim S ρ w (hpo B) → Rep S ρ w u a → Rep (SB S ρ (hpo B)) ρ w u c
theorem fz_id (B : HL) (v : V) : FzOk B v v := fun S ρ w u hs h => h.mono (fun _ h => .inl h) (fun _ _ => rfl) (fun _ _ h => h) (Keeps.refl w)
theorem FzOk.sub {B B' : HL} {c a : V} (h : FzOk B c a) (hB : Sub (hpo B) (hpo B')) : FzOk B' c a := fun S ρ w u hs hr =>
  (h S ρ w u (hs.sub hB) hr).mono (fun b hb => hb.imp id fun hb => Live.sub hB hb) (fun _ _ => rfl) (fun _ _ h => h) (Keeps.refl w)
def AllAt' (H : Hp) (B : HL) : Prop := ∀ p ∈ B, H p.1 = some p.2
theorem AllAt'.sub {H : Hp} : ∀ {B : HL}, AllAt' H B → Sub (hpo B) H
  | [], _ => Sub.nil H
  | (k, o) :: B, h => Sub.cons (h (k, o) (by simp)) (AllAt'.sub fun p hp => h p (by simp [hp]))
theorem AllAt'.in {H : Hp} {B B' : HL} (h : AllAt' H B) (h' : AllAt' H B') (hs : ∀ p ∈ B, p ∈ B') : Sub (hpo B) (hpo B') := by
  intro k o hk
  have h1 := h.sub k o hk
  have hm : k ∈ keysOf B := mem_keys.1 (by rw [hk]; simp)
  simp only [keysOf, List.mem_map] at hm
  obtain ⟨p, hp, rfl⟩ := hm
  have hk' : hpo B' p.1 ≠ none := mem_keys.2 (by simp only [keysOf, List.mem_map]; exact ⟨p, hs p hp, rfl⟩)
  cases hh : hpo B' p.1 with
  | none => exact absurd hh hk'
  | some o' =>
    have := h'.sub _ _ hh
    rw [h1] at this
    exact this.symm ▸ rfl
theorem AllAt'.app {H : Hp} {B B' : HL} (h : AllAt' H B) (h' : AllAt' H B') : AllAt' H (B ++ B') := fun p hp => by
  rcases List.mem_append.1 hp with hp | hp
  · exact h p hp
  · exact h' p hp

theorem fz0K_sound {H : GH} {v : V} {K : HL → Prop} (h : fz0K H v K) : ∃ B, AllAt' H.hp B ∧ FzOk B (fz0V H v) v ∧ K B := by
  unfold fz0K at h
  split at h
  · rename_i k sz lo n cp
    split at h
    · rename_i sy ob hk
      split at h
      · rename_i ht
        obtain ⟨hl, hp, h⟩ := h
        have hz : ob.sz = sz := by
          unfold fzTest at ht
          rw [Bool.and_eq_true] at ht
          exact Nat.eq_of_beq_eq_true ht.2
        refine ⟨_, fun p hp => by simp only [List.mem_singleton] at hp; subst hp; exact H.look_sound hk, ?_, h⟩
        have e : fz0V H (.win k sz lo n cp) = .sl sz ((ob.rows.drop lo).take n) := by simp only [fz0V, hk, ht]
        rw [e]
        intro S ρ w u hs hr
        have hw := rc_wv (H := hpo [(k, ob)]) (τ := noK) (x := .win k sz lo n cp) (by simp only [okc, hpo_one_self]; exact ⟨hz, hl, hp⟩)
        simp only [rc, hpo_one_self] at hw
        have := hw.rep hs (fun _ _ h => h) hr
        exact this.mono (fun _ h => h) (fun _ _ => rfl) (fun k b h => by simp [KB] at h) (Keeps.refl w)
      · rename_i ht
        refine ⟨[], fun p hp => by simp at hp, ?_, h⟩
        have e : fz0V H (.win k sz lo n cp) = .win k sz lo n cp := by simp only [fz0V, hk, ht]
        rw [e]
        exact fz_id _ _
    · rename_i hk
      refine ⟨[], fun p hp => by simp at hp, ?_, h⟩
      have e : fz0V H (.win k sz lo n cp) = .win k sz lo n cp := by simp only [fz0V, hk]
      rw [e]
      exact fz_id _ _
  · rename_i hv
    refine ⟨[], fun p hp => by simp at hp, ?_, h⟩
    have e : fz0V H v = v := by
      unfold fz0V
      split
      · exact absurd rfl (hv _ _ _ _ _)
      · rfl
    rw [e]
    exact fz_id _ _
theorem fzCs_sound {H : GH} : ∀ (l : List V) {K : HL → Prop}, fzCs H l K → ∃ B, AllAt' H.hp B ∧ (∀ v ∈ l, FzOk B (fz0V H v) v) ∧ K B
  | [], _, h => ⟨[], fun p hp => by simp at hp, fun v hv => by simp at hv, h⟩
  | v :: l, K, h => by
    obtain ⟨B, h1, h2, h⟩ := fz0K_sound h
    obtain ⟨B', h3, h4, h⟩ := fzCs_sound l h
    refine ⟨_, h1.app h3, fun x hx => ?_, h⟩
    rcases List.mem_cons.1 hx with rfl | hx
    · exact h2.sub (h1.in (h1.app h3) fun p hp => by simp [hp])
    · exact (h4 x hx).sub (h3.in (h1.app h3) fun p hp => by simp [hp])
theorem fz1K_sound {H : GH} {v : V} {K : HL → Prop} (h : fz1K H v K) : ∃ B, AllAt' H.hp B ∧ FzOk B (fz1V H v) v ∧ K B := by
  unfold fz1K at h
  split at h
  · rename_i cs
    obtain ⟨B, h1, h2, h⟩ := fzCs_sound cs h
    refine ⟨B, h1, ?_, h⟩
    show FzOk B (.agg (cs.map (fz0V H))) (.agg cs)
    intro S ρ w u hs hr
    cases hr with
    | agg hl hc =>
      refine .agg (by simpa using hl) fun i u x a b => ?_
      rw [List.getElem?_map, Option.map_eq_some_iff] at b
      obtain ⟨y, hy, rfl⟩ := b
      exact h2 y (List.mem_of_getElem? hy) S ρ w u hs (hc i u y a hy)
  · rename_i hv
    obtain ⟨B, h1, h2, h⟩ := fz0K_sound h
    refine ⟨B, h1, ?_, h⟩
    have e : fz1V H v = fz0V H v := by
      unfold fz1V
      split
      · exact absurd rfl (hv _)
      · rfl
    rw [e]; exact h2
theorem fzPs_sound {H : GH} : ∀ (l : List (Nat × V)) {K : HL → Prop}, fzPs H l K → ∃ B, AllAt' H.hp B ∧ (∀ p ∈ l, FzOk B (fz1V H p.2) p.2) ∧ K B
  | [], _, h => ⟨[], fun p hp => by simp at hp, fun v hv => by simp at hv, h⟩
  | p :: l, K, h => by
    obtain ⟨B, h1, h2, h⟩ := fz1K_sound h
    obtain ⟨B', h3, h4, h⟩ := fzPs_sound l h
    refine ⟨_, h1.app h3, fun x hx => ?_, h⟩
    rcases List.mem_cons.1 hx with rfl | hx
    · exact h2.sub (h1.in (h1.app h3) fun p hp => by simp [hp])
    · exact (h4 x hx).sub (h3.in (h1.app h3) fun p hp => by simp [hp])

section
variable {P : Program} {T : TT} {ov : Operand → V} {o : Oper} {nx : Nat} {H : GH} {K : Eff → V → Prop}
/-- of objects as a list -/
def ghOf (B : HL) : GH := B.map fun p => (p.1, true, p.2)
def ghFz (B : HL) : GH := B.map fun p => (p.1, true, { p.2 with frz := true })
theorem ghOf_hl (B : HL) : (ghOf B).hl = B := by
  simp only [ghOf, GH.hl, List.map_map]
  exact (List.map_congr_left fun p _ => rfl).trans (List.map_id B)
theorem ghFz_hl (B : HL) : (ghFz B).hl = frozen B := by simp [ghFz, GH.hl, frozen]
def buildSliceF (T : TT) (ov : Operand → V) (H : GH) (nx : Nat) (t n : Nat) (ps : List (Nat × Operand)) (K : Eff → V → Prop) : Prop := partsK ov ps fun qs => fzPs H qs fun B => match B with
  | [] => buildSliceE T ov nx t n ps K
  | p :: B => chkK ((keysOf (p :: B)).all fun k => Nat.blt k nx) <| buildSliceE T (fun x => fz1V H (ov x)) nx t n ps fun eff v => match eff with
    | .nw [] sy ob => K (.gn (ghOf (p :: B)) ((nx, sy, ob) :: ghFz (p :: B)) (nx + 1)) v
    | _ => False
theorem buildSliceE_nw (hT : TOk P T) {t n : Nat} {ps : Array (Nat × Operand)} (ho : o.op = .buildSlice t n ps) (h : buildSliceE T ov nx t n ps.toList K) : ∃ sy ob v, LOk P ov o [] [] [(nx, ob)] v ∧ K (.nw [] sy ob) v := by
  obtain ⟨i, ht, h⟩ := tiK_sound h
  split at h
  · rename_i e hd
    obtain ⟨ie, he, h⟩ := tiK_sound h
    obtain ⟨hn, h⟩ := chkK_sound h
    have h := fRs_sound _ (fCs_sound _ (partsK_sound _ h))
    obtain ⟨rs, h1, h2⟩ := fillQ_sound _ _ h
    exact ⟨_, _, _, lok_buildSlice hT ho ht hd he (Nat.le_of_ble_eq_true hn) rfl h1, h2⟩
  · exact h.elim
theorem buildSliceF_sound (hT : TOk P T) {t n : Nat} {ps : Array (Nat × Operand)} (ho : o.op = .buildSlice t n ps) (h : buildSliceF T ov H nx t n ps.toList K) : Res P ov o nx H.hp K := by
  have h := partsK_sound _ h
  obtain ⟨B, h1, h2, h⟩ := fzPs_sound _ h
  split at h
  · exact buildSliceE_sound hT ho h
  · rename_i p B
    obtain ⟨hk, h⟩ := chkK_sound h
    rw [List.all_eq_true] at hk
    have hk : ∀ k, k ∈ keysOf (p :: B) → k < nx := fun k h => Nat.le_of_ble_eq_true (hk k h)
    obtain ⟨sy, ob, v, hl, h⟩ := buildSliceE_nw hT ho h
    have hap : ∀ k, hpo [(nx, ob)] k ≠ none → hpo (p :: B) k = none := fun k hk1 => by
      have : k = nx := by
        rw [hpo_one] at hk1
        split at hk1
        · assumption
        · exact absurd rfl hk1
      subst this
      exact hpo_none fun hm => absurd (hk _ hm) (Nat.lt_irrefl _)
    have hf := lok_freeze (B := p :: B) (ov := ov) (fun x hx => ?_) hap hl
    · refine ⟨.gn (ghOf (p :: B)) ((nx, sy, ob) :: ghFz (p :: B)) (nx + 1), _, ⟨?_, ?_, Nat.le_succ nx, fun k hk1 hk2 => ?_, fun k hk1 => ?_⟩, h⟩
      · show LOk P ov o [] (ghOf (p :: B)).hl (GH.hl ((nx, sy, ob) :: ghFz (p :: B))) v
        rw [ghOf_hl]
        have e : GH.hl ((nx, sy, ob) :: ghFz (p :: B)) = [(nx, ob)] ++ frozen (p :: B) := by
          rw [← ghFz_hl]; rfl
        rw [e]
        exact hf
      · rw [ghOf_hl]; exact h1.sub
      · rw [ghOf_hl] at hk2
        have e : GH.hl ((nx, sy, ob) :: ghFz (p :: B)) = (nx, ob) :: frozen (p :: B) := by rw [← ghFz_hl]; rfl
        rw [e] at hk1
        simp only [keysOf, List.map_cons, List.mem_cons] at hk1
        rcases hk1 with rfl | hk1
        · exact Nat.le_refl _
        · exfalso
          apply hk2
          simpa [keysOf, frozen] using hk1
      · have e : GH.hl ((nx, sy, ob) :: ghFz (p :: B)) = (nx, ob) :: frozen (p :: B) := by rw [← ghFz_hl]; rfl
        rw [e] at hk1
        simp only [keysOf, List.map_cons, List.mem_cons] at hk1
        rcases hk1 with rfl | hk1
        · exact Nat.lt_succ_self _
        · have := hk k (by simpa [keysOf, frozen] using hk1)
          omega
    · rw [ho] at hx
      simp only [Op.operands, Array.toList_map, List.mem_map] at hx
      obtain ⟨q, hq, rfl⟩ := hx
      exact h2 (q.1, ov q.2) (List.mem_map.2 ⟨q, hq, rfl⟩)
end
end Go.Proofs.Ytgaginflocpcfaa
