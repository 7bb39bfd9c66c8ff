/-
  The value-level machine: an evaluator that turns code into what is to be shown of it (this text: slots, heap, forcing).
-/
import Derived.Test.YtgaginflocpcfaaAbsP
namespace Go.Proofs.Ytgaginflocpcfaa
open Go
set_option linter.unusedVariables false
set_option linter.unusedSimpArgs false

/-- slots -/
inductive Tr where
  | lf
  | nd (v : V) (l r : Tr)
def Tr.get : Tr → Nat → V
  | .lf, _ => .undef
  | .nd v l r, k => match Nat.beq k 0 with
    | true => v
    | false => match Nat.beq (k % 2) 1 with
      | true => l.get (k / 2)
      | false => r.get (k / 2 - 1)
def Tr.full : Nat → Tr
  | 0 => .lf
  | d + 1 => .nd .undef (Tr.full d) (Tr.full d)
def Tr.setK : Tr → Nat → V → (Tr → Prop) → Prop
  | .lf, _, _, _ => False
  | .nd x l r, k, v, K => match Nat.beq k 0 with
    | true => K (.nd v l r)
    | false => match Nat.beq (k % 2) 1 with
      | true => l.setK (k / 2) v fun l' => K (.nd x l' r)
      | false => r.setK (k / 2 - 1) v fun r' => K (.nd x l r')
theorem Tr.full_get (d : Nat) : ∀ k, (Tr.full d).get k = .undef := by
  induction d with
  | zero => intro k; rfl
  | succ d ih =>
    intro k
    simp only [Tr.full, Tr.get]
    split
    · rfl
    · split <;> exact ih _
theorem Tr.setK_sound {v : V} : ∀ (t : Tr) (k : Nat) {K : Tr → Prop}, t.setK k v K → ∃ t', t'.get = upd t.get k v ∧ K t'
  | .lf, _, _, h => h.elim
  | .nd x l r, k, K, h => by
    simp only [Tr.setK] at h
    cases h0 : Nat.beq k 0 with
    | true =>
      rw [h0] at h
      have hk := Nat.eq_of_beq_eq_true h0
      refine ⟨_, ?_, h⟩
      funext j
      simp only [Tr.get, upd, hk]
      by_cases hj : j = 0
      · subst hj; simp
      · have : Nat.beq j 0 = false := by cases hb : Nat.beq j 0 with
          | true => exact absurd (Nat.eq_of_beq_eq_true hb) hj
          | false => rfl
        simp [this, hj]
    | false =>
      rw [h0] at h
      have hk : k ≠ 0 := fun e => by subst e; cases h0
      cases h1 : Nat.beq (k % 2) 1 with
      | true =>
        rw [h1] at h
        have hk1 := Nat.eq_of_beq_eq_true h1
        obtain ⟨l', e, hK⟩ := Tr.setK_sound l (k / 2) h
        refine ⟨_, ?_, hK⟩
        funext j
        simp only [Tr.get, upd, e]
        cases g0 : Nat.beq j 0 with
        | true =>
          have := Nat.eq_of_beq_eq_true g0
          subst this
          rw [if_neg (Ne.symm hk)]
        | false =>
          have hj : j ≠ 0 := fun e => by subst e; cases g0
          cases g1 : Nat.beq (j % 2) 1 with
          | true =>
            have hj1 := Nat.eq_of_beq_eq_true g1
            simp only
            by_cases hjk : j = k
            · subst hjk; simp
            · rw [if_neg (by omega), if_neg hjk]
          | false =>
            simp only
            rw [if_neg]
            rintro rfl
            rw [h1] at g1; cases g1
      | false =>
        rw [h1] at h
        have hk1 : k % 2 ≠ 1 := fun e => by rw [e] at h1; cases h1
        obtain ⟨r', e, hK⟩ := Tr.setK_sound r (k / 2 - 1) h
        refine ⟨_, ?_, hK⟩
        funext j
        simp only [Tr.get, upd, e]
        cases g0 : Nat.beq j 0 with
        | true =>
          have := Nat.eq_of_beq_eq_true g0
          subst this
          rw [if_neg (Ne.symm hk)]
        | false =>
          have hj : j ≠ 0 := fun e => by subst e; cases g0
          cases g1 : Nat.beq (j % 2) 1 with
          | true =>
            simp only
            rw [if_neg]
            rintro rfl
            rw [h1] at g1; cases g1
          | false =>
            have hj1 : j % 2 ≠ 1 := fun e => by rw [e] at g1; cases g1
            simp only
            by_cases hjk : j = k
            · subst hjk; simp
            · rw [if_neg (by omega), if_neg hjk]

/-- objects, with a mark on those whose rows are not listed one by one -/
abbrev GH := List (Nat × Bool × VObj)
def GH.hp : GH → Hp
  | [] => fun _ => none
  | (k, _, o) :: l => upd (GH.hp l) k (some o)
def GH.getK : GH → Nat → (Bool → VObj → Prop) → Prop
  | [], _, _ => False
  | (j, s, o) :: l, k, K => match Nat.beq k j with
    | true => K s o
    | false => GH.getK l k K
theorem GH.getK_sound : ∀ (H : GH) (k : Nat) {K : Bool → VObj → Prop}, H.getK k K → ∃ s o, H.hp k = some o ∧ K s o
  | [], _, _, h => h.elim
  | (j, s, o) :: l, k, K, h => by
    simp only [GH.getK] at h
    cases h0 : Nat.beq k j with
    | true =>
      rw [h0] at h
      have := Nat.eq_of_beq_eq_true h0
      subst this
      exact ⟨s, o, upd_same _ _ _, h⟩
    | false =>
      rw [h0] at h
      have hk : k ≠ j := fun e => by subst e; rw [Nat.beq_refl] at h0; cases h0
      obtain ⟨s', o', h1, h2⟩ := GH.getK_sound l k h
      exact ⟨s', o', by simp only [GH.hp]; rw [upd_ne _ _ hk]; exact h1, h2⟩
/-- an object's new content, its mark kept -/
def GH.putK : GH → Nat → VObj → (GH → Prop) → Prop
  | [], _, _, _ => False
  | (j, s, o) :: l, k, o', K => match Nat.beq k j with
    | true => K ((j, s, o') :: l)
    | false => GH.putK l k o' fun l' => K ((j, s, o) :: l')
theorem GH.putK_sound {o' : VObj} : ∀ (H : GH) (k : Nat) {K : GH → Prop}, H.putK k o' K → ∃ H', H'.hp = upd H.hp k (some o') ∧ K H'
  | [], _, _, h => h.elim
  | (j, s, o) :: l, k, K, h => by
    simp only [GH.putK] at h
    cases h0 : Nat.beq k j with
    | true =>
      rw [h0] at h
      have := Nat.eq_of_beq_eq_true h0
      subst this
      refine ⟨_, ?_, h⟩
      simp only [GH.hp, upd_upd]
    | false =>
      rw [h0] at h
      have hk : k ≠ j := fun e => by subst e; rw [Nat.beq_refl] at h0; cases h0
      obtain ⟨H', h1, h2⟩ := GH.putK_sound l k h
      refine ⟨_, ?_, h2⟩
      simp only [GH.hp, h1]
      funext t
      simp only [upd]
      by_cases e1 : t = j
      · subst e1; simp [Ne.symm hk]
      · simp [e1]
/-- an object leaves -/
def GH.delK : GH → Nat → (GH → Prop) → Prop
  | [], _, K => K []
  | (j, s, o) :: l, k, K => match Nat.beq k j with
    | true => GH.delK l k K
    | false => GH.delK l k fun l' => K ((j, s, o) :: l')
theorem GH.delK_sound : ∀ (H : GH) (k : Nat) {K : GH → Prop}, H.delK k K → ∃ H', H'.hp = upd H.hp k none ∧ K H'
  | [], k, _, h => ⟨[], by funext t; simp [GH.hp, upd], h⟩
  | (j, s, o) :: l, k, K, h => by
    simp only [GH.delK] at h
    cases h0 : Nat.beq k j with
    | true =>
      rw [h0] at h
      have := Nat.eq_of_beq_eq_true h0
      subst this
      obtain ⟨H', h1, h2⟩ := GH.delK_sound l k h
      exact ⟨H', by rw [h1]; simp only [GH.hp, upd_upd], h2⟩
    | false =>
      rw [h0] at h
      have hk : k ≠ j := fun e => by subst e; rw [Nat.beq_refl] at h0; cases h0
      obtain ⟨H', h1, h2⟩ := GH.delK_sound l k h
      refine ⟨_, ?_, h2⟩
      simp only [GH.hp, h1]
      funext t
      simp only [upd]
      by_cases e1 : t = j
      · subst e1; simp [Ne.symm hk]
      · simp [e1]

/- forcing: what stands behind is laid open before it goes on -/
def fK (k : IntKind) (K : IntKind → Prop) : Prop := match k with
  | .i8 => K .i8 | .i16 => K .i16 | .i32 => K .i32 | .i64 => K .i64 | .u8 => K .u8 | .u16 => K .u16 | .u32 => K .u32 | .u64 => K .u64
theorem fK_sound {k : IntKind} {K : IntKind → Prop} (h : fK k K) : K k := by cases k <;> exact h
def fVal (v : Value) (K : Value → Prop) : Prop := match v with
  | .int k z => fK k fun k => K (.int k z)
  | .bool b => K (.bool b)
  | .string s => K (.string s)
  | .slice a n c => K (.slice a n c)
  | .pointer a => K (.pointer a)
  | v => K v
theorem fVal_sound {v : Value} {K : Value → Prop} (h : fVal v K) : K v := by
  cases v <;> first | exact fK_sound (K := fun k => K (.int k _)) h | exact h
def fC (v : V) (K : V → Prop) : Prop := match v with
  | .lit v => fVal v fun v => K (.lit v)
  | .agg cs => K (.agg cs)
  | .tup cs => K (.tup cs)
  | .sl sz l => K (.sl sz l)
  | .sls sz l nn ex => K (.sls sz l nn ex)
  | .win k sz lo n cp => K (.win k sz lo n cp)
  | .ptr k sz i off => K (.ptr k sz i off)
  | .ip cs => K (.ip cs)
  | .fn f cs => K (.fn f cs)
  | .mp k => K (.mp k)
  | .any => K .any
theorem fC_sound {v : V} {K : V → Prop} (h : fC v K) : K v := by
  cases v <;> first | exact fVal_sound (K := fun v => K (.lit v)) h | exact h
def fCs : List V → (List V → Prop) → Prop
  | [], K => K []
  | v :: l, K => fC v fun v => fCs l fun l => K (v :: l)
theorem fCs_sound : ∀ (l : List V) {K : List V → Prop}, fCs l K → K l
  | [], _, h => h
  | v :: l, K, h => fCs_sound l (fC_sound (v := v) h)
def fA (v : V) (K : V → Prop) : Prop := match v with
  | .agg cs => fCs cs fun cs => K (.agg cs)
  | .ip cs => fCs cs fun cs => K (.ip cs)
  | .fn f cs => fCs cs fun cs => K (.fn f cs)
  | v => fC v K
theorem fA_sound {v : V} {K : V → Prop} (h : fA v K) : K v := by
  cases v <;> first | exact fCs_sound _ h | exact fC_sound h
def fAs : List V → (List V → Prop) → Prop
  | [], K => K []
  | v :: l, K => fA v fun v => fAs l fun l => K (v :: l)
theorem fAs_sound : ∀ (l : List V) {K : List V → Prop}, fAs l K → K l
  | [], _, h => h
  | v :: l, K, h => fAs_sound l (fA_sound (v := v) h)
def fV (v : V) (K : V → Prop) : Prop := match v with
  | .tup cs => fAs cs fun cs => K (.tup cs)
  | v => fA v K
theorem fV_sound {v : V} {K : V → Prop} (h : fV v K) : K v := by
  cases v <;> first | exact fAs_sound _ h | exact fA_sound h
/-- a row of rows that are listed -/
def fRs : List (List V) → (List (List V) → Prop) → Prop
  | [], K => K []
  | r :: l, K => fCs r fun r => fRs l fun l => K (r :: l)
theorem fRs_sound : ∀ (l : List (List V)) {K : List (List V) → Prop}, fRs l K → K l
  | [], _, h => h
  | r :: l, K, h => fRs_sound l (fCs_sound r h)

def nthK {α : Type} : List α → Nat → (α → Prop) → Prop
  | [], _, _ => False
  | x :: l, k, K => match Nat.beq k 0 with
    | true => K x
    | false => nthK l (k - 1) K
theorem nthK_sound {α : Type} : ∀ (l : List α) (k : Nat) {K : α → Prop}, nthK l k K → ∃ x, l[k]? = some x ∧ K x
  | [], _, _, h => h.elim
  | x :: l, k, K, h => by
    simp only [nthK] at h
    cases h0 : Nat.beq k 0 with
    | true =>
      rw [h0] at h
      have := Nat.eq_of_beq_eq_true h0
      subst this
      exact ⟨x, rfl, h⟩
    | false =>
      rw [h0] at h
      obtain ⟨y, h1, h2⟩ := nthK_sound l (k - 1) h
      have hk : k ≠ 0 := fun e => by subst e; cases h0
      exact ⟨y, by rw [show k = k - 1 + 1 by omega]; exact h1, h2⟩
def optK {α : Type} (x : Option α) (K : α → Prop) : Prop := match x with
  | some x => K x
  | none => False
theorem optK_sound {α : Type} {x : Option α} {K : α → Prop} (h : optK x K) : ∃ y, x = some y ∧ K y := by
  cases x with
  | none => exact h.elim
  | some y => exact ⟨y, rfl, h⟩
/-- what must be decided on the way -/
def chkK (b : Bool) (X : Prop) : Prop := match b with
  | true => X
  | false => False
theorem chkK_sound {b : Bool} {X : Prop} (h : chkK b X) : b = true ∧ X := by
  cases b with
  | true => exact ⟨rfl, h⟩
  | false => exact h.elim
/-- two roads -/
def condN (b : Bool) (X Y : Prop) : Prop := match b with
  | true => X
  | false => Y
theorem condN_split {b : Bool} {X Y : Prop} (h1 : b = true → X) (h2 : b = false → Y) : condN b X Y := by
  cases b with
  | true => exact h1 rfl
  | false => exact h2 rfl
theorem condN_sound {b : Bool} {X Y : Prop} (h : condN b X Y) : (b = true ∧ X) ∨ (b = false ∧ Y) := by
  cases b with
  | true => exact .inl ⟨rfl, h⟩
  | false => exact .inr ⟨rfl, h⟩
def tiK (T : TT) (t : Nat) (K : TI → Prop) : Prop := match T t with
  | some ⟨d, sz, by_, ag, ze⟩ => K ⟨d, sz, by_, ag, ze⟩
  | none => False
theorem tiK_sound {T : TT} {t : Nat} {K : TI → Prop} (h : tiK T t K) : ∃ i, T t = some i ∧ K i := by
  unfold tiK at h
  cases hT : T t with
  | none => rw [hT] at h; exact h.elim
  | some i => rw [hT] at h; exact ⟨i, rfl, h⟩

def GH.hl (H : GH) : HL := H.map fun p => (p.1, p.2.2)
theorem GH.hp_hl (H : GH) : hpo H.hl = H.hp := by
  induction H with
  | nil => rfl
  | cons p H ih =>
    obtain ⟨k, s, o⟩ := p
    simp only [GH.hl, List.map_cons, hpo, GH.hp] at ih ⊢
    rw [ih]
theorem GH.app_hp (B H : GH) : GH.hp (B ++ H) = H.hp.add B.hl := by
  induction B with
  | nil => rfl
  | cons p B ih =>
    obtain ⟨k, s, o⟩ := p
    simp only [List.cons_append, GH.hp, GH.hl, List.map_cons, Hp.add] at ih ⊢
    rw [ih]
/-- objects leave -/
def GH.delsK : HL → GH → (GH → Prop) → Prop
  | [], H, K => K H
  | (k, _) :: l, H, K => GH.delsK l H fun H => H.delK k K
theorem GH.delsK_sound : ∀ (l : HL) (H : GH) {K : GH → Prop}, GH.delsK l H K → ∃ H', H'.hp = H.hp.del l ∧ K H'
  | [], H, _, h => ⟨H, rfl, h⟩
  | (k, o) :: l, H, K, h => by
    obtain ⟨H1, h1, h⟩ := GH.delsK_sound l H (K := fun H => H.delK k K) h
    obtain ⟨H2, h2, h⟩ := GH.delK_sound _ _ h
    exact ⟨H2, by rw [h2, h1]; rfl, h⟩

/-- what an operation does -/
inductive Eff where
  | gn (B B' : GH) (nx' : Nat)
  | rd (rd : HL)
  | nw (rd : HL) (sy : Bool) (ob : VObj)
  | wr (rd : HL) (k : Nat) (ob ob' : VObj)
  | mi (k : Nat) (ents : List (List V)) (kc : List V) (y : V)
  | sw (rd : HL) (k : Nat) (ob ob' : VObj)
  | fz (B : HL)
def EOk (P : Program) (ov : Operand → V) (o : Oper) (nx : Nat) (H : Hp) (v : V) : Eff → Prop
  | .rd rd => LOk P ov o rd [] [] v ∧ Sub (hpo rd) H
  | .nw rd _ ob => LOk P ov o rd [] [(nx, ob)] v ∧ Sub (hpo rd) H
  | .wr rd k ob ob' => LOk P ov o rd [(k, ob)] [(k, ob')] v ∧ Sub (hpo rd) H ∧ H k = some ob ∧ k < nx
  | .mi k ents kc y => v = .undef ∧ H k = some (mpO ents) ∧ k < nx ∧ (∀ r ∈ ents, KeyAp kc r) ∧ InsOk P ov o k kc y
  | .sw rd k ob ob' => LOk P ov o rd [(k, ob)] [(nx, ob')] v ∧ Sub (hpo rd) H ∧ H k = some ob
  | .fz B => LOk P ov o [] B (frozen B) v ∧ Sub (hpo B) H ∧ ∀ k, k ∈ keysOf B → k < nx
  | .gn B B' nx' => LOk P ov o [] B.hl B'.hl v ∧ Sub (hpo B.hl) H ∧ nx ≤ nx' ∧ (∀ k, k ∈ keysOf B'.hl → k ∉ keysOf B.hl → nx ≤ k) ∧ (∀ k, k ∈ keysOf B'.hl → k < nx')

abbrev KK := List Nat × List Nat × Bool
def Eff.kk (nx : Nat) : Eff → KK
  | .rd d => (keysOf d, [], false)
  | .nw d _ _ => (keysOf d, [nx], false)
  | .wr d k _ _ => (keysOf d, [k, k], false)
  | .mi k _ _ _ => ([], [k, k], true)
  | .sw d k _ _ => (keysOf d, [k, nx], false)
  | .fz B => ([], keysOf B ++ keysOf B, false)
  | .gn B B' _ => ([], keysOf B.hl ++ keysOf B'.hl, false)
/-- objects that never change any more -/
def GH.fzK : HL → GH → (GH → Prop) → Prop
  | [], H, K => K H
  | (k, o) :: B, H, K => GH.fzK B H fun H => H.putK k ⟨o.sz, o.rows, true⟩ K
theorem GH.fzK_sound : ∀ (B : HL) {H : GH} {K : GH → Prop}, GH.fzK B H K → ∃ H', H'.hp = H.hp.add (frozen B) ∧ K H'
  | [], H, _, h => ⟨H, rfl, h⟩
  | (k, o) :: B, H, K, h => by
    obtain ⟨H1, h1, h⟩ := GH.fzK_sound B (K := fun H => H.putK k ⟨o.sz, o.rows, true⟩ K) h
    obtain ⟨H2, h2, h⟩ := GH.putK_sound _ _ h
    exact ⟨H2, by rw [h2, h1]; rfl, h⟩
def upH (eff : Eff) (H : GH) (nx : Nat) (K : GH → Nat → Prop) : Prop := match eff with
  | .rd _ => K H nx
  | .nw _ sy ob => K ((nx, sy, ob) :: H) (nx + 1)
  | .wr _ k _ ob' => H.putK k ob' fun H => K H nx
  | .mi k ents kc y => fRs (ents ++ [[.agg kc, y]]) fun ents' => H.putK k (mpO ents') fun H => K H nx
  | .sw _ k _ ob' => H.delK k fun H => K ((nx, true, ob') :: H) (nx + 1)
  | .fz B => GH.fzK B H fun H => K H nx
  | .gn B B' nx' => GH.delsK B.hl H fun H => K (B' ++ H) nx'

def OpR.kk (r : OpR) : KK := (keysOf r.rd, r.wk, r.ins.isSome)
def clashQ (x y : KK) : Bool := !(x.2.2 && y.2.2) && (x.2.1.any (fun k => (y.1 ++ y.2.1).contains k) || y.2.1.any (fun k => (x.1 ++ x.2.1).contains k))
def pairsQ (ops : Array Oper) (rs : List KK) (bs : List Nat) : Bool :=
  (List.range rs.length).all fun j => (List.range j).all fun i =>
    match ops[i]?, ops[j]?, rs[i]?, rs[j]? with
    | some x, some y, some r, some s => (bs.getD j 0).testBit i || !(clashS ops x y || clashQ r s)
    | _, _, _, _ => false
def drawQ (ops : Array Oper) (rs : List KK) : Bool := edgesOk ops && pairsQ ops rs (befs ops.toList)
theorem drawQ_sound {ops : Array Oper} {rs : List OpR} (h : drawQ ops (rs.map OpR.kk) = true) : drawOk ops rs = true := by
  unfold drawQ at h
  unfold drawOk
  rw [Bool.and_eq_true] at h ⊢
  refine ⟨h.1, ?_⟩
  have h := h.2
  unfold pairsQ at h
  unfold pairsOk
  rw [List.length_map] at h
  rw [List.all_eq_true] at h ⊢
  intro j hj
  have h := h j hj
  rw [List.all_eq_true] at h ⊢
  intro i hi
  have h := h i hi
  simp only [List.getElem?_map] at h
  cases h1 : ops[i]? <;> cases h2 : ops[j]? <;> cases h3 : rs[i]? <;> cases h4 : rs[j]? <;> simp only [h1, h2, h3, h4, Option.map_some, Option.map_none] at h ⊢ <;> first | cases h | exact h

end Go.Proofs.Ytgaginflocpcfaa
