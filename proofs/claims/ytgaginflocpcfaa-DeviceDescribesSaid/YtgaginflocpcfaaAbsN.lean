/-
  The value-level machine: code, and contracts of functions.
-/
import Derived.Test.YtgaginflocpcfaaAbsM
namespace Go.Proofs.Ytgaginflocpcfaa
open Go
set_option linter.unusedVariables false
set_option linter.unusedSimpArgs false

/-- one value told more weakly, by other names ('τ': the new name's old one), what lies in objects of B as places that never change -/
inductive Wv (B : Hp) : (Nat → Option Nat) → V → V → Prop
  | any {τ x} : Wv B τ .any x
  | lit {τ v} : Wv B τ (.lit v) (.lit v)
  | agg {τ} {cs ds : List V} (hl : cs.length = ds.length) (h : ∀ (i : Nat) (x y : V), cs[i]? = some x → ds[i]? = some y → Wv B τ x y) : Wv B τ (.agg cs) (.agg ds)
  | tup {τ} {cs ds : List V} (hl : cs.length = ds.length) (h : ∀ (i : Nat) (x y : V), cs[i]? = some x → ds[i]? = some y → Wv B τ x y) : Wv B τ (.tup cs) (.tup ds)
  | nil {τ sz} : Wv B τ (.sl sz []) (.lit (.slice none 0 0))
  | sl {τ sz l} : Wv B τ (.sl sz l) (.sl sz l)
  | sl0 {τ sz sz'} : Wv B τ (.sl sz []) (.sl sz' [])
  | sls {τ sz l nn ex} : Wv B τ (.sls sz l nn ex) (.sls sz l nn ex)
  | slsl {τ sz l nn ex} : Wv B τ (.sl sz l) (.sls sz l nn ex)
  | winS {τ k sz lo n cp} {ob : VObj} {L : List (List V)} (hB : B k = some ob) (hz : ob.sz = sz) (hl : lo + n ≤ ob.rows.length) (hn : L.length = n)
      (h1 : ∀ (i : Nat) (r s : List V), L[i]? = some r → ob.rows[lo + i]? = some s → r.length = s.length)
      (h : ∀ (i j : Nat) (r s : List V) (x y : V), L[i]? = some r → ob.rows[lo + i]? = some s → r[j]? = some x → s[j]? = some y → Wv B noK x y) : Wv B τ (.sl sz L) (.win k sz lo n cp)
  | win {τ} {k k' sz lo n cp : Nat} (hk : τ k' = some k) : Wv B τ (.win k' sz lo n cp) (.win k sz lo n cp)
  | winN {τ} {k sz lo : Nat} : Wv B τ (.win k sz lo 0 0) (.lit (.slice none 0 0))
  | ptr {τ} {k k' sz i off : Nat} (hk : τ k' = some k) : Wv B τ (.ptr k' sz i off) (.ptr k sz i off)
  | mp {τ} {k k' : Nat} (hk : τ k' = some k) : Wv B τ (.mp k') (.mp k)
  | ip {τ cs} : Wv B τ (.ip cs) (.ip cs)
  | fn {τ f} {cs ds : List V} (hl : cs.length = ds.length) (h : ∀ (i : Nat) (x y : V), cs[i]? = some x → ds[i]? = some y → Wv B τ x y) : Wv B τ (.fn f cs) (.fn f ds)

def SB (S : Nat → Prop) (ρ : KM) (B : Hp) : Nat → Prop := fun b => S b ∨ Live ρ B b
def KB (τ : Nat → Option Nat) (ρ : KM) : KM := fun k => (τ k).bind ρ

theorem Wv.rep {B : Hp} {τ : Nat → Option Nat} {x y : V} (h : Wv B τ x y) {S : Nat → Prop} {ρ : KM} {w : World} {H : Hp} (hs : Sim S ρ w H) (hB : Sub B H) : ∀ {u : Value}, Rep S ρ w u y → Rep (SB S ρ B) (KB τ ρ) w u x := by
  have up : ∀ {ρ1 ρ2 : KM} {u : Value} {x : V}, (∀ k b, ρ1 k = some b → ρ2 k = some b) → Rep S ρ1 w u x → Rep (SB S ρ B) ρ2 w u x := fun h hr => hr.mono (fun _ h => .inl h) (fun _ _ => rfl) h (Keeps.refl w)
  have hnil : ∀ τ, ∀ k b, KB (fun _ => none) ρ k = some b → KB τ ρ k = some b := fun τ k b h => by simp [KB] at h
  induction h with
  | any => intro u _; exact .any
  | lit => intro u hr; cases hr; exact .lit (by assumption)
  | agg hl _ ih =>
    intro u hr
    cases hr with
    | agg hl' hr => 
      refine .agg (by omega) fun i u x h1 h2 => ?_
      rename_i cs ds _ vs
      have hi : i < ds.length := by rw [← hl]; exact (List.getElem?_eq_some_iff.1 h2).1
      exact ih i x ds[i] h2 (List.getElem?_eq_getElem hi) (hr i u _ h1 (List.getElem?_eq_getElem hi))
  | tup hl _ ih =>
    intro u hr
    cases hr with
    | tup hl' hr =>
      refine .tup (by omega) fun i u x h1 h2 => ?_
      rename_i cs ds _ vs
      have hi : i < ds.length := by rw [← hl]; exact (List.getElem?_eq_some_iff.1 h2).1
      exact ih i x ds[i] h2 (List.getElem?_eq_getElem hi) (hr i u _ h1 (List.getElem?_eq_getElem hi))
  | nil => intro u hr; cases hr; exact .sl0 (fun _ => rfl)
  | sl =>
    intro u hr
    cases hr with
    | sl0 ha => exact .sl0 ha
    | sl h1 h2 h3 h4 h5 h6 => exact .sl (.inl h1) h2 h3 h4 h5 (fun i j r u x a b c => up (fun _ _ h => h) (h6 i j r u x a b c))
  | sl0 =>
    intro u hr
    generalize hl : ([] : List (List V)) = l at hr
    cases hr with
    | sl0 ha => exact .sl0 ha
    | sl h1 h2 h3 h4 h5 h6 => subst hl; exact .sl0 (by simp)
  | sls =>
    intro u hr
    cases hr with
    | sls h hn he =>
      refine .sls ?_ hn he
      cases h with
      | sl0 ha => exact .sl0 ha
      | sl h1 h2 h3 h4 h5 h6 => exact .sl (.inl h1) h2 h3 h4 h5 (fun i j r u x a b c => up (fun _ _ h => h) (h6 i j r u x a b c))
  | slsl =>
    intro u hr
    cases hr with
    | sls h hn he =>
      cases h with
      | sl0 ha => exact .sl0 ha
      | sl h1 h2 h3 h4 h5 h6 => exact .sl (.inl h1) h2 h3 h4 h5 (fun i j r u x a b c => up (fun _ _ h => h) (h6 i j r u x a b c))
  | @winS τ k sz lo n cp ob L hk hz hl hn h1 h ih =>
    intro u hr
    cases hr with
    | win hk' hw hcp hcap hf ho =>
      rename_i b off cap c t fr
      obtain ⟨c0, t0, hw0, hR, _⟩ := hs.at (hB _ _ hk) hk' hw
      rw [hw] at hw0
      cases hw0
      rw [hz] at hR
      subst hn
      by_cases h0 : L.length = 0
      · have : L = [] := List.length_eq_zero_iff.1 h0
        subst this
        exact .sl0 (by simp)
      · have hoff : off = lo * sz := by
          rcases ho with h | h
          · exact h
          · omega
        subst hoff
        have hq := Nat.mul_le_mul_right sz hl
        rw [Nat.add_mul] at hq
        have hrl := hR.2.1
        refine .sl (.inr ⟨k, ob, hk, hk'⟩) hw (fun r hr => ?_) (by omega) (by omega) fun i j r u x g1 g2 g3 => ?_
        · obtain ⟨i, hi, rfl⟩ := List.getElem_of_mem hr
          have hlt : lo + i < ob.rows.length := by omega
          rw [h1 i _ _ (List.getElem?_eq_getElem hi) (List.getElem?_eq_getElem hlt)]
          exact hR.1 _ (List.getElem_mem hlt)
        · have hi : i < L.length := (List.getElem?_eq_some_iff.1 g1).1
          have hlt : lo + i < ob.rows.length := by omega
          have hj : j < (ob.rows[lo + i]).length := by rw [← h1 i r _ g1 (List.getElem?_eq_getElem hlt)]; exact (List.getElem?_eq_some_iff.1 g2).1
          have := ih i j r _ x _ g1 (List.getElem?_eq_getElem hlt) g2 (List.getElem?_eq_getElem hj) (hR.2.2 (lo + i) j _ u _ (List.getElem?_eq_getElem hlt) (List.getElem?_eq_getElem hj) (by rw [Nat.add_mul]; exact g3))
          exact this.mono (fun _ h => h) (fun _ _ => rfl) (fun k b h => by simp [KB] at h) (Keeps.refl w)
    | win0 =>
      have : L = [] := List.length_eq_zero_iff.1 hn
      subst this
      exact .sl0 (by simp)
  | win hk =>
    intro u hr
    cases hr with
    | win h1 h2 h3 h4 h5 h6 => exact .win (by simp [KB, hk, h1]) h2 h3 h4 h5 h6
    | win0 => exact .win0
  | winN => intro u hr; cases hr; exact .win0
  | ptr hk =>
    intro u hr
    cases hr with
    | ptr h1 hw => exact .ptr (by simp [KB, hk, h1]) hw
  | mp hk =>
    intro u hr
    cases hr with
    | mp h1 hw => exact .mp (by simp [KB, hk, h1]) hw
  | ip =>
    intro u hr
    cases hr with
    | ip h1 h2 h3 h4 => exact .ip (.inl h1) h2 h3 (fun j u x a b => up (fun _ _ h => h) (h4 j u x a b))
  | fn hl _ ih =>
    intro u hr
    cases hr with
    | fn hl' hr =>
      refine .fn (by omega) fun i u x h1 h2 => ?_
      rename_i cs ds _ vs
      have hi : i < ds.length := by rw [← hl]; exact (List.getElem?_eq_some_iff.1 h2).1
      exact ih i x ds[i] h2 (List.getElem?_eq_getElem hi) (hr i u _ h1 (List.getElem?_eq_getElem hi))


/-- what became of the world, in the function's own names; those below m stay -/
structure Ext1 (m : Nat) (S : Nat → Prop) (ρ : KM) (w : World) (H : Hp) (S' : Nat → Prop) (ρ' : KM) (w' : World) (H' : Hp) : Prop where
  os : w'.os = w.os
  tape : w'.tape = w.tape
  output : w'.output = w.output
  size : w.heap.size ≤ w'.heap.size
  block : ∀ b, b < w.heap.size → ¬ Own ρ H b → w'.heap[b]? = w.heap[b]?
  keeps : Keeps w w'
  more : ∀ b, S b → S' b
  only : ∀ b, S' b → S b ∨ w.heap.size ≤ b ∨ Own ρ H b
  live : ∀ b, Live ρ' H' b → w.heap.size ≤ b ∨ Live ρ H b
  own : ∀ b, Own ρ' H' b → w.heap.size ≤ b ∨ Own ρ H b
  low : ∀ k b, k < m → ρ k = some b → ρ' k = some b
theorem Ext0.to1 {m : Nat} {S S' : Nat → Prop} {ρ ρ' : KM} {w w' : World} {H H' : Hp} (e : Ext0 S ρ w H S' ρ' w' H') : Ext1 m S ρ w H S' ρ' w' H' :=
  ⟨e.os, e.tape, e.output, e.size, e.block, e.keeps, e.more, e.only, e.live, e.own, fun k b _ h => e.keys k b h⟩
theorem Ext1.refl (m : Nat) (S : Nat → Prop) (ρ : KM) (w : World) (H : Hp) : Ext1 m S ρ w H S ρ w H := (Ext0.refl S ρ w H).to1
theorem Ext1.trans {m : Nat} {S S' S'' : Nat → Prop} {ρ ρ' ρ'' : KM} {w w' w'' : World} {H H' H'' : Hp} (e : Ext1 m S ρ w H S' ρ' w' H') (f : Ext1 m S' ρ' w' H' S'' ρ'' w'' H'') : Ext1 m S ρ w H S'' ρ'' w'' H'' where
  os := f.os.trans e.os
  tape := f.tape.trans e.tape
  output := f.output.trans e.output
  size := Nat.le_trans e.size f.size
  block := fun b hb ho => by
    have h1 := e.block b hb ho
    have h2 := f.block b (Nat.lt_of_lt_of_le hb e.size) (fun h => by
      rcases e.own b h with h | h
      · omega
      · exact ho h)
    exact h2.trans h1
  keeps := e.keeps.trans f.keeps
  more := fun b h => f.more b (e.more b h)
  only := fun b h => by
    rcases f.only b h with h | h | h
    · exact e.only b h
    · exact .inr (.inl (Nat.le_trans e.size h))
    · rcases e.own b h with h | h
      · exact .inr (.inl h)
      · exact .inr (.inr h)
  live := fun b h => by
    rcases f.live b h with h | h
    · exact .inl (Nat.le_trans e.size h)
    · exact e.live b h
  own := fun b h => by
    rcases f.own b h with h | h
    · exact .inl (Nat.le_trans e.size h)
    · exact e.own b h
  low := fun k b hk h => f.low k b hk (e.low k b hk h)

/-- code, by value -/
def AWp (P : Program) (N m : Nat) (c : Code) (Q : Exit → St → Prop) (st : St) : Prop :=
  ∀ (S : Nat → Prop) (ρ : KM) (a : Act) (w : World), SimSt N S ρ a w st → ∀ (Q' : Exit → Act → World → Prop),
    (∀ e st' S' ρ' a' w', Q e st' → SimSt N S' ρ' a' w' st' → Ext1 m S ρ w st.H S' ρ' w' st'.H → Q' e a' w') → c.wp P Q' a w

def aThen (next : St → Prop) (Q : Exit → St → Prop) : Exit → St → Prop
  | .normal, st => next st
  | e, st => Q e st
def aBlock (id : Nat) (Q : Exit → St → Prop) : Exit → St → Prop
  | .exit id', st => if id' = id then Q .normal st else Q (.exit id') st
  | e, st => Q e st

section
variable {P : Program} {N m : Nat} {Q : Exit → St → Prop} {st : St}

theorem awp_mono {c : Code} {Q' : Exit → St → Prop} (h : AWp P N m c Q st) (hq : ∀ e st, Q e st → Q' e st) : AWp P N m c Q' st :=
  fun S ρ a w hs R hR => h S ρ a w hs R fun e st' S' ρ' a' w' hq' => hR e st' S' ρ' a' w' (hq _ _ hq')
theorem awp_skip (h : Q .normal st) : AWp P N m .skip Q st := fun S ρ a w hs R hR => wp_skip (hR _ _ _ _ _ _ h hs (Ext1.refl _ _ _ _ _))
theorem awp_exit {id : Nat} (h : Q (.exit id) st) : AWp P N m (.exit id) Q st := fun S ρ a w hs R hR => wp_exit (hR _ _ _ _ _ _ h hs (Ext1.refl _ _ _ _ _))
theorem awp_ret (h : Q .ret st) : AWp P N m .ret Q st := fun S ρ a w hs R hR => wp_ret (hR _ _ _ _ _ _ h hs (Ext1.refl _ _ _ _ _))
theorem awp_seq {x y : Code} (h : AWp P N m x (aThen (AWp P N m y Q) Q) st) : AWp P N m (.seq x y) Q st := fun S ρ a w hs R hR => by
  refine wp_seq (h S ρ a w hs _ fun e st' S' ρ' a' w' hq hs' he => ?_)
  cases e with
  | normal => exact hq S' ρ' a' w' hs' R fun e st'' S'' ρ'' a'' w'' h1 h2 h3 => hR e st'' S'' ρ'' a'' w'' h1 h2 (he.trans h3)
  | _ => exact hR _ st' S' ρ' a' w' hq hs' he
theorem awp_cond {c : Operand} {x y : Code} {t : Bool} (hc : ovOf st.env c = .lit (.bool t)) (h1 : t = true → AWp P N m x Q st) (h2 : t = false → AWp P N m y Q st) : AWp P N m (.cond c x y) Q st := fun S ρ a w hs R hR => by
  have e := hs.slots.ov c
  rw [hc] at e
  exact wp_cond_split e.lit_inv (fun h => h1 h S ρ a w hs R hR) (fun h => h2 h S ρ a w hs R hR)
theorem awp_block {id : Nat} {c : Code} (h : AWp P N m c (aBlock id Q) st) : AWp P N m (.block id c) Q st := fun S ρ a w hs R hR => by
  refine wp_block (h S ρ a w hs _ fun e st' S' ρ' a' w' hq hs' he => ?_)
  cases e with
  | exit id' =>
    simp only [aBlock] at hq
    simp only [Exit.inBlock]
    split
    · rename_i e; rw [if_pos e] at hq; exact hR _ st' S' ρ' a' w' hq hs' he
    · rename_i e; rw [if_neg e] at hq; exact hR _ st' S' ρ' a' w' hq hs' he
  | _ => exact hR _ st' S' ρ' a' w' hq hs' he

/-- operations in a row -/
def AOps (P : Program) (N : Nat) (ops : Array Oper) (dr : Bool) (l : List Oper) (st : St) (acc : List OpR) (K : St → Prop) : Prop :=
  ∃ rs st', Chain P N ops l st rs st' ∧ (dr = true → drawOk ops (acc ++ rs) = true) ∧ K st'
theorem aops_nil {ops : Array Oper} {dr : Bool} {acc : List OpR} {K : St → Prop} (hd : (!dr || drawOk ops acc) = true) (h : K st) : AOps P N ops dr [] st acc K :=
  ⟨[], st, .nil st, fun e => by simpa [e] using hd, h⟩
theorem aops_cons {ops : Array Oper} {dr : Bool} {acc : List OpR} {K : St → Prop} {o : Oper} {l : List Oper} {r : OpR} {st1 : St} (hs : AStep P N ops o st r st1) (h : AOps P N ops dr l st1 (acc ++ [r]) K) : AOps P N ops dr (o :: l) st acc K := by
  obtain ⟨rs, st', h1, h2, h3⟩ := h
  exact ⟨r :: rs, st', .cons hs h1, fun e => by simpa using h2 e, h3⟩

theorem awp_region {id : Nat} {ops : Array Oper} (h : AOps P N ops false ops.toList st [] (Q .normal)) : AWp P N m (.region id ops false) Q st := fun S ρ a w hs R hR => by
  obtain ⟨rs, st', h1, _, h3⟩ := h
  exact region_plain h1 hs fun S' ρ' a' w' hs' he => hR _ _ _ _ _ _ h3 hs' he.to1
theorem awp_drawn (hm : P.follows .mixedOrders = true) {id : Nat} {ops : Array Oper} (h : AOps P N ops true ops.toList st [] (Q .normal)) : AWp P N m (.region id ops true) Q st := fun S ρ a w hs R hR => by
  obtain ⟨rs, st', h1, h2, h3⟩ := h
  exact region_drawn hm h1 (by simpa using h2 rfl) hs fun S' ρ' a' w' hs' he => hR _ _ _ _ _ _ h3 hs' he.to1

end

abbrev noH : Hp := fun _ => none
/-- objects by other names -/
structure ORel (B : Hp) (τ : Nat → Option Nat) (o o0 : VObj) : Prop where
  sz : o.sz = o0.sz
  frz : o.frz = o0.frz
  len : o.rows.length = o0.rows.length
  rlen : ∀ (i : Nat) (r s : List V), o.rows[i]? = some r → o0.rows[i]? = some s → r.length = s.length
  cell : ∀ (i j : Nat) (r s : List V) (x y : V), o.rows[i]? = some r → o0.rows[i]? = some s → r[j]? = some x → s[j]? = some y → Wv B τ x y

theorem ORel.rows {B : Hp} {τ : Nat → Option Nat} {o o0 : VObj} (h : ORel B τ o o0) {S : Nat → Prop} {ρ : KM} {w : World} {H : Hp} (hs : Sim S ρ w H) (hB : Sub B H) {c : Array Value} (hr : RowsAt S ρ w o0.sz o0.rows c) :
    RowsAt (SB S ρ B) (KB τ ρ) w o.sz o.rows c := by
  rw [h.sz]
  refine ⟨fun r hr' => ?_, by rw [h.len]; exact hr.2.1, fun i j r u x h1 h2 h3 => ?_⟩
  · obtain ⟨i, hi, rfl⟩ := List.getElem_of_mem hr'
    have hlt : i < o0.rows.length := by rw [← h.len]; exact hi
    rw [h.rlen i _ _ (List.getElem?_eq_getElem hi) (List.getElem?_eq_getElem hlt)]
    exact hr.1 _ (List.getElem_mem hlt)
  · have hi : i < o0.rows.length := by rw [← h.len]; exact (List.getElem?_eq_some_iff.1 h1).1
    have hj : j < (o0.rows[i]).length := by rw [← h.rlen i r _ h1 (List.getElem?_eq_getElem hi)]; exact (List.getElem?_eq_some_iff.1 h2).1
    exact (h.cell i j r _ x _ h1 (List.getElem?_eq_getElem hi) h2 (List.getElem?_eq_getElem hj)).rep hs hB (hr.2.2 i j _ u _ (List.getElem?_eq_getElem hi) (List.getElem?_eq_getElem hj) h3)

/-- a state told more weakly -/
structure Wk (m : Nat) (τ : Nat → Option Nat) (st st1 : St) : Prop where
  env : ∀ t, Wv noH τ (st1.env t) (st.env t)
  heap : ∀ k o, st1.H k = some o → (∃ k0 o0, τ k = some k0 ∧ st.H k0 = some o0 ∧ ORel noH τ o o0) ∨ (τ k = none ∧ o.rows = [])
  inj : ∀ k k' k0, τ k = some k0 → τ k' = some k0 → k = k'
  nx : ∀ k, st1.nx ≤ k → τ k = none
  old : ∀ k o, st1.H k = some o → k < st1.nx
  low : ∀ k, k < m → τ k = some k

theorem sb_no {S : Nat → Prop} {ρ : KM} {b : Nat} (h : SB S ρ noH b) : S b := by
  rcases h with h | ⟨k, o, h, _⟩
  · exact h
  · cases h
theorem wk_sound {m N : Nat} {τ : Nat → Option Nat} {st st1 : St} (h : Wk m τ st st1) {S : Nat → Prop} {ρ : KM} {a : Act} {w : World} (hs : SimSt N S ρ a w st) : SimSt N S (KB τ ρ) a w st1 ∧ Ext1 m S ρ w st.H S (KB τ ρ) w st1.H := by
  have down : ∀ {ρ1 : KM} {u : Value} {x : V}, Rep (SB S ρ noH) ρ1 w u x → Rep S ρ1 w u x := fun hr => hr.mono (fun _ h => sb_no h) (fun _ _ => rfl) (fun _ _ h => h) (Keeps.refl w)
  have hB : Sub noH st.H := fun _ _ h => by cases h
  have hobj : ∀ k o b, st1.H k = some o → KB τ ρ k = some b → ∃ k0 o0, τ k = some k0 ∧ st.H k0 = some o0 ∧ ORel noH τ o o0 ∧ ρ k0 = some b := fun k o b hk hb => by
    rcases h.heap k o hk with ⟨k0, o0, h1, h2, h3⟩ | ⟨h1, _⟩
    · exact ⟨k0, o0, h1, h2, h3, by simpa [KB, h1] using hb⟩
    · simp [KB, h1] at hb
  refine ⟨⟨⟨fun k o hk => ?_, fun k k' o o' b h1 h2 h3 h4 => ?_, hs.sim.bnd⟩, fun t => down ((h.env t).rep hs.sim hB (hs.slots t)), hs.size, hs.defers, fun k hk => by simp [KB, h.nx k hk], h.old⟩, ?_⟩
  · rcases h.heap k o hk with ⟨k0, o0, h1, h2, h3⟩ | ⟨h1, h2⟩
    case inr => exact .inr ⟨by simp [KB, h1], h2⟩
    rcases hs.sim.obj k0 o0 h2 with ⟨b, c, t, q1, q2, q3, q4, q5⟩ | ⟨q1, q2⟩
    · refine .inl ⟨b, c, t, by simp [KB, h1, q1], q2, ?_, by rw [h3.frz]; exact q4, by rw [h3.frz]; exact q5⟩
      exact (h3.rows hs.sim hB q3).mono fun u x h => down h
    · refine .inr ⟨by simp [KB, h1, q1], ?_⟩
      have := h3.len
      rw [q2] at this
      exact List.length_eq_zero_iff.1 this
  · obtain ⟨k0, o0, a1, a2, a3, a4⟩ := hobj k o b h1 h3
    obtain ⟨k0', o0', b1, b2, b3, b4⟩ := hobj k' o' b h2 h4
    have := hs.sim.inj k0 k0' o0 o0' b a2 b2 a4 b4
    subst this
    exact h.inj k k' k0 a1 b1
  · refine ⟨rfl, rfl, rfl, Nat.le_refl _, fun _ _ _ => rfl, Keeps.refl w, fun _ h => h, fun _ h => .inl h, fun b ⟨k, o, h1, h2⟩ => .inr ?_, fun b ⟨k, o, h1, h2, h3⟩ => .inr ?_, fun k b hk hb => by simp [KB, h.low k hk, hb]⟩
    · obtain ⟨k0, o0, a1, a2, a3, a4⟩ := hobj k o b h1 h2
      exact ⟨k0, o0, a2, a4⟩
    · obtain ⟨k0, o0, a1, a2, a3, a4⟩ := hobj k o b h1 h3
      exact ⟨k0, o0, a2, by rw [← a3.frz]; exact h2, a4⟩

section
variable {P : Program} {N m : Nat} {Q : Exit → St → Prop} {st : St}

theorem awp_weaken {c : Code} {τ : Nat → Option Nat} {st1 : St} (hw : Wk m τ st st1) (h : AWp P N m c Q st1) : AWp P N m c Q st := fun S ρ a w hs R hR => by
  obtain ⟨h1, h2⟩ := wk_sound hw hs
  exact h S _ a w h1 R fun e st' S' ρ' a' w' q s x => hR e st' S' ρ' a' w' q s (h2.trans x)

/-- a loop: 'st1 x' is the state at its head, for an x of which I holds; μ goes down -/
theorem awp_loop {X : Type} {c : Code} (st1 : X → St) (I : X → Prop) (μ : X → Nat) {x0 : X} {τ : Nat → Option Nat} (h0 : I x0) (hw : Wk m τ st (st1 x0))
    (round : ∀ x, I x → AWp P N m c (aThen (fun st' => ∃ x' τ', I x' ∧ μ x' < μ x ∧ Wk m τ' st' (st1 x')) Q) (st1 x)) : AWp P N m (.loop c) Q st := fun S ρ a w hs R hR => by
  intro b k cs
  have key : ∀ n x S' ρ' a' w', μ x = n → I x → SimSt N S' ρ' a' w' (st1 x) → Ext1 m S ρ w st.H S' ρ' w' (st1 x).H →
      ∃ e a'' w'', R e a'' w'' ∧ Arrives P (lone (b.at a' (.code c :: .inLoop c :: k)) cs w') b k cs e a'' w'' := by
    intro n
    induction n using Nat.strongRecOn with
    | _ n ih =>
      intro x S' ρ' a' w' hn hI hs' he
      obtain ⟨e, a₁, w₁, hq, harr⟩ := round x hI S' ρ' a' w' hs' (fun e a₁ w₁ => match e with
        | .normal => ∃ x' S'' ρ'', I x' ∧ μ x' < μ x ∧ SimSt N S'' ρ'' a₁ w₁ (st1 x') ∧ Ext1 m S ρ w st.H S'' ρ'' w₁ (st1 x').H
        | e => R e a₁ w₁) (fun e st' S'' ρ'' a₁ w₁ hq hs'' he' => by
          cases e with
          | normal =>
            obtain ⟨x', τ', h1, h2, h3⟩ := hq
            obtain ⟨q1, q2⟩ := wk_sound h3 hs''
            exact ⟨x', S'', _, h1, h2, q1, (he.trans he').trans q2⟩
          | _ => exact hR _ st' S'' ρ'' a₁ w₁ hq hs'' (he.trans he')) b (.inLoop c :: k) cs
      cases e with
      | normal =>
        obtain ⟨x', S'', ρ'', h1, h2, h3, h4⟩ := hq
        obtain ⟨e₂, a₂, w₂, hq₂, harr₂⟩ := ih (μ x') (hn ▸ h2) x' S'' ρ'' a₁ w₁ rfl h1 h3 h4
        exact ⟨e₂, a₂, w₂, hq₂, .of_steps (Steps.trans harr (.one step_inLoop)) harr₂⟩
      | exit id => exact ⟨_, a₁, w₁, hq, .pass (x := .inLoop c) rfl (fun _ _ => .inl (by simp)) harr⟩
      | goto l => exact ⟨_, a₁, w₁, hq, .pass (x := .inLoop c) rfl (fun _ _ => .inl (by simp)) harr⟩
      | ret => exact ⟨_, a₁, w₁, hq, .pass (x := .inLoop c) rfl (fun _ _ => .inl (by simp)) harr⟩
      | panic ch => exact ⟨_, a₁, w₁, hq, .pass (x := .inLoop c) rfl (fun _ _ => .inl (by simp)) harr⟩
      | outgrown => exact ⟨_, a₁, w₁, hq, .pass (x := .inLoop c) rfl (fun _ _ => .inl (by simp)) harr⟩
  obtain ⟨q1, q2⟩ := wk_sound hw hs
  obtain ⟨e, a', w', hq, harr⟩ := key _ x0 S _ a w rfl h0 q1 q2
  exact ⟨e, a', w', hq, .of_steps (.one step_loop) harr⟩

end

/- CONTRACTS -/
/-- called with what these values tell, over objects F: it returns what r tells, and leaves objects F'; nothing else that was there has turned -/
def Fn (P : Program) (k : FuncId) (args : List V) (F : HL) (r : V) (F' : HL) : Prop :=
  ∀ (S : Nat → Prop) (ρ : KM) (w : World) (vs : Array Value), vs.size = args.length → (∀ (i : Nat) (u : Value) (x : V), vs[i]? = some u → args[i]? = some x → Rep S ρ w u x) → Sim S ρ w (hpo F) →
    (∀ k, k ∈ keysOf F → ρ k ≠ none) → (∀ k, k ∉ keysOf F → ρ k = none) →
    Calls P k vs w fun e w' => ∃ v S' ρ', e = .returned v ∧ Rep S' ρ' w' v r ∧ Sim S' ρ' w' (hpo F') ∧ Ext S ρ w (hpo F) S' ρ' w' (hpo F')

/-- what a function's result variables tell -/
def resV (T : TT) (st : St) : ResultVar → Option V
  | .tmp t => some (st.env t)
  | .cell a ty => match st.env a, T ty with
    | .ptr k sz i off, some ti => match st.H k with
      | some ob => match ob.rows[i]? with
        | some row => if ob.sz = sz ∧ off + ti.size ≤ row.length then some (ldV ti (row.drop off)) else none
        | none => none
      | none => none
    | _, _ => none
def resL (T : TT) (st : St) : List ResultVar → Option (List V)
  | [] => some []
  | r :: rs => match resV T st r, resL T st rs with
    | some x, some l => some (x :: l)
    | _, _ => none
def pack : List V → V
  | [x] => x
  | l => .tup l

/-- a result variable, read -/
def resSem (tmps : Array Value) : ResultVar → Sem Value
  | .tmp t => pure (tmps.getD t undef)
  | .cell ad t => do loadVar t (← asAddr (tmps.getD ad undef))
theorem results_eq (fn : Func) (tmps : Array Value) : results fn tmps = (fn.results.mapM (resSem tmps) >>= fun vs => pure (if h : vs.size = 1 then vs[0] else .tuple vs)) := by
  unfold results
  congr 1

theorem resV_run {P : Program} {T : TT} (hT : TOk P T) {N : Nat} {S : Nat → Prop} {ρ : KM} {a : Act} {w : World} {st : St} (hs : SimSt N S ρ a w st) {r : ResultVar} {x : V} (h : resV T st r = some x) :
    ∃ u, (resSem a.tmps r).run P w = .ok u w ∧ Rep S ρ w u x := by
  cases r with
  | tmp t =>
    simp only [resV, Option.some.injEq] at h
    subst h
    exact ⟨_, rfl, hs.slots t⟩
  | cell ad ty =>
    simp only [resV] at h
    have hr := hs.slots ad
    split at h
    · rename_i k sz i off ti he ht
      rw [he] at hr
      split at h
      · rename_i ob hob
        split at h
        · rename_i row hrow
          split at h
          · rename_i hc
            cases h
            generalize hu : a.tmps.getD ad undef = cu at hr
            cases hr with
            | ptr hk hwp =>
              rename_i b
              obtain ⟨c, e, hw, hR, _⟩ := hs.sim.at hob hk hwp
              rw [hc.1] at hR
              have hrl : row.length = sz := hR.1 row (List.mem_of_getElem? hrow)
              have hix : i < ob.rows.length := (List.getElem?_eq_some_iff.1 hrow).1
              have hfit : i * sz + off + ti.size ≤ c.size := by
                have h1 := hR.2.1
                have h2 : (i + 1) * sz ≤ ob.rows.length * sz := Nat.mul_le_mul_right sz (by omega)
                rw [Nat.add_mul, Nat.one_mul] at h2
                omega
              obtain ⟨u, hu', hur⟩ := load_rep (S := S) (ρ := ρ) (hT ty ti ht) hw (cs := row.drop off) (off := i * sz + off) (by simp; omega) hfit (fun j u x h1 h2 => by
                rw [List.getElem?_drop] at h1
                exact hR.2.2 i (off + j) row u x hrow h1 (by rw [← Nat.add_assoc]; exact h2))
              exact ⟨u, by simp [resSem, hu, asAddr, hu'], hur⟩
          · cases h
        · cases h
      · cases h
    · cases h

theorem resL_run {P : Program} {T : TT} (hT : TOk P T) {N : Nat} {S : Nat → Prop} {ρ : KM} {a : Act} {w : World} {st : St} (hs : SimSt N S ρ a w st) : ∀ (rs : List ResultVar) (xs : List V), resL T st rs = some xs →
    ∃ us : List Value, (rs.mapM (resSem a.tmps)).run P w = .ok us w ∧ us.length = xs.length ∧
      ∀ (i : Nat) (u : Value) (x : V), us[i]? = some u → xs[i]? = some x → Rep S ρ w u x
  | [], xs, h => by
    simp only [resL, Option.some.injEq] at h
    subst h
    exact ⟨[], rfl, rfl, fun i u x h => by simp at h⟩
  | r :: rs, xs, h => by
    simp only [resL] at h
    split at h
    · rename_i x l hx hl
      cases h
      obtain ⟨u, h1, h2⟩ := resV_run hT hs hx
      obtain ⟨us, g1, g2, g3⟩ := resL_run hT hs rs l hl
      refine ⟨u :: us, ?_, by simp [g2], fun i u' x' a b => ?_⟩
      · simp only [List.mapM_cons, Sem.run_bind, h1, Result.andThen_ok, g1, Sem.run_pure]
      · cases i with
        | zero => simp at a b; subst a; subst b; exact h2
        | succ i => exact g3 i u' x' (by simpa using a) (by simpa using b)
    · cases h

theorem results_run {P : Program} {T : TT} (hT : TOk P T) {N : Nat} {S : Nat → Prop} {ρ : KM} {a : Act} {w : World} {st : St} (hs : SimSt N S ρ a w st) {fn : Func} {xs : List V} (h : resL T st fn.results.toList = some xs) :
    ∃ u, (results fn a.tmps).run P w = .ok u w ∧ Rep S ρ w u (pack xs) := by
  obtain ⟨us, g1, g2, g3⟩ := resL_run hT hs _ _ h
  have hm : (fn.results.mapM (resSem a.tmps)).run P w = .ok us.toArray w := by
    rw [Array.mapM_eq_mapM_toList, Sem.run_map, g1]
    rfl
  rw [results_eq]
  simp only [Sem.run_bind]
  rw [hm]
  simp only [Result.andThen_ok, Sem.run_pure]
  cases us with
  | nil =>
    have : xs = [] := List.length_eq_zero_iff.1 (by simpa using g2.symm)
    subst this
    exact ⟨_, rfl, .tup rfl (fun i u x h => by simp at h)⟩
  | cons u us =>
    cases us with
    | nil =>
      match xs, g2 with
      | [x], _ => exact ⟨u, rfl, g3 0 u x rfl rfl⟩
    | cons u' us =>
      match xs, g2 with
      | x :: x' :: xs, g2 =>
        refine ⟨.tuple (u :: u' :: us).toArray, by simp, .tup (by simpa using g2) fun i v y a b => g3 i v y (by simpa using a) b⟩

end Go.Proofs.Ytgaginflocpcfaa
