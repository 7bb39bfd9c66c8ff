/-
  The value-level machine: the evaluator, calls, operations in a row, code.
-/
import Derived.Test.YtgaginflocpcfaaAbsMp
namespace Go.Proofs.Ytgaginflocpcfaa
open Go
set_option linter.unusedVariables false
set_option linter.unusedSimpArgs false

/-- a contract, and that there is such a function -/
structure FnC (P : Program) (k : FuncId) (args : List V) (F : HL) (r : V) (F' : HL) : Prop where
  ok : callOk P k = true
  fn : Fn P k args F r F'

section
variable {P : Program} {T : TT} {ov : Operand → V} {o : Oper} {nx : Nat} {H : GH} {K : Eff → V → Prop}

def V.lenQ : V → Option Nat
  | .lit (.string s) => some s.size
  | .lit (.slice none 0 0) => some 0
  | .win _ _ _ n _ => some n
  | .sl _ l => some l.length
  | .sls _ l _ _ => some l.length
  | _ => none
theorem V.lenQ_len {x : V} {n : Nat} (h : x.lenQ = some n) : x.len? = some n := by
  unfold V.lenQ at h
  split at h <;> first | exact h | cases h
def lenE (T : TT) (t : Nat) (x : V) (K : Eff → V → Prop) : Prop := tiK T t fun i => match i.d with
  | .string => match x with
    | .lit (.string s) => K (.rd []) (.lit (.int .i64 s.size))
    | _ => False
  | .slice _ => chkK x.isSl <| optK x.lenQ fun n => K (.rd []) (.lit (.int .i64 n))
  | _ => False
theorem lenE_sound (hT : TOk P T) {t : Nat} {x : Operand} (ho : o.op = .call { callee := .builtin .len, args := #[x], argTypes := #[t] }) (h : lenE T t (ov x) K) : Res P ov o nx H.hp K := by
  obtain ⟨i, ht, h⟩ := tiK_sound h
  split at h
  · rename_i hd
    split at h
    · rename_i s hx
      exact res_rd (lok_len hT ho ht (.inl ⟨hd, s, hx⟩) (by rw [hx]; rfl)) h
    · exact h.elim
  · rename_i e hd
    obtain ⟨hs, h⟩ := chkK_sound h
    obtain ⟨n, hn, h⟩ := optK_sound h
    exact res_rd (lok_len hT ho ht (.inr ⟨⟨e, hd⟩, fun s e => by rw [e] at hs; cases hs⟩) (V.lenQ_len hn)) h
  · exact h.elim

def mmE (mx : Bool) (x y : V) (K : Eff → V → Prop) : Prop := match x with
  | .lit (.int k m) => match y with
    | .lit (.int _ n) => match mx with
      | true => K (.rd []) (.lit (.int k (max m n)))
      | false => K (.rd []) (.lit (.int k (min m n)))
    | _ => False
  | _ => False
theorem minE_sound {x y : Operand} {ts : Array TypeId} (ho : o.op = .call { callee := .builtin .min, args := #[x, y], argTypes := ts }) (h : mmE false (ov x) (ov y) K) : Res P ov o nx H.hp K := by
  unfold mmE at h
  split at h
  · rename_i hx
    split at h
    · rename_i hy
      exact res_rd (lok_min ho hx hy) h
    · exact h.elim
  · exact h.elim
theorem maxE_sound {x y : Operand} {ts : Array TypeId} (ho : o.op = .call { callee := .builtin .max, args := #[x, y], argTypes := ts }) (h : mmE true (ov x) (ov y) K) : Res P ov o nx H.hp K := by
  unfold mmE at h
  split at h
  · rename_i hx
    split at h
    · rename_i hy
      exact res_rd (lok_max ho hx hy) h
    · exact h.elim
  · exact h.elim

def TD.isSeq : TD → Bool
  | .string => true
  | .slice _ => true
  | _ => false
theorem TD.seq {d : TD} (h : d.isSeq = true) : d = .string ∨ ∃ e, d = .slice e := by
  cases d <;> first | exact .inl rfl | exact .inr ⟨_, rfl⟩ | cases h
def apartQ (d : HL) (k : Nat) : Bool := !((keysOf d).contains k)
theorem apartQ_sound {d : HL} {k : Nat} {ob : VObj} (h : apartQ d k = true) : Apart d [(k, ob)] := fun j hj => by
  rw [hpo_one] at hj
  split at hj
  · rename_i e
    subst e
    refine hpo_none ?_
    simpa [apartQ] using h
  · exact absurd rfl hj
def oneRows (N : List (List V)) : Prop := ∀ r ∈ N, r.all V.one = true

/-- as many zeros behind nil -/
def appZ (nx sz bytes : Nat) (x y : V) (K : Eff → V → Prop) : Prop := match x with
  | .lit (.slice none 0 0) => match y with
    | .lit (.int .i64 n) => 0 < n ∧ n * bytes ≤ 2 ^ 48 ∧ K (.nw [] false ⟨sz, [], false⟩) (.win nx sz 0 n.toNat n.toNat)
    | _ => False
  | _ => False
def TD.isI64 : TD → Bool
  | .int .i64 => true
  | _ => false
theorem TD.i64 {d : TD} (h : d.isI64 = true) : d = .int .i64 := by
  cases d with
  | int k => cases k <;> first | rfl | cases h
  | _ => cases h
def appE (T : TT) (H : GH) (nx : Nat) (t t2 : Nat) (x y : V) (K : Eff → V → Prop) : Prop := tiK T t fun i => match i.d with
  | .slice e => tiK T e fun ie => tiK T t2 fun i2 => condN i2.d.isI64 (chkK (!(Nat.beq ie.bytes 0)) <| appZ nx ie.size ie.bytes x y K) <| chkK (i2.d.isSeq && !(Nat.beq ie.bytes 0)) <| srcE H y ie.size fun rd N => match x with
    | .win k sz 0 n cp => H.getK k fun sy ob => chkK (!ob.frz && Nat.blt k nx && Nat.beq ie.size sz && Nat.beq ob.sz sz && apartQ rd k) <|
        n = ob.rows.length ∧ oneRows N ∧ (2 * (n + N.length) + 192) * ie.bytes ≤ 2 ^ 48 ∧ K (.sw rd k ob ⟨sz, ob.rows ++ N, false⟩) (.win nx sz 0 (ob.rows ++ N).length (ob.rows ++ N).length)
    | .sls sz L nn ex => chkK (ex && Nat.beq sz ie.size) <| (N = [] → L = []) ∧ (2 * (L.length + N.length) + 192) * ie.bytes ≤ 2 ^ 48 ∧ K (.nw rd true ⟨ie.size, L ++ N, false⟩) (.win nx ie.size 0 (L ++ N).length (L ++ N).length)
    | .lit (.slice none 0 0) => (2 * N.length + 192) * ie.bytes ≤ 2 ^ 48 ∧ K (.nw rd true ⟨ie.size, N, false⟩) (.win nx ie.size 0 N.length N.length)
    | _ => False
  | _ => False
theorem appE_sound (hT : TOk P T) {t t2 : Nat} {x y : Operand} (ho : o.op = .call { callee := .builtin .append, args := #[x, y], argTypes := #[t, t2] }) (h : appE T H nx t t2 (ov x) (ov y) K) : Res P ov o nx H.hp K := by
  obtain ⟨i, ht, h⟩ := tiK_sound h
  split at h
  · rename_i e hd
    obtain ⟨ie, he, h⟩ := tiK_sound h
    obtain ⟨i2, ht2, h⟩ := tiK_sound h
    rcases condN_sound h with ⟨hz, h⟩ | ⟨_, h⟩
    · obtain ⟨hc, h⟩ := chkK_sound h
      have hb : ie.bytes ≠ 0 := fun e => by rw [e] at hc; exact absurd hc (by decide)
      unfold appZ at h
      split at h
      · rename_i hx
        split at h
        · rename_i n hy
          obtain ⟨h0, hg, h⟩ := h
          exact res_nw (lok_appendZ hT ho ht hd he hb ht2 (TD.i64 hz) hx hy h0 hg) h
        · exact h.elim
      · exact h.elim
    obtain ⟨hc, h⟩ := chkK_sound h
    rw [Bool.and_eq_true] at hc
    have hi2 := TD.seq hc.1
    have hb : ie.bytes ≠ 0 := fun e => by rw [e] at hc; exact absurd hc.2 (by decide)
    obtain ⟨rd, N, hsrc, hsub, h⟩ := srcE_sound (P := P) h
    split at h
    · rename_i k sz n cp hx
      obtain ⟨sy, ob, hk, h⟩ := GH.getK_sound _ _ h
      obtain ⟨hq, hn, h1, hg, h⟩ := chkK_sound h
      simp only [Bool.and_eq_true] at hq
      obtain ⟨⟨⟨⟨q1, q2⟩, q3⟩, q4⟩, q5⟩ := hq
      have hlt : k < nx := Nat.le_of_ble_eq_true q2
      have hl := lok_appendW (κ := nx) hT ho ht hd he hb ht2 hi2 hx (Nat.eq_of_beq_eq_true q3) (Nat.eq_of_beq_eq_true q4) hn (by simpa using q1) hsrc (apartQ_sound q5) (by omega) h1 hg
      rw [hn, ← List.length_append] at hl
      exact ⟨.sw rd k ob _, _, ⟨hl, hsub, hk⟩, h⟩
    · rename_i sz L nn ex hx
      obtain ⟨hq, hN, hg, hK⟩ := chkK_sound h
      clear h
      rw [Bool.and_eq_true] at hq
      have hz := Nat.eq_of_beq_eq_true hq.2
      have := hq.1
      subst this
      have hl := lok_appendN (κ := nx) hT ho ht hd he hb ht2 hi2 (.inl ⟨sz, nn, hx, .inl hz⟩) hsrc hN hg
      rw [← List.length_append] at hl
      exact ⟨.nw rd true _, _, ⟨hl, hsub⟩, hK⟩
    · rename_i hx
      obtain ⟨hg, h⟩ := h
      have hl := lok_appendN (κ := nx) (L := []) hT ho ht hd he hb ht2 hi2 (.inr ⟨hx, rfl⟩) hsrc (fun _ => rfl) (by simpa using hg)
      simp only [List.length_nil, Nat.zero_add, List.nil_append] at hl
      exact ⟨.nw rd true _, _, ⟨hl, hsub⟩, h⟩
    · exact h.elim
  · exact h.elim

def copyE (T : TT) (H : GH) (nx : Nat) (t : Nat) (x y : V) (K : Eff → V → Prop) : Prop := tiK T t fun i => match i.d with
  | .slice e => tiK T e fun ie => srcE H y ie.size fun rd N => match x with
    | .win k sz lo n cp => H.getK k fun sy ob => chkK (!ob.frz && Nat.blt k nx && Nat.beq ie.size sz && Nat.beq ob.sz sz && apartQ rd k) <|
        oneRows N ∧ n ≤ cp ∧ lo + min N.length n ≤ ob.rows.length ∧ K (.wr rd k ob ⟨sz, ob.rows.take lo ++ N.take (min N.length n) ++ ob.rows.drop (lo + min N.length n), false⟩) (.lit (.int .i64 (min N.length n : Nat)))
    | _ => False
  | _ => False
theorem copyE_sound (hT : TOk P T) {t t2 : Nat} {x y : Operand} (ho : o.op = .call { callee := .builtin .copy, args := #[x, y], argTypes := #[t, t2] }) (h : copyE T H nx t (ov x) (ov y) K) : Res P ov o nx H.hp K := by
  obtain ⟨i, ht, h⟩ := tiK_sound h
  split at h
  · rename_i e hd
    obtain ⟨ie, he, h⟩ := tiK_sound h
    obtain ⟨rd, N, hsrc, hsub, h⟩ := srcE_sound (P := P) h
    split at h
    · rename_i k sz lo n cp hx
      obtain ⟨sy, ob, hk, h⟩ := GH.getK_sound _ _ h
      obtain ⟨hq, h1, hn, hl, h⟩ := chkK_sound h
      simp only [Bool.and_eq_true] at hq
      obtain ⟨⟨⟨⟨q1, q2⟩, q3⟩, q4⟩, q5⟩ := hq
      have hlt : k < nx := Nat.le_of_ble_eq_true q2
      have hl := lok_copy hT ho ht hd he hx (Nat.eq_of_beq_eq_true q3) (Nat.eq_of_beq_eq_true q4) (by simpa using q1) hsrc (apartQ_sound q5) rfl h1 hn hl
      exact ⟨.wr rd k ob _, _, ⟨hl, hsub, hk, hlt⟩, h⟩
    · exact h.elim
  · exact h.elim

/- CALLS OF FUNCTIONS OF VALUES -/
/-- a cell as a contract tells it -/
def cvC (H : GH) (v : V) (K : V → HL → Prop) : Prop := match v with
  | .win k sz lo n cp => H.getK k fun sy ob => chkK (Nat.beq ob.sz sz) <| lo + n ≤ ob.rows.length ∧ rowsPlain ob.rows ∧ K (.sl sz ((ob.rows.drop lo).take n)) [(k, ob)]
  | .sls sz l nn ex => K (.sl sz l) []
  | .lit (.slice none 0 0) => ∃ sz, K (.sl sz []) []
  | .lit v => K (.lit v) []
  | .sl sz l => K (.sl sz l) []
  | .ip cs => K (.ip cs) []
  | .any => K .any []
  | _ => False
def cvCs (H : GH) (l : List V) : (List V → HL → Prop) → Prop := List.rec (motive := fun _ => (List V → HL → Prop) → Prop) (fun K => K [] []) (fun v _ ih K => cvC H v fun v B => ih fun l B' => K (v :: l) (B ++ B')) l
def cvA (H : GH) (v : V) (K : V → HL → Prop) : Prop := match v with
  | .agg cs => cvCs H cs fun cs B => K (.agg cs) B
  | v => cvC H v K
def cvAs (H : GH) (l : List V) : (List V → HL → Prop) → Prop := List.rec (motive := fun _ => (List V → HL → Prop) → Prop) (fun K => K [] []) (fun v _ ih K => cvA H v fun v B => ih fun l B' => K (v :: l) (B ++ B')) l

def AllAt (H : Hp) (B : HL) : Prop := ∀ p ∈ B, H p.1 = some p.2
theorem AllAt.sub {H : Hp} : ∀ {B : HL}, AllAt H B → Sub (hpo B) H
  | [], _ => Sub.nil H
  | (k, o) :: B, h => Sub.cons (h (k, o) (by simp)) (AllAt.sub fun p hp => h p (by simp [hp]))
theorem AllAt.mem {H : Hp} : ∀ {B : HL} {p : Nat × VObj}, AllAt H B → p ∈ B → hpo B p.1 = some p.2
  | (k, o) :: B, p, h, hp => by
    simp only [hpo, upd]
    split
    · rename_i e
      have h1 := h (k, o) (by simp)
      have h2 := h p hp
      rw [e] at h2
      simp only at h1
      rw [h1] at h2
      exact h2
    · rename_i e
      rcases List.mem_cons.1 hp with rfl | hp
      · exact absurd rfl e
      · exact AllAt.mem (fun p hp => h p (by simp [hp])) hp
theorem AllAt.app {H : Hp} {B B' : HL} (h : AllAt H B) (h' : AllAt H B') : AllAt H (B ++ B') := fun p hp => by
  rcases List.mem_append.1 hp with hp | hp
  · exact h p hp
  · exact h' p hp

/-- told as a contract does: for every memory in which these objects lie -/
def CvOk (H : Hp) (c a : V) (B : HL) : Prop := AllAt H B ∧ ∀ G : Hp, (∀ p ∈ B, G p.1 = some p.2) → Wv G noK c a
theorem cvC_sound {v : V} {K : V → HL → Prop} (h : cvC H v K) : ∃ c B, CvOk H.hp c v B ∧ K c B := by
  unfold cvC at h
  split at h
  · rename_i k sz lo n cp
    obtain ⟨sy, ob, hk, h⟩ := GH.getK_sound _ _ h
    obtain ⟨hz, hl, hp, h⟩ := chkK_sound h
    refine ⟨_, _, ⟨fun p hp => by simp only [List.mem_singleton] at hp; subst hp; exact hk, fun G hG => ?_⟩, h⟩
    have hG := hG (k, ob) (by simp)
    have := rc_wv (H := G) (τ := noK) (x := .win k sz lo n cp) (by simp only [okc, hG]; exact ⟨Nat.eq_of_beq_eq_true hz, hl, hp⟩)
    simpa only [rc, hG] using this
  · exact ⟨_, _, ⟨fun p hp => by simp at hp, fun _ _ => .slsl⟩, h⟩
  · obtain ⟨sz, h⟩ := h
    exact ⟨_, _, ⟨fun p hp => by simp at hp, fun _ _ => .nil⟩, h⟩
  · exact ⟨_, _, ⟨fun p hp => by simp at hp, fun _ _ => .lit⟩, h⟩
  · exact ⟨_, _, ⟨fun p hp => by simp at hp, fun _ _ => .sl⟩, h⟩
  · exact ⟨_, _, ⟨fun p hp => by simp at hp, fun _ _ => .ip⟩, h⟩
  · exact ⟨_, _, ⟨fun p hp => by simp at hp, fun _ _ => .any⟩, h⟩
  · exact h.elim
def CvsOk (H : Hp) (cs as : List V) (B : HL) : Prop := AllAt H B ∧ cs.length = as.length ∧ ∀ G : Hp, (∀ p ∈ B, G p.1 = some p.2) → ∀ (i : Nat) (x y : V), cs[i]? = some x → as[i]? = some y → Wv G noK x y
theorem cvs_nil (H : Hp) : CvsOk H [] [] [] := ⟨fun p hp => by simp at hp, rfl, fun _ _ i x y h => by simp at h⟩
theorem cvs_cons {H : Hp} {c a : V} {cs as : List V} {B B' : HL} (h1 : CvOk H c a B) (h2 : CvsOk H cs as B') : CvsOk H (c :: cs) (a :: as) (B ++ B') :=
  ⟨h1.1.app h2.1, by simp [h2.2.1], fun G hG i x y p q => by
    cases i with
    | zero => simp at p q; subst p; subst q; exact h1.2 G fun r hr => hG r (by simp [hr])
    | succ i => exact h2.2.2 G (fun r hr => hG r (by simp [hr])) i x y (by simpa using p) (by simpa using q)⟩
theorem cvCs_sound : ∀ (l : List V) {K : List V → HL → Prop}, cvCs H l K → ∃ cs B, CvsOk H.hp cs l B ∧ K cs B
  | [], _, h => ⟨[], [], cvs_nil _, h⟩
  | v :: l, K, h => by
    have h : cvC H v fun v B => cvCs H l fun l B' => K (v :: l) (B ++ B') := h
    obtain ⟨c, B, h1, h⟩ := cvC_sound h
    obtain ⟨cs, B', h2, h⟩ := cvCs_sound l h
    exact ⟨_, _, cvs_cons h1 h2, h⟩
theorem cvA_sound {v : V} {K : V → HL → Prop} (h : cvA H v K) : ∃ c B, CvOk H.hp c v B ∧ K c B := by
  unfold cvA at h
  split at h
  · obtain ⟨cs, B, h1, h⟩ := cvCs_sound _ h
    exact ⟨_, _, ⟨h1.1, fun G hG => .agg h1.2.1 (h1.2.2 G hG)⟩, h⟩
  · exact cvC_sound h
theorem cvAs_sound : ∀ (l : List V) {K : List V → HL → Prop}, cvAs H l K → ∃ cs B, CvsOk H.hp cs l B ∧ K cs B
  | [], _, h => ⟨[], [], cvs_nil _, h⟩
  | v :: l, K, h => by
    have h : cvA H v fun v B => cvAs H l fun l B' => K (v :: l) (B ++ B') := h
    obtain ⟨c, B, h1, h⟩ := cvA_sound h
    obtain ⟨cs, B', h2, h⟩ := cvAs_sound l h
    exact ⟨_, _, cvs_cons h1 h2, h⟩

/-- what is left to be shown of a call -/
def CallN (P : Program) (kf : Nat) (cargs : List V) (nx : Nat) (B : HL) (K : Eff → V → Prop) : Prop := match B with
  | [] => ∃ r, FnC P kf cargs [] r [] ∧ fV r fun r => K (.rd []) r
  | B => ∃ r, FnC P kf cargs [] r [] ∧ ((Cl r ∧ fV r fun r => K (.rd B) r) ∨ (chkK ((keysOf B).all fun k => Nat.blt k nx) <| fV r fun r => K (.fz B) r))
/-- how calls are taken -/
abbrev CET := Nat → List V → GH → Nat → (Eff → V → Prop) → Prop
def CESound (P : Program) (CE : CET) : Prop := ∀ (kf : Nat) (as : List V) (H : GH) (nx : Nat) (K : Eff → V → Prop), CE kf as H nx K →
  ∃ eff v, K eff v ∧ ∀ (ov : Operand → V) (o : Oper) (f : Operand) (xs : Array Operand) (ts : Array TypeId) (caps : List V), o.op = .call { callee := .value f, args := xs, argTypes := ts } → ov f = .fn kf caps → as = xs.toList.map ov ++ caps → EOk P ov o nx H.hp v eff
/-- by contracts -/
def ceC (P : Program) : CET := fun kf as H nx K => cvAs H as fun cs B => CallN P kf cs nx B K
theorem ceC_sound : CESound P (ceC P) := by
  intro kf as H nx K h
  obtain ⟨cs, B, ⟨h1, h2, h3⟩, h⟩ := cvAs_sound _ h
  have h3 := h3 (hpo B) (fun p hp => h1.mem hp)
  unfold CallN at h
  split at h
  · obtain ⟨r, hc, h⟩ := h
    refine ⟨.rd [], _, fV_sound (K := fun r => K (.rd []) r) h, fun ov o f xs ts caps ho hf ha => ?_⟩
    subst ha
    exact ⟨lok_callF (B := []) ho hf hc.1 hc.2 h2 h3, Sub.nil _⟩
  · obtain ⟨r, hc, h⟩ := h
    rcases h with ⟨hr, h⟩ | h
    · refine ⟨.rd B, _, fV_sound (K := fun r => K (.rd B) r) h, fun ov o f xs ts caps ho hf ha => ?_⟩
      subst ha
      exact ⟨lok_callC ho hf hc.1 hc.2 h2 h3 hr, h1.sub⟩
    · obtain ⟨hk, h⟩ := chkK_sound h
      refine ⟨.fz B, _, fV_sound (K := fun r => K (.fz B) r) h, fun ov o f xs ts caps ho hf ha => ?_⟩
      subst ha
      refine ⟨lok_callF ho hf hc.1 hc.2 h2 h3, h1.sub, fun k hk' => ?_⟩
      rw [List.all_eq_true] at hk
      exact Nat.le_of_ble_eq_true (hk k hk')
def callE (CE : CET) (ov : Operand → V) (H : GH) (nx : Nat) (f : V) (xs : List Operand) (K : Eff → V → Prop) : Prop := match f with
  | .fn kf caps => argsK ov xs fun as => CE kf (as ++ caps) H nx K
  | _ => False
theorem callE_sound {CE : CET} (hCE : CESound P CE) {f : Operand} {xs : Array Operand} {ts : Array TypeId} (ho : o.op = .call { callee := .value f, args := xs, argTypes := ts }) (h : callE CE ov H nx (ov f) xs.toList K) : Res P ov o nx H.hp K := by
  unfold callE at h
  split at h
  · rename_i kf caps hf
    obtain ⟨eff, v, h1, h2⟩ := hCE _ _ _ _ _ (argsK_sound _ h)
    exact ⟨eff, v, h2 ov o f xs ts caps ho hf rfl, h1⟩
  · exact h.elim

def capE (T : TT) (t : Nat) (x : V) (K : Eff → V → Prop) : Prop := tiK T t fun i => match i.d with
  | .slice e => match x with
    | .lit (.slice none 0 0) => K (.rd []) (.lit (.int .i64 0))
    | _ => False
  | _ => False
theorem capE_sound (hT : TOk P T) {t : Nat} {x : Operand} (ho : o.op = .call { callee := .builtin .cap, args := #[x], argTypes := #[t] }) (h : capE T t (ov x) K) : Res P ov o nx H.hp K := by
  obtain ⟨i, ht, h⟩ := tiK_sound h
  split at h
  · rename_i e hd
    split at h
    · rename_i hx
      exact res_rd (lok_capNil hT ho ht hd hx) h
    · exact h.elim
  · exact h.elim

def builtinE (T : TT) (ov : Operand → V) (H : GH) (nx : Nat) (b : Builtin) (xs : List Operand) (ts : List TypeId) (K : Eff → V → Prop) : Prop := match b with
  | .len => match xs, ts with
    | [x], [t] => lenE T t (ov x) K
    | _, _ => False
  | .cap => match xs, ts with
    | [x], [t] => capE T t (ov x) K
    | _, _ => False
  | .min => match xs with
    | [x, y] => mmE false (ov x) (ov y) K
    | _ => False
  | .max => match xs with
    | [x, y] => mmE true (ov x) (ov y) K
    | _ => False
  | .append => match xs, ts with
    | [x, y], [t, t2] => appE T H nx t t2 (ov x) (ov y) K
    | _, _ => False
  | .copy => match xs, ts with
    | [x, y], [t, _] => copyE T H nx t (ov x) (ov y) K
    | _, _ => False
  | _ => False

/-- one operation -/
def opE (P : Program) (T : TT) (CE : CET) (ov : Operand → V) (H : GH) (nx : Nat) (op : Op) (K : Eff → V → Prop) : Prop := match op with
  | .move x => K (.rd []) (ov x)
  | .assign x => K (.rd []) (ov x)
  | .pick c x y => pickE (ov c) (ov x) (ov y) K
  | .alloc e => allocE T nx e K
  | .box e x => boxE T nx e (ov x) K
  | .build t ps => buildE T ov t ps.toList K
  | .buildSlice t n ps => buildSliceF T ov H nx t n ps.toList K
  | .load t x => loadE T H t (ov x) K
  | .store t x y => storeE T H nx t (ov x) (ov y) K
  | .nilCheck x => nilCheckE (ov x) K
  | .binOp op t x y _ => opBinE P T op t (ov x) (ov y) K
  | .unOp op _ x => unE op (ov x) K
  | .convert s d x => convE T H s d (ov x) K
  | .makeFunc f first caps => makeFuncE ov f first caps.toList K
  | .makeSlice t x y => makeSliceE T nx t (ov x) (ov y) K
  | .slice t x lo hi mx => sliceF T ov H nx t (ov x) lo hi mx K
  | .fieldAddr t x f => fieldAddrE T t (ov x) f K
  | .field t x f => fieldE T t (ov x) f K
  | .indexAddr t x y => idxAddrE T t (ov x) (ov y) K
  | .index t x y => indexE T t (ov x) (ov y) K
  | .extract x n => extractE (ov x) n K
  | .makeMap t r => mkMapE nx r K
  | .insert t m x y => insertE P T H nx t (ov m) (ov x) (ov y) K
  | .lookup t m x c => lookupE P T H t (ov m) (ov x) c K
  | .call c => match c with
    | ⟨.builtin b, xs, ts⟩ => builtinE T ov H nx b xs.toList ts.toList K
    | ⟨.value f, xs, _⟩ => callE CE ov H nx (ov f) xs.toList K
    | _ => False
  | _ => False

theorem arr1 {α : Type} {xs : Array α} {x : α} (h : xs.toList = [x]) : xs = #[x] := Array.toList_inj.1 h
theorem arr2 {α : Type} {xs : Array α} {x y : α} (h : xs.toList = [x, y]) : xs = #[x, y] := Array.toList_inj.1 h

theorem opE_sound (hT : TOk P T) {CE : CET} (hCE : CESound P CE) (h : opE P T CE ov H nx o.op K) : Res P ov o nx H.hp K := by
  unfold opE at h
  split at h
  case h_1 x ho => exact res_rd (lok_move (.inl ho)) h
  case h_2 x ho => exact res_rd (lok_move (.inr ho)) h
  case h_3 c x y ho => exact pickE_sound ho h
  case h_4 e ho => exact allocE_sound hT ho h
  case h_5 e x ho => exact boxE_sound ho h
  case h_6 t ps ho => exact buildE_sound hT ho h
  case h_7 t n ps ho => exact buildSliceF_sound hT ho h
  case h_8 t x ho => exact loadE_sound hT ho h
  case h_9 t x y ho => exact storeE_sound hT ho h
  case h_10 x ho => exact nilCheckE_sound ho h
  case h_11 op t x y t' ho => exact opBinE_sound hT ho h
  case h_12 op t x ho => exact unE_sound ho h
  case h_13 s d x ho => exact convE_sound hT ho h
  case h_14 f first caps ho => exact makeFuncE_sound ho h
  case h_15 t x y ho => exact makeSliceE_sound hT ho h
  case h_16 t x lo hi mx ho => exact sliceF_sound hT ho h
  case h_17 t x f ho => exact fieldAddrE_sound hT ho h
  case h_18 t x f ho => exact fieldE_sound hT ho h
  case h_19 t x y ho => exact idxAddrE_sound hT ho h
  case h_20 t x y ho => exact indexE_sound hT ho h
  case h_21 x n ho => exact extractE_sound ho h
  case h_22 t r ho => exact mkMapE_sound ho h
  case h_23 t m x y ho => exact insertE_sound hT ho h
  case h_24 t m x c ho => exact lookupE_sound hT ho h
  case h_25 c ho =>
    split at h
    · rename_i b xs ts
      unfold builtinE at h
      split at h
      · split at h
        · rename_i x t hx ht
          rw [arr1 hx, arr1 ht] at ho
          exact lenE_sound hT ho h
        · exact h.elim
      · split at h
        · rename_i x t hx ht
          rw [arr1 hx, arr1 ht] at ho
          exact capE_sound hT ho h
        · exact h.elim
      · split at h
        · rename_i x y hx
          rw [arr2 hx] at ho
          exact minE_sound ho h
        · exact h.elim
      · split at h
        · rename_i x y hx
          rw [arr2 hx] at ho
          exact maxE_sound ho h
        · exact h.elim
      · split at h
        · rename_i x y t t2 hx ht
          rw [arr2 hx, arr2 ht] at ho
          exact appE_sound hT ho h
        · exact h.elim
      · split at h
        · rename_i x y t t2 hx ht
          rw [arr2 hx, arr2 ht] at ho
          exact copyE_sound hT ho h
        · exact h.elim
      · exact h.elim
    · rename_i f xs ts
      exact callE_sound hCE ho h
    · exact h.elim
  case h_26 => exact h.elim

end
end Go.Proofs.Ytgaginflocpcfaa
