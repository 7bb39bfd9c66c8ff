/-
  The value-level machine: the evaluator, one operation.
-/
import Derived.Test.YtgaginflocpcfaaAbsQ
namespace Go.Proofs.Ytgaginflocpcfaa
open Go
set_option linter.unusedVariables false
set_option linter.unusedSimpArgs false

section
variable {P : Program} {T : TT} {ov : Operand → V} {o : Oper} {nx : Nat} {H : GH} {K : Eff → V → Prop}

/-- what an operation comes to -/
abbrev Res (P : Program) (ov : Operand → V) (o : Oper) (nx : Nat) (H : Hp) (K : Eff → V → Prop) : Prop := ∃ eff v, EOk P ov o nx H v eff ∧ K eff v
theorem res_rd {v : V} (hl : LOk P ov o [] [] [] v) (h : K (.rd []) v) : Res P ov o nx H.hp K := ⟨.rd [], v, ⟨hl, Sub.nil _⟩, h⟩
theorem res_nw {sy : Bool} {ob : VObj} {v : V} (hl : LOk P ov o [] [] [(nx, ob)] v) (h : K (.nw [] sy ob) v) : Res P ov o nx H.hp K := ⟨.nw [] sy ob, v, ⟨hl, Sub.nil _⟩, h⟩

def moveE (v : V) (K : Eff → V → Prop) : Prop := K (.rd []) v

def pickE (c x y : V) (K : Eff → V → Prop) : Prop := match c with
  | .lit (.bool t) => condN t (K (.rd []) x) (K (.rd []) y)
  | _ => False
theorem pickE_sound {c x y : Operand} (ho : o.op = .pick c x y) (h : pickE (ov c) (ov x) (ov y) K) : Res P ov o nx H.hp K := by
  unfold pickE at h
  split at h
  · rename_i t hc
    refine res_rd (lok_pick ho hc) ?_
    rcases condN_sound h with ⟨rfl, h⟩ | ⟨rfl, h⟩ <;> exact h
  · exact h.elim

def allocE (T : TT) (nx : Nat) (e : Nat) (K : Eff → V → Prop) : Prop := tiK T e fun i => fCs i.zero fun z => K (.nw [] false ⟨i.size, [z], false⟩) (.ptr nx i.size 0 0)
theorem allocE_sound (hT : TOk P T) {e : Nat} (ho : o.op = .alloc e) (h : allocE T nx e K) : Res P ov o nx H.hp K := by
  obtain ⟨i, ht, h⟩ := tiK_sound h
  exact res_nw (lok_alloc hT ho ht) (fCs_sound _ h)

def V.known : V → Bool
  | .any => false
  | _ => true
def boxE (T : TT) (nx : Nat) (e : Nat) (x : V) (K : Eff → V → Prop) : Prop := chkK x.known <| tiK T e fun i => chkK (Nat.beq x.cells.length i.size) <| fCs x.cells fun cs => K (.nw [] false ⟨i.size, [cs], false⟩) (.ptr nx i.size 0 0)
theorem boxE_sound {e : Nat} {x : Operand} (ho : o.op = .box e x) (h : boxE T nx e (ov x) K) : Res P ov o nx H.hp K := by
  obtain ⟨hk, h⟩ := chkK_sound h
  obtain ⟨i, ht, h⟩ := tiK_sound h
  obtain ⟨hz, h⟩ := chkK_sound h
  have hz := Nat.eq_of_beq_eq_true hz
  have h := fCs_sound _ h
  rw [← hz] at h
  exact res_nw (lok_box ho rfl (fun e => by rw [e] at hk; cases hk)) h

/-- an object's row -/
def rowK (sy : Bool) (ob : VObj) (ix : Nat) (K : List V → Prop) : Prop := match sy with
  | false => nthK ob.rows ix K
  | true => ∃ row, ob.rows[ix]? = some row ∧ K row
theorem rowK_sound {sy : Bool} {ob : VObj} {ix : Nat} {K : List V → Prop} (h : rowK sy ob ix K) : ∃ row, ob.rows[ix]? = some row ∧ K row := by
  cases sy with
  | false => exact nthK_sound _ _ h
  | true => exact h

def loadE (T : TT) (H : GH) (t : Nat) (x : V) (K : Eff → V → Prop) : Prop := match x with
  | .ptr k sz ix off => tiK T t fun i => H.getK k fun sy ob => chkK (Nat.beq ob.sz sz) <| rowK sy ob ix fun row => chkK (Nat.ble (off + i.size) row.length) <| K (.rd [(k, ob)]) (ldV i (row.drop off))
  | .ip cs => tiK T t fun i => chkK (Nat.ble i.size cs.length) <| K (.rd []) (ldV i cs)
  | _ => False
theorem loadE_sound (hT : TOk P T) {t : Nat} {x : Operand} (ho : o.op = .load t x) (h : loadE T H t (ov x) K) : Res P ov o nx H.hp K := by
  unfold loadE at h
  split at h
  · rename_i k sz ix off hx
    obtain ⟨i, ht, h⟩ := tiK_sound h
    obtain ⟨sy, ob, hk, h⟩ := GH.getK_sound _ _ h
    obtain ⟨hz, h⟩ := chkK_sound h
    obtain ⟨row, hrow, h⟩ := rowK_sound h
    obtain ⟨hl, h⟩ := chkK_sound h
    exact ⟨.rd [(k, ob)], _, ⟨lok_load hT ho ht hx (Nat.eq_of_beq_eq_true hz) hrow (Nat.le_of_ble_eq_true hl), Sub.one hk⟩, h⟩
  · rename_i cs hx
    obtain ⟨i, ht, h⟩ := tiK_sound h
    obtain ⟨hl, h⟩ := chkK_sound h
    exact res_rd (lok_loadI hT ho ht hx (Nat.le_of_ble_eq_true hl)) h
  · exact h.elim

def storeE (T : TT) (H : GH) (nx : Nat) (t : Nat) (x y : V) (K : Eff → V → Prop) : Prop := match x with
  | .ptr k sz ix off => tiK T t fun i => H.getK k fun sy ob => chkK (Nat.beq ob.sz sz) <| chkK (!ob.frz) <| chkK (Nat.blt k nx) <| chkK (Nat.beq y.cells.length i.size && y.cells.all V.one) <| rowK sy ob ix fun row => chkK (Nat.ble (off + i.size) row.length) <|
      match sy with
      | false => fCs (spl row off y.cells) fun r => fRs (ob.rows.set ix r) fun rs => K (.wr [] k ob ⟨sz, rs, false⟩) .undef
      | true => fCs (spl row off y.cells) fun r => K (.wr [] k ob ⟨sz, ob.rows.set ix r, false⟩) .undef
  | _ => False
theorem storeE_sound (hT : TOk P T) {t : Nat} {x y : Operand} (ho : o.op = .store t x y) (h : storeE T H nx t (ov x) (ov y) K) : Res P ov o nx H.hp K := by
  unfold storeE at h
  split at h
  · rename_i k sz ix off hx
    obtain ⟨i, ht, h⟩ := tiK_sound h
    obtain ⟨sy, ob, hk, h⟩ := GH.getK_sound _ _ h
    obtain ⟨hz, h⟩ := chkK_sound h
    obtain ⟨hf, h⟩ := chkK_sound h
    obtain ⟨hn, h⟩ := chkK_sound h
    obtain ⟨hc, h⟩ := chkK_sound h
    obtain ⟨row, hrow, h⟩ := rowK_sound h
    obtain ⟨hl, h⟩ := chkK_sound h
    rw [Bool.and_eq_true] at hc
    have hl' := lok_store hT ho ht hx rfl (Nat.eq_of_beq_eq_true hz) (by simpa using hf) hrow (Nat.eq_of_beq_eq_true hc.1) hc.2 (Nat.le_of_ble_eq_true hl)
    have hn' : k < nx := Nat.le_of_ble_eq_true hn
    refine ⟨.wr [] k ob _, _, ⟨hl', Sub.nil _, hk, hn'⟩, ?_⟩
    cases sy with
    | false => exact fRs_sound _ (fCs_sound _ h)
    | true => exact fCs_sound _ h
  · exact h.elim

def fieldAddrE (T : TT) (t : Nat) (x : V) (f : Nat) (K : Eff → V → Prop) : Prop := tiK T t fun i => nthK i.d.fields f fun q => match q with
  | (off, size, ag) => match x with
    | .ptr k sz ix p => K (.rd []) (.ptr k sz ix (p + off))
    | .ip cs => chkK (Nat.ble off cs.length) <| K (.rd []) (.ip (cs.drop off))
    | _ => False

def fieldE (T : TT) (t : Nat) (x : V) (f : Nat) (K : Eff → V → Prop) : Prop := tiK T t fun i => nthK i.d.fields f fun q => match q with
  | (off, size, ag) => match x with
    | .agg cs => chkK (Nat.ble (off + size) cs.length) <| K (.rd []) (ptV off size ag cs)
    | _ => False
theorem fieldE_sound (hT : TOk P T) {t f : Nat} {x : Operand} (ho : o.op = .field t x f) (h : fieldE T t (ov x) f K) : Res P ov o nx H.hp K := by
  obtain ⟨i, ht, h⟩ := tiK_sound h
  obtain ⟨⟨off, size, ag⟩, hf, h⟩ := nthK_sound _ _ h
  simp only at h
  split at h
  · rename_i cs hx
    obtain ⟨hl, h⟩ := chkK_sound h
    exact res_rd (lok_field hT ho ht hf hx (Nat.le_of_ble_eq_true hl)) h
  · exact h.elim

/-- the elements of an array or a slice -/
def TD.elt : TD → Option (Bool × Nat × Nat)
  | .arr n e => some (true, n, e)
  | .slice e => some (false, 0, e)
  | _ => none
theorem TD.elt_arr {d : TD} {n e : Nat} (h : d.elt = some (true, n, e)) : d = .arr n e := by
  unfold TD.elt at h; split at h <;> cases h; rfl
theorem TD.elt_sl {d : TD} {n e : Nat} (h : d.elt = some (false, n, e)) : d = .slice e := by
  unfold TD.elt at h; split at h <;> cases h; rfl

def idxAddrE (T : TT) (t : Nat) (x y : V) (K : Eff → V → Prop) : Prop := tiK T t fun i => optK i.d.elt fun q => match q with
  | (true, n, e) => tiK T e fun ie => match x, y with
    | .ptr k sz ix p, .lit (.int _ j) => 0 ≤ j ∧ j < n ∧ K (.rd []) (.ptr k sz ix (p + j.toNat * ie.size))
    | .ip cs, .lit (.int _ j) => 0 ≤ j ∧ j < n ∧ j.toNat * ie.size ≤ cs.length ∧ K (.rd []) (.ip (cs.drop (j.toNat * ie.size)))
    | _, _ => False
  | (false, _, e) => tiK T e fun ie => match x, y with
    | .win k sz lo n cp, .lit (.int _ j) => chkK (Nat.beq ie.size sz) <| 0 ≤ j ∧ j < n ∧ K (.rd []) (.ptr k sz (lo + j.toNat) 0)
    | xv, .lit (.int _ j) => optK xv.sl? fun l => chkK (Nat.beq ie.size xv.slz) <| 0 ≤ j ∧ j < l.length ∧ ∃ r, l[j.toNat]? = some r ∧ K (.rd []) (.ip r)
    | _, _ => False

/-- an element of an array that is a value -/
def indexE (T : TT) (t : Nat) (x y : V) (K : Eff → V → Prop) : Prop := tiK T t fun i => match i.d with
  | .arr n e => tiK T e fun ie => match x, y with
    | .agg cs, .lit (.int _ j) => 0 ≤ j ∧ j < n ∧ j.toNat * ie.size + ie.size ≤ cs.length ∧ K (.rd []) (ldV ie (cs.drop (j.toNat * ie.size)))
    | _, _ => False
  | .string => match x, y with
    | .lit (.string s), .lit (.int _ j) => 0 ≤ j ∧ ∃ c : UInt8, s.data.toList[j.toNat]? = some c ∧ K (.rd []) (.lit (.int .u8 c.toNat))
    | _, _ => False
  | _ => False

theorem fieldAddrE_sound (hT : TOk P T) {t f : Nat} {x : Operand} (ho : o.op = .fieldAddr t x f) (h : fieldAddrE T t (ov x) f K) : Res P ov o nx H.hp K := by
  obtain ⟨i, ht, h⟩ := tiK_sound h
  obtain ⟨⟨off, size, ag⟩, hf, h⟩ := nthK_sound _ _ h
  simp only at h
  split at h
  · rename_i k sz ix p hx
    exact res_rd (lok_fieldAddr hT ho ht hf hx) h
  · rename_i cs hx
    obtain ⟨hl, h⟩ := chkK_sound h
    exact res_rd (lok_fieldAddrI hT ho ht hf hx (Nat.le_of_ble_eq_true hl)) h
  · exact h.elim
/-- how wide the rows of a slice are -/
def szE (x : V) (sz : Nat) : Bool := match x with
  | .lit _ => true
  | x => Nat.beq sz x.slz
theorem szE_sound {x : V} {sz : Nat} {L : List (List V)} (h : szE x sz = true) (hL : x.sl? = some L) : sz = x.slz ∨ L = [] := by
  unfold szE at h
  split at h
  · right
    rename_i v
    unfold V.sl? at hL
    split at hL <;> rename_i e <;> first | cases e | skip
    · cases hL; rfl
    · cases hL
  · exact .inl (Nat.eq_of_beq_eq_true h)
theorem idxAddrE_sound (hT : TOk P T) {t : Nat} {x y : Operand} (ho : o.op = .indexAddr t x y) (h : idxAddrE T t (ov x) (ov y) K) : Res P ov o nx H.hp K := by
  obtain ⟨i, ht, h⟩ := tiK_sound h
  obtain ⟨q, hq, h⟩ := optK_sound h
  split at h
  · rename_i n e
    have hd := TD.elt_arr hq
    obtain ⟨ie, he, h⟩ := tiK_sound h
    split at h
    · rename_i k sz ix p k' j hx hy
      obtain ⟨h0, h1, h⟩ := h
      exact res_rd (lok_idxArr hT ho ht hd he hx hy h0 h1) h
    · rename_i cs k' j hx hy
      obtain ⟨h0, h1, h2, h⟩ := h
      exact res_rd (lok_idxArrI hT ho ht hd he hx hy h0 h1 h2) h
    · exact h.elim
  · rename_i n' e
    have hd := TD.elt_sl hq
    obtain ⟨ie, he, h⟩ := tiK_sound h
    split at h
    · rename_i k sz lo n cp k' j hx hy
      obtain ⟨hz, h0, h1, h⟩ := chkK_sound h
      exact res_rd (lok_idxWin hT ho ht hd he (Nat.eq_of_beq_eq_true hz) hx hy h0 h1) h
    · rename_i k' j hy _
      obtain ⟨l, hl, h⟩ := optK_sound h
      obtain ⟨hz, h0, h1, r, hr, h⟩ := chkK_sound h
      exact res_rd (lok_idxSl hT ho ht hd he rfl hl (Nat.eq_of_beq_eq_true hz) hy h0 h1 hr) h
    · exact h.elim
theorem indexE_sound (hT : TOk P T) {t : Nat} {x y : Operand} (ho : o.op = .index t x y) (h : indexE T t (ov x) (ov y) K) : Res P ov o nx H.hp K := by
  obtain ⟨i, ht, h⟩ := tiK_sound h
  split at h
  · rename_i n e hd
    obtain ⟨ie, he, h⟩ := tiK_sound h
    split at h
    · rename_i cs k j hx hy
      obtain ⟨h0, h1, h2, h⟩ := h
      exact res_rd (lok_index hT ho ht hd he hx hy h0 h1 h2) h
    · exact h.elim
  · rename_i hd
    split at h
    · rename_i s k j hx hy
      obtain ⟨h0, c, h1, h⟩ := h
      exact res_rd (lok_indexStr hT ho ht hd hx hy h0 h1) h
    · exact h.elim
  · exact h.elim

/-- a bound -/
def bndE (ov : Operand → V) (d : Nat) (x : Option Operand) (K : Nat → Prop) : Prop := match x with
  | none => K d
  | some x => match ov x with
    | .lit (.int _ n) => 0 ≤ n ∧ K n.toNat
    | _ => False
theorem bndE_sound {d : Nat} {x : Option Operand} {K : Nat → Prop} (h : bndE ov d x K) : ∃ n, bndV ov d x = some n ∧ K n := by
  cases x with
  | none => exact ⟨d, rfl, h⟩
  | some x =>
    simp only [bndE] at h
    split at h
    · rename_i k n hx
      exact ⟨n.toNat, by simp [bndV, hx, h.1], h.2⟩
    · exact h.elim
def sliceE (T : TT) (ov : Operand → V) (t : Nat) (x : V) (lo hi mx : Option Operand) (K : Eff → V → Prop) : Prop := match mx with
  | none => match x with
    | .lit (.string s) => tiK T t fun i => match i.d with
      | .string => bndE ov 0 lo fun l => bndE ov s.size hi fun h => l ≤ h ∧ h ≤ s.size ∧ K (.rd []) (.lit (.string (s.extract l h)))
      | _ => False
    | .lit (.slice none 0 0) => tiK T t fun i => match i.d with
      | .slice e => tiK T e fun ie => bndE ov 0 lo fun l => bndE ov 0 hi fun h => l ≤ h ∧ h ≤ 0 ∧ K (.rd []) (.lit (.slice none 0 0))
      | _ => False
    | .win k sz w0 n cp => tiK T t fun i => match i.d with
      | .slice e => tiK T e fun ie => chkK (Nat.beq ie.size sz) <| bndE ov 0 lo fun l => bndE ov n hi fun h => l ≤ h ∧ h ≤ cp ∧ K (.rd []) (.win k sz (w0 + l) (h - l) (cp - l))
      | _ => False
    | xv => tiK T t fun i => match i.d with
      | .slice e => tiK T e fun ie => optK xv.sl? fun L => chkK (szE xv ie.size) <| bndE ov 0 lo fun l => bndE ov L.length hi fun h => l ≤ h ∧ h ≤ L.length ∧ K (.rd []) (.sl ie.size ((L.take h).drop l))
      | _ => False
  | some z => match lo, hi with
    | none, some y => tiK T t fun i => match i.d with
      | .slice e => tiK T e fun ie => optK x.sl? fun L => bndE ov L.length (some y) fun h => bndE ov L.length (some z) fun m => h = m ∧ h ≤ L.length ∧ K (.rd []) (.sls x.slz (L.take h) false true)
      | _ => False
    | _, _ => False
theorem sliceE_sound (hT : TOk P T) {t : Nat} {x : Operand} {lo hi mx : Option Operand} (ho : o.op = .slice t x lo hi mx) (h : sliceE T ov t (ov x) lo hi mx K) : Res P ov o nx H.hp K := by
  unfold sliceE at h
  split at h
  · split at h
    · rename_i s hx
      obtain ⟨i, ht, h⟩ := tiK_sound h
      split at h
      · rename_i hd
        obtain ⟨l, hl, h⟩ := bndE_sound h
        obtain ⟨h', hh, h1, h2, h⟩ := bndE_sound h
        exact res_rd (lok_sliceStr hT ho ht hd hx hl hh h1 h2) h
      · exact h.elim
    · rename_i hx
      obtain ⟨i, ht, h⟩ := tiK_sound h
      split at h
      · rename_i e hd
        obtain ⟨ie, he, h⟩ := tiK_sound h
        obtain ⟨l, hl, h⟩ := bndE_sound h
        obtain ⟨h', hh, h1, h2, h⟩ := bndE_sound h
        exact res_rd (lok_sliceNil hT ho ht hd he hx hl hh h1 h2) h
      · exact h.elim
    · rename_i k sz w0 n cp hx
      obtain ⟨i, ht, h⟩ := tiK_sound h
      split at h
      · rename_i e hd
        obtain ⟨ie, he, h⟩ := tiK_sound h
        obtain ⟨hz, h⟩ := chkK_sound h
        obtain ⟨l, hl, h⟩ := bndE_sound h
        obtain ⟨h', hh, h1, h2, h⟩ := bndE_sound h
        exact res_rd (lok_sliceWin hT ho ht hd he hx (Nat.eq_of_beq_eq_true hz) hl hh h1 h2) h
      · exact h.elim
    · obtain ⟨i, ht, h⟩ := tiK_sound h
      split at h
      · rename_i e hd
        obtain ⟨ie, he, h⟩ := tiK_sound h
        obtain ⟨L, hL, h⟩ := optK_sound h
        obtain ⟨hz, h⟩ := chkK_sound h
        obtain ⟨l, hl, h⟩ := bndE_sound h
        obtain ⟨h', hh, h1, h2, h⟩ := bndE_sound h
        exact res_rd (lok_sliceSl hT ho ht hd he rfl hL (szE_sound hz hL) hl hh h1 h2) h
      · exact h.elim
  · split at h
    · obtain ⟨i, ht, h⟩ := tiK_sound h
      split at h
      · rename_i e hd
        obtain ⟨ie, he, h⟩ := tiK_sound h
        obtain ⟨L, hL, h⟩ := optK_sound h
        obtain ⟨l, hl, h⟩ := bndE_sound h
        obtain ⟨m, hm, h1, h2, h⟩ := bndE_sound h
        subst h1
        exact res_rd (lok_clip hT ho ht hd he rfl hL hl hm h2) h
      · exact h.elim
    · exact h.elim

end
end Go.Proofs.Ytgaginflocpcfaa
