/-
  The value-level machine: parts of structs, places of arrays and slices, slicing.
-/
import Derived.Test.YtgaginflocpcfaaAbsE
namespace Go.Proofs.Ytgaginflocpcfaa
open Go
set_option linter.unusedVariables false
set_option linter.unusedSimpArgs false

def TD.fields : TD → List (Nat × Nat × Bool)
  | .struct fs => fs
  | _ => []

section
variable {P : Program} {T : TT} {ov : Operand → V} {o : Oper}

theorem field_of (hT : TOk P T) {t : TypeId} {i : TI} {f off size : Nat} {ag : Bool} (ht : T t = some i) (hf : i.d.fields[f]? = some (off, size, ag)) :
    ∃ (fs : Array Field) (fd : Field), P.underlying t = some (.struct fs) ∧ fs[f]? = some fd ∧ fd.offset = off ∧ P.cellsOf fd.type = size ∧ aggOf P fd.type = ag ∧ size ≠ 0 ∧ (∃ x, P.info? fd.type = some x ∧ x.size = size) ∧ (ag = false → size = 1) ∧ (P.underlying fd.type).isSome = true := by
  have hd := (hT t i ht).d
  cases hi : i.d <;> simp [hi, TD.fields] at hf
  rw [hi] at hd
  obtain ⟨fs, hu, hm, hall⟩ := hd
  rw [← hm] at hf
  simp only [List.getElem?_map, Array.getElem?_toList, Option.map_eq_some_iff] at hf
  obtain ⟨fd, hfd, he⟩ := hf
  cases he
  rw [List.all_eq_true] at hall
  have := hall fd (by simpa using Array.mem_of_getElem? hfd)
  simp only [Bool.and_eq_true, bne_iff_ne, ne_eq, Bool.or_eq_true, beq_iff_eq] at this
  obtain ⟨⟨h1, h2⟩, h3⟩ := this
  obtain ⟨x, hx⟩ : ∃ x, P.info? fd.type = some x := by
    cases hq : P.info? fd.type with
    | some x => exact ⟨x, rfl⟩
    | none => simp [Program.underlying, hq] at h1
  refine ⟨fs, fd, hu, hfd, rfl, rfl, rfl, h2, ⟨x, hx, ?_⟩, fun h => ?_, h1⟩
  · simp [Program.cellsOf, hx]
  · rcases h3 with h3 | h3
    · rw [h] at h3; cases h3
    · exact h3

theorem run_fieldAt (hT : TOk P T) {t : TypeId} {i : TI} {f off size : Nat} {ag : Bool} (ht : T t = some i) (hf : i.d.fields[f]? = some (off, size, ag)) (b p : Nat) (w : World) :
    (Instr.fieldAt t (.pointer (some ⟨b, p, none⟩)) f).run P w = .ok (.pointer (some ⟨b, p + off, none⟩)) w := by
  obtain ⟨fs, fd, hu, hfd, h1, h2, h3, h4, ⟨x, hx, hxs⟩, h5, _⟩ := field_of hT ht hf
  subst h1
  simp [Instr.fieldAt, run_underlying hu, hfd, Instr.sureAddr, fieldPlace, sizeOf, typeInfo, hx, hxs, h4, add_at]

theorem lok_fieldAddr (hT : TOk P T) {t : TypeId} {x : Operand} {i : TI} {f off size : Nat} {ag : Bool} {k sz ix p : Nat} (ho : o.op = .fieldAddr t x f) (ht : T t = some i) (hf : i.d.fields[f]? = some (off, size, ag)) (hx : ov x = .ptr k sz ix p) :
    LOk P ov o [] [] [] (.ptr k sz ix (p + off)) :=
  LOk.pure fun S ρ w a hr => by
    rw [ho] at hr
    have e1 := hr x (by simp [Op.operands])
    rw [hx] at e1
    generalize hc : a.eval x = cx at e1
    cases e1 with
    | ptr hk hwp => exact ⟨_, .ptr hk hwp, by simp [execOp, ho, hc, run_fieldAt hT ht hf, Nat.add_assoc]⟩

theorem lok_fieldAddrI (hT : TOk P T) {t : TypeId} {x : Operand} {i : TI} {f off size : Nat} {ag : Bool} {cs : List V} (ho : o.op = .fieldAddr t x f) (ht : T t = some i) (hf : i.d.fields[f]? = some (off, size, ag)) (hx : ov x = .ip cs) (hl : off ≤ cs.length) :
    LOk P ov o [] [] [] (.ip (cs.drop off)) :=
  LOk.pure fun S ρ w a hr => by
    rw [ho] at hr
    have e1 := hr x (by simp [Op.operands])
    rw [hx] at e1
    generalize hc : a.eval x = cx at e1
    cases e1 with
    | ip hS hw hfit hR =>
      rename_i b p c e fr
      refine ⟨.pointer (some ⟨b, p + off, none⟩), .ip hS hw (by simp; omega) (fun j u x h1 h2 => ?_), by simp [execOp, ho, hc, run_fieldAt hT ht hf]⟩
      rw [List.getElem?_drop] at h1
      exact hR (off + j) u x h1 (by rw [← Nat.add_assoc]; exact h2)

/-- part of an aggregate's cells -/
def ptV (off size : Nat) (ag : Bool) (cs : List V) : V := if ag then .agg ((cs.drop off).take size) else (cs.drop off).headD .any

theorem part_rep {S : Nat → Prop} {ρ : KM} {w : World} {t : TypeId} {x : TypeInfo} (hx : P.info? t = some x) (hu : (P.underlying t).isSome = true) {vs : Array Value} {cs : List V} (hl : vs.size = cs.length)
    (h : ∀ (i : Nat) (u : Value) (x : V), vs[i]? = some u → cs[i]? = some x → Rep S ρ w u x) {off : Nat} (hf : off + x.size ≤ cs.length) (h1 : aggOf P t = false → x.size = 1) :
    ∃ u, (part t vs off).run P w = .ok u w ∧ Rep S ρ w u (ptV off x.size (aggOf P t) cs) := by
  obtain ⟨d, hd⟩ := Option.isSome_iff_exists.1 hu
  have hag : (isAgg t).run P w = .ok (aggOf P t) w := by
    simp only [isAgg, Sem.run_bind, run_underlying hd, Result.andThen_ok, aggOf, hd]
    cases d <;> rfl
  unfold part ptV
  simp only [Sem.run_bind, hag, Result.andThen_ok]
  cases ha : aggOf P t with
  | true =>
    simp only [if_true]
    refine ⟨.agg (vs.extract off (off + x.size)), by simp [sizeOf, typeInfo, hx], .agg (by simp; omega) fun j u y a b => ?_⟩
    rw [Array.getElem?_extract] at a
    have hj : j < x.size := by
      rcases Nat.lt_or_ge j x.size with h' | h'
      · exact h'
      · rw [List.getElem?_eq_none (by simp; omega)] at b; cases b
    rw [List.getElem?_take_of_lt hj, List.getElem?_drop] at b
    split at a
    · exact h _ u y a b
    · cases a
  | false =>
    have hs := h1 ha
    have hlt : off < vs.size := by omega
    simp only [Bool.false_eq_true, if_false]
    refine ⟨vs[off], by simp [hlt], ?_⟩
    have hlt' : off < cs.length := by omega
    rw [List.headD_eq_head?_getD, List.head?_drop, List.getElem?_eq_getElem hlt']
    exact h off _ _ (by simp [hlt]) (by simp [hlt'])

theorem lok_field (hT : TOk P T) {t : TypeId} {x : Operand} {i : TI} {f off size : Nat} {ag : Bool} {cs : List V} (ho : o.op = .field t x f) (ht : T t = some i) (hf : i.d.fields[f]? = some (off, size, ag)) (hx : ov x = .agg cs) (hl : off + size ≤ cs.length) :
    LOk P ov o [] [] [] (ptV off size ag cs) :=
  LOk.pure fun S ρ w a hr => by
    rw [ho] at hr
    have e1 := hr x (by simp [Op.operands])
    rw [hx] at e1
    obtain ⟨fs, fd, hu, hfd, h1, h2, h3, h4, ⟨xi, hxi, hxs⟩, h5, hus⟩ := field_of hT ht hf
    generalize hc : a.eval x = cx at e1
    cases e1 with
    | agg hl' hR =>
      rename_i vs
      subst hxs; subst h3; subst h1
      obtain ⟨u, hu', hur⟩ := part_rep (S := S) (ρ := ρ) (w := w) hxi hus hl' hR hl h5
      exact ⟨u, hur, by simp [execOp, ho, hc, Instr.field, run_underlying hu, hfd, asAgg, hu']⟩


theorem run_indexAt_arr (hT : TOk P T) {t e n : Nat} {i ie : TI} (ht : T t = some i) (hd : i.d = .arr n e) (he : T e = some ie) (b p : Nat) (k : IntKind) (j : Int) (h0 : 0 ≤ j) (h1 : j < n) (w : World) :
    (Instr.indexAt t (.pointer (some ⟨b, p, none⟩)) (.int k j)).run P w = .ok (.pointer (some ⟨b, p + j.toNat * ie.size, none⟩)) w := by
  have hu := (hT t i ht).d
  rw [hd] at hu
  simp [Instr.indexAt, run_underlying hu, Instr.sureAddr, asIntOf, h0, h1, (hT e ie he).run_sizeOf, add_at]

theorem lok_idxArr (hT : TOk P T) {t e n : Nat} {x y : Operand} {i ie : TI} {k sz ix p : Nat} {q : IntKind} {j : Int} (ho : o.op = .indexAddr t x y) (ht : T t = some i) (hd : i.d = .arr n e) (he : T e = some ie) (hx : ov x = .ptr k sz ix p) (hy : ov y = .lit (.int q j)) (h0 : 0 ≤ j) (h1 : j < n) :
    LOk P ov o [] [] [] (.ptr k sz ix (p + j.toNat * ie.size)) :=
  LOk.pure fun S ρ w a hr => by
    rw [ho] at hr
    have e1 := hr x (by simp [Op.operands])
    have e2 := hr y (by simp [Op.operands])
    rw [hx] at e1; rw [hy] at e2
    have e2 := e2.lit_inv
    generalize hc : a.eval x = cx at e1
    cases e1 with
    | ptr hk hwp => exact ⟨_, .ptr hk hwp, by simp [execOp, ho, hc, e2, run_indexAt_arr hT ht hd he _ _ q j h0 h1, Nat.add_assoc]⟩

theorem lok_idxArrI (hT : TOk P T) {t e n : Nat} {x y : Operand} {i ie : TI} {cs : List V} {q : IntKind} {j : Int} (ho : o.op = .indexAddr t x y) (ht : T t = some i) (hd : i.d = .arr n e) (he : T e = some ie) (hx : ov x = .ip cs) (hy : ov y = .lit (.int q j)) (h0 : 0 ≤ j) (h1 : j < n) (hl : j.toNat * ie.size ≤ cs.length) :
    LOk P ov o [] [] [] (.ip (cs.drop (j.toNat * ie.size))) :=
  LOk.pure fun S ρ w a hr => by
    rw [ho] at hr
    have e1 := hr x (by simp [Op.operands])
    have e2 := hr y (by simp [Op.operands])
    rw [hx] at e1; rw [hy] at e2
    have e2 := e2.lit_inv
    generalize hc : a.eval x = cx at e1
    cases e1 with
    | ip hS hw hfit hR =>
      rename_i b p c e' fr
      refine ⟨.pointer (some ⟨b, p + j.toNat * ie.size, none⟩), .ip hS hw (by simp; omega) (fun j' u x h1 h2 => ?_), by simp [execOp, ho, hc, e2, run_indexAt_arr hT ht hd he _ _ q j h0 h1]⟩
      rw [List.getElem?_drop] at h1
      exact hR _ u x h1 (by rw [← Nat.add_assoc]; exact h2)

/-- a slice's places as they are, if they never change -/
def V.sl? : V → Option (List (List V))
  | .sl _ l => some l
  | .sls _ l _ _ => some l
  | .lit (.slice none 0 0) => some []
  | _ => none
def V.slz : V → Nat
  | .sl sz _ | .sls sz _ _ _ => sz
  | _ => 0
theorem rep_sl {S : Nat → Prop} {ρ : KM} {w : World} {u : Value} {x : V} {l : List (List V)} (h : Rep S ρ w u x) (hx : x.sl? = some l) : Rep S ρ w u (.sl x.slz l) := by
  unfold V.sl? at hx
  split at hx <;> cases hx
  · exact h
  · cases h; assumption
  · cases h; exact .sl0 (fun _ => rfl)

theorem run_indexAt_sl (hT : TOk P T) {t e : Nat} {i ie : TI} (ht : T t = some i) (hd : i.d = .slice e) (he : T e = some ie) (b p n cap : Nat) (k : IntKind) (j : Int) (h0 : 0 ≤ j) (h1 : j < n) (w : World) :
    (Instr.indexAt t (.slice (some ⟨b, p, none⟩) n cap) (.int k j)).run P w = .ok (.pointer (some ⟨b, p + j.toNat * ie.size, none⟩)) w := by
  have hu := (hT t i ht).d
  rw [hd] at hu
  simp [Instr.indexAt, run_underlying hu, Instr.sureAddr, asIntOf, h0, h1, (hT e ie he).run_sizeOf, add_at]

theorem lok_idxWin (hT : TOk P T) {t e : Nat} {x y : Operand} {i ie : TI} {k sz lo n cp : Nat} {q : IntKind} {j : Int} (ho : o.op = .indexAddr t x y) (ht : T t = some i) (hd : i.d = .slice e) (he : T e = some ie) (hz : ie.size = sz)
    (hx : ov x = .win k sz lo n cp) (hy : ov y = .lit (.int q j)) (h0 : 0 ≤ j) (h1 : j < n) : LOk P ov o [] [] [] (.ptr k sz (lo + j.toNat) 0) :=
  LOk.pure fun S ρ w a hr => by
    rw [ho] at hr
    have e1 := hr x (by simp [Op.operands])
    have e2 := hr y (by simp [Op.operands])
    rw [hx] at e1; rw [hy] at e2
    have e2 := e2.lit_inv
    generalize hc : a.eval x = cx at e1
    cases e1 with
    | win hk hw hn hcp hf hoff =>
      rename_i b off cap c t' fr
      have hoff' : off = lo * sz := by rcases hoff with h | h; · exact h
                                       · omega
      subst hoff'
      refine ⟨.pointer (some ⟨b, (lo + j.toNat) * sz + 0, none⟩), .ptr hk hw, ?_⟩
      simp [execOp, ho, hc, e2, run_indexAt_sl hT ht hd he _ _ _ _ q j h0 h1, hz, Nat.add_mul]
    | win0 => omega

theorem lok_idxSl (hT : TOk P T) {t e : Nat} {x y : Operand} {i ie : TI} {xv : V} {l : List (List V)} {r : List V} {q : IntKind} {j : Int} (ho : o.op = .indexAddr t x y) (ht : T t = some i) (hd : i.d = .slice e) (he : T e = some ie) (hx : ov x = xv) (hl : xv.sl? = some l) (hz : ie.size = xv.slz)
    (hy : ov y = .lit (.int q j)) (h0 : 0 ≤ j) (h1 : j < l.length) (hr : l[j.toNat]? = some r) : LOk P ov o [] [] [] (.ip r) :=
  LOk.pure fun S ρ w a hr' => by
    rw [ho] at hr'
    have e1 := hr' x (by simp [Op.operands])
    have e2 := hr' y (by simp [Op.operands])
    rw [hx] at e1; rw [hy] at e2
    have e2 := e2.lit_inv
    have e1 := rep_sl e1 hl
    rw [← hz] at e1
    generalize hc : a.eval x = cx at e1
    cases e1 with
    | sl0 => simp at h1; omega
    | sl hS hw hzz hcap hf hR =>
      rename_i b off cap c t' fr
      have hrl : r.length = ie.size := hzz r (List.mem_of_getElem? hr)
      have hj : j.toNat < l.length := by omega
      have h2 : (j.toNat + 1) * ie.size ≤ l.length * ie.size := Nat.mul_le_mul_right _ (by omega)
      rw [Nat.add_mul, Nat.one_mul] at h2
      exact ⟨.pointer (some ⟨b, off + j.toNat * ie.size, none⟩), .ip hS hw (by omega) (fun j' u x g1 g2 => hR j.toNat j' r u x hr g1 g2), by
        simp [execOp, ho, hc, e2, run_indexAt_sl hT ht hd he _ _ _ _ q j h0 h1]⟩

theorem lok_index (hT : TOk P T) {t e n : Nat} {x y : Operand} {i ie : TI} {cs : List V} {q : IntKind} {j : Int} (ho : o.op = .index t x y) (ht : T t = some i) (hd : i.d = .arr n e) (he : T e = some ie) (hx : ov x = .agg cs) (hy : ov y = .lit (.int q j)) (h0 : 0 ≤ j) (h1 : j < n) (hl : j.toNat * ie.size + ie.size ≤ cs.length) :
    LOk P ov o [] [] [] (ptV (j.toNat * ie.size) ie.size ie.agg cs) :=
  LOk.pure fun S ρ w a hr => by
    rw [ho] at hr
    have e1 := hr x (by simp [Op.operands])
    have e2 := hr y (by simp [Op.operands])
    rw [hx] at e1; rw [hy] at e2
    have e2 := e2.lit_inv
    generalize hc : a.eval x = cx at e1
    cases e1 with
    | agg hl' hR =>
      have hu := (hT t i ht).d
      rw [hd] at hu
      obtain ⟨xi, hxi, hxs, _⟩ := (hT e ie he).info
      have hag := (hT e ie he).agg
      obtain ⟨u, hu', hur⟩ := part_rep (P := P) (S := S) (ρ := ρ) (w := w) hxi (hT e ie he).some hl' hR (off := j.toNat * ie.size) (by rw [hxs]; exact hl) (fun h => by rw [hxs]; exact (hT e ie he).scal (hag ▸ h))
      rw [hxs, hag] at hur
      exact ⟨u, hur, by simp [execOp, ho, hc, e2, Instr.index, asIntOf, run_underlying hu, h0, h1, (hT e ie he).run_sizeOf, hu']⟩

theorem lok_indexStr (hT : TOk P T) {t : Nat} {x y : Operand} {i : TI} {s : ByteArray} {q : IntKind} {j : Int} {c : UInt8} (ho : o.op = .index t x y) (ht : T t = some i) (hd : i.d = .string) (hx : ov x = .lit (.string s)) (hy : ov y = .lit (.int q j)) (h0 : 0 ≤ j) (h1 : s.data.toList[j.toNat]? = some c) :
    LOk P ov o [] [] [] (.lit (.int .u8 c.toNat)) :=
  LOk.pure fun S ρ w a hr => by
    rw [ho] at hr
    have e1 := hr x (by simp [Op.operands])
    have e2 := hr y (by simp [Op.operands])
    rw [hx] at e1; rw [hy] at e2
    have e1 := e1.lit_inv
    have e2 := e2.lit_inv
    have hu := (hT t i ht).d
    rw [hd] at hu
    have hb : s[j.toNat]? = some c := by
      rw [← h1]
      cases s with | mk d =>
      rw [Array.getElem?_toList]
      by_cases h : j.toNat < d.size
      · rw [getElem?_pos (⟨d⟩ : ByteArray) j.toNat h, getElem?_pos d j.toNat h]; rfl
      · rw [getElem?_neg (⟨d⟩ : ByteArray) j.toNat h, getElem?_neg d j.toNat h]
    exact ⟨_, .lit rfl, by simp [execOp, ho, e1, e2, Instr.index, asIntOf, run_underlying hu, h0, hb]⟩

end
end Go.Proofs.Ytgaginflocpcfaa
