/-
  The value-level machine over the model, part 5.
-/
import Derived.Test.YtbieiehfohldjaaQd
namespace Go.Proofs.Ytbieiehfohldjaa
open Go
set_option linter.unusedVariables false
set_option linter.unusedSimpArgs false

/-- the same cells, told by other rows -/
theorem view_sim {S : Nat → Prop} {ρ : KM} {w : World} {k b : Nat} {ob ob' : VObj} {c : Array Value} {t : TypeId} (hs : Sim S ρ w (hpo [(k, ob)])) (hk : ρ k = some b)
    (hw : w.heap[b]? = some (.cells c t (0, 0))) (hf : ob.frz = false) (hf' : ob'.frz = false) (hr : RowsAt S ρ w ob'.sz ob'.rows c) :
    Sim S ρ w (hpo [(k, ob')]) ∧ Ext S ρ w (hpo [(k, ob)]) S ρ w (hpo [(k, ob')]) := by
  have hnS : ¬ S b := (hs.frz (hpo_one_self k ob) hk).2 hf
  refine ⟨⟨fun k' o h => ?_, fun k1 k2 o o' b' a1 a2 a3 a4 => ?_, fun b' h => hs.bnd b' h⟩, ?_⟩
  · obtain ⟨rfl, rfl⟩ := hpo_one_inv h
    exact .inl ⟨b, c, t, hk, .inl hw, hr, fun h => (by rw [hf'] at h; cases h), fun _ => hnS⟩
  · obtain ⟨rfl, _⟩ := hpo_one_inv a1
    obtain ⟨rfl, _⟩ := hpo_one_inv a2
    rfl
  · exact { os := rfl, tape := rfl, output := rfl, size := Nat.le_refl _
            block := fun b' _ _ => rfl
            keeps := Keeps.refl w
            more := fun _ h => h
            only := fun _ h => .inl h
            live := fun b' ⟨k', o, a, r⟩ => by
              obtain ⟨rfl, _⟩ := hpo_one_inv a
              exact .inr ⟨k', ob, hpo_one_self _ _, r⟩
            own := fun b' ⟨k', o, a, _, r⟩ => by
              obtain ⟨rfl, _⟩ := hpo_one_inv a
              exact .inr ⟨k', ob, hpo_one_self _ _, hf, r⟩
            keys := fun _ _ h => h
            dom := fun _ _ h => .inl h }

section
variable {P : Program} {T : TT} {ov : Operand → V} {o : Oper} {nx : Nat} {H : GH} {K : Eff → V → Prop}

theorem lok_sliceArr (hT : TOk P T) {t e2 n k sz p : Nat} {x : Operand} {i i2 : TI} {ob : VObj} {row : List V} (ho : o.op = .slice t x none none none) (ht : T t = some i) (hd : i.d = .arr n e2)
    (he2 : T e2 = some i2) (hz2 : i2.size = 1) (hx : ov x = .ptr k sz 0 p) (hz : ob.sz = sz) (hfz : ob.frz = false) (hrow : ob.rows = [row]) (hl : p + n ≤ row.length) :
    LOk P ov o [] [(k, ob)] [(k, ⟨1, row.map fun c => [c], false⟩)] (.win k 1 p n n) := by
  intro S ρ w a hr hs hn next Q hK
  rw [ho] at hr
  have e1 := hr x (by simp [Op.operands])
  rw [hx] at e1
  have hu := (hT t i ht).d
  rw [hd] at hu
  generalize hcx : a.eval x = cx at e1
  cases e1 with
  | ptr hk hwp =>
    rename_i b c00 t00 fr00
    simp only [List.nil_append] at hs
    obtain ⟨c, e', hw, hR, _⟩ := hs.at (hpo_one_self k ob) hk hwp
    rw [hz, hrow] at hR
    have hrl : row.length = sz := hR.1 row (by simp)
    have hcs : sz ≤ c.size := by simpa using hR.2.1
    have hrows : RowsAt S ρ w 1 (row.map fun c => [c]) c := by
      refine ⟨fun r hr => ?_, by simp; omega, fun i' j r u x h1 h2 h3 => ?_⟩
      · obtain ⟨y, _, rfl⟩ := List.mem_map.1 hr
        rfl
      · rw [List.getElem?_map, Option.map_eq_some_iff] at h1
        obtain ⟨y, hy, rfl⟩ := h1
        have hj : j = 0 := by
          cases j with
          | zero => rfl
          | succ j => simp at h2
        subst hj
        simp only [List.getElem?_cons_zero, Option.some.injEq] at h2
        subst h2
        exact hR.2.2 0 i' row u y rfl hy (by simpa using h3)
    obtain ⟨q1, q2⟩ := view_sim (ob' := ⟨1, row.map fun c => [c], false⟩) hs hk hw hfz rfl hrows
    have hrun : (execOp a.eval o).run P w = .ok (.value (.slice (some ⟨b, p, none⟩) n n)) w := by
      simp only [execOp, ho, hcx, Instr.sliceAt, Instr.sureAddr, Instr.sliceBounds, Sem.run_bind, run_underlying hu, Result.andThen_ok, Sem.run_pure, Option.map_none, (hT e2 i2 he2).run_sizeOf, Nat.sub_zero, Nat.zero_mul, Addr.add_zero', ite_self, Nat.zero_add]
    simp only [Oper.wp, hrun, Oper.upon]
    exact hK _ S ρ w (.win hk hw (Nat.le_refl _) (Nat.le_refl _) (by omega) (.inl (by simp))) q1 q2

/-- a slice of a slice, or of a whole array -/
def sliceF (T : TT) (ov : Operand → V) (H : GH) (nx : Nat) (t : Nat) (x : V) (lo hi mx : Option Operand) (K : Eff → V → Prop) : Prop := match x with
  | .ptr k sz 0 p => match lo, hi, mx with
    | none, none, none => tiK T t fun i => match i.d with
      | .arr n e2 => tiK T e2 fun i2 => chkK (Nat.beq i2.size 1) <| H.getK k fun sy ob => chkK (Nat.beq ob.sz sz && !ob.frz && Nat.blt k nx) <| match ob.rows with
        | [row] => chkK (Nat.ble (p + n) row.length) <| fRs (row.map fun c => [c]) fun rows => K (.wr [] k ob ⟨1, rows, false⟩) (.win k 1 p n n)
        | _ => False
      | _ => False
    | _, _, _ => False
  | x => sliceE T ov t x lo hi mx K
theorem sliceF_sound (hT : TOk P T) {t : Nat} {x : Operand} {lo hi mx : Option Operand} (ho : o.op = .slice t x lo hi mx) (h : sliceF T ov H nx t (ov x) lo hi mx K) : Res P ov o nx H.hp K := by
  unfold sliceF at h
  split at h
  · rename_i k sz p hx
    split at h
    · obtain ⟨i, ht, h⟩ := tiK_sound h
      split at h
      · rename_i n e2 hd
        obtain ⟨i2, he2, h⟩ := tiK_sound h
        obtain ⟨hz2, h⟩ := chkK_sound h
        obtain ⟨sy, ob, hk, h⟩ := GH.getK_sound _ _ h
        obtain ⟨hc, h⟩ := chkK_sound h
        rw [Bool.and_eq_true, Bool.and_eq_true] at hc
        split at h
        · rename_i row hrow
          obtain ⟨hl, h⟩ := chkK_sound h
          have h := fRs_sound _ h
          have hl' := lok_sliceArr hT ho ht hd he2 (Nat.eq_of_beq_eq_true hz2) hx (Nat.eq_of_beq_eq_true hc.1.1) (by simpa using hc.1.2) hrow (Nat.le_of_ble_eq_true hl)
          exact ⟨.wr [] k ob _, _, ⟨hl', Sub.nil _, hk, Nat.le_of_ble_eq_true hc.2⟩, h⟩
        · exact h.elim
      · exact h.elim
    · exact h.elim
  · exact sliceE_sound hT ho h
/-- a slice of one-cell elements as an array's place -/
theorem lok_arrPtr (hT : TOk P T) {t e n : Nat} {x : Operand} {i : TI} {xv : V} {l : List (List V)} {cs : List V} (ho : o.op = .sliceToArrayPointer t x) (ht : T t = some i) (hd : i.d = .arr n e) (hx : ov x = xv) (hl : xv.sl? = some l) (hz : xv.slz = 1) (h0 : 0 < n) (hn : n ≤ l.length)
    (hc : cs.length = n) (hcs : ∀ (j : Nat) (v : V), cs[j]? = some v → l[j]? = some [v]) : LOk P ov o [] [] [] (.ip cs) :=
  LOk.pure fun S ρ w a hr' => by
    rw [ho] at hr'
    have e1 := hr' x (by simp [Op.operands])
    rw [hx] at e1
    have e1 := rep_sl e1 hl
    rw [hz] at e1
    have hu := (hT t i ht).d
    rw [hd] at hu
    generalize hcx : a.eval x = cx at e1
    cases e1 with
    | sl0 => simp at hn; omega
    | sl hS hw hzz hcap hf hR =>
      rename_i b off cap c t' fr
      refine ⟨.pointer (some ⟨b, off, none⟩), .ip hS hw (by omega) (fun j u x g1 g2 => ?_), ?_⟩
      · exact hR j 0 [x] u x (hcs j x g1) rfl (by simpa using g2)
      · have hnl : ¬ l.length < n := by omega
        simp only [execOp, ho, Instr.arrayAt, hcx, Sem.run_bind, run_underlying hu, Result.andThen_ok, hnl, if_false, Sem.run_pure]
def arrPtrE (T : TT) (t : Nat) (x : V) (K : Eff → V → Prop) : Prop := tiK T t fun i => match i.d with
  | .arr n e => optK x.sl? fun l => chkK (Nat.beq x.slz 1 && Nat.blt 0 n) <| n ≤ l.length ∧ ∃ cs : List V, (cs.length = n ∧ ∀ (j : Nat) (v : V), cs[j]? = some v → l[j]? = some [v]) ∧ K (.rd []) (.ip cs)
  | _ => False
theorem arrPtrE_sound (hT : TOk P T) {t : Nat} {x : Operand} (ho : o.op = .sliceToArrayPointer t x) (h : arrPtrE T t (ov x) K) : Res P ov o nx H.hp K := by
  obtain ⟨i, ht, h⟩ := tiK_sound h
  split at h
  · rename_i n e hd
    obtain ⟨l, hl, h⟩ := optK_sound h
    obtain ⟨hc, hn, cs, ⟨h1, h2⟩, h⟩ := chkK_sound h
    rw [Bool.and_eq_true] at hc
    exact res_rd (lok_arrPtr hT ho ht hd rfl hl (Nat.eq_of_beq_eq_true hc.1) (Nat.le_of_ble_eq_true hc.2) hn h1 h2) h
  · exact h.elim
end
end Go.Proofs.Ytbieiehfohldjaa
