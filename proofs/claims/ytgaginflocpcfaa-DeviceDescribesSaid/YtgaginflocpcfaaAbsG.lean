/-
  The value-level machine: slicing, building, making; the builtins.
-/
import Derived.Test.YtgaginflocpcfaaAbsF
namespace Go.Proofs.Ytgaginflocpcfaa
open Go
set_option linter.unusedVariables false
set_option linter.unusedSimpArgs false

/-- a bound of a slice expression -/
def bndV (ov : Operand → V) (d : Nat) : Option Operand → Option Nat
  | none => some d
  | some x => match ov x with
    | .lit (.int _ n) => if 0 ≤ n then some n.toNat else none
    | _ => none

section
variable {P : Program} {T : TT} {ov : Operand → V} {o : Oper}

theorem run_sliceBound {k : IntKind} {n : Int} {y : Nat} {code : BoundsCode} {w : World} (h0 : 0 ≤ n) (h1 : n.toNat ≤ y) : (Instr.sliceBound (.int k n) y code).run P w = .ok n.toNat w := by
  have : n ≤ (y : Int) := by omega
  simp [Instr.sliceBound, asIntOf, h0, this]

theorem bnd_of {S : Nat → Prop} {ρ : KM} {w : World} {a : Act} {x : Operand} {d n : Nat} (hr : Rep S ρ w (a.eval x) (ov x)) (hb : bndV ov d (some x) = some n) : ∃ k q, a.eval x = .int k q ∧ 0 ≤ q ∧ q.toNat = n := by
  simp only [bndV] at hb
  split at hb
  · rename_i k q hq
    rw [hq] at hr
    split at hb
    · rename_i h0
      cases hb
      exact ⟨_, _, hr.lit_inv, h0, rfl⟩
    · cases hb
  · cases hb

/-- both bounds, and the third -/
theorem run_bounds {isS : Bool} {len cap : Nat} {lo hi mx : Option Operand} {a : Act} {S : Nat → Prop} {ρ : KM} {w : World} {l h m : Nat}
    (r1 : ∀ x, lo = some x → Rep S ρ w (a.eval x) (ov x)) (r2 : ∀ x, hi = some x → Rep S ρ w (a.eval x) (ov x)) (r3 : ∀ x, mx = some x → Rep S ρ w (a.eval x) (ov x))
    (hl : bndV ov 0 lo = some l) (hh : bndV ov len hi = some h) (hm : bndV ov cap mx = some m) (h1 : l ≤ h) (h2 : h ≤ m) (h3 : m ≤ cap) (hx : mx.isSome = true → hi.isSome = true) :
    (Instr.sliceBounds isS len cap (lo.map a.eval) (hi.map a.eval) (mx.map a.eval)).run P w = .ok (l, h, m) w := by
  cases mx with
  | none =>
    simp only [bndV, Option.some.injEq] at hm; subst hm
    cases hi with
    | none =>
      simp only [bndV, Option.some.injEq] at hh; subst hh
      cases lo with
      | none => simp only [bndV, Option.some.injEq] at hl; subst hl; simp [Instr.sliceBounds]
      | some x =>
        obtain ⟨k, q, e, q0, q1⟩ := bnd_of (r1 x rfl) hl
        simp only [Instr.sliceBounds, Option.map_some, Option.map_none, e, Sem.run_bind, Sem.run_pure, Result.andThen_ok]
        rw [run_sliceBound q0 (by omega), q1]; rfl
    | some y =>
      obtain ⟨k', q', e', q0', q1'⟩ := bnd_of (r2 y rfl) hh
      cases lo with
      | none =>
        simp only [bndV, Option.some.injEq] at hl; subst hl
        simp only [Instr.sliceBounds, Option.map_some, Option.map_none, e', Sem.run_bind, Sem.run_pure, Result.andThen_ok]
        rw [run_sliceBound q0' (by omega), q1']; rfl
      | some x =>
        obtain ⟨k, q, e, q0, q1⟩ := bnd_of (r1 x rfl) hl
        simp only [Instr.sliceBounds, Option.map_some, Option.map_none, e, e', Sem.run_bind, Sem.run_pure, Result.andThen_ok]
        rw [run_sliceBound q0' (by omega), q1']
        simp only [Result.andThen_ok]
        rw [run_sliceBound q0 (by omega), q1]; rfl
  | some z =>
    obtain ⟨k'', q'', e'', q0'', q1''⟩ := bnd_of (r3 z rfl) hm
    cases hi with
    | none => simp at hx
    | some y =>
      obtain ⟨k', q', e', q0', q1'⟩ := bnd_of (r2 y rfl) hh
      cases lo with
      | none =>
        simp only [bndV, Option.some.injEq] at hl; subst hl
        simp only [Instr.sliceBounds, Option.map_some, Option.map_none, e', e'', Sem.run_bind, Sem.run_pure, Result.andThen_ok]
        rw [run_sliceBound q0'' (by omega), q1'']
        simp only [Result.andThen_ok]
        rw [run_sliceBound q0' (by omega), q1']; rfl
      | some x =>
        obtain ⟨k, q, e, q0, q1⟩ := bnd_of (r1 x rfl) hl
        simp only [Instr.sliceBounds, Option.map_some, Option.map_none, e, e', e'', Sem.run_bind, Sem.run_pure, Result.andThen_ok]
        rw [run_sliceBound q0'' (by omega), q1'']
        simp only [Result.andThen_ok]
        rw [run_sliceBound q0' (by omega), q1']
        simp only [Result.andThen_ok]
        rw [run_sliceBound q0 (by omega), q1]; rfl

theorem lok_sliceStr (hT : TOk P T) {t : Nat} {x : Operand} {lo hi : Option Operand} {i : TI} {s : ByteArray} {l h : Nat} (ho : o.op = .slice t x lo hi none) (ht : T t = some i) (hd : i.d = .string) (hx : ov x = .lit (.string s))
    (hl : bndV ov 0 lo = some l) (hh : bndV ov s.size hi = some h) (h1 : l ≤ h) (h2 : h ≤ s.size) : LOk P ov o [] [] [] (.lit (.string (s.extract l h))) :=
  LOk.pure fun S ρ w a hr => by
    rw [ho] at hr
    have e1 := hr x (by simp [Op.operands])
    rw [hx] at e1
    have e1 := e1.lit_inv
    have hu := (hT t i ht).d
    rw [hd] at hu
    have hb := run_bounds (P := P) (isS := false) (len := s.size) (cap := s.size) (mx := none) (a := a) (S := S) (ρ := ρ) (w := w) (fun y hy => hr y (by simp [Op.operands, hy])) (fun y hy => hr y (by simp [Op.operands, hy])) (fun y hy => by cases hy)
      hl hh (m := s.size) rfl h1 h2 (Nat.le_refl _) (by simp)
    exact ⟨_, .lit rfl, by
      simp only [execOp, ho, e1, Instr.sliceAt, Sem.run_bind, run_underlying hu, Result.andThen_ok, Instr.slice, Option.map_none, Option.isSome_none, Bool.false_eq_true, if_false]
      simp only [Option.map_none] at hb
      simp only [Sem.run_bind, hb, Result.andThen_ok, Sem.run_pure]⟩

theorem rep_take {S : Nat → Prop} {ρ : KM} {w : World} {ad : Addr} {n cap sz l h m : Nat} {L : List (List V)} (hr : Rep S ρ w (.slice (some ad) n cap) (.sl sz L)) (h1 : l ≤ h) (h2 : h ≤ L.length) (h3 : h ≤ m) (h4 : m ≤ cap) :
    Rep S ρ w (.slice (some (if m = l then ad else ad.add (l * sz))) (h - l) (m - l)) (.sl sz ((L.take h).drop l)) := by
  have hlen : ((L.take h).drop l).length = h - l := by simp; omega
  cases hr with
  | sl0 =>
    have : h - l = 0 := by simp at h2; omega
    rw [this]
    simpa using Rep.sl0 (by simp)
  | sl hS hw hz hc hf hR =>
    rename_i b off c t fr
    rw [← hlen]
    by_cases hm : m = l
    · have : (L.take h).drop l = [] := List.length_eq_zero_iff.1 (by omega)
      rw [this]
      exact .sl0 (by simp)
    · rw [if_neg hm, add_at]
      have h2' : h * sz ≤ L.length * sz := Nat.mul_le_mul_right sz h2
      refine .sl hS hw (fun r hr => hz r (List.mem_of_mem_take (List.mem_of_mem_drop hr))) (by omega) (by rw [hlen, Nat.sub_mul]; have := Nat.mul_le_mul_right sz h1; omega) fun i j r u x g1 g2 g3 => ?_
      rw [List.getElem?_drop] at g1
      have hi : l + i < h := by
        rcases Nat.lt_or_ge (l + i) h with h' | h'
        · exact h'
        · rw [List.getElem?_eq_none (by simp; omega)] at g1; cases g1
      rw [List.getElem?_take_of_lt hi] at g1
      exact hR (l + i) j r u x g1 g2 (by rw [Nat.add_mul, ← Nat.add_assoc]; exact g3)

/-- some places of a slice that never changes -/
theorem lok_sliceSl (hT : TOk P T) {t e : Nat} {x : Operand} {lo hi : Option Operand} {i ie : TI} {xv : V} {L : List (List V)} {l h : Nat} (ho : o.op = .slice t x lo hi none) (ht : T t = some i) (hd : i.d = .slice e) (he : T e = some ie) (hx : ov x = xv) (hL : xv.sl? = some L) (hz : ie.size = xv.slz ∨ L = [])
    (hl : bndV ov 0 lo = some l) (hh : bndV ov L.length hi = some h) (h1 : l ≤ h) (h2 : h ≤ L.length) : LOk P ov o [] [] [] (.sl ie.size ((L.take h).drop l)) :=
  LOk.pure fun S ρ w a hr => by
    rw [ho] at hr
    have e1 := hr x (by simp [Op.operands])
    rw [hx] at e1
    have e1 := rep_sl e1 hL
    have hu := (hT t i ht).d
    rw [hd] at hu
    have q : ∃ ad cap, a.eval x = .slice ad L.length cap ∧ L.length ≤ cap := by
      generalize a.eval x = cx at e1
      cases e1 with
      | sl0 => exact ⟨_, _, rfl, by simp⟩
      | sl hS hw hz hc hf hR => exact ⟨_, _, rfl, hc⟩
    obtain ⟨ad, cap, hc, hcap⟩ := q
    rw [hc] at e1
    have hb := run_bounds (P := P) (isS := true) (len := L.length) (cap := cap) (mx := none) (a := a) (S := S) (ρ := ρ) (w := w) (fun y hy => hr y (by simp [Op.operands, hy])) (fun y hy => hr y (by simp [Op.operands, hy])) (fun y hy => by cases hy)
      hl hh (m := cap) rfl h1 (by omega) (Nat.le_refl _) (by simp)
    simp only [Option.map_none] at hb
    refine ⟨.slice (if cap = l then ad else ad.map (·.add (l * ie.size))) (h - l) (cap - l), ?_, ?_⟩
    · rcases hz with hz | hz
      · rw [hz]
        cases ad with
        | none =>
          generalize hL0 : L.length = n at *
          have : L = [] ∧ cap = 0 := by
            cases e1 with
            | sl0 ha => exact ⟨rfl, ha rfl⟩
          obtain ⟨this, hcap0⟩ := this
          subst this
          have : h - l = 0 := by simp at hL0; omega
          rw [this]
          simpa using Rep.sl0 (fun _ => by omega)
        | some ad =>
          have := rep_take e1 h1 h2 (m := cap) (by omega) (Nat.le_refl _)
          rw [show (if cap = l then some ad else (some ad).map (·.add (l * xv.slz))) = some (if cap = l then ad else ad.add (l * xv.slz)) from by split <;> rfl]
          exact this
      · subst hz
        have : h - l = 0 := by simp at h2; omega
        rw [this]
        rw [List.take_nil, List.drop_nil]
        refine Rep.sl0 (fun hn => ?_)
        have hl0 : l = 0 := by simp at h2; omega
        subst hl0
        cases ad with
        | some ad => by_cases hc0 : cap = 0 <;> simp [hc0] at hn
        | none =>
          generalize hv : Value.slice none ([] : List (List V)).length cap = v at e1
          cases e1 with
          | sl0 ha => cases hv; simpa using ha rfl
          | sl h1 h2 h3 h4 h5 h6 => cases hv
    · simp only [execOp, ho, hc, Instr.sliceAt, Sem.run_bind, run_underlying hu, Result.andThen_ok, Instr.slice, Option.map_none, hb, (hT e ie he).run_sizeOf, Sem.run_pure]

/-- some places of an object's -/
theorem lok_sliceWin (hT : TOk P T) {t e : Nat} {x : Operand} {lo hi : Option Operand} {i ie : TI} {k sz w0 n cp l h : Nat} (ho : o.op = .slice t x lo hi none) (ht : T t = some i) (hd : i.d = .slice e) (he : T e = some ie) (hx : ov x = .win k sz w0 n cp) (hz : ie.size = sz)
    (hl : bndV ov 0 lo = some l) (hh : bndV ov n hi = some h) (h1 : l ≤ h) (h2 : h ≤ cp) : LOk P ov o [] [] [] (.win k sz (w0 + l) (h - l) (cp - l)) :=
  LOk.pure fun S ρ w a hr => by
    rw [ho] at hr
    have e1 := hr x (by simp [Op.operands])
    rw [hx] at e1
    have hu := (hT t i ht).d
    rw [hd] at hu
    have q : ∃ (ad : Option Addr) (cap : Nat), a.eval x = .slice ad n cap ∧ cp ≤ cap ∧ Rep S ρ w (.slice (if cap = l then ad else ad.map (·.add (l * sz))) (h - l) (cap - l)) (.win k sz (w0 + l) (h - l) (cp - l)) := by
      generalize a.eval x = cx at e1
      cases e1 with
      | win hk hw hn hc hf hoff =>
        rename_i b off cap c t' fr
        refine ⟨_, _, rfl, hc, ?_⟩
        by_cases hm : cap = l
        · rw [if_pos hm]
          exact .win hk hw (by omega) (by omega) (by have := Nat.mul_le_mul_right sz (Nat.sub_le cap l); omega) (.inr (by omega))
        · rw [if_neg hm, Option.map_some, add_at]
          refine .win hk hw (by omega) (by omega) ?_ ?_
          · rw [Nat.sub_mul]
            have := Nat.mul_le_mul_right sz (show l ≤ cap by omega)
            omega
          · rcases hoff with h | h
            · left; rw [h, Nat.add_mul]
            · right; omega
      | win0 =>
        refine ⟨_, _, rfl, Nat.le_refl _, ?_⟩
        have : l = 0 := by omega
        subst this
        have : h = 0 := by omega
        subst this
        exact .win0
    obtain ⟨ad, cap, hc, hcap, hrep⟩ := q
    have hb := run_bounds (P := P) (isS := true) (len := n) (cap := cap) (mx := none) (a := a) (S := S) (ρ := ρ) (w := w) (fun y hy => hr y (by simp [Op.operands, hy])) (fun y hy => hr y (by simp [Op.operands, hy])) (fun y hy => by cases hy)
      hl hh (m := cap) rfl h1 (by omega) (Nat.le_refl _) (by simp)
    simp only [Option.map_none] at hb
    refine ⟨_, hrep, ?_⟩
    simp only [execOp, ho, hc, Instr.sliceAt, Sem.run_bind, run_underlying hu, Result.andThen_ok, Instr.slice, Option.map_none, hb, (hT e ie he).run_sizeOf, Sem.run_pure, hz]
    done

/-- 's[:n:n]' of one that never changes: nothing behind it -/
theorem lok_clip (hT : TOk P T) {t e : Nat} {x y z : Operand} {i ie : TI} {xv : V} {L : List (List V)} {h : Nat} (ho : o.op = .slice t x none (some y) (some z)) (ht : T t = some i) (hd : i.d = .slice e) (he : T e = some ie) (hx : ov x = xv) (hL : xv.sl? = some L)
    (hh : bndV ov L.length (some y) = some h) (hm : bndV ov L.length (some z) = some h) (h2 : h ≤ L.length) : LOk P ov o [] [] [] (.sls xv.slz (L.take h) false true) :=
  LOk.pure fun S ρ w a hr => by
    rw [ho] at hr
    have e0 := hr x (by simp [Op.operands])
    rw [hx] at e0
    have e1 := rep_sl e0 hL
    have hu := (hT t i ht).d
    rw [hd] at hu
    have q : ∃ ad cap, a.eval x = .slice ad L.length cap ∧ L.length ≤ cap := by
      generalize a.eval x = cx at e1
      cases e1 with
      | sl0 => exact ⟨_, _, rfl, by simp⟩
      | sl hS hw hz hc hf hR => exact ⟨_, _, rfl, hc⟩
    obtain ⟨ad, cap, hc, hcap⟩ := q
    rw [hc] at e1
    have hb := run_bounds (P := P) (isS := true) (len := L.length) (cap := cap) (lo := none) (a := a) (S := S) (ρ := ρ) (w := w) (fun y hy => by cases hy) (fun y hy => hr y (by simp [Op.operands, hy])) (fun y hy => hr y (by simp [Op.operands, hy]))
      (hi := some y) (mx := some z) (l := 0) (h := h) (m := h) rfl hh (by simpa [bndV] using hm) (Nat.zero_le _) (Nat.le_refl _) (by omega) (by simp)
    simp only [Option.map_none, Option.map_some] at hb
    refine ⟨.slice ad h h, .sls ?_ (fun h => by cases h) (fun _ => rfl), ?_⟩
    · cases ad with
      | none =>
        generalize hL0 : L.length = n at *
        have : L = [] := by
          cases e1 with
          | sl0 => rfl
        subst this
        have : h = 0 := by simp at hL0; omega
        subst this
        exact .sl0 (fun _ => rfl)
      | some ad =>
        have := rep_take e1 (Nat.zero_le h) h2 (Nat.le_refl _) (show h ≤ cap by omega)
        simp only [Nat.zero_mul, Nat.sub_zero, List.drop_zero, Addr.add_zero', ite_self] at this
        exact this
    · simp only [execOp, ho, hc, Instr.sliceAt, Sem.run_bind, run_underlying hu, Result.andThen_ok, Instr.slice, Option.map_none, Option.map_some, hb, (hT e ie he).run_sizeOf, Sem.run_pure, Nat.sub_zero, Nat.zero_mul]
      congr 2
      split
      · rfl
      · cases ad <;> simp [Addr.add_zero']

end
end Go.Proofs.Ytgaginflocpcfaa
