/-
  The value-level machine: len, min, max, texts and bytes, arrays out of slices.
-/
import Derived.Test.YtgaginflocpcfaaAbsJ
import Derived.Laws.BytesString
namespace Go.Proofs.Ytgaginflocpcfaa
open Go
set_option linter.unusedVariables false
set_option linter.unusedSimpArgs false

/-- how long -/
def V.len? : V → Option Nat
  | .lit (.string s) => some s.size
  | .win _ _ _ n _ => some n
  | x => x.sl?.map (·.length)

section
variable {P : Program} {T : TT} {ov : Operand → V} {o : Oper}

theorem lok_len (hT : TOk P T) {t : Nat} {x : Operand} {i : TI} {n : Nat} (ho : o.op = .call { callee := .builtin .len, args := #[x], argTypes := #[t] }) (ht : T t = some i) (hd : (i.d = .string ∧ ∃ s, ov x = .lit (.string s)) ∨ (∃ e, i.d = .slice e) ∧ ∀ s, ov x ≠ .lit (.string s)) (hx : (ov x).len? = some n) :
    LOk P ov o [] [] [] (.lit (.int .i64 n)) :=
  LOk.pure fun S ρ w a hr => by
    have hr := arg_reps ho hr
    have e1 := hr x (by simp)
    have hu := (hT t i ht).d
    refine ⟨_, .lit rfl, ?_⟩
    rcases hd with ⟨hd, s, hs⟩ | ⟨⟨e, hd⟩, hns⟩
    · rw [hd] at hu
      rw [hs] at e1 hx
      simp only [V.len?, Option.some.injEq] at hx
      subst hx
      have e1 := e1.lit_inv
      simp [execOp, ho, resolve, invoke, builtin, e1, Builtin.len_, run_underlying hu, goInt]
    · rw [hd] at hu
      have hl : ∃ ad cap, a.eval x = .slice ad n cap := by
        by_cases hw : ∃ k sz lo m cp, ov x = .win k sz lo m cp
        · obtain ⟨k, sz, lo, m, cp, hw⟩ := hw
          rw [hw] at e1 hx
          simp only [V.len?, Option.some.injEq] at hx
          subst hx
          generalize a.eval x = cx at e1
          cases e1 with
          | win h1 h2 h3 h4 h5 h6 => exact ⟨_, _, rfl⟩
          | win0 => exact ⟨_, _, rfl⟩
        · have hx' : (ov x).sl?.map (·.length) = some n := by
            revert hx
            generalize ov x = xv at *
            cases xv with
            | lit v => cases v <;> simp [V.len?] <;> first | exact absurd rfl (hns _) | skip
            | win k sz lo m cp => exact absurd ⟨_, _, _, _, _, rfl⟩ hw
            | _ => exact id
          simp only [Option.map_eq_some_iff] at hx'
          obtain ⟨L, hL, rfl⟩ := hx'
          have := rep_sl e1 hL
          generalize a.eval x = cx at this
          cases this with
          | sl0 => exact ⟨_, _, rfl⟩
          | sl h1 h2 h3 h4 h5 h6 => exact ⟨_, _, rfl⟩
      obtain ⟨ad, cap, hc⟩ := hl
      simp [execOp, ho, resolve, invoke, builtin, hc, Builtin.len_, run_underlying hu, goInt]

theorem lok_min {x y : Operand} {ts : Array TypeId} {k k' : IntKind} {m n : Int} (ho : o.op = .call { callee := .builtin .min, args := #[x, y], argTypes := ts }) (hx : ov x = .lit (.int k m)) (hy : ov y = .lit (.int k' n)) : LOk P ov o [] [] [] (.lit (.int k (min m n))) :=
  LOk.pure fun S ρ w a hr => by
    have hr := arg_reps ho hr
    have e1 := hr x (by simp)
    have e2 := hr y (by simp)
    rw [hx] at e1; rw [hy] at e2
    refine ⟨_, .lit rfl, ?_⟩
    have : (if n < m then n else m) = min m n := by split <;> omega
    simp [execOp, ho, resolve, invoke, builtin, e1.lit_inv, e2.lit_inv, Builtin.min_, Builtin.min2, this]

theorem lok_max {x y : Operand} {ts : Array TypeId} {k k' : IntKind} {m n : Int} (ho : o.op = .call { callee := .builtin .max, args := #[x, y], argTypes := ts }) (hx : ov x = .lit (.int k m)) (hy : ov y = .lit (.int k' n)) : LOk P ov o [] [] [] (.lit (.int k (max m n))) :=
  LOk.pure fun S ρ w a hr => by
    have hr := arg_reps ho hr
    have e1 := hr x (by simp)
    have e2 := hr y (by simp)
    rw [hx] at e1; rw [hy] at e2
    refine ⟨_, .lit rfl, ?_⟩
    have : (if n > m then n else m) = max m n := by split <;> omega
    simp [execOp, ho, resolve, invoke, builtin, e1.lit_inv, e2.lit_inv, Builtin.max_, Builtin.max2, this]

/-- bytes as rows -/
def byteRows (bs : List UInt8) : List (List V) := bs.map fun b => [u8V b]

theorem cells_bytes {S : Nat → Prop} {ρ : KM} {w : World} {cs : Array Value} {bs : List UInt8} (h : RowsAt S ρ w 1 (byteRows bs) cs) (hz : cs.size = bs.length) : cs = (bs.map fun b => Value.int .u8 b.toNat).toArray := by
  apply Array.ext_getElem?
  intro i
  simp only [List.getElem?_toArray, List.getElem?_map]
  cases hb : bs[i]? with
  | none =>
    have := List.getElem?_eq_none_iff.1 hb
    rw [Array.getElem?_eq_none (by omega)]; rfl
  | some b =>
    have hi := (List.getElem?_eq_some_iff.1 hb).1
    have hlt : i < cs.size := by omega
    have := h.2.2 i 0 [u8V b] cs[i] (u8V b) (by simp [byteRows, hb]) rfl (by simp [hlt])
    rw [Array.getElem?_eq_getElem hlt]
    simp only [u8V] at this
    rw [this.lit_inv]
    rfl

theorem foldl_push (bs : List UInt8) : ∀ s : ByteArray, (bs.map fun b => (b.toNat : Int)).foldl (fun (r : ByteArray) (n : Int) => r.push (UInt8.ofNat n.toNat)) s = ⟨s.data ++ bs.toArray⟩ := by
  induction bs with
  | nil => intro s; cases s; simp
  | cons b bs ih =>
    intro s
    simp only [List.map_cons, List.foldl_cons]
    rw [ih]
    cases s with | mk d =>
    simp [ByteArray.push]

def V.isSl : V → Bool
  | .sl _ _ | .sls _ _ _ _ | .win _ _ _ _ _ | .lit (.slice none 0 0) => true
  | _ => false
theorem rep_isSl {S : Nat → Prop} {ρ : KM} {w : World} {u : Value} {x : V} (h : Rep S ρ w u x) (hx : x.isSl = true) : ∃ ad l cap, u = .slice ad l cap := by
  cases h <;> first | exact ⟨_, _, _, rfl⟩ | cases hx | skip
  unfold V.isSl at hx
  split at hx <;> first | (rename_i e; cases e; exact ⟨_, _, _, rfl⟩) | cases hx | skip
  all_goals first | (rename_i e; cases e) | skip

/-- a text out of bytes -/
theorem lok_strOf (hT : TOk P T) {src dst e : Nat} {x : Operand} {i i' ie : TI} {rd : HL} {bs : List UInt8} (ho : o.op = .convert src dst x) (ht : T src = some i) (hd : i.d = .slice e) (he : T e = some ie) (hie : ie.d = .int .u8) (ht' : T dst = some i') (hd' : i'.d = .string)
    (hk : (ov x).isSl = true) (hsrc : Src P (ov x) 1 bs.length rd (byteRows bs)) : LOk P ov o rd [] [] (.lit (.string ⟨bs.toArray⟩)) :=
  LOk.read fun S ρ w a hr hs => by
    rw [ho] at hr
    have e1 := hr x (by simp [Op.operands])
    obtain ⟨g1, g2⟩ := hsrc S ρ w _ e1 hs
    obtain ⟨cs, q1, q2, q3⟩ := g2 bs.length (Nat.le_refl _)
    rw [List.take_of_length_le (by simp [byteRows])] at q2
    have hcs := cells_bytes q2 (by simpa using q3)
    have hu := (hT src i ht).d
    rw [hd] at hu
    have hue := (hT e ie he).d
    rw [hie] at hue
    have hu' := (hT dst i' ht').d
    rw [hd'] at hu'
    refine ⟨_, .lit rfl, ?_⟩
    cases hc : a.eval x with
    | slice ad l cap =>
      rw [hc] at g1 q1
      simp only [Builtin.lenOf, Sem.run_pure, Result.ok.injEq, and_true] at g1
      subst g1
      cases ad with
      | none =>
        simp only [Builtin.firstCells, Sem.run_pure, Result.ok.injEq, and_true] at q1
        have : bs = [] := by
          rw [hcs] at q1
          have := congrArg Array.size q1
          simpa using this.symm
        subst this
        simp [execOp, ho, hc, run_convert_bytes_string w src dst e none _ cap hu hue hu', Conv.bytesToString]
        rfl
      | some ad =>
        simp only [Builtin.firstCells, Nat.mul_one] at q1
        have h1 := run_bytesToString w ad bs.length cap (bs.map fun b => (b.toNat : Int)) (by rw [q1, hcs]; simp [List.map_map])
        rw [foldl_push, show ByteArray.empty.data ++ bs.toArray = bs.toArray from Array.empty_append] at h1
        simp only [execOp, ho, hc, Sem.run_bind, run_convert_bytes_string w src dst e (some ad) _ cap hu hue hu', h1, Result.andThen_ok, Sem.run_pure]
    | _ =>
      obtain ⟨ad, l, cap, hh⟩ := rep_isSl e1 hk
      rw [hc] at hh
      cases hh


/-- bytes out of a text -/
theorem lok_bytesOf (hT : TOk P T) {src dst e : Nat} {x : Operand} {i i' ie : TI} {s : ByteArray} (ho : o.op = .convert src dst x) (ht : T src = some i) (hd : i.d = .string) (ht' : T dst = some i') (hd' : i'.d = .slice e) (he : T e = some ie) (hie : ie.d = .int .u8) (hx : ov x = .lit (.string s)) :
    LOk P ov o [] [] [] (.sls 1 (byteRows s.data.toList) true false) := by
  intro S ρ w a hr hs hn next Q hK
  rw [ho] at hr
  have e1 := hr x (by simp [Op.operands])
  rw [hx] at e1
  have e1 := e1.lit_inv
  have hu := (hT src i ht).d
  rw [hd] at hu
  have hu' := (hT dst i' ht').d
  rw [hd'] at hu'
  have hue := (hT e ie he).d
  rw [hie] at hue
  have hq : ∀ q : Nat, (Question.appendCap s.size 0 e).cut q = s.size + q % (2 ^ 63 - s.size) := fun q => rfl
  let cap := s.size + w.tape w.drawn (.appendCap s.size 0 e) % (2 ^ 63 - s.size)
  let cs : Array Value := s.data.map (fun b => Value.int .u8 b.toNat) ++ Array.replicate (cap - s.size) (.int .u8 0)
  let w' : World := { w with heap := w.heap.push (.cells cs e (cs.size, cs.size + 1)), drawn := w.drawn + 1 }
  have hex : (execOp a.eval o).run P w = .ok (.value (.slice (some ⟨w.heap.size, 0, none⟩) s.size cap)) w' := by
    have hconv : (convert src dst (.string s)).run P w = (Conv.stringToBytes e s).run P w := by
      simp [convert, run_underlying hu, run_underlying hu', run_underlying hue]
    have hst : (Conv.stringToBytes e s).run P w = .ok (.slice (some ⟨w.heap.size, 0, none⟩) s.size cap) w' := by
      simp only [Conv.stringToBytes, Sem.run_bind, run_choose, Question.forced, Bool.false_eq_true, if_false, Result.andThen_ok, hq, newRow, run_newObj, Sem.run_pure, markStringish, run_shape]
      have hshape : ∀ (v : World) (c : Array Value), v.heap[w.heap.size]? = some (.cells c e) → v.shape? w.heap.size = some (e, c.size) := fun v c h => by simp [World.shape?, h]
      rw [hshape _ cs (by simp [cs, cap])]
      simp only [run_freeze, Result.andThen_ok]
      simp only [World.freeze, w', cap, cs]
      simp only [Nat.one_ne_zero, if_false]
      congr 2
      apply Array.ext_getElem?
      intro j
      simp only [Array.getElem?_modify, Array.getElem?_push]
      by_cases hj : j = w.heap.size
      · subst hj; simp
      · simp [hj, show ¬ w.heap.size = j from fun h => hj h.symm]
    simp [execOp, ho, e1, hconv, hst]
  simp only [Oper.wp, hex, Oper.upon]
  have hh : w'.heap = w.heap.push (.cells cs e (cs.size, cs.size + 1)) := rfl
  have hsz : s.data.size ≤ cs.size := by simp [cs]
  refine hK _ (fun b => S b ∨ b = w.heap.size) ρ w' ?_ (Sim.empty (fun b hb => ?_)) ?_
  · refine .sls ?_ (fun _ => rfl) (fun h => by cases h)
    have hlen : (byteRows s.data.toList).length = s.size := by simp only [byteRows, List.length_map, Array.length_toList]; rfl
    rw [← hlen]
    refine .sl (.inr rfl) (push_new hh) (fun r hr => ?_) (by rw [hlen]; exact Nat.le_add_right _ _) (by rw [hlen]; simp only [Nat.zero_add, Nat.mul_one]; exact hsz) fun i j r u x h1 h2 h3 => ?_
    · simp only [byteRows, List.mem_map] at hr
      obtain ⟨b, _, rfl⟩ := hr
      rfl
    · simp only [byteRows, List.getElem?_map, Option.map_eq_some_iff] at h1
      obtain ⟨b, hb, rfl⟩ := h1
      cases j with
      | zero =>
        simp only [List.getElem?_cons_zero, Option.some.injEq] at h2
        subst h2
        have hi := (List.getElem?_eq_some_iff.1 hb).1
        rw [Nat.zero_add, Nat.mul_one, Nat.add_zero] at h3
        simp only [cs] at h3
        rw [Array.getElem?_append_left (by simpa using hi), Array.getElem?_map] at h3
        rw [Array.getElem?_toList] at hb
        rw [hb] at h3
        simp only [Option.map_some, Option.some.injEq] at h3
        subst h3
        exact .lit rfl
      | succ j => simp at h2
  · rcases hb with hb | hb
    · have := hs.bnd b hb; rw [hh]; simp; omega
    · subst hb; rw [hh]; simp
  · exact { os := rfl, tape := rfl, output := rfl, size := by rw [hh]; simp
            block := fun b hb _ => push_old hh hb
            keeps := keeps_push hh
            more := fun _ h => .inl h
            only := fun b hb => by
              rcases hb with hb | hb
              · exact .inl hb
              · subst hb; exact .inr (.inl (Nat.le_refl _))
            live := fun b ⟨k, o, a, r⟩ => by cases a
            own := fun b ⟨k, o, a, _, r⟩ => by cases a
            keys := fun _ _ h => h
            dom := fun _ _ h => .inl h }

theorem lok_nilCheck {x : Operand} (ho : o.op = .nilCheck x) (hx : (∃ k sz i off, ov x = .ptr k sz i off) ∨ (∃ cs, ov x = .ip cs) ∨ ∃ f cs, ov x = .fn f cs) : LOk P ov o [] [] [] (ov x) :=
  LOk.pure fun S ρ w a hr => by
    rw [ho] at hr
    have e1 := hr x (by simp [Op.operands])
    refine ⟨_, e1, ?_⟩
    rcases hx with ⟨k, sz, i, off, hx⟩ | ⟨cs, hx⟩ | ⟨f, cs, hx⟩ <;> rw [hx] at e1 <;> generalize hc : a.eval x = cx at e1 <;> cases e1 <;> simp [execOp, ho, hc]

/-- an array's address out of a slice that never changes -/
theorem lok_arrayOf (hT : TOk P T) {t e n : Nat} {x : Operand} {i ie : TI} {L : List (List V)} (ho : o.op = .sliceToArrayPointer t x) (ht : T t = some i) (hd : i.d = .arr n e) (he : T e = some ie) (hL : (ov x).sl? = some L) (hz : (ov x).slz = 1) (h1 : ie.size = 1) (hn : n ≤ L.length) (hpos : 0 < n) :
    LOk P ov o [] [] [] (.ip (L.take n).flatten) :=
  LOk.pure fun S ρ w a hr => by
    rw [ho] at hr
    have e1 := hr x (by simp [Op.operands])
    have e1 := rep_sl e1 hL
    rw [hz] at e1
    have hu := (hT t i ht).d
    rw [hd] at hu
    generalize hc : a.eval x = cx at e1
    cases e1 with
    | sl0 => simp at hn; omega
    | sl hS hw hzz hcap hf hR =>
      rename_i b off cap c t' fr
      have flat : ∀ (M : List (List V)), (∀ r ∈ M, r.length = 1) → M.flatten.length = M.length ∧ ∀ (j : Nat) (x : V), M.flatten[j]? = some x → M[j]? = some [x] := by
        intro M
        induction M with
        | nil => intro _; exact ⟨rfl, fun j x h => by simp at h⟩
        | cons r M ih =>
          intro hM
          obtain ⟨g1, g2⟩ := ih (fun r hr => hM r (by simp [hr]))
          have hr := hM r (by simp)
          match r, hr with
          | [y], _ =>
            refine ⟨by simp [g1], fun j x h => ?_⟩
            cases j with
            | zero => simp at h; subst h; rfl
            | succ j => simp at h; simpa using g2 j x h
      obtain ⟨f1, f2⟩ := flat (L.take n) (fun r hr => hzz r (List.mem_of_mem_take hr))
      have f1' : (L.take n).flatten.length = n := by rw [f1]; simp; omega
      refine ⟨.pointer (some ⟨b, off, none⟩), .ip hS hw (by rw [f1']; omega) (fun j u x g1 g2 => ?_), ?_⟩
      · have := f2 j x g1
        have hj : j < n := by rw [← f1']; exact (List.getElem?_eq_some_iff.1 g1).1
        rw [List.getElem?_take_of_lt hj] at this
        exact hR j 0 [x] u x this rfl (by rw [Nat.mul_one, Nat.add_zero]; exact g2)
      · have : ¬ L.length < n := by omega
        simp [execOp, ho, hc, Instr.arrayAt, run_underlying hu, this]

end
end Go.Proofs.Ytgaginflocpcfaa
