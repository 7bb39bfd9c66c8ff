/-
  The value-level machine over the model, part 4.
-/
import Derived.Test.YtbieiehfohldjaaQc
import Derived.Laws.BytesString
namespace Go.Proofs.Ytbieiehfohldjaa
open Go
set_option linter.unusedVariables false
set_option linter.unusedSimpArgs false

/-- how long -/
def V.len? : V → Option Nat
  | .lit (.string s) => some s.size
  | .win _ _ _ n _ => some n
  | x => x.sl?.map (·.length)

section
variable {P : Program} {T : TT} {ov : Operand → V} {o : Oper}

theorem lok_len (hT : TOk P T) {t : Nat} {x : Operand} {i : TI} {n : Nat} (ho : o.op = .call { callee := .builtin .len, args := #[x], argTypes := #[t] }) (ht : T t = some i) (hd : (i.d = .string ∧ ∃ s, ov x = .lit (.string s)) ∨ (∃ e, i.d = .slice e) ∧ ∀ s, ov x ≠ .lit (.string s)) (hx : (ov x).len? = some n) :
    LOk P ov o [] [] [] (.lit (.int .i64 n)) :=
  LOk.pure fun S ρ w a hr => by
    have hr := arg_reps ho hr
    have e1 := hr x (by simp)
    have hu := (hT t i ht).d
    refine ⟨_, .lit rfl, ?_⟩
    rcases hd with ⟨hd, s, hs⟩ | ⟨⟨e, hd⟩, hns⟩
    · rw [hd] at hu
      rw [hs] at e1 hx
      simp only [V.len?, Option.some.injEq] at hx
      subst hx
      have e1 := e1.lit_inv
      simp [execOp, ho, resolve, invoke, builtin, e1, Builtin.len_, run_underlying hu, goInt]
    · rw [hd] at hu
      have hl : ∃ ad cap, a.eval x = .slice ad n cap := by
        by_cases hw : ∃ k sz lo m cp, ov x = .win k sz lo m cp
        · obtain ⟨k, sz, lo, m, cp, hw⟩ := hw
          rw [hw] at e1 hx
          simp only [V.len?, Option.some.injEq] at hx
          subst hx
          generalize a.eval x = cx at e1
          cases e1 with
          | win h1 h2 h3 h4 h5 h6 => exact ⟨_, _, rfl⟩
          | win0 => exact ⟨_, _, rfl⟩
        · have hx' : (ov x).sl?.map (·.length) = some n := by
            revert hx
            generalize ov x = xv at *
            cases xv with
            | lit v => cases v <;> simp [V.len?] <;> first | exact absurd rfl (hns _) | skip
            | win k sz lo m cp => exact absurd ⟨_, _, _, _, _, rfl⟩ hw
            | _ => exact id
          simp only [Option.map_eq_some_iff] at hx'
          obtain ⟨L, hL, rfl⟩ := hx'
          have := rep_sl e1 hL
          generalize a.eval x = cx at this
          cases this with
          | sl0 => exact ⟨_, _, rfl⟩
          | sl h1 h2 h3 h4 h5 h6 => exact ⟨_, _, rfl⟩
      obtain ⟨ad, cap, hc⟩ := hl
      simp [execOp, ho, resolve, invoke, builtin, hc, Builtin.len_, run_underlying hu, goInt]

theorem lok_min {x y : Operand} {ts : Array TypeId} {k k' : IntKind} {m n : Int} (ho : o.op = .call { callee := .builtin .min, args := #[x, y], argTypes := ts }) (hx : ov x = .lit (.int k m)) (hy : ov y = .lit (.int k' n)) : LOk P ov o [] [] [] (.lit (.int k (min m n))) :=
  LOk.pure fun S ρ w a hr => by
    have hr := arg_reps ho hr
    have e1 := hr x (by simp)
    have e2 := hr y (by simp)
    rw [hx] at e1; rw [hy] at e2
    refine ⟨_, .lit rfl, ?_⟩
    have : (if n < m then n else m) = min m n := by split <;> omega
    simp [execOp, ho, resolve, invoke, builtin, e1.lit_inv, e2.lit_inv, Builtin.min_, Builtin.min2, this]

theorem lok_max {x y : Operand} {ts : Array TypeId} {k k' : IntKind} {m n : Int} (ho : o.op = .call { callee := .builtin .max, args := #[x, y], argTypes := ts }) (hx : ov x = .lit (.int k m)) (hy : ov y = .lit (.int k' n)) : LOk P ov o [] [] [] (.lit (.int k (max m n))) :=
  LOk.pure fun S ρ w a hr => by
    have hr := arg_reps ho hr
    have e1 := hr x (by simp)
    have e2 := hr y (by simp)
    rw [hx] at e1; rw [hy] at e2
    refine ⟨_, .lit rfl, ?_⟩
    have : (if n > m then n else m) = max m n := by split <;> omega
    simp [execOp, ho, resolve, invoke, builtin, e1.lit_inv, e2.lit_inv, Builtin.max_, Builtin.max2, this]

/-- bytes as rows -/
def byteRows (bs : List UInt8) : List (List V) := bs.map fun b => [u8V b]

theorem cells_bytes {S : Nat → Prop} {ρ : KM} {w : World} {cs : Array Value} {bs : List UInt8} (h : RowsAt S ρ w 1 (byteRows bs) cs) (hz : cs.size = bs.length) : cs = (bs.map fun b => Value.int .u8 b.toNat).toArray := by
  apply Array.ext_getElem?
  intro i
  simp only [List.getElem?_toArray, List.getElem?_map]
  cases hb : bs[i]? with
  | none =>
    have := List.getElem?_eq_none_iff.1 hb
    rw [Array.getElem?_eq_none (by omega)]; rfl
  | some b =>
    have hi := (List.getElem?_eq_some_iff.1 hb).1
    have hlt : i < cs.size := by omega
    have := h.2.2 i 0 [u8V b] cs[i] (u8V b) (by simp [byteRows, hb]) rfl (by simp [hlt])
    rw [Array.getElem?_eq_getElem hlt]
    simp only [u8V] at this
    rw [this.lit_inv]
    rfl

theorem foldl_push (bs : List UInt8) : ∀ s : ByteArray, (bs.map fun b => (b.toNat : Int)).foldl (fun (r : ByteArray) (n : Int) => r.push (UInt8.ofNat n.toNat)) s = ⟨s.data ++ bs.toArray⟩ := by
  induction bs with
  | nil => intro s; cases s; simp
  | cons b bs ih =>
    intro s
    simp only [List.map_cons, List.foldl_cons]
    rw [ih]
    cases s with | mk d =>
    simp [ByteArray.push]

def V.isSl : V → Bool
  | .sl _ _ | .sls _ _ _ _ | .win _ _ _ _ _ | .lit (.slice none 0 0) => true
  | _ => false
theorem rep_isSl {S : Nat → Prop} {ρ : KM} {w : World} {u : Value} {x : V} (h : Rep S ρ w u x) (hx : x.isSl = true) : ∃ ad l cap, u = .slice ad l cap := by
  cases h <;> first | exact ⟨_, _, _, rfl⟩ | cases hx | skip
  unfold V.isSl at hx
  split at hx <;> first | (rename_i e; cases e; exact ⟨_, _, _, rfl⟩) | cases hx | skip
  all_goals first | (rename_i e; cases e) | skip

/-- a text out of bytes -/
theorem lok_strOf (hT : TOk P T) {src dst e : Nat} {x : Operand} {i i' ie : TI} {rd : HL} {bs : List UInt8} (ho : o.op = .convert src dst x) (ht : T src = some i) (hd : i.d = .slice e) (he : T e = some ie) (hie : ie.d = .int .u8) (ht' : T dst = some i') (hd' : i'.d = .string)
    (hk : (ov x).isSl = true) (hsrc : Src P (ov x) 1 bs.length rd (byteRows bs)) : LOk P ov o rd [] [] (.lit (.string ⟨bs.toArray⟩)) :=
  LOk.read fun S ρ w a hr hs => by
    rw [ho] at hr
    have e1 := hr x (by simp [Op.operands])
    obtain ⟨g1, g2⟩ := hsrc S ρ w _ e1 hs
    obtain ⟨cs, q1, q2, q3⟩ := g2 bs.length (Nat.le_refl _)
    rw [List.take_of_length_le (by simp [byteRows])] at q2
    have hcs := cells_bytes q2 (by simpa using q3)
    have hu := (hT src i ht).d
    rw [hd] at hu
    have hue := (hT e ie he).d
    rw [hie] at hue
    have hu' := (hT dst i' ht').d
    rw [hd'] at hu'
    refine ⟨_, .lit rfl, ?_⟩
    cases hc : a.eval x with
    | slice ad l cap =>
      rw [hc] at g1 q1
      simp only [Builtin.lenOf, Sem.run_pure, Result.ok.injEq, and_true] at g1
      subst g1
      cases ad with
      | none =>
        simp only [Builtin.firstCells, Sem.run_pure, Result.ok.injEq, and_true] at q1
        have : bs = [] := by
          rw [hcs] at q1
          have := congrArg Array.size q1
          simpa using this.symm
        subst this
        simp [execOp, ho, hc, run_convert_bytes_string w src dst e none _ cap hu hue hu', Conv.bytesToString]
        rfl
      | some ad =>
        simp only [Builtin.firstCells, Nat.mul_one] at q1
        have h1 := run_bytesToString w ad bs.length cap (bs.map fun b => (b.toNat : Int)) (by rw [q1, hcs]; simp [List.map_map])
        rw [foldl_push, show ByteArray.empty.data ++ bs.toArray = bs.toArray from Array.empty_append] at h1
        simp only [execOp, ho, hc, Sem.run_bind, run_convert_bytes_string w src dst e (some ad) _ cap hu hue hu', h1, Result.andThen_ok, Sem.run_pure]
    | _ =>
      obtain ⟨ad, l, cap, hh⟩ := rep_isSl e1 hk
      rw [hc] at hh
      cases hh


/-- bytes out of a text -/
theorem lok_bytesOf (hT : TOk P T) {src dst e : Nat} {x : Operand} {i i' ie : TI} {s : ByteArray} (ho : o.op = .convert src dst x) (ht : T src = some i) (hd : i.d = .string) (ht' : T dst = some i') (hd' : i'.d = .slice e) (he : T e = some ie) (hie : ie.d = .int .u8) (hx : ov x = .lit (.string s)) :
    LOk P ov o [] [] [] (.sls 1 (byteRows s.data.toList) true false) := by
  intro S ρ w a hr hs hn next Q hK
  rw [ho] at hr
  have e1 := hr x (by simp [Op.operands])
  rw [hx] at e1
  have e1 := e1.lit_inv
  have hu := (hT src i ht).d
  rw [hd] at hu
  have hu' := (hT dst i' ht').d
  rw [hd'] at hu'
  have hue := (hT e ie he).d
  rw [hie] at hue
  have hq : ∀ q : Nat, (Question.appendCap s.size 0 e).cut q = s.size + q % (2 ^ 63 - s.size) := fun q => rfl
  let cap := s.size + w.tape w.drawn (.appendCap s.size 0 e) % (2 ^ 63 - s.size)
  let cs : Array Value := s.data.map (fun b => Value.int .u8 b.toNat) ++ Array.replicate (cap - s.size) (.int .u8 0)
  let w' : World := { w with heap := w.heap.push (.cells cs e (cs.size, cs.size + 1)), drawn := w.drawn + 1 }
  have hex : (execOp a.eval o).run P w = .ok (.value (.slice (some ⟨w.heap.size, 0, none⟩) s.size cap)) w' := by
    have hconv : (convert src dst (.string s)).run P w = (Conv.stringToBytes e s).run P w := by
      simp [convert, run_underlying hu, run_underlying hu', run_underlying hue]
    have hst : (Conv.stringToBytes e s).run P w = .ok (.slice (some ⟨w.heap.size, 0, none⟩) s.size cap) w' := by
      simp only [Conv.stringToBytes, Sem.run_bind, run_choose, Question.forced, Bool.false_eq_true, if_false, Result.andThen_ok, hq, newRow, run_newObj, Sem.run_pure, markStringish, run_shape]
      have hshape : ∀ (v : World) (c : Array Value), v.heap[w.heap.size]? = some (.cells c e) → v.shape? w.heap.size = some (e, c.size) := fun v c h => by simp [World.shape?, h]
      rw [hshape _ cs (by simp [cs, cap])]
      simp only [run_freeze, Result.andThen_ok]
      simp only [World.freeze, w', cap, cs]
      simp only [Nat.one_ne_zero, if_false]
      congr 2
      apply Array.ext_getElem?
      intro j
      simp only [Array.getElem?_modify, Array.getElem?_push]
      by_cases hj : j = w.heap.size
      · subst hj; simp
      · simp [hj, show ¬ w.heap.size = j from fun h => hj h.symm]
    simp [execOp, ho, e1, hconv, hst]
  simp only [Oper.wp, hex, Oper.upon]
  have hh : w'.heap = w.heap.push (.cells cs e (cs.size, cs.size + 1)) := rfl
  have hsz : s.data.size ≤ cs.size := by simp [cs]
  refine hK _ (fun b => S b ∨ b = w.heap.size) ρ w' ?_ (Sim.empty (fun b hb => ?_)) ?_
  · refine .sls ?_ (fun _ => rfl) (fun h => by cases h)
    have hlen : (byteRows s.data.toList).length = s.size := by simp only [byteRows, List.length_map, Array.length_toList]; rfl
    rw [← hlen]
    refine .sl (.inr rfl) (push_new hh) (fun r hr => ?_) (by rw [hlen]; exact Nat.le_add_right _ _) (by rw [hlen]; simp only [Nat.zero_add, Nat.mul_one]; exact hsz) fun i j r u x h1 h2 h3 => ?_
    · simp only [byteRows, List.mem_map] at hr
      obtain ⟨b, _, rfl⟩ := hr
      rfl
    · simp only [byteRows, List.getElem?_map, Option.map_eq_some_iff] at h1
      obtain ⟨b, hb, rfl⟩ := h1
      cases j with
      | zero =>
        simp only [List.getElem?_cons_zero, Option.some.injEq] at h2
        subst h2
        have hi := (List.getElem?_eq_some_iff.1 hb).1
        rw [Nat.zero_add, Nat.mul_one, Nat.add_zero] at h3
        simp only [cs] at h3
        rw [Array.getElem?_append_left (by simpa using hi), Array.getElem?_map] at h3
        rw [Array.getElem?_toList] at hb
        rw [hb] at h3
        simp only [Option.map_some, Option.some.injEq] at h3
        subst h3
        exact .lit rfl
      | succ j => simp at h2
  · rcases hb with hb | hb
    · have := hs.bnd b hb; rw [hh]; simp; omega
    · subst hb; rw [hh]; simp
  · exact { os := rfl, tape := rfl, output := rfl, size := by rw [hh]; simp
            block := fun b hb _ => push_old hh hb
            keeps := keeps_push hh
            more := fun _ h => .inl h
            only := fun b hb => by
              rcases hb with hb | hb
              · exact .inl hb
              · subst hb; exact .inr (.inl (Nat.le_refl _))
            live := fun b ⟨k, o, a, r⟩ => by cases a
            own := fun b ⟨k, o, a, _, r⟩ => by cases a
            keys := fun _ _ h => h
            dom := fun _ _ h => .inl h }

theorem lok_nilCheck {x : Operand} (ho : o.op = .nilCheck x) (hx : (∃ k sz i off, ov x = .ptr k sz i off) ∨ (∃ cs, ov x = .ip cs) ∨ ∃ f cs, ov x = .fn f cs) : LOk P ov o [] [] [] (ov x) :=
  LOk.pure fun S ρ w a hr => by
    rw [ho] at hr
    have e1 := hr x (by simp [Op.operands])
    refine ⟨_, e1, ?_⟩
    rcases hx with ⟨k, sz, i, off, hx⟩ | ⟨cs, hx⟩ | ⟨f, cs, hx⟩ <;> rw [hx] at e1 <;> generalize hc : a.eval x = cx at e1 <;> cases e1 <;> simp [execOp, ho, hc]

/-- an array's address out of a slice that never changes -/
theorem lok_arrayOf (hT : TOk P T) {t e n : Nat} {x : Operand} {i ie : TI} {L : List (List V)} (ho : o.op = .sliceToArrayPointer t x) (ht : T t = some i) (hd : i.d = .arr n e) (he : T e = some ie) (hL : (ov x).sl? = some L) (hz : (ov x).slz = 1) (h1 : ie.size = 1) (hn : n ≤ L.length) (hpos : 0 < n) :
    LOk P ov o [] [] [] (.ip (L.take n).flatten) :=
  LOk.pure fun S ρ w a hr => by
    rw [ho] at hr
    have e1 := hr x (by simp [Op.operands])
    have e1 := rep_sl e1 hL
    rw [hz] at e1
    have hu := (hT t i ht).d
    rw [hd] at hu
    generalize hc : a.eval x = cx at e1
    cases e1 with
    | sl0 => simp at hn; omega
    | sl hS hw hzz hcap hf hR =>
      rename_i b off cap c t' fr
      have flat : ∀ (M : List (List V)), (∀ r ∈ M, r.length = 1) → M.flatten.length = M.length ∧ ∀ (j : Nat) (x : V), M.flatten[j]? = some x → M[j]? = some [x] := by
        intro M
        induction M with
        | nil => intro _; exact ⟨rfl, fun j x h => by simp at h⟩
        | cons r M ih =>
          intro hM
          obtain ⟨g1, g2⟩ := ih (fun r hr => hM r (by simp [hr]))
          have hr := hM r (by simp)
          match r, hr with
          | [y], _ =>
            refine ⟨by simp [g1], fun j x h => ?_⟩
            cases j with
            | zero => simp at h; subst h; rfl
            | succ j => simp at h; simpa using g2 j x h
      obtain ⟨f1, f2⟩ := flat (L.take n) (fun r hr => hzz r (List.mem_of_mem_take hr))
      have f1' : (L.take n).flatten.length = n := by rw [f1]; simp; omega
      refine ⟨.pointer (some ⟨b, off, none⟩), .ip hS hw (by rw [f1']; omega) (fun j u x g1 g2 => ?_), ?_⟩
      · have := f2 j x g1
        have hj : j < n := by rw [← f1']; exact (List.getElem?_eq_some_iff.1 g1).1
        rw [List.getElem?_take_of_lt hj] at this
        exact hR j 0 [x] u x this rfl (by rw [Nat.mul_one, Nat.add_zero]; exact g2)
      · have : ¬ L.length < n := by omega
        simp [execOp, ho, hc, Instr.arrayAt, run_underlying hu, this]

end
end Go.Proofs.Ytbieiehfohldjaa
namespace Go.Proofs.Ytbieiehfohldjaa
open Go
set_option linter.unusedVariables false
set_option linter.unusedSimpArgs false

section
variable {P : Program} {T : TT} {ov : Operand → V} {o : Oper}

theorem lok_capNil (hT : TOk P T) {t e : Nat} {x : Operand} {i : TI} (ho : o.op = .call { callee := .builtin .cap, args := #[x], argTypes := #[t] }) (ht : T t = some i) (hd : i.d = .slice e) (hx : ov x = .lit (.slice none 0 0)) :
    LOk P ov o [] [] [] (.lit (.int .i64 0)) :=
  LOk.pure fun S ρ w a hr => by
    have hr := arg_reps ho hr
    have e1 := hr x (by simp)
    have hu := (hT t i ht).d
    rw [hd] at hu
    rw [hx] at e1
    have e1 := e1.lit_inv
    refine ⟨_, .lit rfl, ?_⟩
    simp [execOp, ho, resolve, invoke, builtin, e1, Builtin.cap_, run_underlying hu, goInt]

/-- a part of nil is nil -/
theorem lok_sliceNil (hT : TOk P T) {t e : Nat} {x : Operand} {lo hi : Option Operand} {i ie : TI} {l h : Nat} (ho : o.op = .slice t x lo hi none) (ht : T t = some i) (hd : i.d = .slice e) (he : T e = some ie) (hx : ov x = .lit (.slice none 0 0))
    (hl : bndV ov 0 lo = some l) (hh : bndV ov 0 hi = some h) (h1 : l ≤ h) (h2 : h ≤ 0) : LOk P ov o [] [] [] (.lit (.slice none 0 0)) :=
  LOk.pure fun S ρ w a hr => by
    rw [ho] at hr
    have e1 := hr x (by simp [Op.operands])
    rw [hx] at e1
    have hc := e1.lit_inv
    have hu := (hT t i ht).d
    rw [hd] at hu
    have hs := (hT e ie he).run_sizeOf w
    obtain rfl : h = 0 := by omega
    obtain rfl : l = 0 := by omega
    have hb := run_bounds (P := P) (isS := true) (len := 0) (cap := 0) (mx := none) (a := a) (S := S) (ρ := ρ) (w := w) (fun y hy => hr y (by simp [Op.operands, hy])) (fun y hy => hr y (by simp [Op.operands, hy])) (fun y hy => by cases hy)
      hl hh (m := 0) rfl h1 (by omega) (Nat.le_refl _) (by simp)
    simp only [Option.map_none] at hb
    refine ⟨.slice none 0 0, .lit rfl, ?_⟩
    simp [execOp, ho, hc, Instr.sliceAt, Instr.slice, run_underlying hu, hs, hb]

/-- as many zeros behind nil: a row of one's own, of which nothing is told but how many it has -/
theorem lok_appendZ (hT : TOk P T) {t e t2 : Nat} {x y : Operand} {i ie i2 : TI} {κ : Nat} {n : Int} (ho : o.op = .call { callee := .builtin .append, args := #[x, y], argTypes := #[t, t2] }) (ht : T t = some i) (hd : i.d = .slice e) (he : T e = some ie) (hb : ie.bytes ≠ 0)
    (ht2 : T t2 = some i2) (hi2 : i2.d = .int .i64) (hx : ov x = .lit (.slice none 0 0)) (hy : ov y = .lit (.int .i64 n)) (h0 : 0 < n) (hg : n * ie.bytes ≤ 2 ^ 48) : LOk P ov o [] [] [(κ, ⟨ie.size, [], false⟩)] (.win κ ie.size 0 n.toNat n.toNat) :=
  LOk.new rfl fun S ρ w a hr hs => by
    have hr := arg_reps ho hr
    have e1 := hr x (by simp)
    have e2 := hr y (by simp)
    rw [hx] at e1; rw [hy] at e2
    have e1 := e1.lit_inv
    have e2 := e2.lit_inv
    have hu := (hT t i ht).d
    rw [hd] at hu
    have hu2 := (hT t2 i2 ht2).d
    rw [hi2] at hu2
    obtain ⟨m, rfl⟩ := Int.eq_ofNat_of_zero_le (Int.le_of_lt h0)
    have hb1 : 1 ≤ ie.bytes := by omega
    have hm48 : (m : Int) ≤ 2 ^ 48 := by
      have : m * 1 ≤ m * ie.bytes := Nat.mul_le_mul_left m hb1
      have h' : ((m * ie.bytes : Nat) : Int) ≤ 2 ^ 48 := by rw [Int.natCast_mul]; exact hg
      omega
    have wn := wrap_small (show (0 : Int) ≤ (m : Int) by omega) hm48
    obtain ⟨ti, hti, hbb, hsz⟩ := (hT e ie he).run_typeInfo w
    obtain ⟨ti', hti', hbb', hsz'⟩ := (hT e ie he).run_typeInfo w.drew
    obtain ⟨z, hz, hz'⟩ := (hT e ie he).run_zero w.drew
    have hszr := (hT e ie he).run_sizeOf w
    have hzs : z.cells.size = ie.size := by rw [← (hT e ie he).zlen, ← zAll_len _ _ hz']; simp
    have hq : ∀ q : Nat, (Question.appendCap m 0 e).cut q = m + q % (2 ^ 63 - m) := fun q => rfl
    have hpos := (hT e ie he).pos
    have c0 : ¬ ((m : Int) < 0) := by omega
    have c1 : ¬ ((m : Int) * (ie.bytes : Int) > 2 ^ 48) := by omega
    have c2 : ¬ (m ≤ 0) := by omega
    have c3 : ¬ (((m : Nat) : Int) > IntKind.i64.max) := by simp [IntKind.max, IntKind.signed, IntKind.bits]; omega
    have c4 : Builtin.nextslicecap m 0 = m := by unfold Builtin.nextslicecap; rw [if_pos (by omega)]
    have c5 : ¬ (m * ie.bytes > 2 ^ 48) := by
      have : ((m * ie.bytes : Nat) : Int) ≤ 2 ^ 48 := by rw [Int.natCast_mul]; exact hg
      omega
    have c6 : ¬ (m * ie.size = 0) := by
      intro h
      rcases Nat.mul_eq_zero.1 h with h | h
      · omega
      · exact hpos h
    generalize hcp : m + w.tape w.drawn (.appendCap m 0 e) % (2 ^ 63 - m) = c
    have hcm : m ≤ c := by omega
    refine ⟨w.drew.alloc (.cells (#[] ++ Builtin.zeroCells z.cells m ++ Builtin.zeroCells z.cells (c - m)) e), _, e, .slice (some ⟨w.heap.size, 0, none⟩) m c, ?_, rfl, rfl, rfl, rfl, ⟨fun r h => by simp at h, by simp, fun i j r u x h => by simp at h⟩, fun ρ' h => ?_⟩
    · simp only [execOp, ho, resolve, invoke, builtin, List.map_toArray, List.map_cons, List.map_nil, e1, e2, Builtin.append_, List.getElem?_toArray, List.getElem?_cons_zero, List.getElem?_cons_succ, Sem.run_bind, run_underlying hu, run_underlying hu2, Result.andThen_ok, hszr, Sem.run_pure, if_true, asInt, asIntOf, wn, c0, if_false, hti, hbb, c1, Int.toNat_natCast, Nat.zero_add, c2, c3, false_and, c4, c5, run_choose, Question.forced, hq, World.drew_eq, hcp, run_askRoom, hti', hbb', Builtin.firstCells, c6, hz, newRow, run_newObj, World.alloc_eq, hsz, hsz', Bool.not_true, Bool.false_eq_true]
      rfl
    · rw [Int.toNat_natCast]
      refine .win h (show (w.drew.alloc _).heap[w.heap.size]? = _ from push_new rfl) (Nat.le_refl _) hcm ?_ (.inl (by simp))
      have hs2 : c * ie.size = m * ie.size + (c - m) * ie.size := by rw [← Nat.add_mul]; congr 1; omega
      simp only [Array.size_append, Builtin.zeroCells, Array.size_map, Array.size_range, hzs, Nat.zero_add]
      rw [hs2]
      simp
end
end Go.Proofs.Ytbieiehfohldjaa
namespace Go.Proofs.Ytbieiehfohldjaa
open Go
set_option linter.unusedVariables false
set_option linter.unusedSimpArgs false

def flatE (l : List MapEntry) : List Value := l.flatMap fun e => [e.key, e.val]
theorem flatE_get : ∀ (l : List MapEntry) (i : Nat), (flatE l)[2 * i]? = (l[i]?).map (·.key) ∧ (flatE l)[2 * i + 1]? = (l[i]?).map (·.val)
  | [], i => by simp [flatE]
  | e :: l, 0 => by simp [flatE]
  | e :: l, i + 1 => by
    have h := flatE_get l i
    have e1 : flatE (e :: l) = e.key :: e.val :: flatE l := rfl
    rw [e1, show 2 * (i + 1) = 2 * i + 1 + 1 by omega]
    simp only [List.getElem?_cons_succ]
    exact h
theorem flatE_len (l : List MapEntry) : (flatE l).length = 2 * l.length := by
  induction l with
  | nil => rfl
  | cons e l ih => rw [show flatE (e :: l) = e.key :: e.val :: flatE l from rfl]; simp [ih]; omega
theorem mapCells_eq (es : Array MapEntry) : mapCells es = (Value.int .i64 (es.size : Int) :: Value.bool false :: flatE es.toList).toArray := rfl
theorem mapCells_key (es : Array MapEntry) (i : Nat) : (mapCells es)[(i + 1) * 2]? = (es[i]?).map (·.key) := by
  rw [mapCells_eq, List.getElem?_toArray, show (i + 1) * 2 = 2 * i + 1 + 1 by omega, List.getElem?_cons_succ, List.getElem?_cons_succ, (flatE_get _ i).1, Array.getElem?_toList]
theorem mapCells_val (es : Array MapEntry) (i : Nat) : (mapCells es)[(i + 1) * 2 + 1]? = (es[i]?).map (·.val) := by
  rw [mapCells_eq, List.getElem?_toArray, show (i + 1) * 2 + 1 = 2 * i + 1 + 1 + 1 by omega, List.getElem?_cons_succ, List.getElem?_cons_succ, (flatE_get _ i).2, Array.getElem?_toList]
theorem mapCells_size (es : Array MapEntry) : (mapCells es).size = 2 * es.size + 2 := by
  rw [mapCells_eq]; simp [flatE_len]

/-- what a map holds is told by rows -/
def MapAt (S : Nat → Prop) (ρ : KM) (w : World) (ents : List (List V)) (es : Array MapEntry) : Prop :=
  es.size = ents.length ∧ ∀ (i : Nat) (e : MapEntry) (r : List V), es[i]? = some e → ents[i]? = some r → ∃ x y, r = [x, y] ∧ Rep S ρ w e.key x ∧ Rep S ρ w e.val y
theorem mapAt_of {S : Nat → Prop} {ρ : KM} {w : World} {ents : List (List V)} {es : Array MapEntry} (h : RowsAt S ρ w 2 (mpRows ents) (mapCells es)) : MapAt S ρ w ents es := by
  obtain ⟨h1, h2, h3⟩ := h
  have e0 := (h3 0 0 _ (.int .i64 (es.size : Int)) _ rfl rfl (by rw [mapCells_eq]; rfl)).lit_inv
  have hs : es.size = ents.length := by simp at e0; omega
  refine ⟨hs, fun i e r g1 g2 => ?_⟩
  have hl : r.length = 2 := h1 r (by simp [mpRows]; exact .inr (List.mem_of_getElem? g2))
  match r, hl with
  | [x, y], _ =>
    refine ⟨x, y, rfl, ?_, ?_⟩
    · exact h3 (i + 1) 0 [x, y] _ x (by simpa [mpRows] using g2) rfl (by rw [Nat.add_zero, mapCells_key, g1]; rfl)
    · exact h3 (i + 1) 1 [x, y] _ y (by simpa [mpRows] using g2) rfl (by rw [mapCells_val, g1]; rfl)
theorem rows_of_mapAt {S : Nat → Prop} {ρ : KM} {w : World} {ents : List (List V)} {es : Array MapEntry} (h : MapAt S ρ w ents es) (h2 : ∀ r ∈ ents, r.length = 2) : RowsAt S ρ w 2 (mpRows ents) (mapCells es) := by
  refine ⟨fun r hr => ?_, by rw [mapCells_size, h.1]; simp [mpRows]; omega, fun i j r u x g1 g2 g3 => ?_⟩
  · simp only [mpRows, List.mem_cons] at hr
    rcases hr with rfl | hr
    · rfl
    · exact h2 r hr
  · cases i with
    | zero =>
      simp only [mpRows, List.getElem?_cons_zero, Option.some.injEq] at g1
      subst g1
      match j, g2 with
      | 0, g2 =>
        simp only [List.getElem?_cons_zero, Option.some.injEq] at g2
        subst g2
        rw [mapCells_eq] at g3
        simp at g3
        subst g3
        rw [h.1]
        exact .lit rfl
      | 1, g2 =>
        simp at g2
        subst g2
        exact .any
    | succ i =>
      simp only [mpRows, List.getElem?_cons_succ] at g1
      have hi : i < es.size := by rw [h.1]; exact (List.getElem?_eq_some_iff.1 g1).1
      obtain ⟨a, b, rfl, ha, hb⟩ := h.2 i es[i] r (Array.getElem?_eq_getElem hi) g1
      match j, g2 with
      | 0, g2 =>
        simp only [List.getElem?_cons_zero, Option.some.injEq] at g2
        subst g2
        rw [Nat.add_zero, mapCells_key, Array.getElem?_eq_getElem hi] at g3
        cases g3
        exact ha
      | 1, g2 =>
        simp only [List.getElem?_cons_succ, List.getElem?_cons_zero, Option.some.injEq] at g2
        subst g2
        rw [mapCells_val, Array.getElem?_eq_getElem hi] at g3
        cases g3
        exact hb


/-- the same, entry by entry -/
inductive MapL (S : Nat → Prop) (ρ : KM) (w : World) : List (List V) → List MapEntry → Prop
  | nil : MapL S ρ w [] []
  | cons {x y : V} {e : MapEntry} {l es} (hx : Rep S ρ w e.key x) (hy : Rep S ρ w e.val y) (t : MapL S ρ w l es) : MapL S ρ w ([x, y] :: l) (e :: es)
theorem mapL_of_at {S : Nat → Prop} {ρ : KM} {w : World} : ∀ {ents : List (List V)} {es : List MapEntry}, es.length = ents.length →
    (∀ (i : Nat) (e : MapEntry) (r : List V), es[i]? = some e → ents[i]? = some r → ∃ x y, r = [x, y] ∧ Rep S ρ w e.key x ∧ Rep S ρ w e.val y) → MapL S ρ w ents es
  | [], [], _, _ => .nil
  | [], _ :: _, h, _ => by simp at h
  | _ :: _, [], h, _ => by simp at h
  | r :: l, e :: es, h, hr => by
    obtain ⟨x, y, rfl, h1, h2⟩ := hr 0 e r rfl rfl
    exact .cons h1 h2 (mapL_of_at (by simpa using h) fun i e r a b => hr (i + 1) e r (by simpa using a) (by simpa using b))
theorem MapL.at {S : Nat → Prop} {ρ : KM} {w : World} {ents : List (List V)} {es : List MapEntry} (h : MapL S ρ w ents es) : es.length = ents.length ∧
    ∀ (i : Nat) (e : MapEntry) (r : List V), es[i]? = some e → ents[i]? = some r → ∃ x y, r = [x, y] ∧ Rep S ρ w e.key x ∧ Rep S ρ w e.val y := by
  induction h with
  | nil => exact ⟨rfl, fun i e r a => by simp at a⟩
  | cons hx hy t ih =>
    refine ⟨by simp [ih.1], fun i e r a b => ?_⟩
    cases i with
    | zero => simp at a b; subst a; subst b; exact ⟨_, _, rfl, hx, hy⟩
    | succ i => exact ih.2 i e r (by simpa using a) (by simpa using b)
theorem MapL.len2 {S : Nat → Prop} {ρ : KM} {w : World} {ents : List (List V)} {es : List MapEntry} (h : MapL S ρ w ents es) : ∀ r ∈ ents, r.length = 2 := by
  induction h with
  | nil => intro r hr; simp at hr
  | cons hx hy t ih => intro r hr; rcases List.mem_cons.1 hr with rfl | hr; rfl; exact ih r hr
theorem MapL.perm {S : Nat → Prop} {ρ : KM} {w : World} {X Y : List (List V)} (hp : X.Perm Y) : ∀ {es : List MapEntry}, MapL S ρ w X es → ∃ es', es'.Perm es ∧ MapL S ρ w Y es' := by
  induction hp with
  | nil => intro es h; exact ⟨es, .refl _, h⟩
  | cons r _ ih =>
    intro es h
    cases h with
    | cons hx hy t =>
      obtain ⟨es', h1, h2⟩ := ih t
      exact ⟨_, .cons _ h1, .cons hx hy h2⟩
  | swap r s l =>
    intro es h
    cases h with
    | cons hx hy t =>
      cases t with
      | cons hx' hy' t => exact ⟨_, .swap _ _ _, .cons hx' hy' (.cons hx hy t)⟩
  | trans _ _ ih1 ih2 =>
    intro es h
    obtain ⟨es1, h1, h2⟩ := ih1 h
    obtain ⟨es2, h3, h4⟩ := ih2 h2
    exact ⟨es2, h3.trans h1, h4⟩
theorem rows_mapL {S : Nat → Prop} {ρ : KM} {w : World} {ents : List (List V)} {es : Array MapEntry} (h : RowsAt S ρ w 2 (mpRows ents) (mapCells es)) : MapL S ρ w ents es.toList := by
  have hM := mapAt_of h
  exact mapL_of_at (by simpa using hM.1) fun i e r a b => hM.2 i e r (by simpa using a) b
theorem mapL_rows {S : Nat → Prop} {ρ : KM} {w : World} {ents : List (List V)} {es : List MapEntry} (h : MapL S ρ w ents es) : RowsAt S ρ w 2 (mpRows ents) (mapCells es.toArray) :=
  rows_of_mapAt ⟨by simpa using h.at.1, fun i e r a b => h.at.2 i e r (by simpa using a) b⟩ h.len2
/-- a map told in another order -/
theorem sim_perm {S : Nat → Prop} {ρ : KM} {w : World} {H : Hp} {k : Nat} {X Y : List (List V)} (hs : Sim S ρ w H) (hk : H k = some (mpO X)) (hp : X.Perm Y) (hm : ∀ b, ρ k = some b → ∃ es n, w.heap[b]? = some (.map es n)) : Sim S ρ w (upd H k (some (mpO Y))) := by
  refine ⟨fun t o ht => ?_, fun k1 k2 o o' b a1 a2 a3 a4 => ?_, hs.bnd⟩
  · by_cases e : t = k
    · subst e
      rw [upd_same] at ht
      cases ht
      rcases hs.obj t _ hk with ⟨b, c, ty, h1, h2, h3, h4⟩ | ⟨h1, h2⟩
      · obtain ⟨es0, n0, hb⟩ := hm b h1
        rcases h2 with h2 | ⟨es, es', n, h2, h5, rfl, hbn⟩
        · rw [hb] at h2; cases h2
        · obtain ⟨es2, g1, g2⟩ := (rows_mapL h3).perm hp
          exact .inl ⟨b, mapCells es2.toArray, ty, h1, .inr ⟨es, es2.toArray, n, h2, by simpa using g1.trans h5, rfl, hbn⟩, mapL_rows g2, h4⟩
      · simp [mpO, mpRows] at h2
    · rw [upd_ne _ _ e] at ht
      exact hs.obj t o ht
  · have old : ∀ t o, upd H k (some (mpO Y)) t = some o → ∃ o', H t = some o' := fun t o h => by
      by_cases e : t = k
      · subst e; exact ⟨_, hk⟩
      · rw [upd_ne _ _ e] at h; exact ⟨_, h⟩
    obtain ⟨p, hp1⟩ := old k1 o a1
    obtain ⟨q, hq1⟩ := old k2 o' a2
    exact hs.inj k1 k2 p q b hp1 hq1 a3 a4
end Go.Proofs.Ytbieiehfohldjaa
namespace Go.Proofs.Ytbieiehfohldjaa
open Go
set_option linter.unusedVariables false
set_option linter.unusedSimpArgs false

/-- what became of the world between two points of a call -/
structure Ext0 (S : Nat → Prop) (ρ : KM) (w : World) (H : Hp) (S' : Nat → Prop) (ρ' : KM) (w' : World) (H' : Hp) : Prop where
  os : w'.os = w.os
  tape : w'.tape = w.tape
  output : w'.output = w.output
  size : w.heap.size ≤ w'.heap.size
  block : ∀ b, b < w.heap.size → ¬ Own ρ H b → w'.heap[b]? = w.heap[b]?
  keeps : Keeps w w'
  more : ∀ b, S b → S' b
  only : ∀ b, S' b → S b ∨ w.heap.size ≤ b ∨ Own ρ H b
  live : ∀ b, Live ρ' H' b → w.heap.size ≤ b ∨ Live ρ H b
  own : ∀ b, Own ρ' H' b → w.heap.size ≤ b ∨ Own ρ H b
  keys : ∀ k b, ρ k = some b → ρ' k = some b

theorem Ext.to0 {S S' : Nat → Prop} {ρ ρ' : KM} {w w' : World} {H H' : Hp} (e : Ext S ρ w H S' ρ' w' H') : Ext0 S ρ w H S' ρ' w' H' :=
  ⟨e.os, e.tape, e.output, e.size, e.block, e.keeps, e.more, e.only, e.live, e.own, e.keys⟩
theorem Ext0.refl (S : Nat → Prop) (ρ : KM) (w : World) (H : Hp) : Ext0 S ρ w H S ρ w H := (Ext.refl S ρ w H).to0
theorem Ext0.trans {S S' S'' : Nat → Prop} {ρ ρ' ρ'' : KM} {w w' w'' : World} {H H' H'' : Hp} (e : Ext0 S ρ w H S' ρ' w' H') (f : Ext0 S' ρ' w' H' S'' ρ'' w'' H'') : Ext0 S ρ w H S'' ρ'' w'' H'' where
  os := f.os.trans e.os
  tape := f.tape.trans e.tape
  output := f.output.trans e.output
  size := Nat.le_trans e.size f.size
  block := fun b hb ho => by
    have h1 := e.block b hb ho
    have h2 := f.block b (Nat.lt_of_lt_of_le hb e.size) (fun h => by
      rcases e.own b h with h | h
      · omega
      · exact ho h)
    exact h2.trans h1
  keeps := e.keeps.trans f.keeps
  more := fun b h => f.more b (e.more b h)
  only := fun b h => by
    rcases f.only b h with h | h | h
    · exact e.only b h
    · exact .inr (.inl (Nat.le_trans e.size h))
    · rcases e.own b h with h | h
      · exact .inr (.inl h)
      · exact .inr (.inr h)
  live := fun b h => by
    rcases f.live b h with h | h
    · exact .inl (Nat.le_trans e.size h)
    · exact e.live b h
  own := fun b h => by
    rcases f.own b h with h | h
    · exact .inl (Nat.le_trans e.size h)
    · exact e.own b h
  keys := fun k b h => f.keys k b (e.keys k b h)
theorem Ext0.rep {S S' : Nat → Prop} {ρ ρ' : KM} {w w' : World} {H H' : Hp} (e : Ext0 S ρ w H S' ρ' w' H') (hs : Sim S ρ w H) {u : Value} {x : V} (h : Rep S ρ w u x) : Rep S' ρ' w' u x :=
  h.mono e.more (fun b hb => e.block b (hs.bnd b hb) (hs.notOwn hb)) e.keys e.keeps

structure St where
  env : Nat → V
  H : Hp
  nx : Nat

def ovOf (env : Nat → V) : Operand → V
  | .tmp t => env t
  | .const v => if constOk v then V.of v else .any
  | .global _ => .any
  | .func f => .fn f []

/-- slots by value -/
def SRep (S : Nat → Prop) (ρ : KM) (w : World) (a : Act) (env : Nat → V) : Prop := ∀ t, Rep S ρ w (a.tmps.getD t undef) (env t)

theorem SRep.ov {S : Nat → Prop} {ρ : KM} {w : World} {a : Act} {env : Nat → V} (h : SRep S ρ w a env) (x : Operand) : Rep S ρ w (a.eval x) (ovOf env x) := by
  cases x with
  | tmp t => exact h t
  | const v =>
    simp only [ovOf, Act.eval]
    split
    · rename_i hc; exact rep_const hc
    · exact .any
  | global g => exact .any
  | func f => exact .fn rfl (fun i u x h => by simp at h)

def updO (env : Nat → V) (d : Option Nat) (v : V) : Nat → V := match d with
  | some d => upd env d v
  | none => env

theorem SRep.put {S : Nat → Prop} {ρ : KM} {w : World} {a : Act} {env : Nat → V} (h : SRep S ρ w a env) {d : Option Nat} {u : Value} {v : V} (hv : Rep S ρ w u v) (hd : ∀ t, d = some t → t < a.tmps.size) : SRep S ρ w (a.put d u) (updO env d v) := by
  cases d with
  | none => exact h
  | some d =>
    intro t
    simp only [Act.put, updO, upd]
    by_cases e : t = d
    · subst e
      simp only [if_true]
      have := hd t rfl
      simpa [Array.getD_eq_getD_getElem?, this] using hv
    · rw [if_neg e]
      have : (a.tmps.setIfInBounds d u).getD t undef = a.tmps.getD t undef := by
        simp [Array.getD_eq_getD_getElem?, Array.getElem?_setIfInBounds_ne (Ne.symm e)]
      rw [this]
      exact h t
theorem put_size (a : Act) (d : Option Nat) (u : Value) : (a.put d u).tmps.size = a.tmps.size := by cases d <;> simp [Act.put]
theorem put_defers (a : Act) (d : Option Nat) (u : Value) : (a.put d u).defers = a.defers := by cases d <;> rfl

/-- one operation's result -/
structure OpR where
  rd : HL
  pre : HL
  post : HL
  v : V
  ins : Option (Nat × List V)

/-- the guard lets it run -/
def gOn (ops : Array Oper) (env : Nat → V) (o : Oper) : Prop := match o.guard with
  | none => True
  | some (j, want) => ∃ t, (ops[j]?).bind (·.dst) = some t ∧ env t = .lit (.bool want)
/-- the guard does not -/
def gOff (ops : Array Oper) (env : Nat → V) (o : Oper) : Prop := match o.guard with
  | none => False
  | some (j, want) => ∃ t, (ops[j]?).bind (·.dst) = some t ∧ (env t = .lit (.bool (!want)) ∨ env t = .undef)

def keysOf (l : HL) : List Nat := l.map (·.1)
theorem mem_keys {l : HL} {k : Nat} : hpo l k ≠ none ↔ k ∈ keysOf l := by
  induction l with
  | nil => simp [hpo, keysOf]
  | cons p l ih =>
    obtain ⟨j, o⟩ := p
    simp only [hpo, upd, keysOf, List.map_cons, List.mem_cons]
    by_cases e : k = j
    · simp [e]
    · simp only [e, if_false, false_or]; exact ih

/-- a map with an entry more -/
def mpAdd (e : List V) : Option VObj → Option VObj
  | some o => some (mpO (o.rows.tail ++ [e]))
  | none => none
/-- what a step makes of a heap -/
def OpR.act (r : OpR) (A : Hp) : Hp := match r.ins with
  | none => (A.del r.pre).add r.post
  | some (k, e) => upd A k (mpAdd e (A k))
/-- are they the same, cell by cell? (which cells are numbers: true; the others are truth values) -/
def eqCells : List Bool → List V → List V → Option Bool
  | [], [], [] => some true
  | true :: sh, .lit (.int k a) :: l, .lit (.int k' b) :: l' => if k = k' then (eqCells sh l l').map fun r => (a == b) && r else none
  | false :: sh, .lit (.bool a) :: l, .lit (.bool b) :: l' => (eqCells sh l l').map fun r => (a == b) && r
  | _, _, _ => none
theorem eqCells_symm : ∀ (sh : List Bool) (a b : List V), eqCells sh a b = eqCells sh b a := by
  intro sh a b
  induction sh, a, b using eqCells.induct with
  | case1 => rfl
  | case2 sh a l k' b l' ih =>
    simp only [eqCells, if_true, ih]
    rw [show (a == b) = (b == a) from by rw [Bool.eq_iff_iff, beq_iff_eq, beq_iff_eq]; exact eq_comm]
  | case3 sh k a l k' b l' hk =>
    simp only [eqCells, if_neg hk, if_neg (Ne.symm hk)]
  | case4 sh a l b l' ih =>
    simp only [eqCells, ih]
    rw [show (a == b) = (b == a) from by cases a <;> cases b <;> rfl]
  | case5 sh a b h1 h2 h3 =>
    have e1 : eqCells sh a b = none := by
      unfold eqCells
      split
      · exact (h1 rfl rfl rfl).elim
      · exact (h2 _ _ _ _ _ _ _ rfl rfl rfl).elim
      · exact (h3 _ _ _ _ _ rfl rfl rfl).elim
      · rfl
    have e2 : eqCells sh b a = none := by
      unfold eqCells
      split
      · exact (h1 rfl rfl rfl).elim
      · exact (h2 _ _ _ _ _ _ _ rfl rfl rfl).elim
      · exact (h3 _ _ _ _ _ rfl rfl rfl).elim
      · rfl
    rw [e1, e2]
/-- two keys that differ -/
def KeyAp (kc : List V) (r : List V) : Prop := ∃ sh c v, r = [.agg c, v] ∧ eqCells sh kc c = some false
/-- an entry that comes into a map, whatever else is there -/
def InsOk (P : Program) (ov : Operand → V) (o : Oper) (k : Nat) (kc : List V) (y : V) : Prop := (∀ ents, (∀ r ∈ ents, KeyAp kc r) → LOk P ov o [] [(k, mpO ents)] [(k, mpO (ents ++ [[.agg kc, y]]))] .undef) ∧
  ∀ (S : Nat → Prop) (ρ : KM) (w : World) (a : Act), (∀ x ∈ o.op.operands.toList, Rep S ρ w (a.eval x) (ov x)) → ∀ b, ρ k = some b → ∃ es n, w.heap[b]? = some (.map es n)
/-- one step by value -/
structure AStep (P : Program) (N : Nat) (ops : Array Oper) (o : Oper) (st : St) (r : OpR) (st' : St) : Prop where
  env : st'.env = updO st.env o.dst r.v
  heap : st'.H = r.act st.H
  nx : st.nx ≤ st'.nx
  dst : ∀ t, o.dst = some t → t < N
  on : (r.ins = none ∧ gOn ops st.env o ∧ LOk P (ovOf st.env) o r.rd r.pre r.post r.v ∧ Sub (hpo r.rd) st.H ∧ Sub (hpo r.pre) st.H ∧ (∀ k, k ∈ keysOf r.post → k ∉ keysOf r.pre → st.nx ≤ k) ∧ (∀ k, k ∈ keysOf r.post → k < st'.nx)) ∨
    (gOff ops st.env o ∧ r = ⟨[], [], [], .undef, none⟩) ∨
    (gOn ops st.env o ∧ ∃ k kc y ents, r = ⟨[], [(k, mpO ents)], [(k, mpO (ents ++ [[.agg kc, y]]))], .undef, some (k, [.agg kc, y])⟩ ∧ st.H k = some (mpO ents) ∧ k < st'.nx ∧ (∀ r ∈ ents, KeyAp kc r) ∧ InsOk P (ovOf st.env) o k kc y)
theorem act_ins {A : Hp} {k : Nat} {e : List V} {ents : List (List V)} {rd : HL} {v : V} (h : A k = some (mpO ents)) : OpR.act ⟨rd, [(k, mpO ents)], [(k, mpO (ents ++ [e]))], v, some (k, e)⟩ A = (A.del [(k, mpO ents)]).add [(k, mpO (ents ++ [e]))] := by
  funext t
  simp only [OpR.act, h, mpAdd, Hp.add, Hp.del, upd_upd]
  rfl
/-- a step, however it is -/
theorem AStep.run {P : Program} {N : Nat} {ops : Array Oper} {o : Oper} {st : St} {r : OpR} {st' : St} (h : AStep P N ops o st r st') :
    st'.H = (st.H.del r.pre).add r.post ∧ ((gOn ops st.env o ∧ LOk P (ovOf st.env) o r.rd r.pre r.post r.v ∧ Sub (hpo r.rd) st.H ∧ Sub (hpo r.pre) st.H ∧ (∀ k, k ∈ keysOf r.post → k ∉ keysOf r.pre → st.nx ≤ k) ∧ (∀ k, k ∈ keysOf r.post → k < st'.nx)) ∨
    (gOff ops st.env o ∧ r = ⟨[], [], [], .undef, none⟩)) := by
  rcases h.on with ⟨hi, g, h1, h2, h3, h4, h5⟩ | ⟨g, rfl⟩ | ⟨g, k, kc, y, ents, rfl, h1, h2, h3, h4⟩
  · exact ⟨by rw [h.heap]; simp only [OpR.act, hi], .inl ⟨g, h1, h2, h3, h4, h5⟩⟩
  · exact ⟨by rw [h.heap]; rfl, .inr ⟨g, rfl⟩⟩
  · refine ⟨by rw [h.heap, act_ins h1], .inl ⟨g, h4.1 ents h3, Sub.nil _, Sub.one h1, fun j a b => absurd a b, fun j a => ?_⟩⟩
    simp [keysOf] at a
    rw [a]
    exact h2

inductive Chain (P : Program) (N : Nat) (ops : Array Oper) : List Oper → St → List OpR → St → Prop
  | nil (st : St) : Chain P N ops [] st [] st
  | cons {o : Oper} {l : List Oper} {st st' st'' : St} {r : OpR} {rs : List OpR} (h : AStep P N ops o st r st') (t : Chain P N ops l st' rs st'') : Chain P N ops (o :: l) st (r :: rs) st''

/-- all of a state by value -/
structure SimSt (N : Nat) (S : Nat → Prop) (ρ : KM) (a : Act) (w : World) (st : St) : Prop where
  sim : Sim S ρ w st.H
  slots : SRep S ρ w a st.env
  size : a.tmps.size = N
  defers : a.defers = []
  new : ∀ k, st.nx ≤ k → ρ k = none
  old : ∀ k o, st.H k = some o → k < st.nx

theorem yielded_of {S : Nat → Prop} {ρ : KM} {w : World} {a : Act} {env : Nat → V} {ops : Array Oper} (h : SRep S ρ w a env) {j t : Nat} {b : Bool} (hj : (ops[j]?).bind (·.dst) = some t) (ht : env t = .lit (.bool b)) : yielded ops a.tmps j = some b := by
  have := h t
  rw [ht] at this
  have := this.lit_inv
  unfold yielded
  rw [hj]
  simp only [Option.bind_some]
  rw [Array.getD_eq_getD_getElem?] at this
  cases hh : a.tmps[t]? with
  | none => rw [hh] at this; cases this
  | some u => rw [hh] at this; simp only [Option.getD_some] at this; rw [this]
theorem yielded_undef {S : Nat → Prop} {ρ : KM} {w : World} {a : Act} {env : Nat → V} {ops : Array Oper} (h : SRep S ρ w a env) {j t : Nat} (hj : (ops[j]?).bind (·.dst) = some t) (ht : env t = .undef) : yielded ops a.tmps j = none := by
  have := h t
  rw [ht] at this
  unfold yielded
  rw [hj]
  simp only [Option.bind_some]
  rw [Array.getD_eq_getD_getElem?] at this
  cases hh : a.tmps[t]? with
  | none => rfl
  | some u =>
    rw [hh] at this
    simp only [Option.getD_some, V.undef] at this
    cases this
    rfl
theorem wanted_on {S : Nat → Prop} {ρ : KM} {w : World} {a : Act} {env : Nat → V} {ops : Array Oper} {o : Oper} (h : SRep S ρ w a env) (g : gOn ops env o) : Region.wanted o (yielded ops a.tmps) = true := by
  unfold gOn at g
  unfold Region.wanted
  cases ho : o.guard with
  | none => rfl
  | some jw =>
    obtain ⟨j, want⟩ := jw
    rw [ho] at g
    obtain ⟨t, h1, h2⟩ := g
    simp [yielded_of h h1 h2]
theorem wanted_off {S : Nat → Prop} {ρ : KM} {w : World} {a : Act} {env : Nat → V} {ops : Array Oper} {o : Oper} (h : SRep S ρ w a env) (g : gOff ops env o) : Region.wanted o (yielded ops a.tmps) = false := by
  unfold gOff at g
  unfold Region.wanted
  cases ho : o.guard with
  | none => rw [ho] at g; exact g.elim
  | some jw =>
    obtain ⟨j, want⟩ := jw
    rw [ho] at g
    obtain ⟨t, h1, h2 | h2⟩ := g
    · simp [yielded_of h h1 h2]
    · simp [yielded_undef h h1 h2]

theorem rep_undef {S : Nat → Prop} {ρ : KM} {w : World} : Rep S ρ w undef .undef := .tup rfl (fun i u x h => by simp at h)

theorem sub_app {l l' : HL} {H : Hp} (h : Sub (hpo l) H) (h' : Sub (hpo l') H) : Sub (hpo (l ++ l')) H := fun k o hk => by
  rw [hpo_app] at hk
  cases hr : hpo l k with
  | some o' => rw [hr] at hk; cases hk; exact h k _ hr
  | none => rw [hr] at hk; exact h' k o hk

/-- one step, run -/
theorem step_sound {P : Program} {N : Nat} {ops : Array Oper} {o : Oper} {st st' : St} {r : OpR} (h : AStep P N ops o st r st') {S : Nat → Prop} {ρ : KM} {a : Act} {w : World} (hs : SimSt N S ρ a w st) {next : Act → World → Prop} {Q : Exit → Act → World → Prop}
    (hK : ∀ S' ρ' a' w', SimSt N S' ρ' a' w' st' → Ext0 S ρ w st.H S' ρ' w' st'.H → next a' w') :
    if Region.wanted o (yielded ops a.tmps) then o.wp P a w next Q ∨ (o.asks P a w ∧ LetsOut Q) else next (a.put o.dst undef) w := by
  obtain ⟨hheap, hon⟩ := h.run
  rcases hon with ⟨g, hl, hrd, hpre, hnew, hlt⟩ | ⟨g, hr⟩
  · rw [if_pos (wanted_on hs.slots g)]
    refine .inl (hl S ρ w a (fun x _ => hs.slots.ov x) (hs.sim.sub (sub_app hrd hpre)) (fun k h1 h2 => ?_) next Q fun u S' ρ' w' hu hsim hext => ?_)
    · exact hs.new k (hnew k (mem_keys.1 h1) (fun hk => (mem_keys.2 hk) h2))
    · have hn : ∀ k, hpo r.post k ≠ none → hpo r.pre k = none → ρ k = none := fun k h1 h2 => hs.new k (hnew k (mem_keys.1 h1) (fun hk => (mem_keys.2 hk) h2))
      obtain ⟨f1, f2⟩ := step_frame hs.sim hpre hn hsim hext
      refine hK S' ρ' _ w' ⟨?_, ?_, ?_, ?_, ?_, ?_⟩ ?_
      · rw [hheap]; exact f1
      · rw [h.env]
        exact SRep.put (fun t => f2.rep hs.sim (hs.slots t)) hu (fun t ht => by rw [hs.size]; exact h.dst t ht)
      · rw [put_size]; exact hs.size
      · rw [put_defers]; exact hs.defers
      · intro k hk
        cases hh : ρ' k with
        | none => rfl
        | some b =>
          rcases hext.dom k b hh with h' | ⟨o', h'⟩
          · rw [hs.new k (Nat.le_trans h.nx hk)] at h'; cases h'
          · have := hlt k (mem_keys.1 (by rw [h']; simp)); omega
      · intro k o' hk
        rw [hheap, add_apply] at hk
        cases hp : hpo r.post k with
        | some o'' => exact hlt k (mem_keys.1 (by rw [hp]; simp))
        | none =>
          rw [hp, del_apply] at hk
          cases hq : hpo r.pre k with
          | some _ => rw [hq] at hk; cases hk
          | none => rw [hq] at hk; exact Nat.lt_of_lt_of_le (hs.old k o' hk) h.nx
      · rw [hheap]; exact f2.to0
  · rw [if_neg (by rw [wanted_off hs.slots g]; simp)]
    subst hr
    refine hK S ρ _ w ⟨?_, ?_, ?_, ?_, ?_, ?_⟩ ?_
    · rw [hheap]; exact hs.sim
    · rw [h.env]; exact hs.slots.put rep_undef (fun t ht => by rw [hs.size]; exact h.dst t ht)
    · rw [put_size]; exact hs.size
    · rw [put_defers]; exact hs.defers
    · exact fun k hk => hs.new k (Nat.le_trans h.nx hk)
    · intro k o' hk; rw [hheap] at hk; exact Nat.lt_of_lt_of_le (hs.old k o' hk) h.nx
    · rw [hheap]; exact Ext0.refl _ _ _ _


/-- in the order of the text -/
theorem chain_sound {P : Program} {N : Nat} {ops : Array Oper} {Q : Exit → Act → World → Prop} {l : List Oper} {st st' : St} {rs : List OpR} (h : Chain P N ops l st rs st') :
    ∀ {S : Nat → Prop} {ρ : KM} {a : Act} {w : World}, SimSt N S ρ a w st → (∀ S' ρ' a' w', SimSt N S' ρ' a' w' st' → Ext0 S ρ w st.H S' ρ' w' st'.H → Q .normal a' w') → wpList P ops Q l a w := by
  induction h with
  | nil st => exact fun hs hQ => hQ _ _ _ _ hs (Ext0.refl _ _ _ _)
  | cons h t ih =>
    intro S ρ a w hs hQ
    unfold wpList
    exact step_sound h hs fun S' ρ' a' w' hs' he => ih hs' fun S'' ρ'' a'' w'' hs'' he' => hQ _ _ _ _ hs'' (he.trans he')

/- ANY ORDER -/
/-- the heap behind those of the first m operations that are in L -/
def hAt (H : Hp) (rs : List OpR) (L : Nat → Bool) : Nat → Hp
  | 0 => H
  | m + 1 => match rs[m]? with
    | some r => if L m then r.act (hAt H rs L m) else hAt H rs L m
    | none => hAt H rs L m
def eAt (E : Nat → V) (ops : List Oper) (rs : List OpR) (L : Nat → Bool) : Nat → Nat → V
  | 0 => E
  | m + 1 => match rs[m]?, ops[m]? with
    | some r, some o => if L m then updO (eAt E ops rs L m) o.dst r.v else eAt E ops rs L m
    | _, _ => eAt E ops rs L m

def OpR.wk (r : OpR) : List Nat := match r.ins with
  | none => keysOf r.pre ++ keysOf r.post
  | some (k, _) => [k, k]
theorem wk_none {r : OpR} (h : r.ins = none) : r.wk = keysOf r.pre ++ keysOf r.post := by unfold OpR.wk; rw [h]
def OpR.tk (r : OpR) : List Nat := keysOf r.rd ++ r.wk

/-- bits of all operations that an operation comes behind -/
def befs (ops : List Oper) : List Nat :=
  ops.foldl (fun acc o => acc ++ [o.after.toList.foldl (fun s e => if Region.binds .any e then s ||| 2 ^ e.on ||| acc.getD e.on 0 else s) 0]) []

/-- may two operations not change places? -/
def clashS (ops : Array Oper) (x y : Oper) : Bool :=
  (match x.dst with | some d => (y.looksAt ops).contains d || y.dst == some d | none => false) || (match y.dst with | some d => (x.looksAt ops).contains d | none => false)
def clashK (x y : OpR) : Bool := !(x.ins.isSome && y.ins.isSome) && (x.wk.any (fun k => y.tk.contains k) || y.wk.any (fun k => x.tk.contains k))
def pairsOk (ops : Array Oper) (rs : List OpR) (bs : List Nat) : Bool :=
  (List.range rs.length).all fun j => (List.range j).all fun i =>
    match ops[i]?, ops[j]?, rs[i]?, rs[j]? with
    | some x, some y, some r, some s => (bs.getD j 0).testBit i || !(clashS ops x y || clashK r s)
    | _, _, _, _ => false
def edgesOk (ops : Array Oper) : Bool := ops.toList.zipIdx.all fun (o, i) => o.after.toList.all fun e => !Region.binds .any e || decide (e.on < i)
def drawOk (ops : Array Oper) (rs : List OpR) : Bool := edgesOk ops && pairsOk ops rs (befs ops.toList)

theorem hpo_none {l : HL} {k : Nat} (h : k ∉ keysOf l) : hpo l k = none := by
  cases hh : hpo l k with
  | none => rfl
  | some o => exact absurd (mem_keys.1 (by rw [hh]; simp)) h
theorem act_in {r : OpR} {k : Nat} (h : k ∈ r.wk) (A B : Hp) (hab : A k = B k) : r.act A k = r.act B k := by
  unfold OpR.act
  cases hi : r.ins with
  | some p =>
    obtain ⟨k', e⟩ := p
    unfold OpR.wk at h
    rw [hi] at h
    simp at h
    subst h
    simp only [upd_same, hab]
  | none =>
  rw [wk_none hi] at h
  simp only [add_apply, del_apply]
  cases h1 : hpo r.post k with
  | some o => rfl
  | none =>
    cases h2 : hpo r.pre k with
    | some o => rfl
    | none =>
      simp only [List.mem_append] at h
      rcases h with h | h
      · exact absurd h2 (mem_keys.2 h)
      · exact absurd h1 (mem_keys.2 h)
theorem act_out {r : OpR} {k : Nat} (h : k ∉ r.wk) (A : Hp) : r.act A k = A k := by
  unfold OpR.act
  cases hi : r.ins with
  | some p =>
    obtain ⟨k', e⟩ := p
    unfold OpR.wk at h
    rw [hi] at h
    simp at h
    exact upd_ne _ _ h
  | none =>
  rw [wk_none hi] at h
  simp only [List.mem_append, not_or] at h
  show ((A.del r.pre).add r.post) k = A k
  rw [add_apply, del_apply, hpo_none h.1, hpo_none h.2]

theorem hAt_succ (H : Hp) (rs : List OpR) (L : Nat → Bool) (m k : Nat) : hAt H rs L (m + 1) k = match rs[m]? with
    | some r => if L m = true ∧ k ∈ r.wk then r.act (hAt H rs L m) k else hAt H rs L m k
    | none => hAt H rs L m k := by
  simp only [hAt]
  cases rs[m]? with
  | none => rfl
  | some r =>
    simp only
    by_cases hL : L m = true
    · by_cases hk : k ∈ r.wk
      · simp [hL, hk]
      · simp only [hL, if_true, hk, and_false, if_false]; exact act_out hk _
    · simp [hL]

theorem hAt_key {H : Hp} {rs : List OpR} {L : Nat → Bool} {k m : Nat} : ∀ (d : Nat), (∀ i r, m ≤ i → i < m + d → L i = true → rs[i]? = some r → k ∉ r.wk) → hAt H rs L (m + d) k = hAt H rs L m k
  | 0, _ => rfl
  | d + 1, h => by
    rw [← hAt_key d (fun i r h1 h2 => h i r h1 (by omega)), ← Nat.add_assoc, hAt_succ]
    cases hr : rs[m + d]? with
    | none => rfl
    | some r =>
      simp only
      rw [if_neg]
      rintro ⟨hL, hk⟩
      exact h (m + d) r (by omega) (by omega) hL hr hk
theorem hAt_same {H : Hp} {rs : List OpR} {L : Nat → Bool} {k : Nat} : ∀ (m : Nat), (∀ i r, i < m → rs[i]? = some r → k ∈ r.wk → L i = true) → hAt H rs L m k = hAt H rs (fun _ => true) m k
  | 0, _ => rfl
  | m + 1, h => by
    have ih := hAt_same (H := H) m (fun i r h1 => h i r (by omega))
    rw [hAt_succ, hAt_succ]
    cases hr : rs[m]? with
    | none => exact ih
    | some r =>
      simp only [true_and]
      by_cases hk : k ∈ r.wk
      · rw [if_pos ⟨h m r (by omega) hr hk, hk⟩, if_pos hk]
        exact act_in hk _ _ ih
      · rw [if_neg (fun h => hk h.2), if_neg hk]
        exact ih

theorem eAt_succ (E : Nat → V) (ops : List Oper) (rs : List OpR) (L : Nat → Bool) (m t : Nat) : eAt E ops rs L (m + 1) t = match rs[m]?, ops[m]? with
    | some r, some o => if L m = true ∧ o.dst = some t then r.v else eAt E ops rs L m t
    | _, _ => eAt E ops rs L m t := by
  simp only [eAt]
  cases rs[m]? with
  | none => rfl
  | some r =>
    cases ops[m]? with
    | none => rfl
    | some o =>
      simp only
      by_cases hL : L m = true
      · rw [if_pos hL]
        cases hd : o.dst with
        | none => simp [updO]
        | some d =>
          simp only [updO, upd, hL, true_and, Option.some.injEq]
          by_cases e : t = d
          · subst e; simp
          · rw [if_neg e, if_neg (Ne.symm e)]
      · simp [hL]
theorem eAt_key {E : Nat → V} {ops : List Oper} {rs : List OpR} {L : Nat → Bool} {t m : Nat} : ∀ (d : Nat), (∀ i o, m ≤ i → i < m + d → L i = true → ops[i]? = some o → o.dst ≠ some t) → eAt E ops rs L (m + d) t = eAt E ops rs L m t
  | 0, _ => rfl
  | d + 1, h => by
    rw [← eAt_key d (fun i r h1 h2 => h i r h1 (by omega)), ← Nat.add_assoc, eAt_succ]
    cases hr : rs[m + d]? with
    | none => rfl
    | some r =>
      cases ho : ops[m + d]? with
      | none => rfl
      | some o =>
        simp only
        rw [if_neg]
        rintro ⟨hL, hk⟩
        exact h (m + d) o (by omega) (by omega) hL ho hk
theorem eAt_same {E : Nat → V} {ops : List Oper} {rs : List OpR} {L : Nat → Bool} {t : Nat} : ∀ (m : Nat), (∀ i o, i < m → ops[i]? = some o → o.dst = some t → L i = true) → eAt E ops rs L m t = eAt E ops rs (fun _ => true) m t
  | 0, _ => rfl
  | m + 1, h => by
    have ih := eAt_same (E := E) (rs := rs) m (fun i r h1 => h i r (by omega))
    rw [eAt_succ, eAt_succ]
    cases hr : rs[m]? with
    | none => exact ih
    | some r =>
      cases ho : ops[m]? with
      | none => exact ih
      | some o =>
        simp only [true_and]
        by_cases hk : o.dst = some t
        · rw [if_pos ⟨h m o (by omega) ho hk, hk⟩, if_pos hk]
        · rw [if_neg (fun h => hk h.2), if_neg hk]
          exact ih

/-- the states of a chain -/
theorem chain_states {P : Program} {N : Nat} {ops : Array Oper} {l : List Oper} {st st' : St} {rs : List OpR} (h : Chain P N ops l st rs st') :
    rs.length = l.length ∧ ∃ f : Nat → St, f 0 = st ∧ f l.length = st' ∧ ∀ m o, l[m]? = some o → ∃ r, rs[m]? = some r ∧ AStep P N ops o (f m) r (f (m + 1)) := by
  induction h with
  | nil st => exact ⟨rfl, fun _ => st, rfl, rfl, fun m o h => by simp at h⟩
  | @cons o l st st1 st2 r rs h t ih =>
    obtain ⟨hl, f, h0, hn, hf⟩ := ih
    refine ⟨by simp [hl], fun m => match m with | 0 => st | m + 1 => f m, rfl, hn, fun m o' hm => ?_⟩
    cases m with
    | zero =>
      simp only [List.getElem?_cons_zero, Option.some.injEq] at hm
      subst hm
      exact ⟨r, rfl, by rw [← h0] at h; exact h⟩
    | succ m => exact hf m o' (by simpa using hm)

theorem chain_at {P : Program} {N : Nat} {ops : Array Oper} {l : List Oper} {st st' : St} {rs : List OpR} (h : Chain P N ops l st rs st') :
    rs.length = l.length ∧ ∃ f : Nat → St, f 0 = st ∧ f l.length = st' ∧ (∀ m o, l[m]? = some o → ∃ r, rs[m]? = some r ∧ AStep P N ops o (f m) r (f (m + 1))) ∧
      (∀ m, m ≤ l.length → (f m).env = eAt st.env l rs (fun _ => true) m ∧ (f m).H = hAt st.H rs (fun _ => true) m) ∧ ∀ m m', m ≤ m' → m' ≤ l.length → (f m).nx ≤ (f m').nx := by
  obtain ⟨hl, f, h0, hn, hf⟩ := chain_states h
  refine ⟨hl, f, h0, hn, hf, fun m => ?_, fun m m' => ?_⟩
  · induction m with
    | zero => intro _; rw [h0]; exact ⟨rfl, rfl⟩
    | succ m ih =>
      intro hm
      obtain ⟨e1, e2⟩ := ih (by omega)
      obtain ⟨r, hr, hs⟩ := hf m _ (List.getElem?_eq_getElem (show m < l.length by omega))
      constructor
      · rw [hs.env, e1]
        funext t
        rw [eAt_succ, hr, List.getElem?_eq_getElem (show m < l.length by omega)]
        simp only [true_and]
        cases hd : l[m].dst with
        | none => simp [updO]
        | some d =>
          simp only [updO, upd, Option.some.injEq]
          by_cases e : t = d
          · subst e; simp
          · rw [if_neg e, if_neg (Ne.symm e)]
      · rw [hs.heap, e2]
        funext k
        rw [hAt_succ, hr]
        simp only [true_and]
        by_cases hk : k ∈ r.wk
        · rw [if_pos hk]
        · rw [if_neg hk]; exact act_out hk _
  · intro hm
    obtain ⟨d, rfl⟩ := Nat.le.dest hm
    clear hm
    induction d with
    | zero => intro _; exact Nat.le_refl _
    | succ d ih =>
      intro hd
      obtain ⟨r, hr, hs⟩ := hf (m + d) _ (List.getElem?_eq_getElem (show m + d < l.length by omega))
      exact Nat.le_trans (ih (by omega)) hs.nx

/-- the bits of those ahead: closed sets hold them -/
theorem befs_spec (ops : List Oper) : (befs ops).length = ops.length ∧ ∀ j o, ops[j]? = some o → (befs ops).getD j 0 = o.after.toList.foldl (fun s e => if Region.binds .any e then s ||| 2 ^ e.on ||| ((befs ops).take j).getD e.on 0 else s) 0 := by
  have key : ∀ (l : List Oper) (acc : List Nat), (l.foldl (fun acc o => acc ++ [o.after.toList.foldl (fun s e => if Region.binds .any e then s ||| 2 ^ e.on ||| acc.getD e.on 0 else s) 0]) acc).length = acc.length + l.length ∧
      (l.foldl (fun acc o => acc ++ [o.after.toList.foldl (fun s e => if Region.binds .any e then s ||| 2 ^ e.on ||| acc.getD e.on 0 else s) 0]) acc).take acc.length = acc ∧
      ∀ j o, l[j]? = some o → (l.foldl (fun acc o => acc ++ [o.after.toList.foldl (fun s e => if Region.binds .any e then s ||| 2 ^ e.on ||| acc.getD e.on 0 else s) 0]) acc).getD (acc.length + j) 0 =
        o.after.toList.foldl (fun s e => if Region.binds .any e then s ||| 2 ^ e.on ||| ((l.foldl (fun acc o => acc ++ [o.after.toList.foldl (fun s e => if Region.binds .any e then s ||| 2 ^ e.on ||| acc.getD e.on 0 else s) 0]) acc).take (acc.length + j)).getD e.on 0 else s) 0 := by
    intro l
    induction l with
    | nil => intro acc; exact ⟨rfl, by simp, fun j o h => by simp at h⟩
    | cons o l ih =>
      intro acc
      simp only [List.foldl_cons]
      generalize hx : o.after.toList.foldl (fun s e => if Region.binds .any e then s ||| 2 ^ e.on ||| acc.getD e.on 0 else s) 0 = x
      obtain ⟨h1, h2, h3⟩ := ih (acc ++ [x])
      generalize hR : l.foldl (fun acc o => acc ++ [o.after.toList.foldl (fun s e => if Region.binds .any e then s ||| 2 ^ e.on ||| acc.getD e.on 0 else s) 0]) (acc ++ [x]) = R at h1 h2 h3
      simp only [List.length_append, List.length_cons, List.length_nil, Nat.zero_add] at h1 h2 h3
      have htake : R.take acc.length = acc := by
        have := congrArg (List.take acc.length) h2
        rw [List.take_take, Nat.min_eq_left (by omega)] at this
        rw [this]; simp
      refine ⟨by rw [h1, List.length_cons]; omega, htake, fun j o' hj => ?_⟩
      cases j with
      | zero =>
        simp only [List.getElem?_cons_zero, Option.some.injEq] at hj
        subst hj
        rw [Nat.add_zero, htake, hx]
        have : R[acc.length]? = some x := by
          have h4 : (R.take (acc.length + 1))[acc.length]? = R[acc.length]? := List.getElem?_take_of_lt (by omega)
          rw [← h4, h2]; simp
        simp [List.getD, this]
      | succ j =>
        have := h3 j o' (by simpa using hj)
        rw [show acc.length + (j + 1) = acc.length + 1 + j by omega]
        exact this
  obtain ⟨h1, _, h3⟩ := key ops []
  exact ⟨by simpa [befs] using h1, fun j o h => by simpa [befs] using h3 j o h⟩

theorem foldl_or (es : List Edge) (f : Nat → Nat) (i : Nat) : ∀ s : Nat, (es.foldl (fun s e => if Region.binds .any e then s ||| 2 ^ e.on ||| f e.on else s) s).testBit i = true →
    s.testBit i = true ∨ ∃ e ∈ es, Region.binds .any e = true ∧ (e.on = i ∨ (f e.on).testBit i = true) := by
  induction es with
  | nil => intro s h; exact .inl h
  | cons e es ih =>
    intro s h
    simp only [List.foldl_cons] at h
    rcases ih _ h with h | ⟨e', he', hb, hh⟩
    · by_cases hb : Region.binds .any e = true
      · rw [if_pos hb, Nat.testBit_or, Nat.testBit_or, Bool.or_eq_true, Bool.or_eq_true] at h
        rcases h with (h | h) | h
        · exact .inl h
        · refine .inr ⟨e, by simp, hb, .inl ?_⟩
          rw [Nat.testBit_two_pow] at h
          simpa using h
        · exact .inr ⟨e, by simp, hb, .inr h⟩
      · rw [if_neg hb] at h; exact .inl h
    · exact .inr ⟨e', by simp [he'], hb, hh⟩

theorem befs_closed {ops : Array Oper} {L : Nat → Bool} (hcl : ∀ j o, ops[j]? = some o → L j = true → ∀ e ∈ o.after, Region.binds .any e = true → L e.on = true) (hed : edgesOk ops = true) :
    ∀ (j : Nat) (o : Oper), ops[j]? = some o → (∀ e ∈ o.after, Region.binds .any e = true → L e.on = true) → ∀ i, ((befs ops.toList).getD j 0).testBit i = true → L i = true := by
  intro j
  induction j using Nat.strongRecOn with
  | _ j ih =>
    intro o ho hr i hi
    obtain ⟨hlen, hsp⟩ := befs_spec ops.toList
    rw [hsp j o (by simpa using ho)] at hi
    rcases foldl_or _ (fun x => ((befs ops.toList).take j).getD x 0) i 0 hi with h | ⟨e, he, hb, h⟩
    · simp at h
    · have he' : e ∈ o.after := by simpa using he
      have hlt : e.on < j := by
        unfold edgesOk at hed
        rw [List.all_eq_true] at hed
        have := hed (o, j) (by rw [List.mem_zipIdx_iff_getElem?]; simpa using ho)
        simp only [List.all_eq_true] at this
        have := this e he
        simpa [hb] using this
      rcases h with h | h
      · subst h; exact hr e he' hb
      · have hL := hr e he' hb
        have hj : e.on < ops.size := by
          have := (Array.getElem?_eq_some_iff.1 ho).1
          omega
        have ho' : ops[e.on]? = some ops[e.on] := by simp [hj]
        refine ih e.on hlt _ ho' (hcl _ _ ho' hL) i ?_
        have : ((befs ops.toList).take j).getD e.on 0 = (befs ops.toList).getD e.on 0 := by
          simp only [List.getD, List.getElem?_take_of_lt hlt]
        simp only [this] at h
        exact h

end Go.Proofs.Ytbieiehfohldjaa
namespace Go.Proofs.Ytbieiehfohldjaa
open Go
set_option linter.unusedVariables false
set_option linter.unusedSimpArgs false

theorem LOk.congr {P : Program} {ov ov' : Operand → V} {o : Oper} {rd pre post : HL} {v : V} (h : LOk P ov o rd pre post v) (he : ∀ x ∈ o.op.operands.toList, ov' x = ov x) : LOk P ov' o rd pre post v :=
  fun S ρ w a hx => h S ρ w a (fun x hm => by rw [← he x hm]; exact hx x hm)

theorem hAt_flip {H : Hp} {rs : List OpR} {L L' : Nat → Bool} {j k : Nat} {r : OpR} (hr : rs[j]? = some r) (hk : k ∉ r.wk) (he : ∀ i, i ≠ j → L' i = L i) : ∀ m, hAt H rs L' m k = hAt H rs L m k
  | 0 => rfl
  | m + 1 => by
    have ih := hAt_flip hr hk he m (H := H)
    rw [hAt_succ, hAt_succ]
    cases hm : rs[m]? with
    | none => exact ih
    | some s =>
      simp only
      by_cases e : m = j
      · subst e
        rw [hr] at hm
        cases hm
        rw [if_neg (fun h => hk h.2), if_neg (fun h => hk h.2)]
        exact ih
      · rw [he m e]
        split
        · rename_i h; exact act_in h.2 _ _ ih
        · exact ih
theorem eAt_flip {E : Nat → V} {ops : List Oper} {rs : List OpR} {L L' : Nat → Bool} {j t : Nat} {o : Oper} (ho : ops[j]? = some o) (hk : o.dst ≠ some t) (he : ∀ i, i ≠ j → L' i = L i) : ∀ m, eAt E ops rs L' m t = eAt E ops rs L m t
  | 0 => rfl
  | m + 1 => by
    have ih := eAt_flip (rs := rs) ho hk he m (E := E)
    rw [eAt_succ, eAt_succ]
    cases hm : rs[m]? with
    | none => exact ih
    | some s =>
      cases hom : ops[m]? with
      | none => exact ih
      | some om =>
        simp only
        by_cases e : m = j
        · subst e
          rw [ho] at hom
          cases hom
          rw [if_neg (fun h => hk h.2), if_neg (fun h => hk h.2)]
          exact ih
        · rw [he m e]
          split
          · rfl
          · exact ih

section
variable {P : Program} {N : Nat} {ops : Array Oper} {rs : List OpR} {st st' : St} {f : Nat → St}

/-- what a chain gives -/
structure Can (P : Program) (N : Nat) (ops : Array Oper) (rs : List OpR) (st st' : St) (f : Nat → St) : Prop where
  len : rs.length = ops.size
  zero : f 0 = st
  last : f ops.size = st'
  step : ∀ m o, ops[m]? = some o → ∃ r, rs[m]? = some r ∧ AStep P N ops o (f m) r (f (m + 1))
  env : ∀ m, m ≤ ops.size → (f m).env = eAt st.env ops.toList rs (fun _ => true) m
  heap : ∀ m, m ≤ ops.size → (f m).H = hAt st.H rs (fun _ => true) m
  nx : ∀ m m', m ≤ m' → m' ≤ ops.size → (f m).nx ≤ (f m').nx

theorem can_of (h : Chain P N ops ops.toList st rs st') : ∃ f, Can P N ops rs st st' f := by
  obtain ⟨h1, f, h2, h3, h4, h5, h6⟩ := chain_at h
  exact ⟨f, ⟨by simpa using h1, h2, by simpa using h3, fun m o ho => h4 m o (by simpa using ho), fun m hm => (h5 m (by simpa using hm)).1, fun m hm => (h5 m (by simpa using hm)).2, fun m m' a b => h6 m m' a (by simpa using b)⟩⟩

theorem Can.post_lt (h : Can P N ops rs st st' f) {i : Nat} {r : OpR} (hr : rs[i]? = some r) {k : Nat} (hk : k ∈ keysOf r.post) : k < (f (i + 1)).nx := by
  have hi : i < ops.size := by rw [← h.len]; exact (List.getElem?_eq_some_iff.1 hr).1
  obtain ⟨r', hr', hs⟩ := h.step i _ (Array.getElem?_eq_getElem hi)
  rw [hr] at hr'
  cases hr'
  rcases hs.run.2 with ⟨_, _, _, _, _, h5⟩ | ⟨_, h5⟩
  · exact h5 k hk
  · rw [h5] at hk; simp [keysOf] at hk

theorem pairs_of {bs : List Nat} (h : pairsOk ops rs bs = true) {i j : Nat} (hij : i < j) {x y : Oper} {r s : OpR} (hx : ops[i]? = some x) (hy : ops[j]? = some y) (hr : rs[i]? = some r) (hs : rs[j]? = some s) :
    (bs.getD j 0).testBit i = true ∨ (clashS ops x y = false ∧ clashK r s = false) := by
  unfold pairsOk at h
  rw [List.all_eq_true] at h
  have := h j (by simpa using (List.getElem?_eq_some_iff.1 hs).1)
  rw [List.all_eq_true] at this
  have := this i (by simpa using hij)
  rw [hx, hy, hr, hs] at this
  simp only [Bool.or_eq_true, Bool.not_eq_true', Bool.or_eq_false_iff] at this
  exact this

/-- the invariant: those in L are done -/
structure DInv (N : Nat) (ops : Array Oper) (rs : List OpR) (st : St) (S0 : Nat → Prop) (ρ0 : KM) (w0 : World) (L : Nat → Bool) (S : Nat → Prop) (ρ : KM) (a : Act) (w : World) : Prop where
  sim : Sim S ρ w (hAt st.H rs L ops.size)
  slots : SRep S ρ w a (eAt st.env ops.toList rs L ops.size)
  size : a.tmps.size = N
  defers : a.defers = []
  ext : Ext0 S0 ρ0 w0 st.H S ρ w (hAt st.H rs L ops.size)
  dom : ∀ k, ρ k ≠ none → ρ0 k ≠ none ∨ ∃ i r, L i = true ∧ rs[i]? = some r ∧ k ∈ keysOf r.post
  closed : ∀ j o, ops[j]? = some o → L j = true → ∀ e ∈ o.after, Region.binds .any e = true → L e.on = true

def setL (L : Nat → Bool) (j : Nat) : Nat → Bool := fun i => if i = j then true else L i

theorem clash_l {r s : OpR} (hi : r.ins = none) {k : Nat} (h : (k ∈ r.wk ∧ k ∈ s.tk) ∨ (k ∈ s.wk ∧ k ∈ r.tk)) : clashK r s = true := by
  simp only [clashK, hi, Option.isSome_none, Bool.false_and, Bool.not_false, Bool.true_and, Bool.or_eq_true, List.any_eq_true, List.contains_iff_mem]
  rcases h with ⟨h1, h2⟩ | ⟨h1, h2⟩
  · exact .inl ⟨k, h1, h2⟩
  · exact .inr ⟨k, h1, h2⟩
theorem clash_r {r s : OpR} (hi : r.ins = none) {k : Nat} (h : (k ∈ r.wk ∧ k ∈ s.tk) ∨ (k ∈ s.wk ∧ k ∈ r.tk)) : clashK s r = true := by
  simp only [clashK, hi, Option.isSome_none, Bool.and_false, Bool.not_false, Bool.true_and, Bool.or_eq_true, List.any_eq_true, List.contains_iff_mem]
  rcases h with ⟨h1, h2⟩ | ⟨h1, h2⟩
  · exact .inr ⟨k, h1, h2⟩
  · exact .inl ⟨k, h1, h2⟩
theorem tk_wk {r : OpR} {k : Nat} (h : k ∈ r.wk) : k ∈ r.tk := by simp only [OpR.tk, List.mem_append]; exact .inr h
theorem act_none_in {r : OpR} (hi : r.ins = none) {k : Nat} (h : k ∈ r.wk) (A B : Hp) : r.act A k = r.act B k := by
  rw [wk_none hi] at h
  unfold OpR.act
  rw [hi]
  simp only [add_apply, del_apply]
  cases h1 : hpo r.post k with
  | some o => rfl
  | none =>
    cases h2 : hpo r.pre k with
    | some o => rfl
    | none =>
      simp only [List.mem_append] at h
      rcases h with h | h
      · exact absurd h2 (mem_keys.2 h)
      · exact absurd h1 (mem_keys.2 h)
theorem wk_ins {r : OpR} {k k' : Nat} {e : List V} (hi : r.ins = some (k', e)) : k ∈ r.wk ↔ k = k' := by
  unfold OpR.wk
  rw [hi]
  simp
theorem act_some {r : OpR} {k : Nat} {e : List V} (hi : r.ins = some (k, e)) (A : Hp) : r.act A k = mpAdd e (A k) := by
  unfold OpR.act
  rw [hi]
  exact upd_same _ _ _
theorem hAt_congr {H : Hp} {rs : List OpR} {L L' : Nat → Bool} : ∀ (m : Nat), (∀ i, i < m → L i = L' i) → hAt H rs L m = hAt H rs L' m
  | 0, _ => rfl
  | m + 1, h => by
    have ih := hAt_congr (H := H) (rs := rs) m fun i hi => h i (by omega)
    simp only [hAt, ih, h m (by omega)]
theorem mpO_tail (X : List (List V)) : (mpO X).rows.tail = X := rfl
/-- a map's entries, by those that are done -/
theorem ins_heap (hc : Can P N ops rs st st' f) (hok : drawOk ops rs = true) {L : Nat → Bool} (hcl : ∀ j o, ops[j]? = some o → L j = true → ∀ e ∈ o.after, Region.binds .any e = true → L e.on = true)
    {j : Nat} {o : Oper} (ho : ops[j]? = some o) (hL : L j = false) (hready : ∀ e ∈ o.after, Region.binds .any e = true → L e.on = true) {r : OpR} (hr : rs[j]? = some r) {k : Nat} {kc : List V} {y : V} {ents : List (List V)} (hi : r.ins = some (k, [.agg kc, y]))
    (hst : AStep P N ops o (f j) r (f (j + 1))) (hk0 : (f j).H k = some (mpO ents)) (hap : ∀ r ∈ ents, KeyAp kc r) :
    ∃ X Y, hAt st.H rs L ops.size k = some (mpO X) ∧ (∀ r ∈ X, KeyAp kc r) ∧ hAt st.H rs (setL L j) ops.size k = some (mpO Y) ∧ (X ++ [[.agg kc, y]]).Perm Y := by
  have hj : j < ops.size := (Array.getElem?_eq_some_iff.1 ho).1
  simp only [drawOk, Bool.and_eq_true] at hok
  obtain ⟨hed, hpr⟩ := hok
  have rat : ∀ i, i < ops.size → ∃ x s, ops[i]? = some x ∧ rs[i]? = some s ∧ AStep P N ops x (f i) s (f (i + 1)) := fun i h => by
    obtain ⟨s, hs, ha⟩ := hc.step i _ (Array.getElem?_eq_getElem h)
    exact ⟨_, s, Array.getElem?_eq_getElem h, hs, ha⟩
  have hkr : k ∈ r.wk := (wk_ins hi).2 rfl
  have ahead : ∀ i s, i < j → rs[i]? = some s → s.ins = none → k ∈ s.wk → L i = true := fun i s hij hs hn hk => by
    obtain ⟨x, s', hx, hs', _⟩ := rat i (by omega)
    rw [hs] at hs'; cases hs'
    rcases pairs_of hpr hij hx ho hs hr with h | ⟨_, h2⟩
    · exact befs_closed hcl hed j o ho hready i h
    · rw [clash_l hn (.inl ⟨hk, tk_wk hkr⟩)] at h2; cases h2
  have behind : ∀ i s, j < i → i < ops.size → rs[i]? = some s → s.ins = none → k ∈ s.wk → L i = false := fun i s hij hi' hs hn hk => by
    obtain ⟨x, s', hx, hs', _⟩ := rat i hi'
    rw [hs] at hs'; cases hs'
    cases hLi : L i with
    | false => rfl
    | true =>
      rcases pairs_of hpr hij ho hx hr hs with h | ⟨_, h2⟩
      · have := befs_closed hcl hed i x hx (fun e he hb => hcl i x hx hLi e he hb) j h
        rw [hL] at this; cases this
      · rw [clash_r hn (.inl ⟨hk, tk_wk hkr⟩)] at h2; cases h2
  -- below j
  have low : ∀ m, m ≤ j → (hAt st.H rs (fun _ => true) m k = none ∧ hAt st.H rs L m k = none) ∨ ∃ o o', hAt st.H rs (fun _ => true) m k = some o ∧ hAt st.H rs L m k = some o' ∧ (∀ r ∈ o'.rows.tail, r ∈ o.rows.tail) ∧ (o' = o ∨ ∃ X, o' = mpO X) := by
    intro m
    induction m with
    | zero =>
      intro _
      cases h : st.H k with
      | none => exact .inl ⟨h, h⟩
      | some o => exact .inr ⟨o, o, h, h, fun _ h => h, .inl rfl⟩
    | succ m ih =>
      intro hm
      have ih := ih (by omega)
      obtain ⟨x, s, hx, hs, ha⟩ := rat m (by omega)
      rw [hAt_succ, hAt_succ, hs]
      simp only [true_and]
      by_cases hk : k ∈ s.wk
      · rw [if_pos hk]
        cases hn : s.ins with
        | none =>
          rw [if_pos ⟨ahead m s (by omega) hs hn hk, hk⟩, act_none_in hn hk (hAt st.H rs L m) (hAt st.H rs (fun _ => true) m)]
          cases h : s.act (hAt st.H rs (fun _ => true) m) k with
          | none => exact .inl ⟨rfl, rfl⟩
          | some o => exact .inr ⟨o, o, rfl, rfl, fun _ h => h, .inl rfl⟩
        | some p =>
          obtain ⟨k', e'⟩ := p
          obtain rfl := (wk_ins hn).1 hk
          have hm0 : ∃ E, hAt st.H rs (fun _ => true) m k = some (mpO E) := by
            rw [← hc.heap m (by omega)]
            rcases ha.on with ⟨h, _⟩ | ⟨_, rfl⟩ | ⟨_, k1, kc1, y1, E, rfl, h1, _⟩
            · rw [hn] at h; cases h
            · cases hn
            · cases hn; exact ⟨E, h1⟩
          obtain ⟨E, hE⟩ := hm0
          rcases ih with ⟨h1, _⟩ | ⟨o1, o2, h1, h2, h3, h4⟩
          · rw [hE] at h1; cases h1
          · rw [hE] at h1
            cases h1
            rw [act_some hn, hE]
            have hX : ∃ X, o2 = mpO X := by rcases h4 with h4 | h4; exact ⟨E, h4⟩; exact h4
            obtain ⟨X, rfl⟩ := hX
            refine .inr ⟨mpO (E ++ [e']), if L m = true then mpO (X ++ [e']) else mpO X, rfl, ?_, ?_, ?_⟩
            · by_cases hLm : L m = true
              · rw [if_pos ⟨hLm, hk⟩, if_pos hLm, act_some hn, h2]; rfl
              · rw [if_neg (fun h => hLm h.1), if_neg hLm, h2]
            · intro t ht
              simp only [mpO_tail] at h3
              by_cases hLm : L m = true
              · rw [if_pos hLm, mpO_tail] at ht
                rw [mpO_tail]
                rcases List.mem_append.1 ht with h | h
                · exact List.mem_append_left _ (h3 t h)
                · exact List.mem_append_right _ h
              · rw [if_neg hLm, mpO_tail] at ht
                rw [mpO_tail]
                exact List.mem_append_left _ (h3 t ht)
            · right
              by_cases hLm : L m = true
              · exact ⟨_, if_pos hLm⟩
              · exact ⟨_, if_neg hLm⟩
      · rw [if_neg hk, if_neg (fun h => hk h.2)]
        exact ih
  obtain ⟨X0, hX0, hX1⟩ : ∃ X0, hAt st.H rs L j k = some (mpO X0) ∧ ∀ r ∈ X0, r ∈ ents := by
    rcases low j (Nat.le_refl _) with ⟨h1, _⟩ | ⟨o1, o2, h1, h2, h3, h4⟩
    · rw [← hc.heap j (by omega), hk0] at h1; cases h1
    · rw [← hc.heap j (by omega), hk0] at h1
      cases h1
      rcases h4 with rfl | ⟨X, rfl⟩
      · exact ⟨ents, h2, fun _ h => h⟩
      · exact ⟨X, h2, fun t ht => h3 t ht⟩
  -- our entry stays where it is, in the order of the text
  have stays : ∀ m, j < m → m < ops.size → L m = true → (∃ s p, rs[m]? = some s ∧ s.ins = some p ∧ k ∈ s.wk) → ∀ d, j + 1 + d ≤ m → ∃ Z, (f (j + 1 + d)).H k = some (mpO Z) ∧ [.agg kc, y] ∈ Z := by
    intro m hjm hm hLm ⟨s, p, hs, hn, hk⟩ d
    induction d with
    | zero =>
      intro _
      refine ⟨ents ++ [[.agg kc, y]], ?_, by simp⟩
      rw [Nat.add_zero, hst.heap, act_some hi, hk0]
      rfl
    | succ d ih =>
      intro hd
      obtain ⟨Z, h1, h2⟩ := ih (by omega)
      obtain ⟨x, s1, hx, hs1, ha⟩ := rat (j + 1 + d) (by omega)
      rw [← Nat.add_assoc, ha.heap]
      by_cases hk1 : k ∈ s1.wk
      · cases hn1 : s1.ins with
        | none =>
          exfalso
          obtain ⟨xm, sm, hxm, hsm, _⟩ := rat m hm
          rw [hs] at hsm; cases hsm
          rcases pairs_of hpr (show j + 1 + d < m by omega) hx hxm hs1 hs with h | ⟨_, h⟩
          · have hLi := befs_closed hcl hed m xm hxm (fun e he hb => hcl m xm hxm hLm e he hb) _ h
            have := behind (j + 1 + d) s1 (by omega) (by omega) hs1 hn1 hk1
            rw [hLi] at this; cases this
          · rw [clash_l hn1 (.inl ⟨hk1, tk_wk hk⟩)] at h; cases h
        | some p1 =>
          obtain ⟨k', e'⟩ := p1
          obtain rfl := (wk_ins hn1).1 hk1
          rw [act_some hn1, h1]
          exact ⟨Z ++ [e'], rfl, List.mem_append_left _ h2⟩
      · rw [act_out hk1]
        exact ⟨Z, h1, h2⟩
  have high : ∀ d, j + 1 + d ≤ ops.size → ∃ X Y, hAt st.H rs L (j + 1 + d) k = some (mpO X) ∧ (∀ r ∈ X, KeyAp kc r) ∧ hAt st.H rs (setL L j) (j + 1 + d) k = some (mpO Y) ∧ (X ++ [[.agg kc, y]]).Perm Y := by
    intro d
    induction d with
    | zero =>
      intro _
      refine ⟨X0, X0 ++ [[.agg kc, y]], ?_, fun t ht => hap t (hX1 t ht), ?_, .refl _⟩
      · rw [Nat.add_zero, hAt_succ, hr]
        simp only [hL, Bool.false_eq_true, false_and, if_false]
        exact hX0
      · rw [Nat.add_zero, hAt_succ, hr]
        simp only [setL, if_true, true_and, hkr]
        rw [act_some hi, hAt_congr (L' := L) j (fun i hi => by simp [setL, Nat.ne_of_lt hi]), hX0]
        rfl
    | succ d ih =>
      intro hd
      obtain ⟨X, Y, h1, h2, h3, h4⟩ := ih (by omega)
      obtain ⟨x, s, hx, hs, ha⟩ := rat (j + 1 + d) (by omega)
      have hne : setL L j (j + 1 + d) = L (j + 1 + d) := by simp [setL]; omega
      rw [← Nat.add_assoc, hAt_succ, hAt_succ, hs]
      simp only [hne]
      by_cases hb : L (j + 1 + d) = true ∧ k ∈ s.wk
      · rw [if_pos hb, if_pos hb]
        cases hn : s.ins with
        | none =>
          have := behind (j + 1 + d) s (by omega) (by omega) hs hn hb.2
          rw [hb.1] at this; cases this
        | some p =>
          obtain ⟨k', e'⟩ := p
          obtain rfl := (wk_ins hn).1 hb.2
          rw [act_some hn, act_some hn, h1, h3]
          refine ⟨X ++ [e'], Y ++ [e'], rfl, fun t ht => ?_, rfl, ?_⟩
          · rcases List.mem_append.1 ht with ht | ht
            · exact h2 t ht
            · simp at ht
              subst ht
              obtain ⟨Z, g1, g2⟩ := stays (j + 1 + d) (by omega) (by omega) hb.1 ⟨s, _, hs, hn, hb.2⟩ d (Nat.le_refl _)
              rcases ha.on with ⟨h, _⟩ | ⟨_, rfl⟩ | ⟨_, k1, kc1, y1, E, rfl, q1, _, q2, _⟩
              · rw [hn] at h; cases h
              · cases hn
              · cases hn
                rw [g1] at q1
                have hZE : Z = E := by
                  have := congrArg (fun o : Option VObj => o.map (·.rows.tail)) q1
                  simpa [mpO_tail] using this
                subst hZE
                obtain ⟨sh, c, v, e1, e2⟩ := q2 _ g2
                simp only [List.cons.injEq, V.agg.injEq, and_true] at e1
                obtain ⟨rfl, rfl⟩ := e1
                exact ⟨sh, kc1, y1, rfl, by rw [eqCells_symm]; exact e2⟩
          · have p1 : ((X ++ [e']) ++ [[.agg kc, y]]).Perm ((X ++ [[.agg kc, y]]) ++ [e']) := by
              rw [List.append_assoc, List.append_assoc]
              exact List.Perm.append_left X (List.Perm.swap _ _ _)
            exact p1.trans (h4.append_right _)
      · rw [if_neg hb, if_neg hb]
        exact ⟨X, Y, h1, h2, h3, h4⟩
  obtain ⟨d, hd⟩ := Nat.le.dest (show j + 1 ≤ ops.size by omega)
  rw [← hd]
  exact high d (by omega)

theorem post_wk (hc : Can P N ops rs st st' f) {i : Nat} {s : OpR} (hs : rs[i]? = some s) {k : Nat} (hk : k ∈ keysOf s.post) : k ∈ s.wk := by
  have hi : i < ops.size := by rw [← hc.len]; exact (List.getElem?_eq_some_iff.1 hs).1
  obtain ⟨s', hs', ha⟩ := hc.step i _ (Array.getElem?_eq_getElem hi)
  rw [hs] at hs'
  cases hs'
  rcases ha.on with ⟨hin, _⟩ | ⟨_, rfl⟩ | ⟨_, k1, kc1, y1, E, rfl, _⟩
  · rw [wk_none hin]; exact List.mem_append_right _ hk
  · simp [keysOf] at hk
  · simp [keysOf] at hk
    exact (wk_ins rfl).2 hk
theorem draw_step (hc : Can P N ops rs st st' f) (hok : drawOk ops rs = true) {S0 : Nat → Prop} {ρ0 : KM} {a0 : Act} {w0 : World} (hs0 : SimSt N S0 ρ0 a0 w0 st) {L : Nat → Bool} {S : Nat → Prop} {ρ : KM} {a : Act} {w : World} (hi : DInv N ops rs st S0 ρ0 w0 L S ρ a w)
    {j : Nat} {o : Oper} (ho : ops[j]? = some o) (hL : L j = false) (hready : ∀ e ∈ o.after, Region.binds .any e = true → L e.on = true) {K : Act → World → Prop} {Q : Exit → Act → World → Prop}
    (hK : ∀ S' ρ' a' w', DInv N ops rs st S0 ρ0 w0 (setL L j) S' ρ' a' w' → K a' w') : wpOp P ops Q j K a w := by
  have hj : j < ops.size := (Array.getElem?_eq_some_iff.1 ho).1
  have hok0 := hok
  simp only [drawOk, Bool.and_eq_true] at hok
  obtain ⟨hed, hpr⟩ := hok
  obtain ⟨r, hr, hst⟩ := hc.step j o ho
  -- those that clash with j, and stand ahead, are done; those behind are not
  have ahead : ∀ i x s, i < j → ops[i]? = some x → rs[i]? = some s → clashS ops x o = true ∨ clashK s r = true → L i = true := fun i x s hij hx hs hcl => by
    rcases pairs_of hpr hij hx ho hs hr with h | ⟨h1, h2⟩
    · exact befs_closed hi.closed hed j o ho hready i h
    · rcases hcl with h | h
      · rw [h1] at h; cases h
      · rw [h2] at h; cases h
  have behind : ∀ i x s, j < i → ops[i]? = some x → rs[i]? = some s → clashS ops o x = true ∨ clashK r s = true → L i = false := fun i x s hij hx hs hcl => by
    cases hLi : L i with
    | false => rfl
    | true =>
      rcases pairs_of hpr hij ho hx hr hs with h | ⟨h1, h2⟩
      · have := befs_closed hi.closed hed i x hx (fun e he hb => hi.closed i x hx hLi e he hb) j h
        rw [hL] at this; cases this
      · rcases hcl with h | h
        · rw [h1] at h; cases h
        · rw [h2] at h; cases h
  have opat : ∀ i s, rs[i]? = some s → ∃ x, ops[i]? = some x := fun i s h => by
    have := (List.getElem?_eq_some_iff.1 h).1
    rw [hc.len] at this
    exact ⟨_, Array.getElem?_eq_getElem this⟩
  have rat : ∀ i x, ops[i]? = some x → ∃ s, rs[i]? = some s := fun i x h => by
    obtain ⟨s, hs, _⟩ := hc.step i x h
    exact ⟨s, hs⟩
  obtain ⟨d, hd⟩ : ∃ d, ops.size = j + 1 + d := ⟨ops.size - (j + 1), by omega⟩
  have hkey : r.ins = none → ∀ k, k ∈ r.tk → hAt st.H rs L ops.size k = (f j).H k := fun hin k hk => by
    rw [hc.heap j (by omega), hd]
    rw [hAt_key d (fun i s h1 _ h3 h4 hw => by
      obtain ⟨x, hx⟩ := opat i s h4
      have := behind i x s (by omega) hx h4 (.inr (clash_l hin (.inr ⟨hw, hk⟩)))
      rw [h3] at this; cases this)]
    rw [hAt_succ, hr]
    simp only [hL, Bool.false_eq_true, false_and, if_false]
    exact hAt_same j fun i s h1 h2 hw => by
      obtain ⟨x, hx⟩ := opat i s h2
      exact ahead i x s h1 hx h2 (.inr (clash_r hin (.inr ⟨hw, hk⟩)))
  have hslot : ∀ t, t ∈ o.looksAt ops → eAt st.env ops.toList rs L ops.size t = (f j).env t := fun t ht => by
    rw [hc.env j (by omega), hd]
    rw [eAt_key d (fun i x h1 _ h3 h4 hw => by
      have h4 : ops[i]? = some x := by simpa using h4
      obtain ⟨s, hs⟩ := rat i x h4
      have := behind i x s (by omega) h4 hs (.inl (by
        simp only [clashS, hw, Bool.or_eq_true]
        exact .inr (by simpa using ht)))
      rw [h3] at this; cases this)]
    rw [eAt_succ, hr]
    have ho' : ops.toList[j]? = some o := by simpa using ho
    rw [ho']
    simp only [hL, Bool.false_eq_true, false_and, if_false]
    exact eAt_same j fun i x h1 h2 hw => by
      have h2 : ops[i]? = some x := by simpa using h2
      obtain ⟨s, hs⟩ := rat i x h2
      refine ahead i x s h1 h2 hs (.inl ?_)
      simp only [clashS, hw, Bool.or_eq_true]
      exact .inl (.inl (by simpa using ht))
  have hset : ∀ i, i ≠ j → setL L j i = L i := fun i h => by simp [setL, h]
  have hheap : r.ins = none → hAt st.H rs (setL L j) ops.size = ((hAt st.H rs L ops.size).del r.pre).add r.post := fun hin => by
    rw [show ((hAt st.H rs L ops.size).del r.pre).add r.post = r.act (hAt st.H rs L ops.size) from by simp only [OpR.act, hin]]
    funext k
    by_cases hk : k ∈ r.wk
    · rw [hd, hAt_key d (fun i s h1 _ h3 h4 hw => by
        obtain ⟨x, hx⟩ := opat i s h4
        have := behind i x s (by omega) hx h4 (.inr (clash_l hin (.inl ⟨hk, tk_wk hw⟩)))
        rw [hset i (by omega), this] at h3; cases h3)]
      rw [hAt_succ, hr]
      simp only [setL, true_and, hk, if_true]
      exact act_none_in hin hk _ _
    · rw [hAt_flip hr hk hset, act_out hk]
  have henv : eAt st.env ops.toList rs (setL L j) ops.size = updO (eAt st.env ops.toList rs L ops.size) o.dst r.v := by
    funext t
    have ho' : ops.toList[j]? = some o := by simpa using ho
    by_cases hk : o.dst = some t
    · rw [hd, eAt_key d (fun i x h1 _ h3 h4 hw => by
        have h4 : ops[i]? = some x := by simpa using h4
        obtain ⟨s, hs⟩ := rat i x h4
        have := behind i x s (by omega) h4 hs (.inl (by
          simp only [clashS, hk, Bool.or_eq_true]
          exact .inl (.inr (by simp [hw]))))
        rw [hset i (by omega), this] at h3; cases h3)]
      rw [eAt_succ, hr, ho', hk]
      simp only [setL, if_true, true_and, updO, upd_same, hk]
    · rw [eAt_flip ho' hk hset]
      cases hdst : o.dst with
      | none => rfl
      | some d' =>
        simp only [updO]
        rw [upd_ne]
        rintro rfl
        exact hk hdst
  have hclosed : ∀ i x, ops[i]? = some x → setL L j i = true → ∀ e ∈ x.after, Region.binds .any e = true → setL L j e.on = true := fun i x hx h e he hb => by
    have : L e.on = true := by
      by_cases e' : i = j
      · subst e'
        rw [ho] at hx
        cases hx
        exact hready e he hb
      · rw [hset i e'] at h
        exact hi.closed i x hx h e he hb
    simp only [setL]
    split
    · rfl
    · exact this
  have hlooks : ∀ x ∈ o.op.operands.toList, ovOf (eAt st.env ops.toList rs L ops.size) x = ovOf (f j).env x := fun x hx => by
    cases x with
    | tmp t =>
      exact hslot t (List.mem_append_left _ (List.mem_filterMap.2 ⟨.tmp t, hx, rfl⟩))
    | _ => rfl
  have hguard : ∀ g want t, o.guard = some (g, want) → (ops[g]?).bind (·.dst) = some t → eAt st.env ops.toList rs L ops.size t = (f j).env t := fun g want t h1 h2 => by
    refine hslot t (List.mem_append_right _ ?_)
    rw [h1]
    simp only [h2]
    simp
  have hput : ∀ t, o.dst = some t → t < a.tmps.size := fun t ht => by rw [hi.size]; exact hst.dst t ht
  unfold wpOp
  rw [ho]
  simp only
  rcases hst.on with ⟨hin, g, hl, hrd, hpre, hnew, hlt⟩ | ⟨g, hrr⟩ | ⟨g, km, kc, ym, ents, hrr, hk0, hk1, hap, hins⟩
  · have g' : gOn ops (eAt st.env ops.toList rs L ops.size) o := by
      unfold gOn at g ⊢
      cases hg : o.guard with
      | none => trivial
      | some gw =>
        obtain ⟨gi, want⟩ := gw
        rw [hg] at g
        obtain ⟨t, h1, h2⟩ := g
        exact ⟨t, h1, by rw [hguard gi want t hg h1]; exact h2⟩
    have hrd' : Sub (hpo r.rd) (hAt st.H rs L ops.size) := fun k o' hk => by
      rw [hkey hin k (by simp only [OpR.tk, List.mem_append]; exact .inl (mem_keys.1 (by rw [hk]; simp)))]
      exact hrd k o' hk
    have hpre' : Sub (hpo r.pre) (hAt st.H rs L ops.size) := fun k o' hk => by
      rw [hkey hin k (tk_wk (by rw [wk_none hin]; exact List.mem_append_left _ (mem_keys.1 (by rw [hk]; simp))))]
      exact hpre k o' hk
    have hfresh : ∀ k, hpo r.post k ≠ none → hpo r.pre k = none → ρ k = none := fun k h1 h2 => by
      have hkp := mem_keys.1 h1
      have hge := hnew k hkp (fun h => (mem_keys.2 h) h2)
      cases hρ : ρ k with
      | none => rfl
      | some b =>
        rcases hi.dom k (by rw [hρ]; simp) with h | ⟨i, s, hLi, hs, hks⟩
        · have h0 := hc.nx 0 j (by omega) (by omega)
          rw [hc.zero] at h0
          exact absurd (hs0.new k (by omega)) h
        · have hne : i ≠ j := by rintro rfl; rw [hL] at hLi; cases hLi
          rcases Nat.lt_or_ge i j with hij | hij
          · have := hc.post_lt hs hks
            have := hc.nx (i + 1) j (by omega) (by omega)
            omega
          · obtain ⟨x, hx⟩ := opat i s hs
            have := behind i x s (by omega) hx hs (.inr (clash_l hin (.inl ⟨by rw [wk_none hin]; exact List.mem_append_right _ hkp, tk_wk (post_wk hc hs hks)⟩)))
            rw [this] at hLi; cases hLi
    rw [if_pos (wanted_on hi.slots g')]
    refine .inl ((hl.congr hlooks) S ρ w a (fun x _ => hi.slots.ov x) (hi.sim.sub (sub_app hrd' hpre')) hfresh K Q fun u S' ρ' w' hu hsim hext => ?_)
    obtain ⟨f1, f2⟩ := step_frame hi.sim hpre' hfresh hsim hext
    refine hK S' ρ' _ w' ⟨?_, ?_, ?_, ?_, ?_, ?_, hclosed⟩
    · rw [hheap hin]; exact f1
    · rw [henv]; exact SRep.put (fun t => f2.rep hi.sim (hi.slots t)) hu hput
    · rw [put_size]; exact hi.size
    · rw [put_defers]; exact hi.defers
    · rw [hheap hin]; exact hi.ext.trans f2.to0
    · intro k hk
      cases hh : ρ' k with
      | none => exact absurd hh hk
      | some b =>
        rcases hext.dom k b hh with h | ⟨o', h⟩
        · rcases hi.dom k (by rw [h]; simp) with h | ⟨i, s, hLi, hs, hks⟩
          · exact .inl h
          · refine .inr ⟨i, s, ?_, hs, hks⟩
            simp only [setL]; split
            · rfl
            · exact hLi
        · exact .inr ⟨j, r, by simp [setL], hr, mem_keys.1 (by rw [h]; simp)⟩
  · have g' : gOff ops (eAt st.env ops.toList rs L ops.size) o := by
      unfold gOff at g ⊢
      cases hg : o.guard with
      | none => rw [hg] at g; exact g.elim
      | some gw =>
        obtain ⟨gi, want⟩ := gw
        rw [hg] at g
        obtain ⟨t, h1, h2⟩ := g
        exact ⟨t, h1, by rw [hguard gi want t hg h1]; exact h2⟩
    rw [if_neg (by rw [wanted_off hi.slots g']; simp)]
    subst hrr
    have hh : ((hAt st.H rs L ops.size).del []).add [] = hAt st.H rs L ops.size := rfl
    refine hK S ρ _ w ⟨?_, ?_, ?_, ?_, ?_, ?_, hclosed⟩
    · rw [hheap rfl]; exact hi.sim
    · rw [henv]; exact hi.slots.put rep_undef hput
    · rw [put_size]; exact hi.size
    · rw [put_defers]; exact hi.defers
    · rw [hheap rfl]; exact hi.ext
    · intro k hk
      rcases hi.dom k hk with h | ⟨i, s, hLi, hs, hks⟩
      · exact .inl h
      · refine .inr ⟨i, s, ?_, hs, hks⟩
        simp only [setL]; split
        · rfl
        · exact hLi
  · have hri : r.ins = some (km, [.agg kc, ym]) := by rw [hrr]
    obtain ⟨X, Y, hX1, hX2, hY, hXY⟩ := ins_heap hc hok0 hi.closed ho hL hready hr hri hst hk0 hap
    have g' : gOn ops (eAt st.env ops.toList rs L ops.size) o := by
      unfold gOn at g ⊢
      cases hg : o.guard with
      | none => trivial
      | some gw =>
        obtain ⟨gi, want⟩ := gw
        rw [hg] at g
        obtain ⟨t, h1, h2⟩ := g
        exact ⟨t, h1, by rw [hguard gi want t hg h1]; exact h2⟩
    have hpre' : Sub (hpo [(km, mpO X)]) (hAt st.H rs L ops.size) := Sub.one hX1
    have hfresh : ∀ k, hpo [(km, mpO (X ++ [[.agg kc, ym]]))] k ≠ none → hpo [(km, mpO X)] k = none → ρ k = none := fun k h1 h2 => by
      rw [hpo_one] at h1 h2
      split at h2
      · cases h2
      · rename_i h3; rw [if_neg h3] at h1; exact absurd rfl h1
    rw [if_pos (wanted_on hi.slots g')]
    have hmap0 := hins.2 S ρ w a (fun x hx => by rw [← hlooks x hx]; exact hi.slots.ov x) 
    refine .inl (((hins.1 X hX2).congr hlooks) S ρ w a (fun x _ => hi.slots.ov x) (hi.sim.sub (sub_app (Sub.nil _) hpre')) hfresh K Q fun u S' ρ' w' hu hsim hext => ?_)
    obtain ⟨f1, f2⟩ := step_frame hi.sim hpre' hfresh hsim hext
    have hkm : ((hAt st.H rs L ops.size).del [(km, mpO X)]).add [(km, mpO (X ++ [[.agg kc, ym]]))] = upd (hAt st.H rs L ops.size) km (some (mpO (X ++ [[.agg kc, ym]]))) := by
      simp only [Hp.add, Hp.del, upd_upd]
    have hset' : hAt st.H rs (setL L j) ops.size = upd (((hAt st.H rs L ops.size).del [(km, mpO X)]).add [(km, mpO (X ++ [[.agg kc, ym]]))]) km (some (mpO Y)) := by
      rw [hkm, upd_upd]
      funext t
      by_cases e : t = km
      · subst e; rw [upd_same]; exact hY
      · rw [upd_ne _ _ e, hAt_flip hr (fun h => e ((wk_ins hri).1 h)) hset]
    obtain ⟨b0, hb0⟩ : ∃ b, ρ km = some b := by
      rcases hi.sim.obj km _ hX1 with ⟨b, c, t, q, _⟩ | ⟨_, q⟩
      · exact ⟨b, q⟩
      · simp [mpO, mpRows] at q
    have hmap' : ∀ b, ρ' km = some b → ∃ es n, w'.heap[b]? = some (.map es n) := fun b hb => by
      rw [f2.keys km b0 hb0] at hb
      cases hb
      obtain ⟨es, n, hes⟩ := hmap0 b0 hb0
      exact f2.keeps.2 b0 es n hes
    have f1' : Sim S' ρ' w' (hAt st.H rs (setL L j) ops.size) := by
      rw [hset']
      exact sim_perm f1 (by rw [hkm, upd_same]) hXY hmap'
    have same : ∀ t o, hAt st.H rs (setL L j) ops.size t = some o → ∃ o', (((hAt st.H rs L ops.size).del [(km, mpO X)]).add [(km, mpO (X ++ [[.agg kc, ym]]))]) t = some o' ∧ (o.frz = false → o'.frz = false) := fun t o ht => by
      rw [hset'] at ht
      by_cases e : t = km
      · subst e
        exact ⟨mpO (X ++ [[.agg kc, ym]]), by rw [hkm, upd_same], fun _ => rfl⟩
      · rw [upd_ne _ _ e] at ht
        exact ⟨o, ht, fun h => h⟩
    refine hK S' ρ' _ w' ⟨f1', ?_, ?_, ?_, ?_, ?_, hclosed⟩
    · rw [henv, hrr]; exact SRep.put (fun t => f2.rep hi.sim (hi.slots t)) hu hput
    · rw [put_size]; exact hi.size
    · rw [put_defers]; exact hi.defers
    · have e0 := hi.ext.trans f2.to0
      exact ⟨e0.os, e0.tape, e0.output, e0.size, e0.block, e0.keeps, e0.more, e0.only, fun b ⟨t, o, h1, h2⟩ => by
        obtain ⟨o', h3, _⟩ := same t o h1
        exact e0.live b ⟨t, o', h3, h2⟩, fun b ⟨t, o, h1, h4, h2⟩ => by
        obtain ⟨o', h3, h5⟩ := same t o h1
        exact e0.own b ⟨t, o', h3, h5 h4, h2⟩, e0.keys⟩
    · intro k hk
      cases hh : ρ' k with
      | none => exact absurd hh hk
      | some b =>
        rcases hext.dom k b hh with h | ⟨o', h⟩
        · rcases hi.dom k (by rw [h]; simp) with h | ⟨i, s, hLi, hs, hks⟩
          · exact .inl h
          · refine .inr ⟨i, s, ?_, hs, hks⟩
            simp only [setL]; split
            · rfl
            · exact hLi
        · refine .inr ⟨j, r, by simp [setL], hr, ?_⟩
          have := mem_keys.1 (show hpo [(km, mpO (X ++ [[.agg kc, ym]]))] k ≠ none by rw [h]; simp)
          rw [hrr]
          simpa [keysOf] using this

def LB (listed : Array Bool) : Nat → Bool := fun i => listed.getD i false
theorem LB_set {listed : Array Bool} {j : Nat} (hj : j < listed.size) : LB (listed.setIfInBounds j true) = setL (LB listed) j := by
  funext i
  simp only [LB, setL]
  by_cases e : i = j
  · subst e; simp [hj]
  · rw [if_neg e, getD_set_ne false (Ne.symm e)]
def left (listed : Array Bool) : Nat := ((List.range listed.size).filter fun i => !LB listed i).length
theorem left_set {listed : Array Bool} {j : Nat} (hj : j < listed.size) (hl : LB listed j = false) : left (listed.setIfInBounds j true) < left listed := by
  unfold left
  rw [LB_set hj]
  have hsz : (listed.setIfInBounds j true).size = listed.size := by simp
  rw [hsz]
  have hsub : (List.range listed.size).filter (fun i => !setL (LB listed) j i) = ((List.range listed.size).filter fun i => !LB listed i).filter (fun i => i != j) := by
    rw [List.filter_filter]
    apply List.filter_congr
    intro i _
    simp only [setL]
    by_cases e : i = j
    · subst e; simp
    · simp [e]
  rw [hsub]
  refine List.length_filter_lt_length_iff_exists.2 ⟨j, ?_, by simp⟩
  simp [hj, hl]

theorem all_listed (hc : Can P N ops rs st st' f) (hed : edgesOk ops = true) {listed : Array Bool} (hsz : listed.size = ops.size) (hr : Region.ready .any ops listed = []) : ∀ i, i < ops.size → LB listed i = true := by
  intro i
  induction i using Nat.strongRecOn with
  | _ i ih =>
    intro hi
    cases hL : LB listed i with
    | true => rfl
    | false =>
      exfalso
      have : i ∈ Region.ready .any ops listed := by
        rw [mem_ready]
        refine ⟨?_, ops[i], by simp [hi], fun e he hb => ?_⟩
        · have hi' : i < listed.size := by omega
          simp only [LB, Array.getD_eq_getD_getElem?, Array.getElem?_eq_getElem hi', Option.getD_some] at hL ⊢
          exact hL
        · unfold edgesOk at hed
          rw [List.all_eq_true] at hed
          have := hed (ops[i], i) (by rw [List.mem_zipIdx_iff_getElem?]; simp [hi])
          simp only [List.all_eq_true] at this
          have := this e (by simpa using he)
          simp only [hb, Bool.not_true, Bool.false_or, decide_eq_true_eq] at this
          exact ih e.on this (by omega)
      rw [hr] at this
      cases this

theorem can_old (hc : Can P N ops rs st st' f) (h0 : ∀ k o, st.H k = some o → k < st.nx) : ∀ m, m ≤ ops.size → ∀ k o, (f m).H k = some o → k < (f m).nx := by
  intro m
  induction m with
  | zero => intro _; rw [hc.zero]; exact h0
  | succ m ih =>
    intro hm k o hk
    obtain ⟨r, hr, hs⟩ := hc.step m _ (Array.getElem?_eq_getElem (show m < ops.size by omega))
    rw [hs.run.1, add_apply] at hk
    cases hp : hpo r.post k with
    | some o' => exact hc.post_lt hr (mem_keys.1 (by rw [hp]; simp))
    | none =>
      rw [hp, del_apply] at hk
      cases hq : hpo r.pre k with
      | some _ => rw [hq] at hk; cases hk
      | none => rw [hq] at hk; exact Nat.lt_of_lt_of_le (ih (by omega) k o hk) hs.nx

theorem draw_any (hc : Can P N ops rs st st' f) (hok : drawOk ops rs = true) {S0 : Nat → Prop} {ρ0 : KM} {a0 : Act} {w0 : World} (hs0 : SimSt N S0 ρ0 a0 w0 st) {Q : Exit → Act → World → Prop}
    (hQ : ∀ S' ρ' a' w', SimSt N S' ρ' a' w' st' → Ext0 S0 ρ0 w0 st.H S' ρ' w' st'.H → Q .normal a' w') :
    ∀ (fuel : Nat) (listed : Array Bool) (S : Nat → Prop) (ρ : KM) (a : Act) (w : World), listed.size = ops.size → left listed ≤ fuel → DInv N ops rs st S0 ρ0 w0 (LB listed) S ρ a w → wpAny P .any ops Q fuel listed a w := by
  have hed : edgesOk ops = true := by simp only [drawOk, Bool.and_eq_true] at hok; exact hok.1
  have fin : ∀ (listed : Array Bool) (S : Nat → Prop) (ρ : KM) (a : Act) (w : World), (∀ i, i < ops.size → LB listed i = true) → DInv N ops rs st S0 ρ0 w0 (LB listed) S ρ a w → Q .normal a w := by
    intro listed S ρ a w hall hi
    have e1 : hAt st.H rs (LB listed) ops.size = st'.H := by
      rw [← hc.last, hc.heap ops.size (Nat.le_refl _)]
      funext k
      exact hAt_same ops.size (fun i r h _ _ => hall i h)
    have e2 : eAt st.env ops.toList rs (LB listed) ops.size = st'.env := by
      rw [← hc.last, hc.env ops.size (Nat.le_refl _)]
      funext k
      exact eAt_same ops.size (fun i r h _ _ => hall i h)
    refine hQ S ρ a w ⟨e1 ▸ hi.sim, e2 ▸ hi.slots, hi.size, hi.defers, fun k hk => ?_, ?_⟩ (e1 ▸ hi.ext)
    · cases hh : ρ k with
      | none => rfl
      | some b =>
        have hn := hc.nx 0 ops.size (Nat.zero_le _) (Nat.le_refl _)
        rw [hc.zero, hc.last] at hn
        rcases hi.dom k (by rw [hh]; simp) with h | ⟨i, r, hL, hr, hkp⟩
        · exact absurd (hs0.new k (by omega)) h
        · have h1 := hc.post_lt hr hkp
          have hi' : i < ops.size := by rw [← hc.len]; exact (List.getElem?_eq_some_iff.1 hr).1
          have h2 := hc.nx (i + 1) ops.size (by omega) (Nat.le_refl _)
          rw [hc.last] at h2
          omega
    · have := can_old hc hs0.old ops.size (Nat.le_refl _)
      rw [hc.last] at this
      exact this
  intro fuel
  induction fuel with
  | zero =>
    intro listed S ρ a w hsz hl hi
    have h0 : left listed = 0 := by omega
    have hall : ∀ i, i < ops.size → LB listed i = true := fun i hi' => by
      unfold left at h0
      have := List.length_eq_zero_iff.1 h0
      rw [List.filter_eq_nil_iff] at this
      have := this i (by simp [hsz, hi'])
      simpa using this
    refine ⟨?_, fin listed S ρ a w hall hi⟩
    cases hr : Region.ready .any ops listed with
    | nil => rfl
    | cons x xs =>
      exfalso
      have hx : x ∈ Region.ready .any ops listed := by rw [hr]; simp
      rw [mem_ready] at hx
      obtain ⟨h1, o, ho, _⟩ := hx
      have hlt := (Array.getElem?_eq_some_iff.1 ho).1
      have h2 := hall x hlt
      have hlt' : x < listed.size := by omega
      simp only [LB, Array.getD_eq_getD_getElem?, Array.getElem?_eq_getElem hlt', Option.getD_some] at h1 h2
      rw [h1] at h2; cases h2
  | succ fuel ih =>
    intro listed S ρ a w hsz hl hi
    refine ⟨fun hr => fin listed S ρ a w (all_listed hc hed hsz hr) hi, fun j hj => ?_⟩
    rw [mem_ready] at hj
    obtain ⟨h1, o, ho, h2⟩ := hj
    have hlt : j < listed.size := by rw [hsz]; exact (Array.getElem?_eq_some_iff.1 ho).1
    have hL : LB listed j = false := by
      simp only [LB, Array.getD_eq_getD_getElem?, Array.getElem?_eq_getElem hlt, Option.getD_some] at h1 ⊢
      exact h1
    refine draw_step hc hok hs0 hi ho hL (fun e he hb => h2 e he hb) fun S' ρ' a' w' hi' => ?_
    refine ih _ S' ρ' a' w' (by simp [hsz]) ?_ ?_
    · have := left_set hlt hL
      omega
    · rw [LB_set hlt]; exact hi'

theorem region_drawn (hm : P.follows .mixedOrders = true) {id : Nat} (h : Chain P N ops ops.toList st rs st') (hok : drawOk ops rs = true) {S : Nat → Prop} {ρ : KM} {a : Act} {w : World} (hs : SimSt N S ρ a w st) {Q : Exit → Act → World → Prop}
    (hQ : ∀ S' ρ' a' w', SimSt N S' ρ' a' w' st' → Ext0 S ρ w st.H S' ρ' w' st'.H → Q .normal a' w') : (Code.region id ops true).wp P Q a w := by
  obtain ⟨f, hc⟩ := can_of h
  have mono : ∀ {u : Value} {x : V}, Rep S ρ w u x → Rep S ρ w.drew u x := fun h => Rep.mono (w := w) (w' := w.drew) (fun _ h => h) (fun _ _ => rfl) (fun _ _ h => h) ⟨fun _ c _ fr h => ⟨c, fr, h, rfl⟩, fun _ es n h => ⟨es, n, h⟩⟩ h
  have hs' : SimSt N S ρ a w.drew st := ⟨⟨fun k o hk => by
    rcases hs.sim.obj k o hk with ⟨b, c, t, q1, q2, q3, q4⟩ | q
    · exact .inl ⟨b, c, t, q1, q2.of rfl, q3.mono (fun _ _ h => mono h), q4⟩
    · exact .inr q, hs.sim.inj, hs.sim.bnd⟩, fun t => mono (hs.slots t), hs.size, hs.defers, hs.new, hs.old⟩
  have hE : Ext0 S ρ w st.H S ρ w.drew st.H := ⟨rfl, rfl, rfl, Nat.le_refl _, fun _ _ _ => rfl, ⟨fun _ c _ fr h => ⟨c, fr, h, rfl⟩, fun _ es n h => ⟨es, n, h⟩⟩, fun _ h => h, fun _ h => .inl h, fun _ h => .inr h, fun _ h => .inr h, fun _ _ h => h⟩
  have hz : ∀ i, LB (Array.replicate ops.size false) i = false := fun i => by
    simp only [LB, Array.getD_eq_getD_getElem?]
    by_cases h : i < ops.size <;> simp [h]
  have e1 : ∀ m, hAt st.H rs (LB (Array.replicate ops.size false)) m = st.H := by
    intro m
    induction m with
    | zero => rfl
    | succ m ih =>
      funext k
      rw [hAt_succ, ih]
      cases rs[m]? with
      | none => rfl
      | some r => simp [hz]
  have e2 : ∀ m, eAt st.env ops.toList rs (LB (Array.replicate ops.size false)) m = st.env := by
    intro m
    induction m with
    | zero => rfl
    | succ m ih =>
      funext k
      rw [eAt_succ, ih]
      cases rs[m]? with
      | none => rfl
      | some r =>
        cases ops.toList[m]? with
        | none => rfl
        | some o => simp [hz]
  refine wp_region_any hm (draw_any hc hok hs' (fun S' ρ' a' w' h e => hQ S' ρ' a' w' h (hE.trans e)) ops.size _ S ρ a w.drew (by simp) ?_ ⟨?_, ?_, hs.size, hs.defers, ?_, fun k hk => .inl hk, fun j o ho h => ?_⟩)
  · unfold left
    refine Nat.le_trans (List.length_filter_le _ _) ?_
    simp
  · rw [e1]; exact hs'.sim
  · rw [e2]; exact hs'.slots
  · rw [e1]; exact Ext0.refl _ _ _ _
  · rw [hz] at h; cases h

theorem region_plain {id : Nat} (h : Chain P N ops ops.toList st rs st') {S : Nat → Prop} {ρ : KM} {a : Act} {w : World} (hs : SimSt N S ρ a w st) {Q : Exit → Act → World → Prop}
    (hQ : ∀ S' ρ' a' w', SimSt N S' ρ' a' w' st' → Ext0 S ρ w st.H S' ρ' w' st'.H → Q .normal a' w') : (Code.region id ops false).wp P Q a w :=
  wp_region_list (chain_sound h hs hQ)

end
end Go.Proofs.Ytbieiehfohldjaa
namespace Go.Proofs.Ytbieiehfohldjaa
open Go
set_option linter.unusedVariables false
set_option linter.unusedSimpArgs false

/-- one value told more weakly, by other names ('τ': the new name's old one), what lies in objects of B as places that never change -/
inductive Wv (B : Hp) : (Nat → Option Nat) → V → V → Prop
  | any {τ x} : Wv B τ .any x
  | lit {τ v} : Wv B τ (.lit v) (.lit v)
  | agg {τ} {cs ds : List V} (hl : cs.length = ds.length) (h : ∀ (i : Nat) (x y : V), cs[i]? = some x → ds[i]? = some y → Wv B τ x y) : Wv B τ (.agg cs) (.agg ds)
  | tup {τ} {cs ds : List V} (hl : cs.length = ds.length) (h : ∀ (i : Nat) (x y : V), cs[i]? = some x → ds[i]? = some y → Wv B τ x y) : Wv B τ (.tup cs) (.tup ds)
  | nil {τ sz} : Wv B τ (.sl sz []) (.lit (.slice none 0 0))
  | sl {τ sz l} : Wv B τ (.sl sz l) (.sl sz l)
  | sl0 {τ sz sz'} : Wv B τ (.sl sz []) (.sl sz' [])
  | sls {τ sz l nn ex} : Wv B τ (.sls sz l nn ex) (.sls sz l nn ex)
  | slsl {τ sz l nn ex} : Wv B τ (.sl sz l) (.sls sz l nn ex)
  | winS {τ k sz lo n cp} {ob : VObj} {L : List (List V)} (hB : B k = some ob) (hz : ob.sz = sz) (hl : lo + n ≤ ob.rows.length) (hn : L.length = n)
      (h1 : ∀ (i : Nat) (r s : List V), L[i]? = some r → ob.rows[lo + i]? = some s → r.length = s.length)
      (h : ∀ (i j : Nat) (r s : List V) (x y : V), L[i]? = some r → ob.rows[lo + i]? = some s → r[j]? = some x → s[j]? = some y → Wv B noK x y) : Wv B τ (.sl sz L) (.win k sz lo n cp)
  | win {τ} {k k' sz lo n cp : Nat} (hk : τ k' = some k) : Wv B τ (.win k' sz lo n cp) (.win k sz lo n cp)
  | winN {τ} {k sz lo : Nat} : Wv B τ (.win k sz lo 0 0) (.lit (.slice none 0 0))
  | winX {τ} {k sz sz' lo : Nat} {nn : Bool} : Wv B τ (.win k sz lo 0 0) (.sls sz' [] nn true)
  | ptr {τ} {k k' sz i off : Nat} (hk : τ k' = some k) : Wv B τ (.ptr k' sz i off) (.ptr k sz i off)
  | ptrI {τ k sz i off} {ob : VObj} {row cs : List V} (hB : B k = some ob) (hz : ob.sz = sz) (hr : ob.rows[i]? = some row) (hl : off + cs.length = row.length) (h : ∀ (j : Nat) (x y : V), cs[j]? = some x → row[off + j]? = some y → Wv B noK x y) : Wv B τ (.ip cs) (.ptr k sz i off)
  | mp {τ} {k k' : Nat} (hk : τ k' = some k) : Wv B τ (.mp k') (.mp k)
  | ip {τ cs} : Wv B τ (.ip cs) (.ip cs)
  | fn {τ f} {cs ds : List V} (hl : cs.length = ds.length) (h : ∀ (i : Nat) (x y : V), cs[i]? = some x → ds[i]? = some y → Wv B τ x y) : Wv B τ (.fn f cs) (.fn f ds)

def SB (S : Nat → Prop) (ρ : KM) (B : Hp) : Nat → Prop := fun b => S b ∨ Live ρ B b
def KB (τ : Nat → Option Nat) (ρ : KM) : KM := fun k => (τ k).bind ρ

theorem Wv.rep {B : Hp} {τ : Nat → Option Nat} {x y : V} (h : Wv B τ x y) {S : Nat → Prop} {ρ : KM} {w : World} {H : Hp} (hs : Sim S ρ w H) (hB : Sub B H) : ∀ {u : Value}, Rep S ρ w u y → Rep (SB S ρ B) (KB τ ρ) w u x := by
  have up : ∀ {ρ1 ρ2 : KM} {u : Value} {x : V}, (∀ k b, ρ1 k = some b → ρ2 k = some b) → Rep S ρ1 w u x → Rep (SB S ρ B) ρ2 w u x := fun h hr => hr.mono (fun _ h => .inl h) (fun _ _ => rfl) h (Keeps.refl w)
  have hnil : ∀ τ, ∀ k b, KB (fun _ => none) ρ k = some b → KB τ ρ k = some b := fun τ k b h => by simp [KB] at h
  induction h with
  | any => intro u _; exact .any
  | lit => intro u hr; cases hr; exact .lit (by assumption)
  | agg hl _ ih =>
    intro u hr
    cases hr with
    | agg hl' hr => 
      refine .agg (by omega) fun i u x h1 h2 => ?_
      rename_i cs ds _ vs
      have hi : i < ds.length := by rw [← hl]; exact (List.getElem?_eq_some_iff.1 h2).1
      exact ih i x ds[i] h2 (List.getElem?_eq_getElem hi) (hr i u _ h1 (List.getElem?_eq_getElem hi))
  | tup hl _ ih =>
    intro u hr
    cases hr with
    | tup hl' hr =>
      refine .tup (by omega) fun i u x h1 h2 => ?_
      rename_i cs ds _ vs
      have hi : i < ds.length := by rw [← hl]; exact (List.getElem?_eq_some_iff.1 h2).1
      exact ih i x ds[i] h2 (List.getElem?_eq_getElem hi) (hr i u _ h1 (List.getElem?_eq_getElem hi))
  | nil => intro u hr; cases hr; exact .sl0 (fun _ => rfl)
  | sl =>
    intro u hr
    cases hr with
    | sl0 ha => exact .sl0 ha
    | sl h1 h2 h3 h4 h5 h6 => exact .sl (.inl h1) h2 h3 h4 h5 (fun i j r u x a b c => up (fun _ _ h => h) (h6 i j r u x a b c))
  | sl0 =>
    intro u hr
    generalize hl : ([] : List (List V)) = l at hr
    cases hr with
    | sl0 ha => exact .sl0 ha
    | sl h1 h2 h3 h4 h5 h6 => subst hl; exact .sl0 (by simp)
  | sls =>
    intro u hr
    cases hr with
    | sls h hn he =>
      refine .sls ?_ hn he
      cases h with
      | sl0 ha => exact .sl0 ha
      | sl h1 h2 h3 h4 h5 h6 => exact .sl (.inl h1) h2 h3 h4 h5 (fun i j r u x a b c => up (fun _ _ h => h) (h6 i j r u x a b c))
  | slsl =>
    intro u hr
    cases hr with
    | sls h hn he =>
      cases h with
      | sl0 ha => exact .sl0 ha
      | sl h1 h2 h3 h4 h5 h6 => exact .sl (.inl h1) h2 h3 h4 h5 (fun i j r u x a b c => up (fun _ _ h => h) (h6 i j r u x a b c))
  | @winS τ k sz lo n cp ob L hk hz hl hn h1 h ih =>
    intro u hr
    cases hr with
    | win hk' hw hcp hcap hf ho =>
      rename_i b off cap c t fr
      obtain ⟨c0, t0, hw0, hR, _⟩ := hs.at (hB _ _ hk) hk' hw
      rw [hw] at hw0
      cases hw0
      rw [hz] at hR
      subst hn
      by_cases h0 : L.length = 0
      · have : L = [] := List.length_eq_zero_iff.1 h0
        subst this
        exact .sl0 (by simp)
      · have hoff : off = lo * sz := by
          rcases ho with h | h
          · exact h
          · omega
        subst hoff
        have hq := Nat.mul_le_mul_right sz hl
        rw [Nat.add_mul] at hq
        have hrl := hR.2.1
        refine .sl (.inr ⟨k, ob, hk, hk'⟩) hw (fun r hr => ?_) (by omega) (by omega) fun i j r u x g1 g2 g3 => ?_
        · obtain ⟨i, hi, rfl⟩ := List.getElem_of_mem hr
          have hlt : lo + i < ob.rows.length := by omega
          rw [h1 i _ _ (List.getElem?_eq_getElem hi) (List.getElem?_eq_getElem hlt)]
          exact hR.1 _ (List.getElem_mem hlt)
        · have hi : i < L.length := (List.getElem?_eq_some_iff.1 g1).1
          have hlt : lo + i < ob.rows.length := by omega
          have hj : j < (ob.rows[lo + i]).length := by rw [← h1 i r _ g1 (List.getElem?_eq_getElem hlt)]; exact (List.getElem?_eq_some_iff.1 g2).1
          have := ih i j r _ x _ g1 (List.getElem?_eq_getElem hlt) g2 (List.getElem?_eq_getElem hj) (hR.2.2 (lo + i) j _ u _ (List.getElem?_eq_getElem hlt) (List.getElem?_eq_getElem hj) (by rw [Nat.add_mul]; exact g3))
          exact this.mono (fun _ h => h) (fun _ _ => rfl) (fun k b h => by simp [KB] at h) (Keeps.refl w)
    | win0 =>
      have : L = [] := List.length_eq_zero_iff.1 hn
      subst this
      exact .sl0 (by simp)
  | win hk =>
    intro u hr
    cases hr with
    | win h1 h2 h3 h4 h5 h6 => exact .win (by simp [KB, hk, h1]) h2 h3 h4 h5 h6
    | win0 => exact .win0
  | @ptrI τ k sz i off ob row cs hk hz hrow hl h ih =>
    intro u hr
    cases hr with
    | ptr hk' hw =>
      obtain ⟨c0, t0, hw0, hR, _⟩ := hs.at (hB _ _ hk) hk' hw
      rw [hw] at hw0
      cases hw0
      rw [hz] at hR
      have hi : i < ob.rows.length := (List.getElem?_eq_some_iff.1 hrow).1
      have hrs : row.length = sz := hR.1 _ (List.mem_of_getElem? hrow)
      have hq : (i + 1) * sz ≤ ob.rows.length * sz := Nat.mul_le_mul_right sz hi
      rw [Nat.succ_mul] at hq
      have hrl := hR.2.1
      refine .ip (.inr ⟨k, ob, hk, hk'⟩) hw (by omega) fun j u x g1 g2 => ?_
      have hj : off + j < row.length := by have := (List.getElem?_eq_some_iff.1 g1).1; omega
      have := ih j x _ g1 (List.getElem?_eq_getElem hj) (hR.2.2 i (off + j) _ u _ hrow (List.getElem?_eq_getElem hj) (by rw [← Nat.add_assoc]; exact g2))
      exact this.mono (fun _ h => h) (fun _ _ => rfl) (fun k b h => by simp [KB] at h) (Keeps.refl w)
  | winN => intro u hr; cases hr; exact .win0
  | winX =>
    intro u hr
    cases hr with
    | sls h hn he =>
      have := he rfl
      subst this
      cases h with
      | sl0 ha => exact .win0
      | sl a1 a2 a3 a4 a5 a6 => exact .win0
  | ptr hk =>
    intro u hr
    cases hr with
    | ptr h1 hw => exact .ptr (by simp [KB, hk, h1]) hw
  | mp hk =>
    intro u hr
    cases hr with
    | mp h1 hw => exact .mp (by simp [KB, hk, h1]) hw
  | ip =>
    intro u hr
    cases hr with
    | ip h1 h2 h3 h4 => exact .ip (.inl h1) h2 h3 (fun j u x a b => up (fun _ _ h => h) (h4 j u x a b))
  | fn hl _ ih =>
    intro u hr
    cases hr with
    | fn hl' hr =>
      refine .fn (by omega) fun i u x h1 h2 => ?_
      rename_i cs ds _ vs
      have hi : i < ds.length := by rw [← hl]; exact (List.getElem?_eq_some_iff.1 h2).1
      exact ih i x ds[i] h2 (List.getElem?_eq_getElem hi) (hr i u _ h1 (List.getElem?_eq_getElem hi))


/-- what became of the world, in the function's own names; those below m stay -/
structure Ext1 (m : Nat) (S : Nat → Prop) (ρ : KM) (w : World) (H : Hp) (S' : Nat → Prop) (ρ' : KM) (w' : World) (H' : Hp) : Prop where
  os : w'.os = w.os
  tape : w'.tape = w.tape
  output : w'.output = w.output
  size : w.heap.size ≤ w'.heap.size
  block : ∀ b, b < w.heap.size → ¬ Own ρ H b → w'.heap[b]? = w.heap[b]?
  keeps : Keeps w w'
  more : ∀ b, S b → S' b
  only : ∀ b, S' b → S b ∨ w.heap.size ≤ b ∨ Own ρ H b
  live : ∀ b, Live ρ' H' b → w.heap.size ≤ b ∨ Live ρ H b
  own : ∀ b, Own ρ' H' b → w.heap.size ≤ b ∨ Own ρ H b
  low : ∀ k b, k < m → ρ k = some b → ρ' k = some b
theorem Ext0.to1 {m : Nat} {S S' : Nat → Prop} {ρ ρ' : KM} {w w' : World} {H H' : Hp} (e : Ext0 S ρ w H S' ρ' w' H') : Ext1 m S ρ w H S' ρ' w' H' :=
  ⟨e.os, e.tape, e.output, e.size, e.block, e.keeps, e.more, e.only, e.live, e.own, fun k b _ h => e.keys k b h⟩
theorem Ext1.refl (m : Nat) (S : Nat → Prop) (ρ : KM) (w : World) (H : Hp) : Ext1 m S ρ w H S ρ w H := (Ext0.refl S ρ w H).to1
theorem Ext1.trans {m : Nat} {S S' S'' : Nat → Prop} {ρ ρ' ρ'' : KM} {w w' w'' : World} {H H' H'' : Hp} (e : Ext1 m S ρ w H S' ρ' w' H') (f : Ext1 m S' ρ' w' H' S'' ρ'' w'' H'') : Ext1 m S ρ w H S'' ρ'' w'' H'' where
  os := f.os.trans e.os
  tape := f.tape.trans e.tape
  output := f.output.trans e.output
  size := Nat.le_trans e.size f.size
  block := fun b hb ho => by
    have h1 := e.block b hb ho
    have h2 := f.block b (Nat.lt_of_lt_of_le hb e.size) (fun h => by
      rcases e.own b h with h | h
      · omega
      · exact ho h)
    exact h2.trans h1
  keeps := e.keeps.trans f.keeps
  more := fun b h => f.more b (e.more b h)
  only := fun b h => by
    rcases f.only b h with h | h | h
    · exact e.only b h
    · exact .inr (.inl (Nat.le_trans e.size h))
    · rcases e.own b h with h | h
      · exact .inr (.inl h)
      · exact .inr (.inr h)
  live := fun b h => by
    rcases f.live b h with h | h
    · exact .inl (Nat.le_trans e.size h)
    · exact e.live b h
  own := fun b h => by
    rcases f.own b h with h | h
    · exact .inl (Nat.le_trans e.size h)
    · exact e.own b h
  low := fun k b hk h => f.low k b hk (e.low k b hk h)

/-- code, by value -/
def AWp (P : Program) (N m : Nat) (c : Code) (Q : Exit → St → Prop) (st : St) : Prop :=
  ∀ (S : Nat → Prop) (ρ : KM) (a : Act) (w : World), SimSt N S ρ a w st → ∀ (Q' : Exit → Act → World → Prop),
    (∀ e st' S' ρ' a' w', Q e st' → SimSt N S' ρ' a' w' st' → Ext1 m S ρ w st.H S' ρ' w' st'.H → Q' e a' w') → c.wp P Q' a w

def aThen (next : St → Prop) (Q : Exit → St → Prop) : Exit → St → Prop
  | .normal, st => next st
  | e, st => Q e st
def aBlock (id : Nat) (Q : Exit → St → Prop) : Exit → St → Prop
  | .exit id', st => if id' = id then Q .normal st else Q (.exit id') st
  | e, st => Q e st

section
variable {P : Program} {N m : Nat} {Q : Exit → St → Prop} {st : St}

theorem awp_mono {c : Code} {Q' : Exit → St → Prop} (h : AWp P N m c Q st) (hq : ∀ e st, Q e st → Q' e st) : AWp P N m c Q' st :=
  fun S ρ a w hs R hR => h S ρ a w hs R fun e st' S' ρ' a' w' hq' => hR e st' S' ρ' a' w' (hq _ _ hq')
theorem awp_skip (h : Q .normal st) : AWp P N m .skip Q st := fun S ρ a w hs R hR => wp_skip (hR _ _ _ _ _ _ h hs (Ext1.refl _ _ _ _ _))
theorem awp_exit {id : Nat} (h : Q (.exit id) st) : AWp P N m (.exit id) Q st := fun S ρ a w hs R hR => wp_exit (hR _ _ _ _ _ _ h hs (Ext1.refl _ _ _ _ _))
theorem awp_ret (h : Q .ret st) : AWp P N m .ret Q st := fun S ρ a w hs R hR => wp_ret (hR _ _ _ _ _ _ h hs (Ext1.refl _ _ _ _ _))
theorem awp_seq {x y : Code} (h : AWp P N m x (aThen (AWp P N m y Q) Q) st) : AWp P N m (.seq x y) Q st := fun S ρ a w hs R hR => by
  refine wp_seq (h S ρ a w hs _ fun e st' S' ρ' a' w' hq hs' he => ?_)
  cases e with
  | normal => exact hq S' ρ' a' w' hs' R fun e st'' S'' ρ'' a'' w'' h1 h2 h3 => hR e st'' S'' ρ'' a'' w'' h1 h2 (he.trans h3)
  | _ => exact hR _ st' S' ρ' a' w' hq hs' he
theorem awp_cond {c : Operand} {x y : Code} {t : Bool} (hc : ovOf st.env c = .lit (.bool t)) (h1 : t = true → AWp P N m x Q st) (h2 : t = false → AWp P N m y Q st) : AWp P N m (.cond c x y) Q st := fun S ρ a w hs R hR => by
  have e := hs.slots.ov c
  rw [hc] at e
  exact wp_cond_split e.lit_inv (fun h => h1 h S ρ a w hs R hR) (fun h => h2 h S ρ a w hs R hR)
theorem awp_block {id : Nat} {c : Code} (h : AWp P N m c (aBlock id Q) st) : AWp P N m (.block id c) Q st := fun S ρ a w hs R hR => by
  refine wp_block (h S ρ a w hs _ fun e st' S' ρ' a' w' hq hs' he => ?_)
  cases e with
  | exit id' =>
    simp only [aBlock] at hq
    simp only [Exit.inBlock]
    split
    · rename_i e; rw [if_pos e] at hq; exact hR _ st' S' ρ' a' w' hq hs' he
    · rename_i e; rw [if_neg e] at hq; exact hR _ st' S' ρ' a' w' hq hs' he
  | _ => exact hR _ st' S' ρ' a' w' hq hs' he

/-- operations in a row -/
def AOps (P : Program) (N : Nat) (ops : Array Oper) (dr : Bool) (l : List Oper) (st : St) (acc : List OpR) (K : St → Prop) : Prop :=
  ∃ rs st', Chain P N ops l st rs st' ∧ (dr = true → drawOk ops (acc ++ rs) = true) ∧ K st'
theorem aops_nil {ops : Array Oper} {dr : Bool} {acc : List OpR} {K : St → Prop} (hd : (!dr || drawOk ops acc) = true) (h : K st) : AOps P N ops dr [] st acc K :=
  ⟨[], st, .nil st, fun e => by simpa [e] using hd, h⟩
theorem aops_cons {ops : Array Oper} {dr : Bool} {acc : List OpR} {K : St → Prop} {o : Oper} {l : List Oper} {r : OpR} {st1 : St} (hs : AStep P N ops o st r st1) (h : AOps P N ops dr l st1 (acc ++ [r]) K) : AOps P N ops dr (o :: l) st acc K := by
  obtain ⟨rs, st', h1, h2, h3⟩ := h
  exact ⟨r :: rs, st', .cons hs h1, fun e => by simpa using h2 e, h3⟩

theorem awp_region {id : Nat} {ops : Array Oper} (h : AOps P N ops false ops.toList st [] (Q .normal)) : AWp P N m (.region id ops false) Q st := fun S ρ a w hs R hR => by
  obtain ⟨rs, st', h1, _, h3⟩ := h
  exact region_plain h1 hs fun S' ρ' a' w' hs' he => hR _ _ _ _ _ _ h3 hs' he.to1
theorem awp_drawn (hm : P.follows .mixedOrders = true) {id : Nat} {ops : Array Oper} (h : AOps P N ops true ops.toList st [] (Q .normal)) : AWp P N m (.region id ops true) Q st := fun S ρ a w hs R hR => by
  obtain ⟨rs, st', h1, h2, h3⟩ := h
  exact region_drawn hm h1 (by simpa using h2 rfl) hs fun S' ρ' a' w' hs' he => hR _ _ _ _ _ _ h3 hs' he.to1

end

abbrev noH : Hp := fun _ => none
/-- objects by other names -/
structure ORel (B : Hp) (τ : Nat → Option Nat) (o o0 : VObj) : Prop where
  sz : o.sz = o0.sz
  frz : o.frz = o0.frz
  len : o.rows.length = o0.rows.length
  rlen : ∀ (i : Nat) (r s : List V), o.rows[i]? = some r → o0.rows[i]? = some s → r.length = s.length
  cell : ∀ (i j : Nat) (r s : List V) (x y : V), o.rows[i]? = some r → o0.rows[i]? = some s → r[j]? = some x → s[j]? = some y → Wv B τ x y

theorem ORel.rows {B : Hp} {τ : Nat → Option Nat} {o o0 : VObj} (h : ORel B τ o o0) {S : Nat → Prop} {ρ : KM} {w : World} {H : Hp} (hs : Sim S ρ w H) (hB : Sub B H) {c : Array Value} (hr : RowsAt S ρ w o0.sz o0.rows c) :
    RowsAt (SB S ρ B) (KB τ ρ) w o.sz o.rows c := by
  rw [h.sz]
  refine ⟨fun r hr' => ?_, by rw [h.len]; exact hr.2.1, fun i j r u x h1 h2 h3 => ?_⟩
  · obtain ⟨i, hi, rfl⟩ := List.getElem_of_mem hr'
    have hlt : i < o0.rows.length := by rw [← h.len]; exact hi
    rw [h.rlen i _ _ (List.getElem?_eq_getElem hi) (List.getElem?_eq_getElem hlt)]
    exact hr.1 _ (List.getElem_mem hlt)
  · have hi : i < o0.rows.length := by rw [← h.len]; exact (List.getElem?_eq_some_iff.1 h1).1
    have hj : j < (o0.rows[i]).length := by rw [← h.rlen i r _ h1 (List.getElem?_eq_getElem hi)]; exact (List.getElem?_eq_some_iff.1 h2).1
    exact (h.cell i j r _ x _ h1 (List.getElem?_eq_getElem hi) h2 (List.getElem?_eq_getElem hj)).rep hs hB (hr.2.2 i j _ u _ (List.getElem?_eq_getElem hi) (List.getElem?_eq_getElem hj) h3)

/-- a state told more weakly -/
structure Wk (m : Nat) (τ : Nat → Option Nat) (st st1 : St) : Prop where
  env : ∀ t, Wv noH τ (st1.env t) (st.env t)
  heap : ∀ k o, st1.H k = some o → (∃ k0 o0, τ k = some k0 ∧ st.H k0 = some o0 ∧ ORel noH τ o o0) ∨ (τ k = none ∧ o.rows = [])
  inj : ∀ k k' k0, τ k = some k0 → τ k' = some k0 → k = k'
  nx : ∀ k, st1.nx ≤ k → τ k = none
  old : ∀ k o, st1.H k = some o → k < st1.nx
  low : ∀ k, k < m → τ k = some k

theorem sb_no {S : Nat → Prop} {ρ : KM} {b : Nat} (h : SB S ρ noH b) : S b := by
  rcases h with h | ⟨k, o, h, _⟩
  · exact h
  · cases h
theorem wk_sound {m N : Nat} {τ : Nat → Option Nat} {st st1 : St} (h : Wk m τ st st1) {S : Nat → Prop} {ρ : KM} {a : Act} {w : World} (hs : SimSt N S ρ a w st) : SimSt N S (KB τ ρ) a w st1 ∧ Ext1 m S ρ w st.H S (KB τ ρ) w st1.H := by
  have down : ∀ {ρ1 : KM} {u : Value} {x : V}, Rep (SB S ρ noH) ρ1 w u x → Rep S ρ1 w u x := fun hr => hr.mono (fun _ h => sb_no h) (fun _ _ => rfl) (fun _ _ h => h) (Keeps.refl w)
  have hB : Sub noH st.H := fun _ _ h => by cases h
  have hobj : ∀ k o b, st1.H k = some o → KB τ ρ k = some b → ∃ k0 o0, τ k = some k0 ∧ st.H k0 = some o0 ∧ ORel noH τ o o0 ∧ ρ k0 = some b := fun k o b hk hb => by
    rcases h.heap k o hk with ⟨k0, o0, h1, h2, h3⟩ | ⟨h1, _⟩
    · exact ⟨k0, o0, h1, h2, h3, by simpa [KB, h1] using hb⟩
    · simp [KB, h1] at hb
  refine ⟨⟨⟨fun k o hk => ?_, fun k k' o o' b h1 h2 h3 h4 => ?_, hs.sim.bnd⟩, fun t => down ((h.env t).rep hs.sim hB (hs.slots t)), hs.size, hs.defers, fun k hk => by simp [KB, h.nx k hk], h.old⟩, ?_⟩
  · rcases h.heap k o hk with ⟨k0, o0, h1, h2, h3⟩ | ⟨h1, h2⟩
    case inr => exact .inr ⟨by simp [KB, h1], h2⟩
    rcases hs.sim.obj k0 o0 h2 with ⟨b, c, t, q1, q2, q3, q4, q5⟩ | ⟨q1, q2⟩
    · refine .inl ⟨b, c, t, by simp [KB, h1, q1], q2, ?_, by rw [h3.frz]; exact q4, by rw [h3.frz]; exact q5⟩
      exact (h3.rows hs.sim hB q3).mono fun u x h => down h
    · refine .inr ⟨by simp [KB, h1, q1], ?_⟩
      have := h3.len
      rw [q2] at this
      exact List.length_eq_zero_iff.1 this
  · obtain ⟨k0, o0, a1, a2, a3, a4⟩ := hobj k o b h1 h3
    obtain ⟨k0', o0', b1, b2, b3, b4⟩ := hobj k' o' b h2 h4
    have := hs.sim.inj k0 k0' o0 o0' b a2 b2 a4 b4
    subst this
    exact h.inj k k' k0 a1 b1
  · refine ⟨rfl, rfl, rfl, Nat.le_refl _, fun _ _ _ => rfl, Keeps.refl w, fun _ h => h, fun _ h => .inl h, fun b ⟨k, o, h1, h2⟩ => .inr ?_, fun b ⟨k, o, h1, h2, h3⟩ => .inr ?_, fun k b hk hb => by simp [KB, h.low k hk, hb]⟩
    · obtain ⟨k0, o0, a1, a2, a3, a4⟩ := hobj k o b h1 h2
      exact ⟨k0, o0, a2, a4⟩
    · obtain ⟨k0, o0, a1, a2, a3, a4⟩ := hobj k o b h1 h3
      exact ⟨k0, o0, a2, by rw [← a3.frz]; exact h2, a4⟩

section
variable {P : Program} {N m : Nat} {Q : Exit → St → Prop} {st : St}

theorem awp_weaken {c : Code} {τ : Nat → Option Nat} {st1 : St} (hw : Wk m τ st st1) (h : AWp P N m c Q st1) : AWp P N m c Q st := fun S ρ a w hs R hR => by
  obtain ⟨h1, h2⟩ := wk_sound hw hs
  exact h S _ a w h1 R fun e st' S' ρ' a' w' q s x => hR e st' S' ρ' a' w' q s (h2.trans x)

/-- a loop: 'st1 x' is the state at its head, for an x of which I holds; μ goes down -/
theorem awp_loop {X : Type} {c : Code} (st1 : X → St) (I : X → Prop) (μ : X → Nat) {x0 : X} {τ : Nat → Option Nat} (h0 : I x0) (hw : Wk m τ st (st1 x0))
    (round : ∀ x, I x → AWp P N m c (aThen (fun st' => ∃ x' τ', I x' ∧ μ x' < μ x ∧ Wk m τ' st' (st1 x')) Q) (st1 x)) : AWp P N m (.loop c) Q st := fun S ρ a w hs R hR => by
  intro b k cs
  have key : ∀ n x S' ρ' a' w', μ x = n → I x → SimSt N S' ρ' a' w' (st1 x) → Ext1 m S ρ w st.H S' ρ' w' (st1 x).H →
      ∃ e a'' w'', R e a'' w'' ∧ Arrives P (lone (b.at a' (.code c :: .inLoop c :: k)) cs w') b k cs e a'' w'' := by
    intro n
    induction n using Nat.strongRecOn with
    | _ n ih =>
      intro x S' ρ' a' w' hn hI hs' he
      obtain ⟨e, a₁, w₁, hq, harr⟩ := round x hI S' ρ' a' w' hs' (fun e a₁ w₁ => match e with
        | .normal => ∃ x' S'' ρ'', I x' ∧ μ x' < μ x ∧ SimSt N S'' ρ'' a₁ w₁ (st1 x') ∧ Ext1 m S ρ w st.H S'' ρ'' w₁ (st1 x').H
        | e => R e a₁ w₁) (fun e st' S'' ρ'' a₁ w₁ hq hs'' he' => by
          cases e with
          | normal =>
            obtain ⟨x', τ', h1, h2, h3⟩ := hq
            obtain ⟨q1, q2⟩ := wk_sound h3 hs''
            exact ⟨x', S'', _, h1, h2, q1, (he.trans he').trans q2⟩
          | _ => exact hR _ st' S'' ρ'' a₁ w₁ hq hs'' (he.trans he')) b (.inLoop c :: k) cs
      cases e with
      | normal =>
        obtain ⟨x', S'', ρ'', h1, h2, h3, h4⟩ := hq
        obtain ⟨e₂, a₂, w₂, hq₂, harr₂⟩ := ih (μ x') (hn ▸ h2) x' S'' ρ'' a₁ w₁ rfl h1 h3 h4
        exact ⟨e₂, a₂, w₂, hq₂, .of_steps (Steps.trans harr (.one step_inLoop)) harr₂⟩
      | exit id => exact ⟨_, a₁, w₁, hq, .pass (x := .inLoop c) rfl (fun _ _ => .inl (by simp)) harr⟩
      | goto l => exact ⟨_, a₁, w₁, hq, .pass (x := .inLoop c) rfl (fun _ _ => .inl (by simp)) harr⟩
      | ret => exact ⟨_, a₁, w₁, hq, .pass (x := .inLoop c) rfl (fun _ _ => .inl (by simp)) harr⟩
      | panic ch => exact ⟨_, a₁, w₁, hq, .pass (x := .inLoop c) rfl (fun _ _ => .inl (by simp)) harr⟩
      | outgrown => exact ⟨_, a₁, w₁, hq, .pass (x := .inLoop c) rfl (fun _ _ => .inl (by simp)) harr⟩
  obtain ⟨q1, q2⟩ := wk_sound hw hs
  obtain ⟨e, a', w', hq, harr⟩ := key _ x0 S _ a w rfl h0 q1 q2
  exact ⟨e, a', w', hq, .of_steps (.one step_loop) harr⟩

end

/- CONTRACTS -/
/-- called with what these values tell, over objects F: it returns what r tells, and leaves objects F'; nothing else that was there has turned -/
def Fn (P : Program) (k : FuncId) (args : List V) (F : HL) (r : V) (F' : HL) : Prop :=
  ∀ (S : Nat → Prop) (ρ : KM) (w : World) (vs : Array Value), vs.size = args.length → (∀ (i : Nat) (u : Value) (x : V), vs[i]? = some u → args[i]? = some x → Rep S ρ w u x) → Sim S ρ w (hpo F) →
    (∀ k, k ∈ keysOf F → ρ k ≠ none) → (∀ k, k ∉ keysOf F → ρ k = none) →
    Calls P k vs w fun e w' => ∃ v S' ρ', e = .returned v ∧ Rep S' ρ' w' v r ∧ Sim S' ρ' w' (hpo F') ∧ Ext S ρ w (hpo F) S' ρ' w' (hpo F')

/-- what a function's result variables tell -/
def resV (T : TT) (st : St) : ResultVar → Option V
  | .tmp t => some (st.env t)
  | .cell a ty => match st.env a, T ty with
    | .ptr k sz i off, some ti => match st.H k with
      | some ob => match ob.rows[i]? with
        | some row => if ob.sz = sz ∧ off + ti.size ≤ row.length then some (ldV ti (row.drop off)) else none
        | none => none
      | none => none
    | _, _ => none
def resL (T : TT) (st : St) : List ResultVar → Option (List V)
  | [] => some []
  | r :: rs => match resV T st r, resL T st rs with
    | some x, some l => some (x :: l)
    | _, _ => none
def pack : List V → V
  | [x] => x
  | l => .tup l

/-- a result variable, read -/
def resSem (tmps : Array Value) : ResultVar → Sem Value
  | .tmp t => pure (tmps.getD t undef)
  | .cell ad t => do loadVar t (← asAddr (tmps.getD ad undef))
theorem results_eq (fn : Func) (tmps : Array Value) : results fn tmps = (fn.results.mapM (resSem tmps) >>= fun vs => pure (if h : vs.size = 1 then vs[0] else .tuple vs)) := by
  unfold results
  congr 1

theorem resV_run {P : Program} {T : TT} (hT : TOk P T) {N : Nat} {S : Nat → Prop} {ρ : KM} {a : Act} {w : World} {st : St} (hs : SimSt N S ρ a w st) {r : ResultVar} {x : V} (h : resV T st r = some x) :
    ∃ u, (resSem a.tmps r).run P w = .ok u w ∧ Rep S ρ w u x := by
  cases r with
  | tmp t =>
    simp only [resV, Option.some.injEq] at h
    subst h
    exact ⟨_, rfl, hs.slots t⟩
  | cell ad ty =>
    simp only [resV] at h
    have hr := hs.slots ad
    split at h
    · rename_i k sz i off ti he ht
      rw [he] at hr
      split at h
      · rename_i ob hob
        split at h
        · rename_i row hrow
          split at h
          · rename_i hc
            cases h
            generalize hu : a.tmps.getD ad undef = cu at hr
            cases hr with
            | ptr hk hwp =>
              rename_i b
              obtain ⟨c, e, hw, hR, _⟩ := hs.sim.at hob hk hwp
              rw [hc.1] at hR
              have hrl : row.length = sz := hR.1 row (List.mem_of_getElem? hrow)
              have hix : i < ob.rows.length := (List.getElem?_eq_some_iff.1 hrow).1
              have hfit : i * sz + off + ti.size ≤ c.size := by
                have h1 := hR.2.1
                have h2 : (i + 1) * sz ≤ ob.rows.length * sz := Nat.mul_le_mul_right sz (by omega)
                rw [Nat.add_mul, Nat.one_mul] at h2
                omega
              obtain ⟨u, hu', hur⟩ := load_rep (S := S) (ρ := ρ) (hT ty ti ht) hw (cs := row.drop off) (off := i * sz + off) (by simp; omega) hfit (fun j u x h1 h2 => by
                rw [List.getElem?_drop] at h1
                exact hR.2.2 i (off + j) row u x hrow h1 (by rw [← Nat.add_assoc]; exact h2))
              exact ⟨u, by simp [resSem, hu, asAddr, hu'], hur⟩
          · cases h
        · cases h
      · cases h
    · cases h

theorem resL_run {P : Program} {T : TT} (hT : TOk P T) {N : Nat} {S : Nat → Prop} {ρ : KM} {a : Act} {w : World} {st : St} (hs : SimSt N S ρ a w st) : ∀ (rs : List ResultVar) (xs : List V), resL T st rs = some xs →
    ∃ us : List Value, (rs.mapM (resSem a.tmps)).run P w = .ok us w ∧ us.length = xs.length ∧
      ∀ (i : Nat) (u : Value) (x : V), us[i]? = some u → xs[i]? = some x → Rep S ρ w u x
  | [], xs, h => by
    simp only [resL, Option.some.injEq] at h
    subst h
    exact ⟨[], rfl, rfl, fun i u x h => by simp at h⟩
  | r :: rs, xs, h => by
    simp only [resL] at h
    split at h
    · rename_i x l hx hl
      cases h
      obtain ⟨u, h1, h2⟩ := resV_run hT hs hx
      obtain ⟨us, g1, g2, g3⟩ := resL_run hT hs rs l hl
      refine ⟨u :: us, ?_, by simp [g2], fun i u' x' a b => ?_⟩
      · simp only [List.mapM_cons, Sem.run_bind, h1, Result.andThen_ok, g1, Sem.run_pure]
      · cases i with
        | zero => simp at a b; subst a; subst b; exact h2
        | succ i => exact g3 i u' x' (by simpa using a) (by simpa using b)
    · cases h

theorem results_run {P : Program} {T : TT} (hT : TOk P T) {N : Nat} {S : Nat → Prop} {ρ : KM} {a : Act} {w : World} {st : St} (hs : SimSt N S ρ a w st) {fn : Func} {xs : List V} (h : resL T st fn.results.toList = some xs) :
    ∃ u, (results fn a.tmps).run P w = .ok u w ∧ Rep S ρ w u (pack xs) := by
  obtain ⟨us, g1, g2, g3⟩ := resL_run hT hs _ _ h
  have hm : (fn.results.mapM (resSem a.tmps)).run P w = .ok us.toArray w := by
    rw [Array.mapM_eq_mapM_toList, Sem.run_map, g1]
    rfl
  rw [results_eq]
  simp only [Sem.run_bind]
  rw [hm]
  simp only [Result.andThen_ok, Sem.run_pure]
  cases us with
  | nil =>
    have : xs = [] := List.length_eq_zero_iff.1 (by simpa using g2.symm)
    subst this
    exact ⟨_, rfl, .tup rfl (fun i u x h => by simp at h)⟩
  | cons u us =>
    cases us with
    | nil =>
      match xs, g2 with
      | [x], _ => exact ⟨u, rfl, g3 0 u x rfl rfl⟩
    | cons u' us =>
      match xs, g2 with
      | x :: x' :: xs, g2 =>
        refine ⟨.tuple (u :: u' :: us).toArray, by simp, .tup (by simpa using g2) fun i v y a b => g3 i v y (by simpa using a) b⟩

end Go.Proofs.Ytbieiehfohldjaa
namespace Go.Proofs.Ytbieiehfohldjaa
open Go
set_option linter.unusedVariables false
set_option linter.unusedSimpArgs false

def argEnv (args : List V) : Nat → V := fun t => args.getD t .undef

/-- what is to hold where a function ends -/
def fnPost (T : TT) (fn : Func) (F : HL) (r : V) (F' : HL) (e : Exit) (st : St) : Prop :=
  (e = .normal ∨ e = .ret) ∧ ∃ (xs : List V) (B : Hp) (τ : Nat → Option Nat), resL T st fn.results.toList = some xs ∧ Sub B st.H ∧ Wv B τ r (pack xs) ∧
    (∀ k o, hpo F' k = some o → ∃ k0 o0, τ k = some k0 ∧ st.H k0 = some o0 ∧ B k0 = none ∧ o.frz = false ∧ ORel B τ o o0) ∧
    (∀ k k' k0, τ k = some k0 → τ k' = some k0 → k = k') ∧ (∀ k, τ k ≠ none → k ∈ keysOf F') ∧ (∀ k, k ∈ keysOf F → τ k ≠ none → τ k = some k)

theorem argEnv_rep {S : Nat → Prop} {ρ : KM} {w : World} {vs : Array Value} {args : List V} {n : Nat} (hl : vs.size = args.length) (hr : ∀ (i : Nat) (u : Value) (x : V), vs[i]? = some u → args[i]? = some x → Rep S ρ w u x) :
    SRep S ρ w { tmps := vs ++ Array.replicate n undef, defers := [] } (argEnv args) := by
  intro t
  simp only [argEnv]
  by_cases ht : t < args.length
  · have h1 : t < vs.size := by omega
    have e1 : (vs ++ Array.replicate n undef).getD t undef = vs[t] := by
      rw [Array.getD_eq_getD_getElem?, Array.getElem?_append_left h1]; simp [h1]
    have e2 : args.getD t .undef = args[t] := by simp [List.getD, ht]
    rw [e1, e2]
    exact hr t _ _ (by simp [h1]) (by simp [ht])
  · have e1 : (vs ++ Array.replicate n undef).getD t undef = undef := by
      rw [Array.getD_eq_getD_getElem?, Array.getElem?_append_right (by omega)]
      by_cases h : t - vs.size < n
      · simp [h]
      · simp [h]
    have e2 : args.getD t .undef = .undef := by simp [List.getD, ht]
    rw [e1, e2]
    exact rep_undef

theorem fn_intro {P : Program} {T : TT} (hT : TOk P T) {k N m : Nat} {fn : Func} {c : Code} {args : List V} {F F' : HL} {r : V} (hf : P.funcs[k]? = some fn) (hb : fn.body = some c) (hN : N = args.length + (fn.ntmps - args.length)) (hm : ∀ k, k ∈ keysOf F → k < m)
    (h : AWp P N m c (fnPost T fn F r F') ⟨argEnv args, hpo F, m⟩) : Fn P k args F r F' := by
  intro S ρ w vs hl hr hs hmap hnew
  refine calls_of_wp hf hb ?_
  have hm' : ∀ k o, hpo F k = some o → k < m := fun k o h => hm k (mem_keys.1 (by rw [h]; simp))
  have hst : SimSt N S ρ { tmps := vs ++ Array.replicate (fn.ntmps - vs.size) undef, defers := [] } w ⟨argEnv args, hpo F, m⟩ :=
    ⟨hs, argEnv_rep hl hr, by simp [hN, hl], rfl, (fun k hk => hnew k (fun h => Nat.lt_irrefl _ (Nat.lt_of_lt_of_le (hm k h) hk))), hm'⟩
  refine h S ρ _ w hst _ fun e st' S' ρ' a' w' hq hs' he => ?_
  obtain ⟨hex, xs, B, τ, hres, hB, hv, hobj, hinj, hdom, hlow⟩ := hq
  obtain ⟨u, hu, hur⟩ := results_run hT hs' hres
  have hret : ∃ v S'' ρ'', Ending.returned u = .returned v ∧ Rep S'' ρ'' w' v r ∧ Sim S'' ρ'' w' (hpo F') ∧ Ext S ρ w (hpo F) S'' ρ'' w' (hpo F') := by
    let ρ'' : KM := fun k => match ρ k with
      | some b => some b
      | none => if k ∈ keysOf F' then KB τ ρ' k else none
    have old : ∀ k b, ρ k = some b → ρ'' k = some b := fun k b h => by simp only [ρ'', h]
    have new : ∀ k, ρ k = none → k ∈ keysOf F' → ρ'' k = KB τ ρ' k := fun k h h' => by simp only [ρ'', h, h', if_true]
    have kb_old : ∀ k b b', ρ k = some b → KB τ ρ' k = some b' → b' = b := fun k b b' h h' => by
      have hk : k ∈ keysOf F := by
        by_cases hh : k ∈ keysOf F
        · exact hh
        · rw [hnew k hh] at h; cases h
      have hτ : τ k ≠ none := by intro h0; simp [KB, h0] at h'
      have := hlow k hk hτ
      simp only [KB, this, Option.bind_some] at h'
      rw [he.low k b (hm k hk) h] at h'
      exact (Option.some.inj h').symm
    have le : ∀ k b, KB τ ρ' k = some b → ρ'' k = some b := fun k b h => by
      cases hρ : ρ k with
      | some b0 => rw [old k b0 hρ, kb_old k b0 b hρ h]
      | none =>
        have hτ : τ k ≠ none := by intro h0; simp [KB, h0] at h
        rw [new k hρ (hdom k hτ)]; exact h
    have up : ∀ {u : Value} {x : V}, Rep (SB S' ρ' B) (KB τ ρ') w' u x → Rep (SB S' ρ' B) ρ'' w' u x := fun h => h.mono (fun _ h => h) (fun _ _ => rfl) le (Keeps.refl w')
    -- an object of the answer, and its block
    have kobj : ∀ k o b, hpo F' k = some o → ρ'' k = some b → ∃ k0 o0, τ k = some k0 ∧ st'.H k0 = some o0 ∧ B k0 = none ∧ o.frz = false ∧ ORel B τ o o0 ∧ ρ' k0 = some b := fun k o b hk hb => by
      obtain ⟨k0, o0, h1, h2, h3, h4, h5⟩ := hobj k o hk
      refine ⟨k0, o0, h1, h2, h3, h4, h5, ?_⟩
      cases hρ : ρ k with
      | some b0 =>
        rw [old k b0 hρ] at hb
        obtain rfl : b0 = b := by simpa using hb
        have hkF : k ∈ keysOf F := by
          by_cases hh : k ∈ keysOf F
          · exact hh
          · rw [hnew k hh] at hρ; cases hρ
        have := hlow k hkF (by rw [h1]; simp)
        rw [h1] at this
        obtain rfl : k0 = k := by simpa using this
        exact he.low k0 b0 (hm k0 hkF) hρ
      | none =>
        rw [new k hρ (mem_keys.1 (by rw [hk]; simp))] at hb
        simpa [KB, h1] using hb
    have hown : ∀ b, Live ρ' B b → S' b ∨ Own ρ' st'.H b := fun b ⟨k, o, h1, h2⟩ => by
      have h3 := hB k o h1
      have h4 := (hs'.sim.frz h3 h2).1
      cases hf : o.frz with
      | true => exact .inl (h4 hf)
      | false => exact .inr ⟨k, o, h3, hf, h2⟩
    refine ⟨u, SB S' ρ' B, ρ'', rfl, up (hv.rep hs'.sim hB hur), ⟨fun k o hk => ?_, fun k k' o o' b h1 h2 h3 h4 => ?_, fun b hb => ?_⟩, ?_⟩
    · obtain ⟨k0, o0, h1, h2, h3, h4, h5⟩ := hobj k o hk
      rcases hs'.sim.obj k0 o0 h2 with ⟨b, c, t, q1, q2, q3, q4, q5⟩ | ⟨q1, q2⟩
      · refine .inl ⟨b, c, t, le k b (by simp [KB, h1, q1]), q2, (h5.rows hs'.sim hB q3).mono (fun u x h => up h), (fun h => by rw [h4] at h; cases h), (fun _ hS => ?_)⟩
        rcases hS with hS | ⟨k1, o1, g1, g2⟩
        · exact q5 (by rw [← h5.frz]; exact h4) hS
        · have := hs'.sim.inj k1 k0 o1 o0 b (hB _ _ g1) h2 g2 q1
          subst this
          rw [h3] at g1; cases g1
      · refine .inr ⟨?_, ?_⟩
        · cases hρ : ρ k with
          | some b0 =>
            have hkF : k ∈ keysOf F := by
              by_cases hh : k ∈ keysOf F
              · exact hh
              · rw [hnew k hh] at hρ; cases hρ
            have := hlow k hkF (by rw [h1]; simp)
            rw [h1] at this
            cases this
            rw [he.low k b0 (hm k hkF) hρ] at q1; cases q1
          | none => rw [new k hρ (mem_keys.1 (by rw [hk]; simp))]; simp [KB, h1, q1]
        · have := h5.len
          rw [q2] at this
          exact List.length_eq_zero_iff.1 this
    · obtain ⟨k0, o0, a1, a2, _, _, _, a6⟩ := kobj k o b h1 h3
      obtain ⟨k0', o0', b1, b2, _, _, _, b6⟩ := kobj k' o' b h2 h4
      have := hs'.sim.inj k0 k0' o0 o0' b a2 b2 a6 b6
      subst this
      exact hinj k k' k0 a1 b1
    · rcases hb with hb | ⟨k, o, h1, h2⟩
      · exact hs'.sim.bnd b hb
      · exact hs'.sim.lt (hB k o h1) h2
    · exact { os := he.os, tape := he.tape, output := he.output, size := he.size, block := he.block, keeps := he.keeps
              more := fun b h => .inl (he.more b h)
              only := fun b h => by
                have key : S' b ∨ Own ρ' st'.H b := by
                  rcases h with h | h
                  · exact .inl h
                  · exact hown b h
                rcases key with h | h
                · exact he.only b h
                · exact .inr (he.own b h)
              live := fun b ⟨k, o, h1, h2⟩ => by
                obtain ⟨k0, o0, a1, a2, _, _, _, a6⟩ := kobj k o b h1 h2
                exact he.live b ⟨k0, o0, a2, a6⟩
              own := fun b ⟨k, o, h1, hf, h2⟩ => by
                obtain ⟨k0, o0, a1, a2, _, _, a5, a6⟩ := kobj k o b h1 h2
                exact he.own b ⟨k0, o0, a2, by rw [← a5.frz]; exact hf, a6⟩
              keys := old
              dom := fun k b h => by
                cases hρ : ρ k with
                | some b0 => rw [old k b0 hρ] at h; exact .inl h
                | none =>
                  refine .inr ?_
                  by_cases hk : k ∈ keysOf F'
                  · have := mem_keys.2 hk
                    exact Option.ne_none_iff_exists'.1 this
                  · simp only [ρ'', hρ, hk, if_false] at h; cases h }
  rcases hex with rfl | rfl
  · exact ⟨hs'.defers, u, hu, hret⟩
  · exact ⟨hs'.defers, u, hu, hret⟩

/-- nil, or not -/
theorem fn_nil {P : Program} {k : FuncId} {args : List V} {F F' : HL} {r : V} (i : Nat) {sz : Nat} {l : List (List V)} (hi : args[i]? = some (.sl sz l)) (h1 : l = [] → Fn P k (args.set i (.lit (.slice none 0 0))) F r F') (h2 : Fn P k (args.set i (.sls sz l true false)) F r F') : Fn P k args F r F' := by
  intro S ρ w vs hl hr hs hmap hnew
  have hlt : i < args.length := (List.getElem?_eq_some_iff.1 hi).1
  have hvi : vs[i]? = some vs[i] := by simp [show i < vs.size by omega]
  have hri := hr i vs[i] _ hvi hi
  have other : ∀ (y : V), Rep S ρ w vs[i] y → ∀ (j : Nat) (u : Value) (x : V), vs[j]? = some u → (args.set i y)[j]? = some x → Rep S ρ w u x := fun y hy j u x a b => by
    by_cases e : i = j
    · subst e
      rw [List.getElem?_set_self hlt] at b
      rw [hvi] at a
      cases a; cases b
      exact hy
    · rw [List.getElem?_set_ne e] at b
      exact hr j u x a b
  have hcase : (vs[i] = .slice none 0 0 ∧ l = []) ∨ Rep S ρ w vs[i] (.sls sz l true false) := by
    generalize vs[i] = v at hri
    cases hri with
    | sl0 ha =>
      rename_i a cap
      cases a with
      | none => exact .inl ⟨by rw [ha rfl], rfl⟩
      | some a => exact .inr (.sls (.sl0 ha) (fun _ => rfl) (fun h => by cases h))
    | sl a1 a2 a3 a4 a5 a6 => exact .inr (.sls (.sl a1 a2 a3 a4 a5 a6) (fun _ => rfl) (fun h => by cases h))
  rcases hcase with ⟨hv, hl0⟩ | hv
  · exact h1 hl0 S ρ w vs (by simpa using hl) (other _ (by rw [hv]; exact .lit rfl)) hs hmap hnew
  · exact h2 S ρ w vs (by simpa using hl) (other _ hv) hs hmap hnew

/- THE ANSWER OF A FUNCTION OF VALUES -/
/-- a cell in which no name stands, as it is; a slice into an object: what it shows -/
def rc (H : Hp) : V → V
  | .sls sz l _ _ => .sl sz l
  | .win k sz lo n _ => match H k with
    | some ob => .sl sz ((ob.rows.drop lo).take n)
    | none => .any
  | .lit (.slice none 0 0) => .sl 0 []
  | x => x
def ra (H : Hp) : V → V
  | .agg cs => .agg (cs.map (rc H))
  | x => rc H x
def rt (H : Hp) : V → V
  | .tup cs => .tup (cs.map (ra H))
  | x => ra H x
def kfc : V → Bool
  | .lit _ => true
  | .sl _ _ => true
  | _ => false
def okc (H : Hp) : V → Prop
  | .win k sz lo n _ => match H k with
    | some ob => ob.sz = sz ∧ lo + n ≤ ob.rows.length ∧ ∀ r ∈ ob.rows, r.all kfc = true
    | none => False
  | .agg _ | .tup _ | .ptr _ _ _ _ | .fn _ _ | .mp _ => False
  | _ => True
def oka (H : Hp) : V → Prop
  | .agg cs => ∀ x ∈ cs, okc H x
  | x => okc H x
def okt (H : Hp) : V → Prop
  | .tup cs => ∀ x ∈ cs, oka H x
  | x => oka H x

theorem kfc_wv {B : Hp} {τ : Nat → Option Nat} {x : V} (h : kfc x = true) : Wv B τ x x := by
  cases x <;> first | exact .lit | exact .sl | cases h
theorem rc_wv {H : Hp} {τ : Nat → Option Nat} {x : V} (h : okc H x) : Wv H τ (rc H x) x := by
  cases x with
  | lit v =>
    unfold rc
    split
    · rename_i e; cases e
    · rename_i e; cases e
    · rename_i e; cases e; exact .nil
    · exact .lit
  | agg cs => exact h.elim
  | tup cs => exact h.elim
  | sl sz l => exact .sl
  | sls sz l nn ex => exact .slsl
  | win k sz lo n cp =>
    simp only [okc] at h
    cases hk : H k with
    | none => rw [hk] at h; exact h.elim
    | some ob =>
      rw [hk] at h
      obtain ⟨h1, h2, h3⟩ := h
      simp only [rc, hk]
      have hlen : ((ob.rows.drop lo).take n).length = n := by simp; omega
      have hget : ∀ (i : Nat) (r s : List V), ((ob.rows.drop lo).take n)[i]? = some r → ob.rows[lo + i]? = some s → r = s := fun i r s a b => by
        have hi : i < n := by rw [← hlen]; exact (List.getElem?_eq_some_iff.1 a).1
        rw [List.getElem?_take_of_lt hi, List.getElem?_drop] at a
        rw [a] at b
        exact Option.some.inj b
      refine .winS hk h1 h2 hlen (fun i r s a b => by rw [hget i r s a b]) fun i j r s x y a b c d => ?_
      have e := hget i r s a b
      subst e
      rw [c] at d
      cases d
      have hm := h3 r (List.mem_of_getElem? b)
      rw [List.all_eq_true] at hm
      exact kfc_wv (hm x (List.mem_of_getElem? c))
  | ptr k sz i off => exact h.elim
  | ip cs => exact .ip
  | fn f cs => exact h.elim
  | mp k => exact h.elim
  | any => exact .any
theorem map_wv {H : Hp} {τ : Nat → Option Nat} {f : V → V} {ok : V → Prop} (hf : ∀ x, ok x → Wv H τ (f x) x) {cs : List V} (h : ∀ x ∈ cs, ok x) : ∀ (i : Nat) (x y : V), (cs.map f)[i]? = some x → cs[i]? = some y → Wv H τ x y := fun i x y a b => by
  rw [List.getElem?_map, b] at a
  cases a
  exact hf y (h y (List.mem_of_getElem? b))
theorem ra_wv {H : Hp} {τ : Nat → Option Nat} {x : V} (h : oka H x) : Wv H τ (ra H x) x := by
  cases x with
  | agg cs => exact .agg (by simp) (map_wv (fun x => rc_wv) h)
  | tup cs => exact h.elim
  | lit v => exact rc_wv (x := .lit v) h
  | sl sz l => exact rc_wv (x := .sl sz l) h
  | sls sz l nn ex => exact rc_wv (x := .sls sz l nn ex) h
  | win k sz lo n cp => exact rc_wv (x := .win k sz lo n cp) h
  | ptr k sz i off => exact h.elim
  | ip cs => exact rc_wv (x := .ip cs) h
  | fn f cs => exact h.elim
  | mp k => exact h.elim
  | any => exact .any
theorem rt_wv {H : Hp} {τ : Nat → Option Nat} {x : V} (h : okt H x) : Wv H τ (rt H x) x := by
  cases x with
  | tup cs => exact .tup (by simp) (map_wv (fun x => ra_wv) h)
  | agg cs => exact ra_wv (x := .agg cs) h
  | lit v => exact ra_wv (x := .lit v) h
  | sl sz l => exact ra_wv (x := .sl sz l) h
  | sls sz l nn ex => exact ra_wv (x := .sls sz l nn ex) h
  | win k sz lo n cp => exact ra_wv (x := .win k sz lo n cp) h
  | ptr k sz i off => exact h.elim
  | ip cs => exact ra_wv (x := .ip cs) h
  | fn f cs => exact h.elim
  | mp k => exact h.elim
  | any => exact .any

theorem fin_pure {T : TT} {fn : Func} {r : V} {st : St} {xs : List V} {e : Exit} (he : e = .normal ∨ e = .ret) (hres : resL T st fn.results.toList = some xs) (hok : okt st.H (pack xs)) (hr : rt st.H (pack xs) = r) : fnPost T fn [] r [] e st :=
  ⟨he, xs, st.H, noK, hres, fun _ _ h => h, hr ▸ rt_wv hok, (fun k o h => by cases h), (fun k k' k0 h => by cases h), (fun k h => absurd rfl h), (fun k h => by simp [keysOf] at h)⟩

/- CALLS -/
section
variable {P : Program} {T : TT} {ov : Operand → V} {o : Oper}

/-- what is called -/
def callOk (P : Program) (kf : FuncId) : Bool := match P.funcs[kf]? with
  | some fn => !(fn.name == "runtime.NumGoroutine") && fn.body.isSome
  | none => false

theorem run_call {f : Operand} {xs : Array Operand} {ts : Array TypeId} {kf : Nat} {caps : List V} {S : Nat → Prop} {ρ : KM} {w : World} {a : Act} (ho : o.op = .call { callee := .value f, args := xs, argTypes := ts }) (hf : ov f = .fn kf caps) (hok : callOk P kf = true)
    (hr : ∀ x ∈ o.op.operands.toList, Rep S ρ w (a.eval x) (ov x)) :
    ∃ vs : Array Value, (execOp a.eval o).run P w = .ok (.enter kf vs) w ∧ vs.size = (xs.toList.map ov ++ caps).length ∧ ∀ (i : Nat) (u : Value) (x : V), vs[i]? = some u → (xs.toList.map ov ++ caps)[i]? = some x → Rep S ρ w u x := by
  rw [ho] at hr
  have e1 := hr f (by simp [Op.operands, Call.operands])
  have e2 : ∀ x ∈ xs.toList, Rep S ρ w (a.eval x) (ov x) := fun x hx => hr x (by simp [Op.operands, Call.operands]; exact .inr (by simpa using hx))
  rw [hf] at e1
  generalize hc : a.eval f = cf at e1
  cases e1 with
  | fn hl hcap =>
    rename_i cvs
    unfold callOk at hok
    cases hfn : P.funcs[kf]? with
    | none => rw [hfn] at hok; cases hok
    | some fn =>
      rw [hfn] at hok
      simp only [Bool.and_eq_true, Bool.not_eq_true', beq_eq_false_iff_ne] at hok
      refine ⟨xs.map a.eval ++ cvs, ?_, by simp [hl], fun i u x h1 h2 => ?_⟩
      · have hn : ¬ (fn.name = "runtime.NumGoroutine") := hok.1
        have hb : fn.body ≠ none := by intro hh; rw [hh] at hok; simp at hok
        simp [execOp, ho, resolve, hc, Deferred.ofValue, invoke, callFunc, hfn, hn]
        exact fun h => absurd h hb
      · by_cases hi : i < xs.size
        · rw [Array.getElem?_append_left (by simpa using hi)] at h1
          rw [List.getElem?_append_left (by simpa using hi)] at h2
          simp only [Array.getElem?_map, List.getElem?_map, Array.getElem?_toList] at h1 h2
          have hx : xs[i]? = some xs[i] := by simp [hi]
          rw [hx] at h1 h2
          cases h1; cases h2
          exact e2 _ (by simp)
        · rw [Array.getElem?_append_right (by simp; omega)] at h1
          rw [List.getElem?_append_right (by simp; omega)] at h2
          simp only [Array.size_map, List.length_map, Array.length_toList] at h1 h2
          exact hcap _ u x h1 h2

/-- what is the same in every memory -/
inductive Cl : V → Prop
  | lit {v} : Cl (.lit v)
  | agg {cs : List V} (h : ∀ x ∈ cs, Cl x) : Cl (.agg cs)
  | tup {cs : List V} (h : ∀ x ∈ cs, Cl x) : Cl (.tup cs)
theorem Cl.rep {x : V} (h : Cl x) {S S' : Nat → Prop} {ρ ρ' : KM} {w w' : World} : ∀ {u : Value}, Rep S ρ w u x → Rep S' ρ' w' u x := by
  induction h with
  | lit => intro u hr; cases hr; exact .lit (by assumption)
  | agg _ ih => intro u hr; cases hr with | agg hl hr => exact .agg hl fun i u x h1 h2 => ih x (List.mem_of_getElem? h2) (hr i u x h1 h2)
  | tup _ ih => intro u hr; cases hr with | tup hl hr => exact .tup hl fun i u x h1 h2 => ih x (List.mem_of_getElem? h2) (hr i u x h1 h2)

theorem pure_args {B : HL} {cargs avs : List V} (hlen : cargs.length = avs.length) (hargs : ∀ (i : Nat) (x y : V), cargs[i]? = some x → avs[i]? = some y → Wv (hpo B) noK x y) {S : Nat → Prop} {ρ : KM} {w : World} {vs : Array Value} (hl : vs.size = avs.length)
    (hr : ∀ (i : Nat) (u : Value) (x : V), vs[i]? = some u → avs[i]? = some x → Rep S ρ w u x) (hs : Sim S ρ w (hpo B)) :
    vs.size = cargs.length ∧ ∀ (i : Nat) (u : Value) (x : V), vs[i]? = some u → cargs[i]? = some x → Rep (SB S ρ (hpo B)) noK w u x := by
  refine ⟨by omega, fun i u x h1 h2 => ?_⟩
  have hi : i < avs.length := by rw [← hlen]; exact (List.getElem?_eq_some_iff.1 h2).1
  exact (hargs i x _ h2 (List.getElem?_eq_getElem hi)).rep hs (fun _ _ h => h) (hr i u _ h1 (List.getElem?_eq_getElem hi))

theorem sb_bnd {S : Nat → Prop} {ρ : KM} {w : World} {H : Hp} (hs : Sim S ρ w H) : ∀ b, SB S ρ H b → b < w.heap.size := fun b h => by
  rcases h with h | ⟨k, o, h1, h2⟩
  · exact hs.bnd b h
  · exact hs.lt h1 h2

/-- a call of a function of values, whose answer is a plain value: what it was lent is as it was -/
theorem lok_callC {f : Operand} {xs : Array Operand} {ts : Array TypeId} {kf : Nat} {caps cargs : List V} {B : HL} {r : V} (ho : o.op = .call { callee := .value f, args := xs, argTypes := ts }) (hf : ov f = .fn kf caps) (hok : callOk P kf = true) (hc : Fn P kf cargs [] r [])
    (hlen : cargs.length = (xs.toList.map ov ++ caps).length) (hargs : ∀ (i : Nat) (x y : V), cargs[i]? = some x → (xs.toList.map ov ++ caps)[i]? = some y → Wv (hpo B) noK x y) (hr : Cl r) : LOk P ov o B [] [] r := by
  intro S ρ w a hx hs hn next Q hK
  have hs := hs.of_pre
  obtain ⟨vs, hrun, h1, h2⟩ := run_call ho hf hok hx
  obtain ⟨g1, g2⟩ := pure_args hlen hargs h1 h2 hs
  simp only [Oper.wp, hrun, Oper.upon]
  refine (hc (SB S ρ (hpo B)) noK w vs g1 g2 (Sim.empty (sb_bnd hs)) (fun k h => by simp [keysOf] at h) (fun _ _ => rfl)).mono fun e w' h => ?_
  obtain ⟨v, S', ρ', rfl, q1, q2, q3⟩ := h
  have hold : ∀ b, b < w.heap.size → w'.heap[b]? = w.heap[b]? := fun b hb => q3.block b hb (fun ⟨k, o, h, _⟩ => by cases h)
  refine hK v S ρ w' (hr.rep q1) (Sim.empty fun b hb => Nat.lt_of_lt_of_le (hs.bnd b hb) q3.size) ?_
  exact { os := q3.os, tape := q3.tape, output := q3.output, size := q3.size, block := fun b hb _ => hold b hb, keeps := q3.keeps, more := fun _ h => h, only := fun _ h => .inl h
          live := fun b ⟨k, o, h, _⟩ => by cases h
          own := fun b ⟨k, o, h, _⟩ => by cases h
          keys := fun _ _ h => h, dom := fun _ _ h => .inl h }

def frozen (B : HL) : HL := B.map fun p => (p.1, { p.2 with frz := true })
theorem frozen_at' {B : HL} {k : Nat} : hpo (frozen B) k = (hpo B k).map fun o => { o with frz := true } := by
  induction B with
  | nil => rfl
  | cons p B ih =>
    obtain ⟨j, o⟩ := p
    simp only [frozen, List.map_cons, hpo, upd] at ih ⊢
    by_cases e : k = j
    · simp [e]
    · simp only [e, if_false]; exact ih

/-- a call of a function of values: what it was lent never changes any more -/
theorem lok_callF {f : Operand} {xs : Array Operand} {ts : Array TypeId} {kf : Nat} {caps cargs : List V} {B : HL} {r : V} (ho : o.op = .call { callee := .value f, args := xs, argTypes := ts }) (hf : ov f = .fn kf caps) (hok : callOk P kf = true) (hc : Fn P kf cargs [] r [])
    (hlen : cargs.length = (xs.toList.map ov ++ caps).length) (hargs : ∀ (i : Nat) (x y : V), cargs[i]? = some x → (xs.toList.map ov ++ caps)[i]? = some y → Wv (hpo B) noK x y) : LOk P ov o [] B (frozen B) r := by
  intro S ρ w a hx hs hn next Q hK
  simp only [List.nil_append] at hs
  obtain ⟨vs, hrun, h1, h2⟩ := run_call ho hf hok hx
  obtain ⟨g1, g2⟩ := pure_args hlen hargs h1 h2 hs
  simp only [Oper.wp, hrun, Oper.upon]
  refine (hc (SB S ρ (hpo B)) noK w vs g1 g2 (Sim.empty (sb_bnd hs)) (fun k h => by simp [keysOf] at h) (fun _ _ => rfl)).mono fun e w' h => ?_
  obtain ⟨v, S', ρ', rfl, q1, q2, q3⟩ := h
  have hold : ∀ b, b < w.heap.size → w'.heap[b]? = w.heap[b]? := fun b hb => q3.block b hb (fun ⟨k, o, h, _⟩ => by cases h)
  have hρ' : ∀ k, ρ' k = none := fun k => by
    cases h : ρ' k with
    | none => rfl
    | some b =>
      rcases q3.dom k b h with h | ⟨o, h⟩
      · cases h
      · cases h
  have hrep : Rep S' ρ w' v r := q1.mono (fun _ h => h) (fun _ _ => rfl) (fun k b h => by rw [hρ' k] at h; cases h) (Keeps.refl w')
  have hup : ∀ {u : Value} {x : V}, Rep S ρ w u x → Rep S' ρ w' u x := fun h => h.mono (fun b h => q3.more b (.inl h)) (fun b hb => hold b (hs.bnd b hb)) (fun _ _ h => h) q3.keeps
  have fz : ∀ k o, hpo (frozen B) k = some o → ∃ o0, hpo B k = some o0 ∧ o = { o0 with frz := true } := fun k o h => by
    rw [frozen_at'] at h
    cases hb : hpo B k with
    | none => rw [hb] at h; cases h
    | some o0 => rw [hb] at h; cases h; exact ⟨o0, rfl, rfl⟩
  refine hK v S' ρ w' hrep ⟨fun k o hk => ?_, fun k k' o o' b a1 a2 a3 a4 => ?_, q2.bnd⟩ ?_
  · obtain ⟨o0, h0, rfl⟩ := fz k o hk
    rcases hs.obj k o0 h0 with ⟨b, c, t, p1, p2, p3, p4, p5⟩ | ⟨p1, p2⟩
    · refine .inl ⟨b, c, t, p1, ?_, p3.mono fun u x h => hup h, fun _ => q3.more b (.inr ⟨k, o0, h0, p1⟩), fun h => by cases h⟩
      exact p2.of (hold b (hs.lt h0 p1))
    · exact .inr ⟨p1, p2⟩
  · obtain ⟨o0, h0, _⟩ := fz k o a1
    obtain ⟨o0', h0', _⟩ := fz k' o' a2
    exact hs.inj k k' o0 o0' b h0 h0' a3 a4
  · exact { os := q3.os, tape := q3.tape, output := q3.output, size := q3.size, block := fun b hb _ => hold b hb, keeps := q3.keeps, more := fun b h => q3.more b (.inl h)
            only := fun b h => by
              rcases q3.only b h with h | h | ⟨k, o, h, _⟩
              · rcases h with h | ⟨k, o, g1, g2⟩
                · exact .inl h
                · have g3 := (hs.frz g1 g2).1
                  cases hf : o.frz with
                  | true => exact .inl (g3 hf)
                  | false => exact .inr (.inr ⟨k, o, g1, hf, g2⟩)
              · exact .inr (.inl h)
              · cases h
            live := fun b ⟨k, o, h, hb⟩ => by
              obtain ⟨o0, h0, _⟩ := fz k o h
              exact .inr ⟨k, o0, h0, hb⟩
            own := fun b ⟨k, o, h, hf, hb⟩ => by
              obtain ⟨o0, h0, rfl⟩ := fz k o h
              cases hf
            keys := fun _ _ h => h, dom := fun _ _ h => .inl h }

end
end Go.Proofs.Ytbieiehfohldjaa
namespace Go.Proofs.Ytbieiehfohldjaa
open Go
set_option linter.unusedVariables false
set_option linter.unusedSimpArgs false

theorem lok_freeze {P : Program} {ov ov' : Operand → V} {o : Oper} {B post : HL} {v : V} (hB : ∀ x ∈ o.op.operands.toList, ∀ (S : Nat → Prop) (ρ : KM) (w : World) (u : Value), Sim S ρ w (hpo B) → Rep S ρ w u (ov x) → Rep (SB S ρ (hpo B)) ρ w u (ov' x)) (hap : ∀ k, hpo post k ≠ none → hpo B k = none) (h : LOk P ov' o [] [] post v) :
    LOk P ov o [] B (post ++ frozen B) v := by
  intro S ρ w a hx hs hn next Q hK
  simp only [List.nil_append] at hs
  have fz : ∀ k o, hpo (frozen B) k = some o → ∃ o0, hpo B k = some o0 ∧ o = { o0 with frz := true } := fun k o h => by
    rw [frozen_at'] at h
    cases hb : hpo B k with
    | none => rw [hb] at h; cases h
    | some o0 => rw [hb] at h; cases h; exact ⟨o0, rfl, rfl⟩
  have both : ∀ k o, hpo (post ++ frozen B) k = some o → hpo post k = some o ∨ (hpo post k = none ∧ ∃ o0, hpo B k = some o0 ∧ o = { o0 with frz := true }) := fun k o h => by
    rw [hpo_app] at h
    cases hp : hpo post k with
    | some o' => rw [hp] at h; exact .inl h
    | none => rw [hp] at h; exact .inr ⟨rfl, fz k o h⟩
  refine h (SB S ρ (hpo B)) ρ w a (fun x hx' => ?_) (Sim.empty (sb_bnd hs)) (fun k h1 _ => hn k (by rw [hpo_app]; intro h2; cases hp : hpo post k with
      | some o' => rw [hp] at h2; cases h2
      | none => exact h1 hp) (hap k h1)) next Q fun u S' ρ' w' hu hsim hext => ?_
  · exact hB x hx' S ρ w _ hs (hx x hx')
  · have hold : ∀ b, b < w.heap.size → w'.heap[b]? = w.heap[b]? := fun b hb => hext.block b hb (fun ⟨k, o, h, _⟩ => by cases h)
    have hup : ∀ {u : Value} {x : V}, Rep S ρ w u x → Rep S' ρ' w' u x := fun h => h.mono (fun b h => hext.more b (.inl h)) (fun b hb => hold b (hs.bnd b hb)) hext.keys hext.keeps
    have hnone : ∀ k o, hpo B k = some o → ρ k = none → ρ' k = none := fun k o h1 h2 => by
      cases hh : ρ' k with
      | none => rfl
      | some b =>
        rcases hext.dom k b hh with h | ⟨o', h⟩
        · rw [h2] at h; cases h
        · rw [hap k (by rw [h]; simp)] at h1; cases h1
    have old : ∀ k o b, hpo B k = some o → ρ' k = some b → ρ k = some b := fun k o b h1 h2 => by
      cases hh : ρ k with
      | none => rw [hnone k o h1 hh] at h2; cases h2
      | some b' => rw [hext.keys k b' hh] at h2; exact h2
    refine hK u S' ρ' w' hu ⟨fun k o hk => ?_, fun k k' o o' b a1 a2 a3 a4 => ?_, hsim.bnd⟩ ?_
    · rcases both k o hk with hk | ⟨_, o0, h0, rfl⟩
      · exact hsim.obj k o hk
      · rcases hs.obj k o0 h0 with ⟨b, c, t, p1, p2, p3, p4, p5⟩ | ⟨p1, p2⟩
        · refine .inl ⟨b, c, t, hext.keys k b p1, ?_, p3.mono fun u x h => hup h, fun _ => hext.more b (.inr ⟨k, o0, h0, p1⟩), fun h => by cases h⟩
          exact p2.of (hold b (hs.lt h0 p1))
        · exact .inr ⟨hnone k o0 h0 p1, p2⟩
    · have mix : ∀ k k' o o', hpo post k = some o → hpo B k' = some o' → ρ' k = some b → ρ' k' = some b → False := fun k k' o o' h1 h2 h3 h4 => by
        have h5 := old k' o' b h2 h4
        have h6 := hs.lt h2 h5
        rcases hext.live b ⟨k, o, h1, h3⟩ with h | ⟨_, _, h, _⟩
        · omega
        · cases h
      rcases both k o a1 with b1 | ⟨_, o0, b1, _⟩
      · rcases both k' o' a2 with b2 | ⟨_, o0', b2, _⟩
        · exact hsim.inj k k' o o' b b1 b2 a3 a4
        · exact (mix k k' o o0' b1 b2 a3 a4).elim
      · rcases both k' o' a2 with b2 | ⟨_, o0', b2, _⟩
        · exact (mix k' k o' o0 b2 b1 a4 a3).elim
        · exact hs.inj k k' o0 o0' b b1 b2 (old k o0 b b1 a3) (old k' o0' b b2 a4)
    · exact { os := hext.os, tape := hext.tape, output := hext.output, size := hext.size, block := fun b hb _ => hold b hb, keeps := hext.keeps, more := fun b h => hext.more b (.inl h)
              only := fun b h => by
                rcases hext.only b h with h | h | ⟨k, o, h, _⟩
                · rcases h with h | ⟨k, o, g1, g2⟩
                  · exact .inl h
                  · have g3 := (hs.frz g1 g2).1
                    cases hf : o.frz with
                    | true => exact .inl (g3 hf)
                    | false => exact .inr (.inr ⟨k, o, g1, hf, g2⟩)
                · exact .inr (.inl h)
                · cases h
              live := fun b ⟨k, o, h, hb⟩ => by
                rcases both k o h with h | ⟨_, o0, h0, _⟩
                · rcases hext.live b ⟨k, o, h, hb⟩ with h | ⟨_, _, h, _⟩
                  · exact .inl h
                  · cases h
                · exact .inr ⟨k, o0, h0, old k o0 b h0 hb⟩
              own := fun b ⟨k, o, h, hf, hb⟩ => by
                rcases both k o h with h | ⟨_, o0, h0, rfl⟩
                · rcases hext.own b ⟨k, o, h, hf, hb⟩ with h | ⟨_, _, h, _⟩
                  · exact .inl h
                  · cases h
                · cases hf
              keys := hext.keys
              dom := fun k b h => by
                rcases hext.dom k b h with h | ⟨o, h⟩
                · exact .inl h
                · exact .inr ⟨o, by rw [hpo_app, h]⟩ }
end Go.Proofs.Ytbieiehfohldjaa
namespace Go.Proofs.Ytbieiehfohldjaa
open Go
set_option linter.unusedVariables false
set_option linter.unusedSimpArgs false

def tdCheck (P : Program) (t : TypeId) : TD → Bool
  | .bool => match P.underlying t with | some .bool => true | _ => false
  | .int k => match P.underlying t with | some (.int k') => k == k' | _ => false
  | .string => match P.underlying t with | some .string => true | _ => false
  | .slice e => match P.underlying t with | some (.slice e') => e == e' | _ => false
  | .arr n e => match P.underlying t with | some (.array n' e') => n == n' && e == e' | _ => false
  | .struct fs => match P.underlying t with
    | some (.struct f) => (f.toList.map fun x => (x.offset, P.cellsOf x.type, aggOf P x.type)) == fs && (f.toList.all fun x => (P.underlying x.type).isSome && P.cellsOf x.type != 0 && (aggOf P x.type || P.cellsOf x.type == 1))
    | _ => false
  | .ptr e => match P.underlying t with | some (.pointer e') => e == e' | _ => false
  | .map k e => match P.underlying t with | some (.map k' e') => k == k' && e == e' | _ => false
  | .other => (P.underlying t).isSome
def tiCheck (P : Program) (t : TypeId) (i : TI) : Bool :=
  (match P.info? t with
   | some x => x.size == i.size && x.bytes == i.bytes && (match x.zero with | some z => zAll z.cells.toList i.zero | none => false)
   | none => false) &&
  (i.zero.length == i.size && tdCheck P t i.d && aggOf P t == i.agg && (P.underlying t).isSome && (i.agg || i.size == 1) && i.size != 0)

theorem tdCheck_ok {P : Program} {t : TypeId} {d : TD} (h : tdCheck P t d = true) : TDOk P t d := by
  cases d with
  | struct fs =>
    simp only [tdCheck, TDOk] at h ⊢
    split at h
    · rename_i f hf
      simp only [Bool.and_eq_true, beq_iff_eq] at h
      exact ⟨f, hf, h.1, h.2⟩
    · cases h
  | other => exact h
  | _ =>
    simp only [tdCheck, TDOk] at h ⊢
    split at h <;> first | (simp only [Bool.and_eq_true, beq_iff_eq] at h; simp_all; done) | (simp_all; done)
theorem tiCheck_ok {P : Program} {t : TypeId} {i : TI} (h : tiCheck P t i = true) : TIOk P t i := by
  unfold tiCheck at h
  simp only [Bool.and_eq_true, beq_iff_eq, bne_iff_ne, ne_eq, Bool.or_eq_true] at h
  obtain ⟨h0, ⟨⟨⟨⟨⟨h1, h2⟩, h3⟩, h4⟩, h5⟩, h6⟩⟩ := h
  refine ⟨?_, h1, tdCheck_ok h2, h3, h4, fun ha => ?_, h6⟩
  · split at h0
    · rename_i x hx
      simp only [Bool.and_eq_true, beq_iff_eq] at h0
      obtain ⟨⟨a, b⟩, c⟩ := h0
      split at c
      · rename_i z hz
        exact ⟨x, hx, a, b, z, hz, c⟩
      · cases c
    · cases h0
  · rcases h5 with h5 | h5
    · rw [ha] at h5; cases h5
    · exact h5
theorem tab_ok {P : Program} {T : TT} {n : Nat} (hn : ∀ t, n ≤ t → T t = none) (h : ((List.range n).all fun t => match T t with | some i => tiCheck P t i | none => true) = true) : TOk P T := by
  intro t i ht
  rw [List.all_eq_true] at h
  rcases Nat.lt_or_ge t n with hl | hl
  · have := h t (by simpa using hl)
    rw [ht] at this
    exact tiCheck_ok this
  · rw [hn t hl] at ht; cases ht

theorem upd_self {α : Type} {f : Nat → α} {k : Nat} {v : α} (h : f k = v) : upd f k v = f := by
  funext t
  simp only [upd]
  split
  · rename_i e; subst e; exact h.symm
  · rfl
end Go.Proofs.Ytbieiehfohldjaa
namespace Go.Proofs.Ytbieiehfohldjaa
open Go
set_option linter.unusedVariables false
set_option linter.unusedSimpArgs false

/-- slots -/
inductive Tr where
  | lf
  | nd (v : V) (l r : Tr)
def Tr.get : Tr → Nat → V
  | .lf, _ => .undef
  | .nd v l r, k => match Nat.beq k 0 with
    | true => v
    | false => match Nat.beq (k % 2) 1 with
      | true => l.get (k / 2)
      | false => r.get (k / 2 - 1)
def Tr.full : Nat → Tr
  | 0 => .lf
  | d + 1 => .nd .undef (Tr.full d) (Tr.full d)
def Tr.setK : Tr → Nat → V → (Tr → Prop) → Prop
  | .lf, _, _, _ => False
  | .nd x l r, k, v, K => match Nat.beq k 0 with
    | true => K (.nd v l r)
    | false => match Nat.beq (k % 2) 1 with
      | true => l.setK (k / 2) v fun l' => K (.nd x l' r)
      | false => r.setK (k / 2 - 1) v fun r' => K (.nd x l r')
theorem Tr.full_get (d : Nat) : ∀ k, (Tr.full d).get k = .undef := by
  induction d with
  | zero => intro k; rfl
  | succ d ih =>
    intro k
    simp only [Tr.full, Tr.get]
    split
    · rfl
    · split <;> exact ih _
theorem Tr.setK_sound {v : V} : ∀ (t : Tr) (k : Nat) {K : Tr → Prop}, t.setK k v K → ∃ t', t'.get = upd t.get k v ∧ K t'
  | .lf, _, _, h => h.elim
  | .nd x l r, k, K, h => by
    simp only [Tr.setK] at h
    cases h0 : Nat.beq k 0 with
    | true =>
      rw [h0] at h
      have hk := Nat.eq_of_beq_eq_true h0
      refine ⟨_, ?_, h⟩
      funext j
      simp only [Tr.get, upd, hk]
      by_cases hj : j = 0
      · subst hj; simp
      · have : Nat.beq j 0 = false := by cases hb : Nat.beq j 0 with
          | true => exact absurd (Nat.eq_of_beq_eq_true hb) hj
          | false => rfl
        simp [this, hj]
    | false =>
      rw [h0] at h
      have hk : k ≠ 0 := fun e => by subst e; cases h0
      cases h1 : Nat.beq (k % 2) 1 with
      | true =>
        rw [h1] at h
        have hk1 := Nat.eq_of_beq_eq_true h1
        obtain ⟨l', e, hK⟩ := Tr.setK_sound l (k / 2) h
        refine ⟨_, ?_, hK⟩
        funext j
        simp only [Tr.get, upd, e]
        cases g0 : Nat.beq j 0 with
        | true =>
          have := Nat.eq_of_beq_eq_true g0
          subst this
          rw [if_neg (Ne.symm hk)]
        | false =>
          have hj : j ≠ 0 := fun e => by subst e; cases g0
          cases g1 : Nat.beq (j % 2) 1 with
          | true =>
            have hj1 := Nat.eq_of_beq_eq_true g1
            simp only
            by_cases hjk : j = k
            · subst hjk; simp
            · rw [if_neg (by omega), if_neg hjk]
          | false =>
            simp only
            rw [if_neg]
            rintro rfl
            rw [h1] at g1; cases g1
      | false =>
        rw [h1] at h
        have hk1 : k % 2 ≠ 1 := fun e => by rw [e] at h1; cases h1
        obtain ⟨r', e, hK⟩ := Tr.setK_sound r (k / 2 - 1) h
        refine ⟨_, ?_, hK⟩
        funext j
        simp only [Tr.get, upd, e]
        cases g0 : Nat.beq j 0 with
        | true =>
          have := Nat.eq_of_beq_eq_true g0
          subst this
          rw [if_neg (Ne.symm hk)]
        | false =>
          have hj : j ≠ 0 := fun e => by subst e; cases g0
          cases g1 : Nat.beq (j % 2) 1 with
          | true =>
            simp only
            rw [if_neg]
            rintro rfl
            rw [h1] at g1; cases g1
          | false =>
            have hj1 : j % 2 ≠ 1 := fun e => by rw [e] at g1; cases g1
            simp only
            by_cases hjk : j = k
            · subst hjk; simp
            · rw [if_neg (by omega), if_neg hjk]

/-- objects, with a mark on those whose rows are not listed one by one -/
abbrev GH := List (Nat × Bool × VObj)
def GH.hp : GH → Hp
  | [] => fun _ => none
  | (k, _, o) :: l => upd (GH.hp l) k (some o)
def GH.getK : GH → Nat → (Bool → VObj → Prop) → Prop
  | [], _, _ => False
  | (j, s, o) :: l, k, K => match Nat.beq k j with
    | true => K s o
    | false => GH.getK l k K
theorem GH.getK_sound : ∀ (H : GH) (k : Nat) {K : Bool → VObj → Prop}, H.getK k K → ∃ s o, H.hp k = some o ∧ K s o
  | [], _, _, h => h.elim
  | (j, s, o) :: l, k, K, h => by
    simp only [GH.getK] at h
    cases h0 : Nat.beq k j with
    | true =>
      rw [h0] at h
      have := Nat.eq_of_beq_eq_true h0
      subst this
      exact ⟨s, o, upd_same _ _ _, h⟩
    | false =>
      rw [h0] at h
      have hk : k ≠ j := fun e => by subst e; rw [Nat.beq_refl] at h0; cases h0
      obtain ⟨s', o', h1, h2⟩ := GH.getK_sound l k h
      exact ⟨s', o', by simp only [GH.hp]; rw [upd_ne _ _ hk]; exact h1, h2⟩
/-- an object's new content, its mark kept -/
def GH.putK : GH → Nat → VObj → (GH → Prop) → Prop
  | [], _, _, _ => False
  | (j, s, o) :: l, k, o', K => match Nat.beq k j with
    | true => K ((j, s, o') :: l)
    | false => GH.putK l k o' fun l' => K ((j, s, o) :: l')
theorem GH.putK_sound {o' : VObj} : ∀ (H : GH) (k : Nat) {K : GH → Prop}, H.putK k o' K → ∃ H', H'.hp = upd H.hp k (some o') ∧ K H'
  | [], _, _, h => h.elim
  | (j, s, o) :: l, k, K, h => by
    simp only [GH.putK] at h
    cases h0 : Nat.beq k j with
    | true =>
      rw [h0] at h
      have := Nat.eq_of_beq_eq_true h0
      subst this
      refine ⟨_, ?_, h⟩
      simp only [GH.hp, upd_upd]
    | false =>
      rw [h0] at h
      have hk : k ≠ j := fun e => by subst e; rw [Nat.beq_refl] at h0; cases h0
      obtain ⟨H', h1, h2⟩ := GH.putK_sound l k h
      refine ⟨_, ?_, h2⟩
      simp only [GH.hp, h1]
      funext t
      simp only [upd]
      by_cases e1 : t = j
      · subst e1; simp [Ne.symm hk]
      · simp [e1]
/-- an object leaves -/
def GH.delK : GH → Nat → (GH → Prop) → Prop
  | [], _, K => K []
  | (j, s, o) :: l, k, K => match Nat.beq k j with
    | true => GH.delK l k K
    | false => GH.delK l k fun l' => K ((j, s, o) :: l')
theorem GH.delK_sound : ∀ (H : GH) (k : Nat) {K : GH → Prop}, H.delK k K → ∃ H', H'.hp = upd H.hp k none ∧ K H'
  | [], k, _, h => ⟨[], by funext t; simp [GH.hp, upd], h⟩
  | (j, s, o) :: l, k, K, h => by
    simp only [GH.delK] at h
    cases h0 : Nat.beq k j with
    | true =>
      rw [h0] at h
      have := Nat.eq_of_beq_eq_true h0
      subst this
      obtain ⟨H', h1, h2⟩ := GH.delK_sound l k h
      exact ⟨H', by rw [h1]; simp only [GH.hp, upd_upd], h2⟩
    | false =>
      rw [h0] at h
      have hk : k ≠ j := fun e => by subst e; rw [Nat.beq_refl] at h0; cases h0
      obtain ⟨H', h1, h2⟩ := GH.delK_sound l k h
      refine ⟨_, ?_, h2⟩
      simp only [GH.hp, h1]
      funext t
      simp only [upd]
      by_cases e1 : t = j
      · subst e1; simp [Ne.symm hk]
      · simp [e1]

/- forcing: what stands behind is laid open before it goes on -/
def fK (k : IntKind) (K : IntKind → Prop) : Prop := match k with
  | .i8 => K .i8 | .i16 => K .i16 | .i32 => K .i32 | .i64 => K .i64 | .u8 => K .u8 | .u16 => K .u16 | .u32 => K .u32 | .u64 => K .u64
theorem fK_sound {k : IntKind} {K : IntKind → Prop} (h : fK k K) : K k := by cases k <;> exact h
def fVal (v : Value) (K : Value → Prop) : Prop := match v with
  | .int k z => fK k fun k => K (.int k z)
  | .bool b => K (.bool b)
  | .string s => K (.string s)
  | .slice a n c => K (.slice a n c)
  | .pointer a => K (.pointer a)
  | v => K v
theorem fVal_sound {v : Value} {K : Value → Prop} (h : fVal v K) : K v := by
  cases v <;> first | exact fK_sound (K := fun k => K (.int k _)) h | exact h
def fC (v : V) (K : V → Prop) : Prop := match v with
  | .lit v => fVal v fun v => K (.lit v)
  | .agg cs => K (.agg cs)
  | .tup cs => K (.tup cs)
  | .sl sz l => K (.sl sz l)
  | .sls sz l nn ex => K (.sls sz l nn ex)
  | .win k sz lo n cp => K (.win k sz lo n cp)
  | .ptr k sz i off => K (.ptr k sz i off)
  | .ip cs => K (.ip cs)
  | .fn f cs => K (.fn f cs)
  | .mp k => K (.mp k)
  | .any => K .any
theorem fC_sound {v : V} {K : V → Prop} (h : fC v K) : K v := by
  cases v <;> first | exact fVal_sound (K := fun v => K (.lit v)) h | exact h
def fCs : List V → (List V → Prop) → Prop
  | [], K => K []
  | v :: l, K => fC v fun v => fCs l fun l => K (v :: l)
theorem fCs_sound : ∀ (l : List V) {K : List V → Prop}, fCs l K → K l
  | [], _, h => h
  | v :: l, K, h => fCs_sound l (fC_sound (v := v) h)
def fA (v : V) (K : V → Prop) : Prop := match v with
  | .agg cs => fCs cs fun cs => K (.agg cs)
  | .ip cs => fCs cs fun cs => K (.ip cs)
  | .fn f cs => fCs cs fun cs => K (.fn f cs)
  | v => fC v K
theorem fA_sound {v : V} {K : V → Prop} (h : fA v K) : K v := by
  cases v <;> first | exact fCs_sound _ h | exact fC_sound h
def fAs : List V → (List V → Prop) → Prop
  | [], K => K []
  | v :: l, K => fA v fun v => fAs l fun l => K (v :: l)
theorem fAs_sound : ∀ (l : List V) {K : List V → Prop}, fAs l K → K l
  | [], _, h => h
  | v :: l, K, h => fAs_sound l (fA_sound (v := v) h)
def fV (v : V) (K : V → Prop) : Prop := match v with
  | .tup cs => fAs cs fun cs => K (.tup cs)
  | v => fA v K
theorem fV_sound {v : V} {K : V → Prop} (h : fV v K) : K v := by
  cases v <;> first | exact fAs_sound _ h | exact fA_sound h
/-- a row of rows that are listed -/
def fRs : List (List V) → (List (List V) → Prop) → Prop
  | [], K => K []
  | r :: l, K => fCs r fun r => fRs l fun l => K (r :: l)
theorem fRs_sound : ∀ (l : List (List V)) {K : List (List V) → Prop}, fRs l K → K l
  | [], _, h => h
  | r :: l, K, h => fRs_sound l (fCs_sound r h)

def nthK {α : Type} : List α → Nat → (α → Prop) → Prop
  | [], _, _ => False
  | x :: l, k, K => match Nat.beq k 0 with
    | true => K x
    | false => nthK l (k - 1) K
theorem nthK_sound {α : Type} : ∀ (l : List α) (k : Nat) {K : α → Prop}, nthK l k K → ∃ x, l[k]? = some x ∧ K x
  | [], _, _, h => h.elim
  | x :: l, k, K, h => by
    simp only [nthK] at h
    cases h0 : Nat.beq k 0 with
    | true =>
      rw [h0] at h
      have := Nat.eq_of_beq_eq_true h0
      subst this
      exact ⟨x, rfl, h⟩
    | false =>
      rw [h0] at h
      obtain ⟨y, h1, h2⟩ := nthK_sound l (k - 1) h
      have hk : k ≠ 0 := fun e => by subst e; cases h0
      exact ⟨y, by rw [show k = k - 1 + 1 by omega]; exact h1, h2⟩
def optK {α : Type} (x : Option α) (K : α → Prop) : Prop := match x with
  | some x => K x
  | none => False
theorem optK_sound {α : Type} {x : Option α} {K : α → Prop} (h : optK x K) : ∃ y, x = some y ∧ K y := by
  cases x with
  | none => exact h.elim
  | some y => exact ⟨y, rfl, h⟩
/-- what must be decided on the way -/
def chkK (b : Bool) (X : Prop) : Prop := match b with
  | true => X
  | false => False
theorem chkK_sound {b : Bool} {X : Prop} (h : chkK b X) : b = true ∧ X := by
  cases b with
  | true => exact ⟨rfl, h⟩
  | false => exact h.elim
/-- two roads -/
def condN (b : Bool) (X Y : Prop) : Prop := match b with
  | true => X
  | false => Y
theorem condN_split {b : Bool} {X Y : Prop} (h1 : b = true → X) (h2 : b = false → Y) : condN b X Y := by
  cases b with
  | true => exact h1 rfl
  | false => exact h2 rfl
theorem condN_sound {b : Bool} {X Y : Prop} (h : condN b X Y) : (b = true ∧ X) ∨ (b = false ∧ Y) := by
  cases b with
  | true => exact .inl ⟨rfl, h⟩
  | false => exact .inr ⟨rfl, h⟩
def tiK (T : TT) (t : Nat) (K : TI → Prop) : Prop := match T t with
  | some ⟨d, sz, by_, ag, ze⟩ => K ⟨d, sz, by_, ag, ze⟩
  | none => False
theorem tiK_sound {T : TT} {t : Nat} {K : TI → Prop} (h : tiK T t K) : ∃ i, T t = some i ∧ K i := by
  unfold tiK at h
  cases hT : T t with
  | none => rw [hT] at h; exact h.elim
  | some i => rw [hT] at h; exact ⟨i, rfl, h⟩

def GH.hl (H : GH) : HL := H.map fun p => (p.1, p.2.2)
theorem GH.hp_hl (H : GH) : hpo H.hl = H.hp := by
  induction H with
  | nil => rfl
  | cons p H ih =>
    obtain ⟨k, s, o⟩ := p
    simp only [GH.hl, List.map_cons, hpo, GH.hp] at ih ⊢
    rw [ih]
theorem GH.app_hp (B H : GH) : GH.hp (B ++ H) = H.hp.add B.hl := by
  induction B with
  | nil => rfl
  | cons p B ih =>
    obtain ⟨k, s, o⟩ := p
    simp only [List.cons_append, GH.hp, GH.hl, List.map_cons, Hp.add] at ih ⊢
    rw [ih]
/-- objects leave -/
def GH.delsK : HL → GH → (GH → Prop) → Prop
  | [], H, K => K H
  | (k, _) :: l, H, K => GH.delsK l H fun H => H.delK k K
theorem GH.delsK_sound : ∀ (l : HL) (H : GH) {K : GH → Prop}, GH.delsK l H K → ∃ H', H'.hp = H.hp.del l ∧ K H'
  | [], H, _, h => ⟨H, rfl, h⟩
  | (k, o) :: l, H, K, h => by
    obtain ⟨H1, h1, h⟩ := GH.delsK_sound l H (K := fun H => H.delK k K) h
    obtain ⟨H2, h2, h⟩ := GH.delK_sound _ _ h
    exact ⟨H2, by rw [h2, h1]; rfl, h⟩

/-- what an operation does -/
inductive Eff where
  | gn (B B' : GH) (nx' : Nat)
  | rd (rd : HL)
  | nw (rd : HL) (sy : Bool) (ob : VObj)
  | wr (rd : HL) (k : Nat) (ob ob' : VObj)
  | mi (k : Nat) (ents : List (List V)) (kc : List V) (y : V)
  | sw (rd : HL) (k : Nat) (ob ob' : VObj)
  | fz (B : HL)
def EOk (P : Program) (ov : Operand → V) (o : Oper) (nx : Nat) (H : Hp) (v : V) : Eff → Prop
  | .rd rd => LOk P ov o rd [] [] v ∧ Sub (hpo rd) H
  | .nw rd _ ob => LOk P ov o rd [] [(nx, ob)] v ∧ Sub (hpo rd) H
  | .wr rd k ob ob' => LOk P ov o rd [(k, ob)] [(k, ob')] v ∧ Sub (hpo rd) H ∧ H k = some ob ∧ k < nx
  | .mi k ents kc y => v = .undef ∧ H k = some (mpO ents) ∧ k < nx ∧ (∀ r ∈ ents, KeyAp kc r) ∧ InsOk P ov o k kc y
  | .sw rd k ob ob' => LOk P ov o rd [(k, ob)] [(nx, ob')] v ∧ Sub (hpo rd) H ∧ H k = some ob
  | .fz B => LOk P ov o [] B (frozen B) v ∧ Sub (hpo B) H ∧ ∀ k, k ∈ keysOf B → k < nx
  | .gn B B' nx' => LOk P ov o [] B.hl B'.hl v ∧ Sub (hpo B.hl) H ∧ nx ≤ nx' ∧ (∀ k, k ∈ keysOf B'.hl → k ∉ keysOf B.hl → nx ≤ k) ∧ (∀ k, k ∈ keysOf B'.hl → k < nx')

abbrev KK := List Nat × List Nat × Bool
def Eff.kk (nx : Nat) : Eff → KK
  | .rd d => (keysOf d, [], false)
  | .nw d _ _ => (keysOf d, [nx], false)
  | .wr d k _ _ => (keysOf d, [k, k], false)
  | .mi k _ _ _ => ([], [k, k], true)
  | .sw d k _ _ => (keysOf d, [k, nx], false)
  | .fz B => ([], keysOf B ++ keysOf B, false)
  | .gn B B' _ => ([], keysOf B.hl ++ keysOf B'.hl, false)
/-- objects that never change any more -/
def GH.fzK : HL → GH → (GH → Prop) → Prop
  | [], H, K => K H
  | (k, o) :: B, H, K => GH.fzK B H fun H => H.putK k ⟨o.sz, o.rows, true⟩ K
theorem GH.fzK_sound : ∀ (B : HL) {H : GH} {K : GH → Prop}, GH.fzK B H K → ∃ H', H'.hp = H.hp.add (frozen B) ∧ K H'
  | [], H, _, h => ⟨H, rfl, h⟩
  | (k, o) :: B, H, K, h => by
    obtain ⟨H1, h1, h⟩ := GH.fzK_sound B (K := fun H => H.putK k ⟨o.sz, o.rows, true⟩ K) h
    obtain ⟨H2, h2, h⟩ := GH.putK_sound _ _ h
    exact ⟨H2, by rw [h2, h1]; rfl, h⟩
def upH (eff : Eff) (H : GH) (nx : Nat) (K : GH → Nat → Prop) : Prop := match eff with
  | .rd _ => K H nx
  | .nw _ sy ob => K ((nx, sy, ob) :: H) (nx + 1)
  | .wr _ k _ ob' => H.putK k ob' fun H => K H nx
  | .mi k ents kc y => fRs (ents ++ [[.agg kc, y]]) fun ents' => H.putK k (mpO ents') fun H => K H nx
  | .sw _ k _ ob' => H.delK k fun H => K ((nx, true, ob') :: H) (nx + 1)
  | .fz B => GH.fzK B H fun H => K H nx
  | .gn B B' nx' => GH.delsK B.hl H fun H => K (B' ++ H) nx'

def OpR.kk (r : OpR) : KK := (keysOf r.rd, r.wk, r.ins.isSome)
def clashQ (x y : KK) : Bool := !(x.2.2 && y.2.2) && (x.2.1.any (fun k => (y.1 ++ y.2.1).contains k) || y.2.1.any (fun k => (x.1 ++ x.2.1).contains k))
def pairsQ (ops : Array Oper) (rs : List KK) (bs : List Nat) : Bool :=
  (List.range rs.length).all fun j => (List.range j).all fun i =>
    match ops[i]?, ops[j]?, rs[i]?, rs[j]? with
    | some x, some y, some r, some s => (bs.getD j 0).testBit i || !(clashS ops x y || clashQ r s)
    | _, _, _, _ => false
def drawQ (ops : Array Oper) (rs : List KK) : Bool := edgesOk ops && pairsQ ops rs (befs ops.toList)
theorem drawQ_sound {ops : Array Oper} {rs : List OpR} (h : drawQ ops (rs.map OpR.kk) = true) : drawOk ops rs = true := by
  unfold drawQ at h
  unfold drawOk
  rw [Bool.and_eq_true] at h ⊢
  refine ⟨h.1, ?_⟩
  have h := h.2
  unfold pairsQ at h
  unfold pairsOk
  rw [List.length_map] at h
  rw [List.all_eq_true] at h ⊢
  intro j hj
  have h := h j hj
  rw [List.all_eq_true] at h ⊢
  intro i hi
  have h := h i hi
  simp only [List.getElem?_map] at h
  cases h1 : ops[i]? <;> cases h2 : ops[j]? <;> cases h3 : rs[i]? <;> cases h4 : rs[j]? <;> simp only [h1, h2, h3, h4, Option.map_some, Option.map_none] at h ⊢ <;> first | cases h | exact h

/- THE SAME, FASTER -/
/-- an operation and those ahead of it (the last one first) -/
noncomputable def rowF (ops : Array Oper) (y : Oper) (s : KK) (b : Nat) (pre : List (Oper × KK)) : Nat → Bool := List.rec (motive := fun _ => Nat → Bool) (fun _ => true) (fun p _ ih j => (Nat.testBit b (j - 1) || !(clashS ops p.1 y || clashQ p.2 s)) && ih (j - 1)) pre
noncomputable def goF (ops : Array Oper) (ol : List Oper) : List KK → List Nat → List (Oper × KK) → Nat → Bool := List.rec (motive := fun _ => List KK → List Nat → List (Oper × KK) → Nat → Bool)
  (fun rs _ _ _ => match rs with
    | [] => true
    | _ => false)
  (fun y _ ih rs bs pre j => match rs, bs with
    | [], _ => true
    | s :: rs, b :: bs => (Nat.beq (Nat.land b (2 ^ j - 1)) (2 ^ j - 1) || rowF ops y s b pre j) && ih rs bs ((y, s) :: pre) (j + 1)
    | _, _ => false) ol
noncomputable def drawF (ops : Array Oper) (rs : List KK) : Bool := edgesOk ops && goF ops ops.toList rs (befs ops.toList) [] 0
theorem rowF_sound {ops : Array Oper} {y : Oper} {s : KK} {b : Nat} : ∀ (pre : List (Oper × KK)) (j : Nat), rowF ops y s b pre j = true → pre.length = j → ∀ (i : Nat) (p : Oper × KK), pre.reverse[i]? = some p → (b.testBit i || !(clashS ops p.1 y || clashQ p.2 s)) = true
  | [], j, _, _, i, p, hp => by simp at hp
  | q :: pre, j, h, hj, i, p, hp => by
    have h : ((Nat.testBit b (j - 1) || !(clashS ops q.1 y || clashQ q.2 s)) && rowF ops y s b pre (j - 1)) = true := h
    rw [Bool.and_eq_true] at h
    have hl : pre.length = j - 1 := by simp at hj; omega
    rw [List.reverse_cons] at hp
    rcases Nat.lt_or_ge i pre.length with hi | hi
    · rw [List.getElem?_append_left (by simpa using hi)] at hp
      exact rowF_sound pre (j - 1) h.2 hl i p hp
    · rw [List.getElem?_append_right (by simpa using hi)] at hp
      have h0 : i - pre.reverse.length = 0 := by
        rcases Nat.eq_zero_or_pos (i - pre.reverse.length) with h | h
        · exact h
        · rw [List.getElem?_eq_none (by simp at h ⊢; omega)] at hp; cases hp
      rw [h0] at hp
      simp at hp
      subst hp
      have : i = j - 1 := by simp at h0; omega
      rw [this]
      exact h.1
theorem mask_bits {b j : Nat} (h : Nat.land b (2 ^ j - 1) = 2 ^ j - 1) {i : Nat} (hi : i < j) : b.testBit i = true := by
  have := congrArg (fun n => Nat.testBit n i) h
  simp only [show Nat.land b (2 ^ j - 1) = b &&& (2 ^ j - 1) from rfl, Nat.testBit_and, Nat.testBit_two_pow_sub_one, hi, decide_true, Bool.and_true] at this
  exact this
theorem goF_sound {ops : Array Oper} : ∀ (ol : List Oper) (rs : List KK) (bs : List Nat) (pre : List (Oper × KK)) (j : Nat), goF ops ol rs bs pre j = true → pre.length = j →
    ∀ (O : List Oper) (R : List KK) (B : List Nat), O = pre.reverse.map (·.1) ++ ol → R = pre.reverse.map (·.2) ++ rs → B.drop j = bs → ∀ k, j ≤ k → k < R.length → ∀ i, i < k →
      ∃ x y r s, O[i]? = some x ∧ O[k]? = some y ∧ R[i]? = some r ∧ R[k]? = some s ∧ ((B.getD k 0).testBit i || !(clashS ops x y || clashQ r s)) = true
  | [], rs, bs, pre, j, h, hj, O, R, B, hO, hR, hB, k, hk, hlt, i, hi => by
    cases rs with
    | nil => subst hR; simp at hlt; omega
    | cons r rs => cases h
  | y :: ol, rs, bs, pre, j, h, hj, O, R, B, hO, hR, hB, k, hk, hlt, i, hi => by
    cases rs with
    | nil => subst hR; simp at hlt; omega
    | cons s rs =>
      cases bs with
      | nil => cases h
      | cons b bs =>
        have h : ((Nat.beq (Nat.land b (2 ^ j - 1)) (2 ^ j - 1) || rowF ops y s b pre j) && goF ops ol rs bs ((y, s) :: pre) (j + 1)) = true := h
        rw [Bool.and_eq_true] at h
        rcases Nat.eq_or_lt_of_le hk with e | hk'
        · subst e
          obtain ⟨p, hp⟩ : ∃ p, pre.reverse[i]? = some p := ⟨pre.reverse[i]'(by simp; omega), List.getElem?_eq_getElem _⟩
          refine ⟨p.1, y, p.2, s, ?_, ?_, ?_, ?_, ?_⟩
          · rw [hO, List.getElem?_append_left (by simp; omega), List.getElem?_map, hp]; rfl
          · rw [hO, List.getElem?_append_right (by simp; omega)]; simp [hj]
          · rw [hR, List.getElem?_append_left (by simp; omega), List.getElem?_map, hp]; rfl
          · rw [hR, List.getElem?_append_right (by simp; omega)]; simp [hj]
          · have hb : B.getD j 0 = b := by
              rw [List.getD_eq_getElem?_getD, ← Nat.add_zero j, ← List.getElem?_drop, hB]; rfl
            rw [hb]
            have h1 := h.1
            rw [Bool.or_eq_true] at h1
            rcases h1 with g | g
            · rw [mask_bits (Nat.eq_of_beq_eq_true g) hi]; rfl
            · exact rowF_sound pre j g hj i p hp
        · refine goF_sound ol rs bs ((y, s) :: pre) (j + 1) h.2 (by simp [hj]) O R B ?_ ?_ ?_ k hk' hlt i hi
          · rw [hO]; simp
          · rw [hR]; simp
          · rw [← List.drop_drop, hB]; rfl
theorem drawF_sound {ops : Array Oper} {rs : List KK} (h : drawF ops rs = true) : drawQ ops rs = true := by
  unfold drawF at h
  unfold drawQ
  rw [Bool.and_eq_true] at h ⊢
  refine ⟨h.1, ?_⟩
  unfold pairsQ
  rw [List.all_eq_true]
  intro k hk
  rw [List.all_eq_true]
  intro i hi
  simp only [List.mem_range] at hk hi
  obtain ⟨x, y, r, s, h1, h2, h3, h4, h5⟩ := goF_sound ops.toList rs (befs ops.toList) [] 0 h.2 rfl ops.toList rs (befs ops.toList) rfl rfl rfl k (Nat.zero_le _) hk i hi
  rw [Array.getElem?_toList] at h1 h2
  simp only [h1, h2, h3, h4]
  exact h5

end Go.Proofs.Ytbieiehfohldjaa
namespace Go.Proofs.Ytbieiehfohldjaa
open Go
set_option linter.unusedVariables false
set_option linter.unusedSimpArgs false

section
variable {P : Program} {T : TT} {ov : Operand → V} {o : Oper} {nx : Nat} {H : GH} {K : Eff → V → Prop}

/-- what an operation comes to -/
abbrev Res (P : Program) (ov : Operand → V) (o : Oper) (nx : Nat) (H : Hp) (K : Eff → V → Prop) : Prop := ∃ eff v, EOk P ov o nx H v eff ∧ K eff v
theorem res_rd {v : V} (hl : LOk P ov o [] [] [] v) (h : K (.rd []) v) : Res P ov o nx H.hp K := ⟨.rd [], v, ⟨hl, Sub.nil _⟩, h⟩
theorem res_nw {sy : Bool} {ob : VObj} {v : V} (hl : LOk P ov o [] [] [(nx, ob)] v) (h : K (.nw [] sy ob) v) : Res P ov o nx H.hp K := ⟨.nw [] sy ob, v, ⟨hl, Sub.nil _⟩, h⟩

def moveE (v : V) (K : Eff → V → Prop) : Prop := K (.rd []) v

def pickE (c x y : V) (K : Eff → V → Prop) : Prop := match c with
  | .lit (.bool t) => condN t (K (.rd []) x) (K (.rd []) y)
  | _ => False
theorem pickE_sound {c x y : Operand} (ho : o.op = .pick c x y) (h : pickE (ov c) (ov x) (ov y) K) : Res P ov o nx H.hp K := by
  unfold pickE at h
  split at h
  · rename_i t hc
    refine res_rd (lok_pick ho hc) ?_
    rcases condN_sound h with ⟨rfl, h⟩ | ⟨rfl, h⟩ <;> exact h
  · exact h.elim

def allocE (T : TT) (nx : Nat) (e : Nat) (K : Eff → V → Prop) : Prop := tiK T e fun i => fCs i.zero fun z => K (.nw [] false ⟨i.size, [z], false⟩) (.ptr nx i.size 0 0)
theorem allocE_sound (hT : TOk P T) {e : Nat} (ho : o.op = .alloc e) (h : allocE T nx e K) : Res P ov o nx H.hp K := by
  obtain ⟨i, ht, h⟩ := tiK_sound h
  exact res_nw (lok_alloc hT ho ht) (fCs_sound _ h)

def V.known : V → Bool
  | .any => false
  | _ => true
def boxE (T : TT) (nx : Nat) (e : Nat) (x : V) (K : Eff → V → Prop) : Prop := chkK x.known <| tiK T e fun i => chkK (Nat.beq x.cells.length i.size) <| fCs x.cells fun cs => K (.nw [] false ⟨i.size, [cs], false⟩) (.ptr nx i.size 0 0)
theorem boxE_sound {e : Nat} {x : Operand} (ho : o.op = .box e x) (h : boxE T nx e (ov x) K) : Res P ov o nx H.hp K := by
  obtain ⟨hk, h⟩ := chkK_sound h
  obtain ⟨i, ht, h⟩ := tiK_sound h
  obtain ⟨hz, h⟩ := chkK_sound h
  have hz := Nat.eq_of_beq_eq_true hz
  have h := fCs_sound _ h
  rw [← hz] at h
  exact res_nw (lok_box ho rfl (fun e => by rw [e] at hk; cases hk)) h

/-- an object's row -/
def rowK (sy : Bool) (ob : VObj) (ix : Nat) (K : List V → Prop) : Prop := match sy with
  | false => nthK ob.rows ix K
  | true => ∃ row, ob.rows[ix]? = some row ∧ K row
theorem rowK_sound {sy : Bool} {ob : VObj} {ix : Nat} {K : List V → Prop} (h : rowK sy ob ix K) : ∃ row, ob.rows[ix]? = some row ∧ K row := by
  cases sy with
  | false => exact nthK_sound _ _ h
  | true => exact h

def loadE (T : TT) (H : GH) (t : Nat) (x : V) (K : Eff → V → Prop) : Prop := match x with
  | .ptr k sz ix off => tiK T t fun i => H.getK k fun sy ob => chkK (Nat.beq ob.sz sz) <| rowK sy ob ix fun row => chkK (Nat.ble (off + i.size) row.length) <| K (.rd [(k, ob)]) (ldV i (row.drop off))
  | .ip cs => tiK T t fun i => chkK (Nat.ble i.size cs.length) <| K (.rd []) (ldV i cs)
  | _ => False
theorem loadE_sound (hT : TOk P T) {t : Nat} {x : Operand} (ho : o.op = .load t x) (h : loadE T H t (ov x) K) : Res P ov o nx H.hp K := by
  unfold loadE at h
  split at h
  · rename_i k sz ix off hx
    obtain ⟨i, ht, h⟩ := tiK_sound h
    obtain ⟨sy, ob, hk, h⟩ := GH.getK_sound _ _ h
    obtain ⟨hz, h⟩ := chkK_sound h
    obtain ⟨row, hrow, h⟩ := rowK_sound h
    obtain ⟨hl, h⟩ := chkK_sound h
    exact ⟨.rd [(k, ob)], _, ⟨lok_load hT ho ht hx (Nat.eq_of_beq_eq_true hz) hrow (Nat.le_of_ble_eq_true hl), Sub.one hk⟩, h⟩
  · rename_i cs hx
    obtain ⟨i, ht, h⟩ := tiK_sound h
    obtain ⟨hl, h⟩ := chkK_sound h
    exact res_rd (lok_loadI hT ho ht hx (Nat.le_of_ble_eq_true hl)) h
  · exact h.elim

def storeE (T : TT) (H : GH) (nx : Nat) (t : Nat) (x y : V) (K : Eff → V → Prop) : Prop := match x with
  | .ptr k sz ix off => tiK T t fun i => H.getK k fun sy ob => chkK (Nat.beq ob.sz sz) <| chkK (!ob.frz) <| chkK (Nat.blt k nx) <| chkK (Nat.beq y.cells.length i.size && y.cells.all V.one) <| rowK sy ob ix fun row => chkK (Nat.ble (off + i.size) row.length) <|
      match sy with
      | false => fCs (spl row off y.cells) fun r => fRs (ob.rows.set ix r) fun rs => K (.wr [] k ob ⟨sz, rs, false⟩) .undef
      | true => fCs (spl row off y.cells) fun r => K (.wr [] k ob ⟨sz, ob.rows.set ix r, false⟩) .undef
  | _ => False
theorem storeE_sound (hT : TOk P T) {t : Nat} {x y : Operand} (ho : o.op = .store t x y) (h : storeE T H nx t (ov x) (ov y) K) : Res P ov o nx H.hp K := by
  unfold storeE at h
  split at h
  · rename_i k sz ix off hx
    obtain ⟨i, ht, h⟩ := tiK_sound h
    obtain ⟨sy, ob, hk, h⟩ := GH.getK_sound _ _ h
    obtain ⟨hz, h⟩ := chkK_sound h
    obtain ⟨hf, h⟩ := chkK_sound h
    obtain ⟨hn, h⟩ := chkK_sound h
    obtain ⟨hc, h⟩ := chkK_sound h
    obtain ⟨row, hrow, h⟩ := rowK_sound h
    obtain ⟨hl, h⟩ := chkK_sound h
    rw [Bool.and_eq_true] at hc
    have hl' := lok_store hT ho ht hx rfl (Nat.eq_of_beq_eq_true hz) (by simpa using hf) hrow (Nat.eq_of_beq_eq_true hc.1) hc.2 (Nat.le_of_ble_eq_true hl)
    have hn' : k < nx := Nat.le_of_ble_eq_true hn
    refine ⟨.wr [] k ob _, _, ⟨hl', Sub.nil _, hk, hn'⟩, ?_⟩
    cases sy with
    | false => exact fRs_sound _ (fCs_sound _ h)
    | true => exact fCs_sound _ h
  · exact h.elim

def fieldAddrE (T : TT) (t : Nat) (x : V) (f : Nat) (K : Eff → V → Prop) : Prop := tiK T t fun i => nthK i.d.fields f fun q => match q with
  | (off, size, ag) => match x with
    | .ptr k sz ix p => K (.rd []) (.ptr k sz ix (p + off))
    | .ip cs => chkK (Nat.ble off cs.length) <| K (.rd []) (.ip (cs.drop off))
    | _ => False

def fieldE (T : TT) (t : Nat) (x : V) (f : Nat) (K : Eff → V → Prop) : Prop := tiK T t fun i => nthK i.d.fields f fun q => match q with
  | (off, size, ag) => match x with
    | .agg cs => chkK (Nat.ble (off + size) cs.length) <| K (.rd []) (ptV off size ag cs)
    | _ => False
theorem fieldE_sound (hT : TOk P T) {t f : Nat} {x : Operand} (ho : o.op = .field t x f) (h : fieldE T t (ov x) f K) : Res P ov o nx H.hp K := by
  obtain ⟨i, ht, h⟩ := tiK_sound h
  obtain ⟨⟨off, size, ag⟩, hf, h⟩ := nthK_sound _ _ h
  simp only at h
  split at h
  · rename_i cs hx
    obtain ⟨hl, h⟩ := chkK_sound h
    exact res_rd (lok_field hT ho ht hf hx (Nat.le_of_ble_eq_true hl)) h
  · exact h.elim

/-- the elements of an array or a slice -/
def TD.elt : TD → Option (Bool × Nat × Nat)
  | .arr n e => some (true, n, e)
  | .slice e => some (false, 0, e)
  | _ => none
theorem TD.elt_arr {d : TD} {n e : Nat} (h : d.elt = some (true, n, e)) : d = .arr n e := by
  unfold TD.elt at h; split at h <;> cases h; rfl
theorem TD.elt_sl {d : TD} {n e : Nat} (h : d.elt = some (false, n, e)) : d = .slice e := by
  unfold TD.elt at h; split at h <;> cases h; rfl

def idxAddrE (T : TT) (t : Nat) (x y : V) (K : Eff → V → Prop) : Prop := tiK T t fun i => optK i.d.elt fun q => match q with
  | (true, n, e) => tiK T e fun ie => match x, y with
    | .ptr k sz ix p, .lit (.int _ j) => 0 ≤ j ∧ j < n ∧ K (.rd []) (.ptr k sz ix (p + j.toNat * ie.size))
    | .ip cs, .lit (.int _ j) => 0 ≤ j ∧ j < n ∧ j.toNat * ie.size ≤ cs.length ∧ K (.rd []) (.ip (cs.drop (j.toNat * ie.size)))
    | _, _ => False
  | (false, _, e) => tiK T e fun ie => match x, y with
    | .win k sz lo n cp, .lit (.int _ j) => chkK (Nat.beq ie.size sz) <| 0 ≤ j ∧ j < n ∧ K (.rd []) (.ptr k sz (lo + j.toNat) 0)
    | xv, .lit (.int _ j) => optK xv.sl? fun l => chkK (Nat.beq ie.size xv.slz) <| 0 ≤ j ∧ j < l.length ∧ ∃ r, l[j.toNat]? = some r ∧ K (.rd []) (.ip r)
    | _, _ => False

/-- an element of an array that is a value -/
def indexE (T : TT) (t : Nat) (x y : V) (K : Eff → V → Prop) : Prop := tiK T t fun i => match i.d with
  | .arr n e => tiK T e fun ie => match x, y with
    | .agg cs, .lit (.int _ j) => 0 ≤ j ∧ j < n ∧ j.toNat * ie.size + ie.size ≤ cs.length ∧ K (.rd []) (ldV ie (cs.drop (j.toNat * ie.size)))
    | _, _ => False
  | .string => match x, y with
    | .lit (.string s), .lit (.int _ j) => 0 ≤ j ∧ ∃ c : UInt8, s.data.toList[j.toNat]? = some c ∧ K (.rd []) (.lit (.int .u8 c.toNat))
    | _, _ => False
  | _ => False

theorem fieldAddrE_sound (hT : TOk P T) {t f : Nat} {x : Operand} (ho : o.op = .fieldAddr t x f) (h : fieldAddrE T t (ov x) f K) : Res P ov o nx H.hp K := by
  obtain ⟨i, ht, h⟩ := tiK_sound h
  obtain ⟨⟨off, size, ag⟩, hf, h⟩ := nthK_sound _ _ h
  simp only at h
  split at h
  · rename_i k sz ix p hx
    exact res_rd (lok_fieldAddr hT ho ht hf hx) h
  · rename_i cs hx
    obtain ⟨hl, h⟩ := chkK_sound h
    exact res_rd (lok_fieldAddrI hT ho ht hf hx (Nat.le_of_ble_eq_true hl)) h
  · exact h.elim
/-- how wide the rows of a slice are -/
def szE (x : V) (sz : Nat) : Bool := match x with
  | .lit _ => true
  | x => Nat.beq sz x.slz
theorem szE_sound {x : V} {sz : Nat} {L : List (List V)} (h : szE x sz = true) (hL : x.sl? = some L) : sz = x.slz ∨ L = [] := by
  unfold szE at h
  split at h
  · right
    rename_i v
    unfold V.sl? at hL
    split at hL <;> rename_i e <;> first | cases e | skip
    · cases hL; rfl
    · cases hL
  · exact .inl (Nat.eq_of_beq_eq_true h)
theorem idxAddrE_sound (hT : TOk P T) {t : Nat} {x y : Operand} (ho : o.op = .indexAddr t x y) (h : idxAddrE T t (ov x) (ov y) K) : Res P ov o nx H.hp K := by
  obtain ⟨i, ht, h⟩ := tiK_sound h
  obtain ⟨q, hq, h⟩ := optK_sound h
  split at h
  · rename_i n e
    have hd := TD.elt_arr hq
    obtain ⟨ie, he, h⟩ := tiK_sound h
    split at h
    · rename_i k sz ix p k' j hx hy
      obtain ⟨h0, h1, h⟩ := h
      exact res_rd (lok_idxArr hT ho ht hd he hx hy h0 h1) h
    · rename_i cs k' j hx hy
      obtain ⟨h0, h1, h2, h⟩ := h
      exact res_rd (lok_idxArrI hT ho ht hd he hx hy h0 h1 h2) h
    · exact h.elim
  · rename_i n' e
    have hd := TD.elt_sl hq
    obtain ⟨ie, he, h⟩ := tiK_sound h
    split at h
    · rename_i k sz lo n cp k' j hx hy
      obtain ⟨hz, h0, h1, h⟩ := chkK_sound h
      exact res_rd (lok_idxWin hT ho ht hd he (Nat.eq_of_beq_eq_true hz) hx hy h0 h1) h
    · rename_i k' j hy _
      obtain ⟨l, hl, h⟩ := optK_sound h
      obtain ⟨hz, h0, h1, r, hr, h⟩ := chkK_sound h
      exact res_rd (lok_idxSl hT ho ht hd he rfl hl (Nat.eq_of_beq_eq_true hz) hy h0 h1 hr) h
    · exact h.elim
theorem indexE_sound (hT : TOk P T) {t : Nat} {x y : Operand} (ho : o.op = .index t x y) (h : indexE T t (ov x) (ov y) K) : Res P ov o nx H.hp K := by
  obtain ⟨i, ht, h⟩ := tiK_sound h
  split at h
  · rename_i n e hd
    obtain ⟨ie, he, h⟩ := tiK_sound h
    split at h
    · rename_i cs k j hx hy
      obtain ⟨h0, h1, h2, h⟩ := h
      exact res_rd (lok_index hT ho ht hd he hx hy h0 h1 h2) h
    · exact h.elim
  · rename_i hd
    split at h
    · rename_i s k j hx hy
      obtain ⟨h0, c, h1, h⟩ := h
      exact res_rd (lok_indexStr hT ho ht hd hx hy h0 h1) h
    · exact h.elim
  · exact h.elim

/-- a bound -/
def bndE (ov : Operand → V) (d : Nat) (x : Option Operand) (K : Nat → Prop) : Prop := match x with
  | none => K d
  | some x => match ov x with
    | .lit (.int _ n) => 0 ≤ n ∧ K n.toNat
    | _ => False
theorem bndE_sound {d : Nat} {x : Option Operand} {K : Nat → Prop} (h : bndE ov d x K) : ∃ n, bndV ov d x = some n ∧ K n := by
  cases x with
  | none => exact ⟨d, rfl, h⟩
  | some x =>
    simp only [bndE] at h
    split at h
    · rename_i k n hx
      exact ⟨n.toNat, by simp [bndV, hx, h.1], h.2⟩
    · exact h.elim
def sliceE (T : TT) (ov : Operand → V) (t : Nat) (x : V) (lo hi mx : Option Operand) (K : Eff → V → Prop) : Prop := match mx with
  | none => match x with
    | .lit (.string s) => tiK T t fun i => match i.d with
      | .string => bndE ov 0 lo fun l => bndE ov s.size hi fun h => l ≤ h ∧ h ≤ s.size ∧ K (.rd []) (.lit (.string (s.extract l h)))
      | _ => False
    | .lit (.slice none 0 0) => tiK T t fun i => match i.d with
      | .slice e => tiK T e fun ie => bndE ov 0 lo fun l => bndE ov 0 hi fun h => l ≤ h ∧ h ≤ 0 ∧ K (.rd []) (.lit (.slice none 0 0))
      | _ => False
    | .win k sz w0 n cp => tiK T t fun i => match i.d with
      | .slice e => tiK T e fun ie => chkK (Nat.beq ie.size sz) <| bndE ov 0 lo fun l => bndE ov n hi fun h => l ≤ h ∧ h ≤ cp ∧ K (.rd []) (.win k sz (w0 + l) (h - l) (cp - l))
      | _ => False
    | xv => tiK T t fun i => match i.d with
      | .slice e => tiK T e fun ie => optK xv.sl? fun L => chkK (szE xv ie.size) <| bndE ov 0 lo fun l => bndE ov L.length hi fun h => l ≤ h ∧ h ≤ L.length ∧ K (.rd []) (.sl ie.size ((L.take h).drop l))
      | _ => False
  | some z => match lo, hi with
    | none, some y => tiK T t fun i => match i.d with
      | .slice e => tiK T e fun ie => optK x.sl? fun L => bndE ov L.length (some y) fun h => bndE ov L.length (some z) fun m => h = m ∧ h ≤ L.length ∧ K (.rd []) (.sls x.slz (L.take h) false true)
      | _ => False
    | _, _ => False
theorem sliceE_sound (hT : TOk P T) {t : Nat} {x : Operand} {lo hi mx : Option Operand} (ho : o.op = .slice t x lo hi mx) (h : sliceE T ov t (ov x) lo hi mx K) : Res P ov o nx H.hp K := by
  unfold sliceE at h
  split at h
  · split at h
    · rename_i s hx
      obtain ⟨i, ht, h⟩ := tiK_sound h
      split at h
      · rename_i hd
        obtain ⟨l, hl, h⟩ := bndE_sound h
        obtain ⟨h', hh, h1, h2, h⟩ := bndE_sound h
        exact res_rd (lok_sliceStr hT ho ht hd hx hl hh h1 h2) h
      · exact h.elim
    · rename_i hx
      obtain ⟨i, ht, h⟩ := tiK_sound h
      split at h
      · rename_i e hd
        obtain ⟨ie, he, h⟩ := tiK_sound h
        obtain ⟨l, hl, h⟩ := bndE_sound h
        obtain ⟨h', hh, h1, h2, h⟩ := bndE_sound h
        exact res_rd (lok_sliceNil hT ho ht hd he hx hl hh h1 h2) h
      · exact h.elim
    · rename_i k sz w0 n cp hx
      obtain ⟨i, ht, h⟩ := tiK_sound h
      split at h
      · rename_i e hd
        obtain ⟨ie, he, h⟩ := tiK_sound h
        obtain ⟨hz, h⟩ := chkK_sound h
        obtain ⟨l, hl, h⟩ := bndE_sound h
        obtain ⟨h', hh, h1, h2, h⟩ := bndE_sound h
        exact res_rd (lok_sliceWin hT ho ht hd he hx (Nat.eq_of_beq_eq_true hz) hl hh h1 h2) h
      · exact h.elim
    · obtain ⟨i, ht, h⟩ := tiK_sound h
      split at h
      · rename_i e hd
        obtain ⟨ie, he, h⟩ := tiK_sound h
        obtain ⟨L, hL, h⟩ := optK_sound h
        obtain ⟨hz, h⟩ := chkK_sound h
        obtain ⟨l, hl, h⟩ := bndE_sound h
        obtain ⟨h', hh, h1, h2, h⟩ := bndE_sound h
        exact res_rd (lok_sliceSl hT ho ht hd he rfl hL (szE_sound hz hL) hl hh h1 h2) h
      · exact h.elim
  · split at h
    · obtain ⟨i, ht, h⟩ := tiK_sound h
      split at h
      · rename_i e hd
        obtain ⟨ie, he, h⟩ := tiK_sound h
        obtain ⟨L, hL, h⟩ := optK_sound h
        obtain ⟨l, hl, h⟩ := bndE_sound h
        obtain ⟨m, hm, h1, h2, h⟩ := bndE_sound h
        subst h1
        exact res_rd (lok_clip hT ho ht hd he rfl hL hl hm h2) h
      · exact h.elim
    · exact h.elim

end
end Go.Proofs.Ytbieiehfohldjaa
namespace Go.Proofs.Ytbieiehfohldjaa
open Go
set_option linter.unusedVariables false
set_option linter.unusedSimpArgs false

section
variable {P : Program} {T : TT} {ov : Operand → V} {o : Oper} {nx : Nat} {H : GH} {K : Eff → V → Prop}

def partsK (ov : Operand → V) : List (Nat × Operand) → (List (Nat × V) → Prop) → Prop
  | [], K => K []
  | (i, x) :: l, K => fV (ov x) fun v => partsK ov l fun qs => K ((i, v) :: qs)
theorem partsK_sound : ∀ (l : List (Nat × Operand)) {K : List (Nat × V) → Prop}, partsK ov l K → K (l.map fun p => (p.1, ov p.2))
  | [], _, h => h
  | (i, x) :: l, K, h => partsK_sound l (K := fun qs => K ((i, ov x) :: qs)) (fV_sound (K := fun v => partsK ov l fun qs => K ((i, v) :: qs)) h)
def argsK (ov : Operand → V) : List Operand → (List V → Prop) → Prop
  | [], K => K []
  | x :: l, K => fV (ov x) fun v => argsK ov l fun qs => K (v :: qs)
theorem argsK_sound : ∀ (l : List Operand) {K : List V → Prop}, argsK ov l K → K (l.map ov)
  | [], _, h => h
  | x :: l, K, h => argsK_sound l (K := fun qs => K (ov x :: qs)) (fV_sound (K := fun v => argsK ov l fun qs => K (v :: qs)) h)

theorem known_isAny {v : V} (h : v.known = true) : v.isAny = false := by cases v <;> first | rfl | cases h

def fillE (place : Nat → Option (Nat × Nat)) : List (Nat × V) → List V → (List V → Prop) → Prop
  | [], cells, K => K cells
  | (i, v) :: rest, cells, K => optK (place i) fun q => match q with
    | (off, size) => chkK (Nat.beq v.cells.length size && Nat.ble (off + size) cells.length && v.known) <| fCs (spl cells off v.cells) fun cells => fillE place rest cells K
theorem fillE_sound {place : Nat → Option (Nat × Nat)} : ∀ (qs : List (Nat × V)) (cells : List V) {K : List V → Prop}, fillE place qs cells K → ∃ cs, fillV place cells qs = some cs ∧ K cs
  | [], cells, _, h => ⟨cells, rfl, h⟩
  | (i, v) :: rest, cells, K, h => by
    obtain ⟨⟨off, size⟩, hp, h⟩ := optK_sound h
    obtain ⟨hc, h⟩ := chkK_sound h
    rw [Bool.and_eq_true, Bool.and_eq_true] at hc
    obtain ⟨cs, h1, h2⟩ := fillE_sound rest _ (fCs_sound _ h)
    refine ⟨cs, ?_, h2⟩
    simp only [fillV, hp]
    rw [if_pos ⟨Nat.eq_of_beq_eq_true hc.1.1, Nat.le_of_ble_eq_true hc.1.2, known_isAny hc.2⟩]
    exact h1
def buildE (T : TT) (ov : Operand → V) (t : Nat) (ps : List (Nat × Operand)) (K : Eff → V → Prop) : Prop := tiK T t fun i => match i.d with
  | .struct fs => partsK ov ps fun qs => fCs i.zero fun z => fillE (i.d.place 0) qs z fun cs => K (.rd []) (.agg cs)
  | .arr n e => tiK T e fun ie => partsK ov ps fun qs => fCs i.zero fun z => fillE (i.d.place ie.size) qs z fun cs => K (.rd []) (.agg cs)
  | _ => False
theorem buildE_sound (hT : TOk P T) {t : Nat} {ps : Array (Nat × Operand)} (ho : o.op = .build t ps) (h : buildE T ov t ps.toList K) : Res P ov o nx H.hp K := by
  obtain ⟨i, ht, h⟩ := tiK_sound h
  split at h
  · rename_i fs hd
    have h := fCs_sound _ (partsK_sound _ h)
    obtain ⟨cs, h1, h2⟩ := fillE_sound _ _ h
    exact res_rd (lok_build hT ho ht (.inl ⟨fs, hd⟩) rfl h1) h2
  · rename_i n e hd
    obtain ⟨ie, he, h⟩ := tiK_sound h
    have h := fCs_sound _ (partsK_sound _ h)
    obtain ⟨cs, h1, h2⟩ := fillE_sound _ _ h
    exact res_rd (lok_build hT ho ht (.inr ⟨n, e, ie, hd, he, rfl⟩) rfl h1) h2
  · exact h.elim

def fillQ (sz : Nat) : List (Nat × V) → List (List V) → (List (List V) → Prop) → Prop
  | [], rows, K => K rows
  | (i, v) :: rest, rows, K => chkK (Nat.beq v.cells.length sz && Nat.blt i rows.length && v.known) <| fRs (rows.set i v.cells) fun rows => fillQ sz rest rows K
theorem fillQ_sound {sz : Nat} : ∀ (qs : List (Nat × V)) (rows : List (List V)) {K : List (List V) → Prop}, fillQ sz qs rows K → ∃ rs, fillR sz rows qs = some rs ∧ K rs
  | [], rows, _, h => ⟨rows, rfl, h⟩
  | (i, v) :: rest, rows, K, h => by
    obtain ⟨hc, h⟩ := chkK_sound h
    rw [Bool.and_eq_true, Bool.and_eq_true] at hc
    obtain ⟨rs, h1, h2⟩ := fillQ_sound rest _ (fRs_sound _ h)
    refine ⟨rs, ?_, h2⟩
    simp only [fillR]
    rw [if_pos ⟨Nat.eq_of_beq_eq_true hc.1.1, Nat.le_of_ble_eq_true hc.1.2, known_isAny hc.2⟩]
    exact h1
/-- rows that name no object -/
def plainQ (rows : List (List V)) : Bool := rows.all fun r => r.all kfc
def buildSliceE (T : TT) (ov : Operand → V) (nx : Nat) (t n : Nat) (ps : List (Nat × Operand)) (K : Eff → V → Prop) : Prop := tiK T t fun i => match i.d with
  | .slice e => tiK T e fun ie => chkK (Nat.ble (n * ie.size) 16777216) <| partsK ov ps fun qs => fCs ie.zero fun z => fRs (List.replicate n z) fun rows => fillQ ie.size qs rows fun rows => K (.nw [] (plainQ rows) ⟨ie.size, rows, false⟩) (.win nx ie.size 0 n n)
  | _ => False
theorem buildSliceE_sound (hT : TOk P T) {t n : Nat} {ps : Array (Nat × Operand)} (ho : o.op = .buildSlice t n ps) (h : buildSliceE T ov nx t n ps.toList K) : Res P ov o nx H.hp K := by
  obtain ⟨i, ht, h⟩ := tiK_sound h
  split at h
  · rename_i e hd
    obtain ⟨ie, he, h⟩ := tiK_sound h
    obtain ⟨hn, h⟩ := chkK_sound h
    have h := fRs_sound _ (fCs_sound _ (partsK_sound _ h))
    obtain ⟨rs, h1, h2⟩ := fillQ_sound _ _ h
    exact res_nw (lok_buildSlice hT ho ht hd he (Nat.le_of_ble_eq_true hn) rfl h1) h2
  · exact h.elim

def makeSliceE (T : TT) (nx : Nat) (t : Nat) (x y : V) (K : Eff → V → Prop) : Prop := tiK T t fun i => match i.d with
  | .slice e => tiK T e fun ie => match x, y with
    | .lit (.int _ n), .lit (.int _ c) => 0 ≤ n ∧ n ≤ c ∧ c ≤ 2 ^ 48 ∧ ie.bytes * c ≤ 2 ^ 48 ∧ fCs ie.zero fun z => (Nat.ble c.toNat 64 = true ∧ fRs (List.replicate c.toNat z) fun rows => K (.nw [] false ⟨ie.size, rows, false⟩) (.win nx ie.size 0 n.toNat c.toNat)) ∨ K (.nw [] true ⟨ie.size, List.replicate c.toNat z, false⟩) (.win nx ie.size 0 n.toNat c.toNat)
    | _, _ => False
  | _ => False
theorem makeSliceE_sound (hT : TOk P T) {t : Nat} {x y : Operand} (ho : o.op = .makeSlice t x y) (h : makeSliceE T nx t (ov x) (ov y) K) : Res P ov o nx H.hp K := by
  obtain ⟨i, ht, h⟩ := tiK_sound h
  split at h
  · rename_i e hd
    obtain ⟨ie, he, h⟩ := tiK_sound h
    split at h
    · rename_i q n q' c hx hy
      obtain ⟨h0, h1, h2, h3, h⟩ := h
      rcases fCs_sound _ h with ⟨_, h⟩ | h
      · exact res_nw (lok_makeSlice hT ho ht hd he hx hy h0 h1 h2 h3) (fRs_sound _ h)
      · exact res_nw (lok_makeSlice hT ho ht hd he hx hy h0 h1 h2 h3) h
    · exact h.elim
  · exact h.elim

/- OPERATORS -/
def binE (T : TT) (t : Nat) (op : BinOp) (a b : Value) (K : Value → Prop) : Prop := match op with
  | .quo => match a, b with
    | .int k x, .int k' y => chkK (decide (k = k')) <| y ≠ 0 ∧ K (.int k (k.wrap (x.tdiv y)))
    | _, _ => False
  | .rem => match a, b with
    | .int k x, .int k' y => chkK (decide (k = k')) <| y ≠ 0 ∧ K (.int k (x.tmod y))
    | _, _ => False
  | .shl => match a, b with
    | .int k x, .int k' y => 0 ≤ y ∧ K (.int k (k.wrap (x * 2 ^ min y.toNat k.bits)))
    | _, _ => False
  | .shr => match a, b with
    | .int k x, .int k' y => 0 ≤ y ∧ K (.int k (x.fdiv (2 ^ min y.toNat k.bits)))
    | _, _ => False
  | op => match a, b with
    | .string x, .string y => match op with
      | .add => ((x.size + y.size : Nat) : Int) ≤ IntKind.i64.max ∧ K (.string (x ++ y))
      | op => optK (binV (T t) op a b) K
    | _, _ => optK (binV (T t) op a b) K
theorem binE_sound {t : Nat} {op : BinOp} {a b : Value} {K : Value → Prop} (h : binE T t op a b K) : ∃ r, binV (T t) op a b = some r ∧ K r := by
  unfold binE at h
  split at h
  · split at h
    · obtain ⟨hk, hy, h⟩ := chkK_sound h
      refine ⟨_, ?_, h⟩
      simp [binV, binK, binI, of_decide_eq_true hk, hy]
    · exact h.elim
  · split at h
    · obtain ⟨hk, hy, h⟩ := chkK_sound h
      refine ⟨_, ?_, h⟩
      simp [binV, binK, binI, of_decide_eq_true hk, hy]
    · exact h.elim
  · split at h
    · obtain ⟨hy, h⟩ := h
      refine ⟨_, ?_, h⟩
      simp [binV, binK, shiftI, Int.not_lt.2 hy]
    · exact h.elim
  · split at h
    · obtain ⟨hy, h⟩ := h
      refine ⟨_, ?_, h⟩
      simp [binV, binK, shiftI, Int.not_lt.2 hy]
    · exact h.elim
  · split at h
    · split at h
      · obtain ⟨hy, h⟩ := h
        refine ⟨_, ?_, h⟩
        simp only [binV, binS]
        rw [if_neg (Int.not_lt.2 hy)]
      · exact optK_sound h
    · exact optK_sound h

def eqOp (op : BinOp) (r : Bool) : Bool := match op with
  | .eql => r
  | _ => !r
/-- structs of a type may be held against each other, cell by cell -/
def EqFlat (P : Program) (t : Nat) (sh : List Bool) : Prop := ∀ (op : BinOp) (x y : Operand) (xs ys : Array Value) (cs ds : List V) (r : Bool) (w : World), xs.size = cs.length → ys.size = ds.length → (∀ (i : Nat) (u : Value) (v : V), xs[i]? = some u → cs[i]? = some v → ∀ z, v = .lit z → u = z) →
  (∀ (i : Nat) (u : Value) (v : V), ys[i]? = some u → ds[i]? = some v → ∀ z, v = .lit z → u = z) → eqCells sh cs ds = some r → (op = .eql ∨ op = .neq) →
  (eqGuard op t x y (.agg xs) (.agg ys)).run P w = .ok () w ∧ (binOp op t (.agg xs) (.agg ys)).run P w = .ok (.bool (eqOp op r)) w
theorem lok_eqFlat {t : Nat} {sh : List Bool} (hE : EqFlat P t sh) {op : BinOp} {t' : TypeId} {x y : Operand} {cs ds : List V} {r : Bool} (ho : o.op = .binOp op t x y t') (hx : ov x = .agg cs) (hy : ov y = .agg ds) (hr : eqCells sh cs ds = some r) (hop : op = .eql ∨ op = .neq) :
    LOk P ov o [] [] [] (.lit (.bool (eqOp op r))) :=
  LOk.pure fun S ρ w a hr' => by
    rw [ho] at hr'
    have e1 := hr' x (by simp [Op.operands])
    have e2 := hr' y (by simp [Op.operands])
    rw [hx] at e1
    rw [hy] at e2
    generalize hcx : a.eval x = cx at e1
    generalize hcy : a.eval y = cy at e2
    cases e1 with
    | agg hl h =>
      cases e2 with
      | agg hl' h' =>
        rename_i xs ys
        obtain ⟨g1, g2⟩ := hE op x y xs ys cs ds r w hl hl' (fun i u v p q z e => by have := h i u v p q; rw [e] at this; exact this.lit_inv) (fun i u v p q z e => by have := h' i u v p q; rw [e] at this; exact this.lit_inv) hr hop
        exact ⟨_, .lit rfl, by simp only [execOp, ho, hcx, hcy, Sem.run_bind, g1, Result.andThen_ok, g2, Sem.run_pure]⟩

def opBinE (P : Program) (T : TT) (op : BinOp) (t : Nat) (x y : V) (K : Eff → V → Prop) : Prop := match x with
  | .lit a => match y with
    | .lit b => binE T t op a b fun r => fVal r fun r => K (.rd []) (.lit r)
    | _ => False
  | .sls sz l nn ex => match nn, y with
    | true, .lit (.slice none 0 0) => tiK T t fun i => chkK i.d.isSlice <| match op with
      | .eql => K (.rd []) (.lit (.bool false))
      | .neq => K (.rd []) (.lit (.bool true))
      | _ => False
    | _, _ => False
  | .agg cs => match y with
    | .agg ds => ∃ sh, EqFlat P t sh ∧ optK (eqCells sh cs ds) fun r => match op with
      | .eql => K (.rd []) (.lit (.bool r))
      | .neq => K (.rd []) (.lit (.bool (!r)))
      | _ => False
    | _ => False
  | _ => False
theorem opBinE_sound (hT : TOk P T) {op : BinOp} {t t' : Nat} {x y : Operand} (ho : o.op = .binOp op t x y t') (h : opBinE P T op t (ov x) (ov y) K) : Res P ov o nx H.hp K := by
  unfold opBinE at h
  split at h
  · rename_i a hx
    split at h
    · rename_i b hy
      obtain ⟨r, hr, h⟩ := binE_sound h
      exact res_rd (lok_bin hT ho hx hy hr) (fVal_sound (K := fun r => K (.rd []) (.lit r)) h)
    · exact h.elim
  · rename_i sz l nn ex hx
    split at h
    · rename_i hy
      obtain ⟨i, ht, h⟩ := tiK_sound h
      obtain ⟨hi, h⟩ := chkK_sound h
      split at h
      · exact res_rd (lok_nil hT ho hy ht hi ⟨_, _, _, hx⟩ (.inl ⟨rfl, rfl⟩)) h
      · exact res_rd (lok_nil hT ho hy ht hi ⟨_, _, _, hx⟩ (.inr ⟨rfl, rfl⟩)) h
      · exact h.elim
    · exact h.elim
  · rename_i cs hx
    split at h
    · rename_i ds hy
      obtain ⟨sh, hE, h⟩ := h
      obtain ⟨r, hr, h⟩ := optK_sound h
      split at h
      · exact res_rd (lok_eqFlat hE ho hx hy hr (.inl rfl)) h
      · exact res_rd (lok_eqFlat hE ho hx hy hr (.inr rfl)) h
      · exact h.elim
    · exact h.elim
  · exact h.elim

def unE (op : UnOp) (x : V) (K : Eff → V → Prop) : Prop := match x with
  | .lit a => optK (unV op a) fun r => fVal r fun r => K (.rd []) (.lit r)
  | _ => False
theorem unE_sound {op : UnOp} {t : Nat} {x : Operand} (ho : o.op = .unOp op t x) (h : unE op (ov x) K) : Res P ov o nx H.hp K := by
  unfold unE at h
  split at h
  · rename_i a hx
    obtain ⟨r, hr, h⟩ := optK_sound h
    exact res_rd (lok_un ho hx hr) (fVal_sound (K := fun r => K (.rd []) (.lit r)) h)
  · exact h.elim

/-- what is read out of a slice or a text -/
def srcE (H : GH) (y : V) (sz : Nat) (K : HL → List (List V) → Prop) : Prop := match y with
  | .win k sz' lo m cp => H.getK k fun sy ob => chkK (Nat.beq ob.sz sz && Nat.beq sz' sz) <| lo + m ≤ ob.rows.length ∧ K [(k, ob)] ((ob.rows.drop lo).take m)
  | .lit (.string s) => chkK (Nat.beq sz 1) <| K [] (strRows s)
  | y => optK y.sl? fun L => chkK (szE y sz) <| K [] L
theorem srcE_sound {y : V} {sz : Nat} {K : HL → List (List V) → Prop} (h : srcE H y sz K) : ∃ rd N, Src P y sz N.length rd N ∧ Sub (hpo rd) H.hp ∧ K rd N := by
  unfold srcE at h
  split at h
  · rename_i k sz' lo m cp
    obtain ⟨sy, ob, hk, h⟩ := GH.getK_sound _ _ h
    obtain ⟨hc, hl, hK⟩ := chkK_sound h
    clear h
    rw [Bool.and_eq_true] at hc
    have h1 := Nat.eq_of_beq_eq_true hc.1
    have h2 := Nat.eq_of_beq_eq_true hc.2
    subst h2
    refine ⟨_, _, ?_, Sub.one hk, hK⟩
    rw [show ((ob.rows.drop lo).take m).length = m by simp; omega]
    exact src_win h1 hl
  · rename_i s
    obtain ⟨hz, h⟩ := chkK_sound h
    have := Nat.eq_of_beq_eq_true hz
    subst this
    refine ⟨_, _, ?_, Sub.nil _, h⟩
    rw [show (strRows s).length = s.size by simp only [strRows, List.length_map, Array.length_toList]; rfl]
    exact src_str s
  · obtain ⟨L, hL, h⟩ := optK_sound h
    obtain ⟨hz, h⟩ := chkK_sound h
    exact ⟨_, _, src_sl hL (szE_sound hz hL), Sub.nil _, h⟩

theorem lok_convR (hT : TOk P T) {src dst : TypeId} {x : Operand} {k : IntKind} {n : Int} {i i' : TI} (ho : o.op = .convert src dst x) (hs : T src = some i) (hd : T dst = some i') (hk : i'.d = .string)
    (hx : ov x = .lit (.int k n)) : LOk P ov o [] [] [] (.lit (.string (Utf8.encode n))) :=
  LOk.pure fun S ρ w c hr => by
    rw [ho] at hr
    have e1 := hr x (by simp [Op.operands])
    rw [hx] at e1
    have e1 := e1.lit_inv
    obtain ⟨d, hd0⟩ := Option.isSome_iff_exists.1 (hT src i hs).some
    have hd' := (hT dst i' hd).d
    rw [hk] at hd'
    exact ⟨_, .lit rfl, by simp [execOp, ho, e1, convert, run_underlying hd0, run_underlying hd', Conv.intToString]⟩
def convE (T : TT) (H : GH) (s d : Nat) (x : V) (K : Eff → V → Prop) : Prop := tiK T s fun i => tiK T d fun i' => match i'.d with
  | .int k' => match x with
    | .lit (.int k n) => K (.rd []) (.lit (.int k' (k'.wrap n)))
    | _ => False
  | .string => match i.d with
    | .slice e => tiK T e fun ie => match ie.d with
      | .int .u8 => chkK x.isSl <| srcE H x 1 fun rd N => ∃ bs, N = byteRows bs ∧ K (.rd rd) (.lit (.string ⟨bs.toArray⟩))
      | _ => False
    | .int _ => match x with
      | .lit (.int _ n) => K (.rd []) (.lit (.string (Utf8.encode n)))
      | _ => False
    | _ => False
  | .slice e => match i.d with
    | .string => tiK T e fun ie => match ie.d with
      | .int .u8 => match x with
        | .lit (.string s) => K (.rd []) (.sls 1 (byteRows s.data.toList) true false)
        | _ => False
      | _ => False
    | _ => False
  | _ => False
theorem convE_sound (hT : TOk P T) {s d : Nat} {x : Operand} (ho : o.op = .convert s d x) (h : convE T H s d (ov x) K) : Res P ov o nx H.hp K := by
  obtain ⟨i, ht, h⟩ := tiK_sound h
  obtain ⟨i', ht', h⟩ := tiK_sound h
  split at h
  · rename_i k' hd'
    split at h
    · rename_i k n hx
      exact res_rd (lok_convI hT ho ht ht' (by rw [hd']; rfl) hx) h
    · exact h.elim
  · rename_i hd'
    split at h
    · rename_i e hd
      obtain ⟨ie, he, h⟩ := tiK_sound h
      split at h
      · rename_i hie
        obtain ⟨hk, h⟩ := chkK_sound h
        obtain ⟨rd, N, hs, hsub, bs, rfl, h⟩ := srcE_sound (P := P) h
        rw [show (byteRows bs).length = bs.length by simp [byteRows]] at hs
        exact ⟨.rd rd, _, ⟨lok_strOf hT ho ht hd he hie ht' hd' hk hs, hsub⟩, h⟩
      · exact h.elim
    · split at h
      · rename_i k n hx
        exact res_rd (lok_convR hT ho ht ht' hd' hx) h
      · exact h.elim
    · exact h.elim
  · rename_i e hd'
    split at h
    · rename_i hd
      obtain ⟨ie, he, h⟩ := tiK_sound h
      split at h
      · rename_i hie
        split at h
        · rename_i s hx
          exact res_rd (lok_bytesOf hT ho ht hd ht' hd' he hie hx) h
        · exact h.elim
      · exact h.elim
    · exact h.elim
  · exact h.elim

def extractE (x : V) (n : Nat) (K : Eff → V → Prop) : Prop := match x with
  | .tup vs => nthK vs n fun v => K (.rd []) v
  | _ => False
theorem extractE_sound {x : Operand} {n : Nat} (ho : o.op = .extract x n) (h : extractE (ov x) n K) : Res P ov o nx H.hp K := by
  unfold extractE at h
  split at h
  · rename_i vs hx
    obtain ⟨v, hv, h⟩ := nthK_sound _ _ h
    exact res_rd (lok_extract ho hx hv) h
  · exact h.elim

def nilCheckE (x : V) (K : Eff → V → Prop) : Prop := match x with
  | .ptr k sz i off => K (.rd []) (.ptr k sz i off)
  | .ip cs => K (.rd []) (.ip cs)
  | .fn f cs => K (.rd []) (.fn f cs)
  | _ => False
theorem nilCheckE_sound {x : Operand} (ho : o.op = .nilCheck x) (h : nilCheckE (ov x) K) : Res P ov o nx H.hp K := by
  unfold nilCheckE at h
  split at h
  · rename_i hx; rw [← hx] at h; exact res_rd (lok_nilCheck ho (.inl ⟨_, _, _, _, hx⟩)) h
  · rename_i hx; rw [← hx] at h; exact res_rd (lok_nilCheck ho (.inr (.inl ⟨_, hx⟩))) h
  · rename_i hx; rw [← hx] at h; exact res_rd (lok_nilCheck ho (.inr (.inr ⟨_, _, hx⟩))) h
  · exact h.elim

def makeFuncE (ov : Operand → V) (f : Go.Fn) (first : Array Operand) (caps : List Operand) (K : Eff → V → Prop) : Prop := match f with
  | .func f => chkK first.isEmpty <| argsK ov caps fun cs => K (.rd []) (.fn f cs)
  | _ => False
theorem makeFuncE_sound {f : Go.Fn} {first caps : Array Operand} (ho : o.op = .makeFunc f first caps) (h : makeFuncE ov f first caps.toList K) : Res P ov o nx H.hp K := by
  unfold makeFuncE at h
  split at h
  · rename_i f
    obtain ⟨he, h⟩ := chkK_sound h
    have : first = #[] := by simpa using he
    subst this
    exact res_rd (lok_makeFunc ho) (argsK_sound _ h)
  · exact h.elim

end
end Go.Proofs.Ytbieiehfohldjaa
namespace Go.Proofs.Ytbieiehfohldjaa
open Go
set_option linter.unusedVariables false
set_option linter.unusedSimpArgs false

def rowsPlain (N : List (List V)) : Prop := ∀ r ∈ N, r.all kfc = true
def GH.look (H : GH) (k : Nat) : Option (Bool × VObj) := match H with
  | [] => none
  | (j, s, o) :: l => match Nat.beq k j with
    | true => some (s, o)
    | false => GH.look l k
theorem GH.look_sound : ∀ (H : GH) {k : Nat} {s : Bool} {o : VObj}, H.look k = some (s, o) → H.hp k = some o
  | [], _, _, _, h => by cases h
  | (j, s', o') :: l, k, s, o, h => by
    simp only [GH.look] at h
    simp only [GH.hp, upd]
    cases h0 : Nat.beq k j with
    | true =>
      rw [h0] at h
      cases h
      rw [if_pos (Nat.eq_of_beq_eq_true h0)]
    | false =>
      rw [h0] at h
      rw [if_neg (fun e => by subst e; simp at h0)]
      exact GH.look_sound l h
/-- may it be told as what never changes? -/
def fzTest (sy : Bool) (ob : VObj) (sz : Nat) : Bool := (sy || plainQ ob.rows) && Nat.beq ob.sz sz
def fz0V (H : GH) (v : V) : V := match v with
  | .win k sz lo n cp => match H.look k with
    | some (sy, ob) => match fzTest sy ob sz with
      | true => .sl sz ((ob.rows.drop lo).take n)
      | false => .win k sz lo n cp
    | none => .win k sz lo n cp
  | .sls sz l _ _ => .sl sz l
  | v => v
def fz1V (H : GH) (v : V) : V := match v with
  | .agg cs => .agg (cs.map (fz0V H))
  | v => fz0V H v
def fz0K (H : GH) (v : V) (K : HL → Prop) : Prop := match v with
  | .win k sz lo n cp => match H.look k with
    | some (sy, ob) => match fzTest sy ob sz with
      | true => lo + n ≤ ob.rows.length ∧ rowsPlain ob.rows ∧ K [(k, ob)]
      | false => K []
    | none => K []
  | _ => K []
def fzCs (H : GH) : List V → (HL → Prop) → Prop
  | [], K => K []
  | v :: l, K => fz0K H v fun B => fzCs H l fun B' => K (B ++ B')
def fz1K (H : GH) (v : V) (K : HL → Prop) : Prop := match v with
  | .agg cs => fzCs H cs K
  | v => fz0K H v K
def fzPs (H : GH) : List (Nat × V) → (HL → Prop) → Prop
  | [], K => K []
  | p :: l, K => fz1K H p.2 fun B => fzPs H l fun B' => K (B ++ B')

/-- told anew, where these objects never change any more -/
def FzOk (B : HL) (c a : V) : Prop := ∀ (S : Nat → Prop) (ρ : KM) (w : World) (u : Value), Sim S ρ w (hpo B) → Rep S ρ w u a → Rep (SB S ρ (hpo B)) ρ w u c
theorem fz_id (B : HL) (v : V) : FzOk B v v := fun S ρ w u hs h => h.mono (fun _ h => .inl h) (fun _ _ => rfl) (fun _ _ h => h) (Keeps.refl w)
theorem FzOk.sub {B B' : HL} {c a : V} (h : FzOk B c a) (hB : Sub (hpo B) (hpo B')) : FzOk B' c a := fun S ρ w u hs hr =>
  (h S ρ w u (hs.sub hB) hr).mono (fun b hb => hb.imp id fun hb => Live.sub hB hb) (fun _ _ => rfl) (fun _ _ h => h) (Keeps.refl w)
def AllAt' (H : Hp) (B : HL) : Prop := ∀ p ∈ B, H p.1 = some p.2
theorem AllAt'.sub {H : Hp} : ∀ {B : HL}, AllAt' H B → Sub (hpo B) H
  | [], _ => Sub.nil H
  | (k, o) :: B, h => Sub.cons (h (k, o) (by simp)) (AllAt'.sub fun p hp => h p (by simp [hp]))
theorem AllAt'.in {H : Hp} {B B' : HL} (h : AllAt' H B) (h' : AllAt' H B') (hs : ∀ p ∈ B, p ∈ B') : Sub (hpo B) (hpo B') := by
  intro k o hk
  have h1 := h.sub k o hk
  have hm : k ∈ keysOf B := mem_keys.1 (by rw [hk]; simp)
  simp only [keysOf, List.mem_map] at hm
  obtain ⟨p, hp, rfl⟩ := hm
  have hk' : hpo B' p.1 ≠ none := mem_keys.2 (by simp only [keysOf, List.mem_map]; exact ⟨p, hs p hp, rfl⟩)
  cases hh : hpo B' p.1 with
  | none => exact absurd hh hk'
  | some o' =>
    have := h'.sub _ _ hh
    rw [h1] at this
    exact this.symm ▸ rfl
theorem AllAt'.app {H : Hp} {B B' : HL} (h : AllAt' H B) (h' : AllAt' H B') : AllAt' H (B ++ B') := fun p hp => by
  rcases List.mem_append.1 hp with hp | hp
  · exact h p hp
  · exact h' p hp

theorem fz0K_sound {H : GH} {v : V} {K : HL → Prop} (h : fz0K H v K) : ∃ B, AllAt' H.hp B ∧ FzOk B (fz0V H v) v ∧ K B := by
  unfold fz0K at h
  split at h
  · rename_i k sz lo n cp
    split at h
    · rename_i sy ob hk
      split at h
      · rename_i ht
        obtain ⟨hl, hp, h⟩ := h
        have hz : ob.sz = sz := by
          unfold fzTest at ht
          rw [Bool.and_eq_true] at ht
          exact Nat.eq_of_beq_eq_true ht.2
        refine ⟨_, fun p hp => by simp only [List.mem_singleton] at hp; subst hp; exact H.look_sound hk, ?_, h⟩
        have e : fz0V H (.win k sz lo n cp) = .sl sz ((ob.rows.drop lo).take n) := by simp only [fz0V, hk, ht]
        rw [e]
        intro S ρ w u hs hr
        have hw := rc_wv (H := hpo [(k, ob)]) (τ := noK) (x := .win k sz lo n cp) (by simp only [okc, hpo_one_self]; exact ⟨hz, hl, hp⟩)
        simp only [rc, hpo_one_self] at hw
        have := hw.rep hs (fun _ _ h => h) hr
        exact this.mono (fun _ h => h) (fun _ _ => rfl) (fun k b h => by simp [KB] at h) (Keeps.refl w)
      · rename_i ht
        refine ⟨[], fun p hp => by simp at hp, ?_, h⟩
        have e : fz0V H (.win k sz lo n cp) = .win k sz lo n cp := by simp only [fz0V, hk, ht]
        rw [e]
        exact fz_id _ _
    · rename_i hk
      refine ⟨[], fun p hp => by simp at hp, ?_, h⟩
      have e : fz0V H (.win k sz lo n cp) = .win k sz lo n cp := by simp only [fz0V, hk]
      rw [e]
      exact fz_id _ _
  · rename_i hv
    refine ⟨[], fun p hp => by simp at hp, ?_, h⟩
    by_cases hq : ∃ sz l nn ex, v = .sls sz l nn ex
    · obtain ⟨sz, l, nn, ex, rfl⟩ := hq
      intro S ρ w u hs hr
      cases hr with
      | sls h1 h2 h3 => exact fz_id [] (.sl sz l) S ρ w _ hs h1
    have e : fz0V H v = v := by
      unfold fz0V
      split
      · exact absurd rfl (hv _ _ _ _ _)
      · exact absurd ⟨_, _, _, _, rfl⟩ hq
      · rfl
    rw [e]
    exact fz_id _ _
theorem fzCs_sound {H : GH} : ∀ (l : List V) {K : HL → Prop}, fzCs H l K → ∃ B, AllAt' H.hp B ∧ (∀ v ∈ l, FzOk B (fz0V H v) v) ∧ K B
  | [], _, h => ⟨[], fun p hp => by simp at hp, fun v hv => by simp at hv, h⟩
  | v :: l, K, h => by
    obtain ⟨B, h1, h2, h⟩ := fz0K_sound h
    obtain ⟨B', h3, h4, h⟩ := fzCs_sound l h
    refine ⟨_, h1.app h3, fun x hx => ?_, h⟩
    rcases List.mem_cons.1 hx with rfl | hx
    · exact h2.sub (h1.in (h1.app h3) fun p hp => by simp [hp])
    · exact (h4 x hx).sub (h3.in (h1.app h3) fun p hp => by simp [hp])
theorem fz1K_sound {H : GH} {v : V} {K : HL → Prop} (h : fz1K H v K) : ∃ B, AllAt' H.hp B ∧ FzOk B (fz1V H v) v ∧ K B := by
  unfold fz1K at h
  split at h
  · rename_i cs
    obtain ⟨B, h1, h2, h⟩ := fzCs_sound cs h
    refine ⟨B, h1, ?_, h⟩
    show FzOk B (.agg (cs.map (fz0V H))) (.agg cs)
    intro S ρ w u hs hr
    cases hr with
    | agg hl hc =>
      refine .agg (by simpa using hl) fun i u x a b => ?_
      rw [List.getElem?_map, Option.map_eq_some_iff] at b
      obtain ⟨y, hy, rfl⟩ := b
      exact h2 y (List.mem_of_getElem? hy) S ρ w u hs (hc i u y a hy)
  · rename_i hv
    obtain ⟨B, h1, h2, h⟩ := fz0K_sound h
    refine ⟨B, h1, ?_, h⟩
    have e : fz1V H v = fz0V H v := by
      unfold fz1V
      split
      · exact absurd rfl (hv _)
      · rfl
    rw [e]; exact h2
theorem fzPs_sound {H : GH} : ∀ (l : List (Nat × V)) {K : HL → Prop}, fzPs H l K → ∃ B, AllAt' H.hp B ∧ (∀ p ∈ l, FzOk B (fz1V H p.2) p.2) ∧ K B
  | [], _, h => ⟨[], fun p hp => by simp at hp, fun v hv => by simp at hv, h⟩
  | p :: l, K, h => by
    obtain ⟨B, h1, h2, h⟩ := fz1K_sound h
    obtain ⟨B', h3, h4, h⟩ := fzPs_sound l h
    refine ⟨_, h1.app h3, fun x hx => ?_, h⟩
    rcases List.mem_cons.1 hx with rfl | hx
    · exact h2.sub (h1.in (h1.app h3) fun p hp => by simp [hp])
    · exact (h4 x hx).sub (h3.in (h1.app h3) fun p hp => by simp [hp])

section
variable {P : Program} {T : TT} {ov : Operand → V} {o : Oper} {nx : Nat} {H : GH} {K : Eff → V → Prop}
/-- of objects as a list -/
def ghOf (B : HL) : GH := B.map fun p => (p.1, true, p.2)
def ghFz (B : HL) : GH := B.map fun p => (p.1, true, { p.2 with frz := true })
theorem ghOf_hl (B : HL) : (ghOf B).hl = B := by
  simp only [ghOf, GH.hl, List.map_map]
  exact (List.map_congr_left fun p _ => rfl).trans (List.map_id B)
theorem ghFz_hl (B : HL) : (ghFz B).hl = frozen B := by simp [ghFz, GH.hl, frozen]
def buildSliceF (T : TT) (ov : Operand → V) (H : GH) (nx : Nat) (t n : Nat) (ps : List (Nat × Operand)) (K : Eff → V → Prop) : Prop := partsK ov ps fun qs => fzPs H qs fun B =>
  chkK ((keysOf B).all fun k => Nat.blt k nx) <| buildSliceE T (fun x => fz1V H (ov x)) nx t n ps fun eff v => match eff with
    | .nw [] sy ob => K (.gn (ghOf B) ((nx, sy, ob) :: ghFz B) (nx + 1)) v
    | _ => False
theorem buildSliceE_nw (hT : TOk P T) {t n : Nat} {ps : Array (Nat × Operand)} (ho : o.op = .buildSlice t n ps) (h : buildSliceE T ov nx t n ps.toList K) : ∃ sy ob v, LOk P ov o [] [] [(nx, ob)] v ∧ K (.nw [] sy ob) v := by
  obtain ⟨i, ht, h⟩ := tiK_sound h
  split at h
  · rename_i e hd
    obtain ⟨ie, he, h⟩ := tiK_sound h
    obtain ⟨hn, h⟩ := chkK_sound h
    have h := fRs_sound _ (fCs_sound _ (partsK_sound _ h))
    obtain ⟨rs, h1, h2⟩ := fillQ_sound _ _ h
    exact ⟨_, _, _, lok_buildSlice hT ho ht hd he (Nat.le_of_ble_eq_true hn) rfl h1, h2⟩
  · exact h.elim
theorem buildSliceF_sound (hT : TOk P T) {t n : Nat} {ps : Array (Nat × Operand)} (ho : o.op = .buildSlice t n ps) (h : buildSliceF T ov H nx t n ps.toList K) : Res P ov o nx H.hp K := by
  have h := partsK_sound _ h
  obtain ⟨B, h1, h2, h⟩ := fzPs_sound _ h
  · obtain ⟨hk, h⟩ := chkK_sound h
    rw [List.all_eq_true] at hk
    have hk : ∀ k, k ∈ keysOf B → k < nx := fun k h => Nat.le_of_ble_eq_true (hk k h)
    obtain ⟨sy, ob, v, hl, h⟩ := buildSliceE_nw hT ho h
    have hap : ∀ k, hpo [(nx, ob)] k ≠ none → hpo B k = none := fun k hk1 => by
      have : k = nx := by
        rw [hpo_one] at hk1
        split at hk1
        · assumption
        · exact absurd rfl hk1
      subst this
      exact hpo_none fun hm => absurd (hk _ hm) (Nat.lt_irrefl _)
    have hf := lok_freeze (B := B) (ov := ov) (fun x hx => ?_) hap hl
    · refine ⟨.gn (ghOf B) ((nx, sy, ob) :: ghFz B) (nx + 1), _, ⟨?_, ?_, Nat.le_succ nx, fun k hk1 hk2 => ?_, fun k hk1 => ?_⟩, h⟩
      · show LOk P ov o [] (ghOf B).hl (GH.hl ((nx, sy, ob) :: ghFz B)) v
        rw [ghOf_hl]
        have e : GH.hl ((nx, sy, ob) :: ghFz B) = [(nx, ob)] ++ frozen B := by
          rw [← ghFz_hl]; rfl
        rw [e]
        exact hf
      · rw [ghOf_hl]; exact h1.sub
      · rw [ghOf_hl] at hk2
        have e : GH.hl ((nx, sy, ob) :: ghFz B) = (nx, ob) :: frozen B := by rw [← ghFz_hl]; rfl
        rw [e] at hk1
        simp only [keysOf, List.map_cons, List.mem_cons] at hk1
        rcases hk1 with rfl | hk1
        · exact Nat.le_refl _
        · exfalso
          apply hk2
          simpa [keysOf, frozen] using hk1
      · have e : GH.hl ((nx, sy, ob) :: ghFz B) = (nx, ob) :: frozen B := by rw [← ghFz_hl]; rfl
        rw [e] at hk1
        simp only [keysOf, List.map_cons, List.mem_cons] at hk1
        rcases hk1 with rfl | hk1
        · exact Nat.lt_succ_self _
        · have := hk k (by simpa [keysOf, frozen] using hk1)
          omega
    · rw [ho] at hx
      simp only [Op.operands, Array.toList_map, List.mem_map] at hx
      obtain ⟨q, hq, rfl⟩ := hx
      exact h2 (q.1, ov q.2) (List.mem_map.2 ⟨q, hq, rfl⟩)
end
end Go.Proofs.Ytbieiehfohldjaa
namespace Go.Proofs.Ytbieiehfohldjaa
open Go
set_option linter.unusedVariables false
set_option linter.unusedSimpArgs false

/-- the names in a value -/
inductive Nm (p : Nat → Prop) : V → Prop
  | any : Nm p .any
  | lit {v} : Nm p (.lit v)
  | agg {cs : List V} (h : ∀ x ∈ cs, Nm p x) : Nm p (.agg cs)
  | tup {cs : List V} (h : ∀ x ∈ cs, Nm p x) : Nm p (.tup cs)
  | sl {sz l} : Nm p (.sl sz l)
  | sls {sz l nn ex} : Nm p (.sls sz l nn ex)
  | win {k sz lo n cp} (h : p k) : Nm p (.win k sz lo n cp)
  | ptr {k sz i off} (h : p k) : Nm p (.ptr k sz i off)
  | ip {cs} : Nm p (.ip cs)
  | mp {k} (h : p k) : Nm p (.mp k)
  | fn {f} {cs : List V} (h : ∀ x ∈ cs, Nm p x) : Nm p (.fn f cs)
theorem Nm.rep {p : Nat → Prop} {x : V} (hn : Nm p x) {S : Nat → Prop} {ρ ρ' : KM} {w : World} (hρ : ∀ k b, p k → ρ k = some b → ρ' k = some b) : ∀ {u : Value}, Rep S ρ w u x → Rep S ρ' w u x := by
  induction hn with
  | any => intro u _; exact .any
  | lit => intro u h; cases h; exact .lit (by assumption)
  | agg _ ih => intro u h; cases h with | agg hl h => exact .agg hl fun i u x h1 h2 => ih x (List.mem_of_getElem? h2) (h i u x h1 h2)
  | tup _ ih => intro u h; cases h with | tup hl h => exact .tup hl fun i u x h1 h2 => ih x (List.mem_of_getElem? h2) (h i u x h1 h2)
  | sl =>
    intro u h
    cases h with
    | sl0 h => exact .sl0 h
    | sl a b c d e f => exact .sl a b c d e f
  | sls =>
    intro u h
    cases h with
    | sls h g1 g2 =>
      refine .sls ?_ g1 g2
      cases h with
      | sl0 h => exact .sl0 h
      | sl a b c d e f => exact .sl a b c d e f
  | win hp =>
    intro u h
    cases h with
    | win a b c d e f => exact .win (hρ _ _ hp a) b c d e f
    | win0 => exact .win0
  | ptr hp => intro u h; cases h with | ptr a b => exact .ptr (hρ _ _ hp a) b
  | ip => intro u h; cases h with | ip a b c d => exact .ip a b c d
  | mp hp => intro u h; cases h with | mp a b => exact .mp (hρ _ _ hp a) b
  | fn _ ih => intro u h; cases h with | fn hl h => exact .fn hl fun i u x h1 h2 => ih x (List.mem_of_getElem? h2) (h i u x h1 h2)
theorem Nm.mono {p q : Nat → Prop} {x : V} (h : Nm p x) (hpq : ∀ k, p k → q k) : Nm q x := by
  induction h with
  | any => exact .any
  | lit => exact .lit
  | agg _ ih => exact .agg ih
  | tup _ ih => exact .tup ih
  | sl => exact .sl
  | sls => exact .sls
  | win h => exact .win (hpq _ h)
  | ptr h => exact .ptr (hpq _ h)
  | ip => exact .ip
  | mp h => exact .mp (hpq _ h)
  | fn _ ih => exact .fn ih
def nmQ (q : Nat → Bool) (n : Nat) : V → Bool := Nat.rec (motive := fun _ => V → Bool) (fun _ => false) (fun _ ih v => match v with
  | .agg cs => cs.all ih
  | .tup cs => cs.all ih
  | .fn _ cs => cs.all ih
  | .win k _ _ _ _ => q k
  | .ptr k _ _ _ => q k
  | .mp k => q k
  | _ => true) n
theorem nmQ_sound {q : Nat → Bool} : ∀ (n : Nat) (v : V), nmQ q n v = true → Nm (fun k => q k = true) v
  | 0, v, h => by cases h
  | n + 1, v, h => by
    have ih := nmQ_sound (q := q) n
    cases v with
    | agg cs => exact .agg fun x hx => ih x (List.all_eq_true.1 h x hx)
    | tup cs => exact .tup fun x hx => ih x (List.all_eq_true.1 h x hx)
    | fn f cs => exact .fn fun x hx => ih x (List.all_eq_true.1 h x hx)
    | win k sz lo n cp => exact .win h
    | ptr k sz i off => exact .ptr h
    | lit v => exact .lit
    | sl sz l => exact .sl
    | sls sz l nn ex => exact .sls
    | ip cs => exact .ip
    | mp k => exact .mp h
    | any => exact .any
theorem kfc_nm {p : Nat → Prop} {x : V} (h : kfc x = true) : Nm p x := by
  cases x <;> first | exact .lit | exact .sl | cases h
/-- the names in rows -/
def RowsNm (p : Nat → Prop) (rows : List (List V)) : Prop := ∀ r ∈ rows, ∀ x ∈ r, Nm p x
theorem RowsNm.plain {p : Nat → Prop} {rows : List (List V)} (h : ∀ r ∈ rows, r.all kfc = true) : RowsNm p rows := fun r hr x hx => kfc_nm (List.all_eq_true.1 (h r hr) x hx)
/-- the names in objects: told, or found -/
def objsNm (q : Nat → Bool) : GH → Prop → Prop
  | [], X => X
  | (_, true, o) :: l, X => RowsNm (fun k => q k = true) o.rows ∧ objsNm q l X
  | (_, false, o) :: l, X => chkK (o.rows.all fun r => r.all (nmQ q 3)) <| objsNm q l X
theorem objsNm_sound {q : Nat → Bool} : ∀ (B : GH) {X : Prop}, objsNm q B X → (∀ p ∈ B, RowsNm (fun k => q k = true) p.2.2.rows) ∧ X
  | [], X, h => ⟨fun p hp => (by cases hp), h⟩
  | (k, true, o) :: l, X, h => by
    obtain ⟨h1, h2⟩ := h
    obtain ⟨h3, h4⟩ := objsNm_sound l h2
    refine ⟨fun p hp => ?_, h4⟩
    rcases List.mem_cons.1 hp with rfl | hp
    · exact h1
    · exact h3 p hp
  | (k, false, o) :: l, X, h => by
    obtain ⟨h1, h2⟩ := chkK_sound h
    obtain ⟨h3, h4⟩ := objsNm_sound l h2
    refine ⟨fun p hp => ?_, h4⟩
    rcases List.mem_cons.1 hp with rfl | hp
    · exact fun r hr x hx => nmQ_sound 3 x (List.all_eq_true.1 (List.all_eq_true.1 h1 r hr) x hx)
    · exact h3 p hp

def GH.keys : GH → List Nat
  | [] => []
  | (k, _, _) :: l => k :: GH.keys l
theorem GH.keys_hl (B : GH) : keysOf B.hl = B.keys := by
  induction B with
  | nil => rfl
  | cons p B ih =>
    obtain ⟨k, s, o⟩ := p
    simp only [keysOf, GH.hl, GH.keys, List.map_cons] at ih ⊢
    rw [ih]
theorem GH.hp_mem : ∀ {B : GH} {k : Nat} {o : VObj}, B.hp k = some o → ∃ s, (k, s, o) ∈ B
  | [], k, o, h => by cases h
  | (j, s, p) :: B, k, o, h => by
    simp only [GH.hp, upd] at h
    split at h
    · rename_i e; subst e; cases h; exact ⟨s, by simp⟩
    · obtain ⟨s', h'⟩ := GH.hp_mem h; exact ⟨s', by simp [h']⟩
theorem GH.hp_keys {B : GH} {k : Nat} : B.hp k ≠ none ↔ k ∈ B.keys := by
  rw [← GH.keys_hl, ← mem_keys, GH.hp_hl]

/-- A CONTRACT OVER THE CALLER's OWN OBJECTS: called at values that may name objects of B; new ones bear names from nx on. -/
structure FnG (P : Program) (k : FuncId) (args : List V) (B : GH) (nx : Nat) (r : V) (B' : GH) (nx' : Nat) : Prop where
  ok : callOk P k = true
  le : nx ≤ nx'
  lt : ∀ j, j ∈ B'.keys → j < nx'
  new : ∀ j, j ∈ B'.keys → j ∉ B.keys → nx ≤ j
  fn : ∀ (S : Nat → Prop) (ρ : KM) (w : World) (vs : Array Value), vs.size = args.length → (∀ (i : Nat) (u : Value) (x : V), vs[i]? = some u → args[i]? = some x → Rep S ρ w u x) → Sim S ρ w B.hp → (∀ j, nx ≤ j → ρ j = none) →
    Calls P k vs w fun e w' => ∃ v S' ρ', e = .returned v ∧ Rep S' ρ' w' v r ∧ Sim S' ρ' w' B'.hp ∧ Ext0 S ρ w B.hp S' ρ' w' B'.hp

section
variable {P : Program} {T : TT} {ov : Operand → V} {o : Oper}

theorem lok_callG {f : Operand} {xs : Array Operand} {ts : Array TypeId} {kf nx nx' : Nat} {caps args : List V} {B B' : GH} {r : V} (ho : o.op = .call { callee := .value f, args := xs, argTypes := ts }) (hf : ov f = .fn kf caps) (hg : FnG P kf args B nx r B' nx')
    (hargs : args = xs.toList.map ov ++ caps) (hna : ∀ x ∈ args, Nm (· < nx) x) (hnb : ∀ p ∈ B, RowsNm (· < nx) p.2.2.rows) (hB : ∀ j ∈ B.keys, j < nx) (hnr : Nm (· ∈ B'.keys) r) (hnb' : ∀ p ∈ B', RowsNm (· ∈ B'.keys) p.2.2.rows) :
    LOk P ov o [] B.hl B'.hl r := by
  intro S ρ w a hx hs hn next Q hK
  simp only [List.nil_append] at hs
  rw [GH.hp_hl] at hs
  obtain ⟨vs, hrun, h1, h2⟩ := run_call ho hf hg.ok hx
  rw [← hargs] at h1 h2
  let ρ0 : KM := fun k => if k < nx then ρ k else none
  have e0 : ∀ k, k < nx → ρ0 k = ρ k := fun k h => by simp only [ρ0, h, if_true]
  have n0 : ∀ k, nx ≤ k → ρ0 k = none := fun k h => by simp only [ρ0]; rw [if_neg (by omega)]
  have up : ∀ k b, k < nx → ρ k = some b → ρ0 k = some b := fun k b h h' => by rw [e0 k h]; exact h'
  have dn : ∀ k b, ρ0 k = some b → ρ k = some b := fun k b h => by
    simp only [ρ0] at h
    split at h
    · exact h
    · cases h
  have hs0 : Sim S ρ0 w B.hp := by
    refine ⟨fun k o hk => ?_, fun k k' o o' b a1 a2 a3 a4 => hs.inj k k' o o' b a1 a2 (dn _ _ a3) (dn _ _ a4), hs.bnd⟩
    have hkl : k < nx := hB k (GH.hp_keys.1 (by rw [hk]; simp))
    obtain ⟨s, hm⟩ := GH.hp_mem hk
    rcases hs.obj k o hk with ⟨b, c, t, q1, q2, q3, q4, q5⟩ | ⟨q1, q2⟩
    · refine .inl ⟨b, c, t, up k b hkl q1, q2, ⟨q3.1, q3.2.1, fun i j rr u x g1 g2 g3 => ?_⟩, q4, q5⟩
      exact (hnb _ hm rr (List.mem_of_getElem? g1) x (List.mem_of_getElem? g2)).rep (fun k b h h' => up k b h h') (q3.2.2 i j rr u x g1 g2 g3)
    · exact .inr ⟨by rw [e0 k hkl]; exact q1, q2⟩
  simp only [Oper.wp, hrun, Oper.upon]
  refine (hg.fn S ρ0 w vs h1 (fun i u x a b => (hna x (List.mem_of_getElem? b)).rep (fun k b h h' => up k b h h') (h2 i u x a b)) hs0 n0).mono fun e w' h => ?_
  obtain ⟨v, S', ρ', rfl, q1, q2, q3⟩ := h
  let ρ'' : KM := fun k => match ρ k with
    | some b => some b
    | none => if k ∈ B'.keys then ρ' k else none
  have old : ∀ k b, ρ k = some b → ρ'' k = some b := fun k b h => by simp only [ρ'', h]
  have same : ∀ k, k ∈ B'.keys → ρ'' k = ρ' k := fun k hk => by
    cases hρ : ρ k with
    | none => simp only [ρ'', hρ, hk, if_true]
    | some b =>
      rw [old k b hρ]
      have hlt : k < nx := by
        by_cases hkB : k ∈ B.keys
        · exact hB k hkB
        · have h3 := hn k (by rw [GH.hp_hl]; exact GH.hp_keys.2 hk) (by rw [GH.hp_hl]; exact Classical.byContradiction fun h => hkB (GH.hp_keys.1 h))
          rw [h3] at hρ; cases hρ
      exact (q3.keys k b (up k b hlt hρ)).symm
  have kin : ∀ k o, B'.hp k = some o → k ∈ B'.keys := fun k o h => GH.hp_keys.1 (by rw [h]; simp)
  have lv : ∀ b, Live ρ'' B'.hp b → Live ρ' B'.hp b := fun b ⟨k, o, g1, g2⟩ => ⟨k, o, g1, by rw [← same k (kin k o g1)]; exact g2⟩
  have ow : ∀ b, Own ρ'' B'.hp b → Own ρ' B'.hp b := fun b ⟨k, o, g1, g3, g2⟩ => ⟨k, o, g1, g3, by rw [← same k (kin k o g1)]; exact g2⟩
  have lv0 : ∀ b, Live ρ0 B.hp b → Live ρ B.hp b := fun b ⟨k, o, g1, g2⟩ => ⟨k, o, g1, dn _ _ g2⟩
  have ow0 : ∀ b, Own ρ0 B.hp b → Own ρ B.hp b := fun b ⟨k, o, g1, g3, g2⟩ => ⟨k, o, g1, g3, dn _ _ g2⟩
  refine hK v S' ρ'' w' (hnr.rep (fun k b h h' => by rw [same k h]; exact h') q1) ?_ ?_
  · rw [GH.hp_hl]
    refine ⟨fun k o hk => ?_, fun k k' o o' b a1 a2 a3 a4 => q2.inj k k' o o' b a1 a2 (by rw [← same k (kin k o a1)]; exact a3) (by rw [← same k' (kin k' o' a2)]; exact a4), q2.bnd⟩
    obtain ⟨s, hm⟩ := GH.hp_mem hk
    rcases q2.obj k o hk with ⟨b, c, t, g1, g2, g3, g4⟩ | ⟨g1, g2⟩
    · refine .inl ⟨b, c, t, by rw [same k (kin k o hk)]; exact g1, g2, ⟨g3.1, g3.2.1, fun i j rr u x a1 a2 a3 => ?_⟩, g4⟩
      exact (hnb' _ hm rr (List.mem_of_getElem? a1) x (List.mem_of_getElem? a2)).rep (fun k b h h' => by rw [same k h]; exact h') (g3.2.2 i j rr u x a1 a2 a3)
    · exact .inr ⟨by rw [same k (kin k o hk)]; exact g1, g2⟩
  · rw [GH.hp_hl, GH.hp_hl]
    exact { os := q3.os, tape := q3.tape, output := q3.output, size := q3.size
            block := fun b hb ho => q3.block b hb (fun h => ho (ow0 b h))
            keeps := q3.keeps, more := q3.more
            only := fun b hb => by
              rcases q3.only b hb with h | h | h
              · exact .inl h
              · exact .inr (.inl h)
              · exact .inr (.inr (ow0 b h))
            live := fun b hb => (q3.live b (lv b hb)).imp_right (lv0 b)
            own := fun b hb => (q3.own b (ow b hb)).imp_right (ow0 b)
            keys := old
            dom := fun k b h => by
              cases hρ : ρ k with
              | some b0 => rw [old k b0 hρ] at h; exact .inl h
              | none =>
                refine .inr ?_
                by_cases hk : k ∈ B'.keys
                · exact Option.ne_none_iff_exists'.1 (GH.hp_keys.2 hk)
                · simp only [ρ'', hρ, hk, if_false] at h; cases h }

end
end Go.Proofs.Ytbieiehfohldjaa
