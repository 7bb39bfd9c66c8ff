/-
  The value-level machine: append, copy, len, min, max, texts and bytes.
-/
import Derived.Test.YtgaginflocpcfaaAbsH
namespace Go.Proofs.Ytgaginflocpcfaa
open Go
set_option linter.unusedVariables false
set_option linter.unusedSimpArgs false

theorem growBy_le (need : Nat) : ∀ (k c : Nat), c ≤ 2 * need + 192 → c ≤ Builtin.growBy need k c ∧ Builtin.growBy need k c ≤ 2 * need + 192
  | 0, c, h => ⟨Nat.le_refl _, h⟩
  | k + 1, c, h => by
    unfold Builtin.growBy
    split
    · exact ⟨Nat.le_refl _, h⟩
    · rename_i hc
      have := growBy_le need k (c + (c + 768) / 4) (by omega)
      omega
theorem nsc_le {need c : Nat} (h : c < need) : Builtin.nextslicecap need c ≤ 2 * need + 192 := by
  unfold Builtin.nextslicecap
  split
  · omega
  · split
    · omega
    · exact (growBy_le need 4 c (by omega)).2
theorem nsc_zero {need : Nat} (h : 0 < need) : Builtin.nextslicecap need 0 = need := by
  unfold Builtin.nextslicecap
  rw [if_pos (by omega)]

/-- rows laid over others -/
theorem rows_wr {S : Nat → Prop} {ρ : KM} {w : World} {sz pos : Nat} {c cs : Array Value} {rows N : List (List V)} (hc : RowsAt S ρ w sz rows c) (hs : RowsAt S ρ w sz N cs) (hcs : cs.size = N.length * sz) (hp : pos ≤ rows.length) (hf : (pos + N.length) * sz ≤ c.size) :
    RowsAt S ρ w sz (rows.take pos ++ N ++ rows.drop (pos + N.length)) (wr c (pos * sz) cs.toList) := by
  have hlen : (rows.take pos ++ N ++ rows.drop (pos + N.length)).length = max rows.length (pos + N.length) := by simp; omega
  refine ⟨fun r hr => ?_, ?_, fun i j r u x h1 h2 h3 => ?_⟩
  · simp only [List.mem_append] at hr
    rcases hr with (hr | hr) | hr
    · exact hc.1 r (List.mem_of_mem_take hr)
    · exact hs.1 r hr
    · exact hc.1 r (List.mem_of_mem_drop hr)
  · rw [hlen, wr_size]
    have h1 := hc.2.1
    rcases Nat.le_total rows.length (pos + N.length) with h | h
    · rw [Nat.max_eq_right h]; exact hf
    · rw [Nat.max_eq_left h]; exact h1
  · have hj : j < sz := by
      have hmem : r.length = sz := by
        have hr := List.mem_of_getElem? h1
        simp only [List.mem_append] at hr
        rcases hr with (hr | hr) | hr
        · exact hc.1 r (List.mem_of_mem_take hr)
        · exact hs.1 r hr
        · exact hc.1 r (List.mem_of_mem_drop hr)
      rw [← hmem]
      exact (List.getElem?_eq_some_iff.1 h2).1
    rw [wr_get _ _ _ _ (by simp [hcs]; rw [← Nat.add_mul]; exact hf)] at h3
    simp only [Array.length_toList, hcs] at h3
    rw [← Nat.add_mul] at h3
    rw [List.append_assoc] at h1
    have ht : (rows.take pos).length = pos := by simp; omega
    by_cases i1 : i < pos
    · rw [List.getElem?_append_left (by omega), List.getElem?_take_of_lt i1] at h1
      have q : (i + 1) * sz ≤ pos * sz := Nat.mul_le_mul_right sz i1
      rw [Nat.add_mul, Nat.one_mul] at q
      rw [if_neg (by omega)] at h3
      exact hc.2.2 i j r u x h1 h2 h3
    · rw [List.getElem?_append_right (by omega), ht] at h1
      have q0 : pos * sz ≤ i * sz := Nat.mul_le_mul_right sz (by omega)
      by_cases i2 : i < pos + N.length
      · rw [List.getElem?_append_left (by omega)] at h1
        have q : (i + 1) * sz ≤ (pos + N.length) * sz := Nat.mul_le_mul_right sz i2
        rw [Nat.add_mul, Nat.one_mul] at q
        rw [if_pos (by omega), Array.getElem?_toList] at h3
        refine hs.2.2 (i - pos) j r u x h1 h2 ?_
        rw [Nat.sub_mul]
        rw [show i * sz - pos * sz + j = i * sz + j - pos * sz by omega]
        exact h3
      · rw [List.getElem?_append_right (by omega), List.getElem?_drop] at h1
        have q : (pos + N.length) * sz ≤ i * sz := Nat.mul_le_mul_right sz (by omega)
        rw [if_neg (by omega)] at h3
        refine hc.2.2 i j r u x ?_ h2 h3
        rw [show i = pos + N.length + (i - pos - N.length) by omega]
        exact h1

/-- rows one behind the other -/
theorem rows_app {S : Nat → Prop} {ρ : KM} {w : World} {sz : Nat} {a b rest : Array Value} {L N : List (List V)} (ha : RowsAt S ρ w sz L a) (hb : RowsAt S ρ w sz N b) (hla : a.size = L.length * sz) (hlb : b.size = N.length * sz) : RowsAt S ρ w sz (L ++ N) (a ++ b ++ rest) := by
  refine ⟨fun r hr => ?_, by simp [hla, hlb, Nat.add_mul], fun i j r u x h1 h2 h3 => ?_⟩
  · simp only [List.mem_append] at hr
    rcases hr with hr | hr
    · exact ha.1 r hr
    · exact hb.1 r hr
  · have hmem : r.length = sz := by
      have hr := List.mem_of_getElem? h1
      simp only [List.mem_append] at hr
      rcases hr with hr | hr
      · exact ha.1 r hr
      · exact hb.1 r hr
    have hj : j < sz := by rw [← hmem]; exact (List.getElem?_eq_some_iff.1 h2).1
    by_cases hi : i < L.length
    · rw [List.getElem?_append_left hi] at h1
      have q : (i + 1) * sz ≤ L.length * sz := Nat.mul_le_mul_right sz hi
      rw [Nat.add_mul, Nat.one_mul] at q
      rw [Array.append_assoc, Array.getElem?_append_left (by omega)] at h3
      exact ha.2.2 i j r u x h1 h2 h3
    · rw [List.getElem?_append_right (by omega)] at h1
      have hi2 : i - L.length < N.length := (List.getElem?_eq_some_iff.1 h1).1
      have q : (i - L.length + 1) * sz ≤ N.length * sz := Nat.mul_le_mul_right sz hi2
      rw [Nat.add_mul, Nat.one_mul, Nat.sub_mul] at q
      have q0 : L.length * sz ≤ i * sz := Nat.mul_le_mul_right sz (by omega)
      rw [Array.append_assoc, Array.getElem?_append_right (by omega), Array.getElem?_append_left (by omega)] at h3
      refine hb.2.2 (i - L.length) j r u x h1 h2 ?_
      rw [Nat.sub_mul, show i * sz - L.length * sz + j = i * sz + j - a.size by omega]
      exact h3

section
variable {P : Program} {T : TT} {ov : Operand → V} {o : Oper}

def TD.isInt : TD → Bool
  | .int _ => true
  | _ => false

theorem zeros_false (hT : TOk P T) {t : TypeId} {i : TI} (ht : T t = some i) (hi : i.d = .string ∨ ∃ e, i.d = .slice e) (w : World) : (do pure ((← underlying t) matches .int _) : Sem Bool).run P w = .ok false w := by
  have hd := (hT t i ht).d
  rcases hi with hi | ⟨e, hi⟩ <;> rw [hi] at hd <;> simp [run_underlying hd]

/-- append: a new row -/
theorem run_grow (hT : TOk P T) {t e t2 ty : Nat} {i ie i2 : TI} (ht : T t = some i) (hd : i.d = .slice e) (he : T e = some ie) (hb : ie.bytes ≠ 0) (ht2 : T t2 = some i2) (hi2 : i2.d = .string ∨ ∃ e, i2.d = .slice e) {w : World} {base : Option Addr} {n cap m : Nat} {x : Value} {old new : Array Value}
    (hl : (Builtin.lenOf x).run P w = .ok m w) (hm : cap < n + m) (hg : Builtin.nextslicecap (n + m) cap * ie.bytes ≤ 2 ^ 48) (ho : (Builtin.firstCells ie.size n (.slice base n cap)).run P w = .ok old w) (hn : (Builtin.firstCells ie.size m x).run P w = .ok new w)
    (ho' : (Builtin.firstCells ie.size n (.slice base n cap)).run P w.drew = .ok old w.drew) (hn' : (Builtin.firstCells ie.size m x).run P w.drew = .ok new w.drew) :
    ∃ c rest, n + m ≤ c ∧ (Builtin.append_ #[t, t2] ty #[.slice base n cap, x]).run P w = .ok (.slice (some ⟨w.heap.size, 0, none⟩) (n + m) c) (w.drew.alloc (.cells (old ++ new ++ rest) e)) ∧ rest.size = (c - (n + m)) * ie.size := by
  have hu := (hT t i ht).d
  rw [hd] at hu
  have hu2 := (hT t2 i2 ht2).d
  obtain ⟨d2, hd2, hd2'⟩ : ∃ d, P.underlying t2 = some d ∧ ∀ k, d ≠ .int k := by
    rcases hi2 with hi | ⟨e', hi⟩ <;> rw [hi] at hu2
    · exact ⟨_, hu2, fun k h => by cases h⟩
    · exact ⟨_, hu2, fun k h => by cases h⟩
  have hz2 : (match d2 with | .int _ => true | _ => false) = false := by
    cases d2 <;> first | rfl | exact absurd rfl (hd2' _)
  obtain ⟨ti, hti, hbb, hsz⟩ := (hT e ie he).run_typeInfo w
  obtain ⟨z, hz, hz'⟩ := (hT e ie he).run_zero w.drew
  have hs := (hT e ie he).run_sizeOf w
  have hzs : z.cells.size = ie.size := by rw [← (hT e ie he).zlen, ← zAll_len _ _ hz']; simp
  have hq : ∀ q : Nat, (Question.appendCap (n + m) cap e).cut q = n + m + q % (2 ^ 63 - (n + m)) := fun q => rfl
  refine ⟨n + m + w.tape w.drawn (.appendCap (n + m) cap e) % (2 ^ 63 - (n + m)), Builtin.zeroCells z.cells (n + m + w.tape w.drawn (.appendCap (n + m) cap e) % (2 ^ 63 - (n + m)) - (n + m)), by omega, ?_, by simp [Builtin.zeroCells, hzs]⟩
  have c1 : ¬ (n + m ≤ cap) := by omega
  have c2 : ¬ (Builtin.nextslicecap (n + m) cap * ti.bytes > 2 ^ 48) := by rw [hbb]; omega
  have c3 : ti.bytes ≠ 0 := by rw [hbb]; exact hb
  obtain ⟨ti', hti', hbb', hsz'⟩ := (hT e ie he).run_typeInfo w.drew
  simp only [Builtin.append_, List.getElem?_toArray, List.getElem?_cons_zero, List.getElem?_cons_succ, Sem.run_bind, run_underlying hu, run_underlying hd2, Result.andThen_ok, hs, Sem.run_pure, hz2, Bool.false_eq_true, if_false, hl, c1, false_or, Sem.run_ite, hti, c2, c3, and_false, run_choose, Question.forced, hq, World.drew_eq, run_askRoom, ho', hn', hz, Bool.not_false, if_true, newRow, run_newObj, World.alloc_eq, Bool.decide_eq_true, hti']
  rfl

/-- append: in place -/
theorem run_inplace (hT : TOk P T) {t e t2 ty : Nat} {i ie i2 : TI} (ht : T t = some i) (hd : i.d = .slice e) (he : T e = some ie) (ht2 : T t2 = some i2) (hi2 : i2.d = .string ∨ ∃ e, i2.d = .slice e) {w w' : World} {base : Option Addr} {n cap m : Nat} {x : Value} {new : Array Value}
    (hl : (Builtin.lenOf x).run P w = .ok m w) (hm : n + m ≤ cap) (hn : (Builtin.firstCells ie.size m x).run P w = .ok new w) (hst : ∀ a, base = some a → (storeCells (a.add (n * ie.size)) new.toList).run P w = .ok () w') (h0 : base = none → w' = w) :
    (Builtin.append_ #[t, t2] ty #[.slice base n cap, x]).run P w = .ok (.slice base (n + m) cap) w' := by
  have hu := (hT t i ht).d
  rw [hd] at hu
  have hu2 := (hT t2 i2 ht2).d
  obtain ⟨d2, hd2, hd2'⟩ : ∃ d, P.underlying t2 = some d ∧ ∀ k, d ≠ .int k := by
    rcases hi2 with hi | ⟨e', hi⟩ <;> rw [hi] at hu2
    · exact ⟨_, hu2, fun k h => by cases h⟩
    · exact ⟨_, hu2, fun k h => by cases h⟩
  have hz2 : (match d2 with | .int _ => true | _ => false) = false := by
    cases d2 <;> first | rfl | exact absurd rfl (hd2' _)
  have hs := (hT e ie he).run_sizeOf w
  cases base with
  | none =>
    rw [h0 rfl]
    simp only [Builtin.append_, List.getElem?_toArray, List.getElem?_cons_zero, List.getElem?_cons_succ, Sem.run_bind, run_underlying hu, run_underlying hd2, Result.andThen_ok, hs, Sem.run_pure, hz2, Bool.false_eq_true, if_false, hl, hm, if_true, hn, Bool.not_false]
  | some a =>
    simp only [Builtin.append_, List.getElem?_toArray, List.getElem?_cons_zero, List.getElem?_cons_succ, Sem.run_bind, run_underlying hu, run_underlying hd2, Result.andThen_ok, hs, Sem.run_pure, hz2, Bool.false_eq_true, if_false, hl, hm, if_true, hn, hst a rfl, Bool.not_false]


theorem Src.drew {xv : V} {sz m : Nat} {rd : HL} {N : List (List V)} (h : Src P xv sz m rd N) {S : Nat → Prop} {ρ : KM} {w : World} {u : Value} (hr : Rep S ρ w u xv) (hs : Sim S ρ w (hpo rd)) (n : Nat) (hn : n ≤ m) :
    ∃ cs, (Builtin.firstCells sz n u).run P w = .ok cs w ∧ (Builtin.firstCells sz n u).run P w.drew = .ok cs w.drew ∧ RowsAt S ρ w sz (N.take n) cs ∧ cs.size = n * sz := by
  obtain ⟨_, h1⟩ := h S ρ w u hr hs
  obtain ⟨cs, e, r, z⟩ := h1 n hn
  have mono : ∀ {u : Value} {x : V}, Rep S ρ w u x → Rep S ρ w.drew u x := fun h => Rep.mono (w := w) (w' := w.drew) (fun _ h => h) (fun _ _ => rfl) (fun _ _ h => h) ⟨fun _ c _ fr h => ⟨c, fr, h, rfl⟩, fun _ es n h => ⟨es, n, h⟩⟩ h
  have hs' : Sim S ρ w.drew (hpo rd) := ⟨fun k o hk => by
    rcases hs.obj k o hk with ⟨b, c, t, q1, q2, q3, q4⟩ | q
    · exact .inl ⟨b, c, t, q1, q2.of rfl, q3.mono (fun _ _ h => mono h), q4⟩
    · exact .inr q, hs.inj, hs.bnd⟩
  obtain ⟨_, h2⟩ := h S ρ w.drew u (mono hr) hs'
  obtain ⟨cs', e', r', z'⟩ := h2 n hn
  have : cs' = cs := by
    have key : ∀ (u : Value) (c1 c2 : Array Value), (Builtin.firstCells sz n u).run P w = .ok c1 w → (Builtin.firstCells sz n u).run P w.drew = .ok c2 w.drew → c2 = c1 := by
      intro u c1 c2 a b
      have lc : ∀ (ad : Addr) (k i : Nat) (acc : Array Value), (loadCellsFrom ad i k acc).run P w.drew = match (loadCellsFrom ad i k acc).run P w with | .ok r _ => .ok r w.drew | .halt h _ => .halt h w.drew := by
        intro ad k
        induction k with
        | zero => intro i acc; rfl
        | succ k ih =>
          intro i acc
          simp only [loadCellsFrom, Sem.run_bind, run_load, World.cell?_drew]
          cases hc : w.cell? (ad.add i) with
          | some v => simp only [Result.andThen_ok]; exact ih _ _
          | none =>
            have hfar : w.drew.farLoad P (ad.add i) (Mode.plain == .atomic) = w.farLoad P (ad.add i) (Mode.plain == .atomic) := rfl
            simp only [hfar]
            cases w.farLoad P (ad.add i) (Mode.plain == .atomic) with
            | ok x => simp only [Result.andThen_ok]; exact ih _ _
            | error h => rfl
      cases u with
      | slice ad l cp =>
        cases ad with
        | none => simp only [Builtin.firstCells, Sem.run_pure, Result.ok.injEq] at a b; rw [← a.1, ← b.1]
        | some ad =>
          simp only [Builtin.firstCells, loadCells] at a b
          rw [lc, a] at b
          simp only [Result.ok.injEq] at b
          exact b.1.symm
      | string s => simp only [Builtin.firstCells, Sem.run_pure, Result.ok.injEq] at a b; rw [← a.1, ← b.1]
      | _ => simp [Builtin.firstCells] at a
    exact key u cs cs' e e'
  subst this
  exact ⟨_, e, e', r, z⟩

/-- an argument of a builtin call -/
theorem arg_reps {b : Builtin} {xs : Array Operand} {ts : Array TypeId} {S : Nat → Prop} {ρ : KM} {w : World} {a : Act} (ho : o.op = .call { callee := .builtin b, args := xs, argTypes := ts })
    (hr : ∀ x ∈ o.op.operands.toList, Rep S ρ w (a.eval x) (ov x)) : ∀ x ∈ xs.toList, Rep S ρ w (a.eval x) (ov x) := fun x hx => hr x (by rw [ho]; simpa [Op.operands, Call.operands] using hx)

/-- nothing is appended -/
theorem lok_append0 (hT : TOk P T) {t e t2 : Nat} {x y : Operand} {i ie i2 : TI} {rd : HL} {N : List (List V)} (ho : o.op = .call { callee := .builtin .append, args := #[x, y], argTypes := #[t, t2] }) (ht : T t = some i) (hd : i.d = .slice e) (he : T e = some ie)
    (ht2 : T t2 = some i2) (hi2 : i2.d = .string ∨ ∃ e, i2.d = .slice e) (hx : (ov x).sl?.isSome = true ∨ ∃ k sz lo n cp, ov x = .win k sz lo n cp) (hsrc : Src P (ov y) ie.size 0 rd N) : LOk P ov o rd [] [] (ov x) :=
  LOk.read fun S ρ w a hr hs => by
    have hr := arg_reps ho hr
    have e1 := hr x (by simp)
    have e2 := hr y (by simp)
    obtain ⟨g1, g2⟩ := hsrc S ρ w _ e2 hs
    obtain ⟨cs, q1, q2, q3⟩ := g2 0 (Nat.le_refl _)
    have hcs : cs = #[] := by apply Array.eq_empty_of_size_eq_zero; simpa using q3
    subst hcs
    have hb : ∃ ad n cap, a.eval x = .slice ad n cap ∧ n ≤ cap := by
      rcases hx with hx | ⟨k, sz, lo, n, cp, hx⟩
      · obtain ⟨L, hL⟩ := Option.isSome_iff_exists.1 hx
        have := rep_sl e1 hL
        generalize a.eval x = cx at this
        cases this with
        | sl0 => exact ⟨_, _, _, rfl, Nat.zero_le _⟩
        | sl hS hw hz hc hf hR => exact ⟨_, _, _, rfl, hc⟩
      · rw [hx] at e1
        generalize a.eval x = cx at e1
        cases e1 with
        | win hk hw hn hc hf ho => exact ⟨_, _, _, rfl, by omega⟩
        | win0 => exact ⟨_, _, _, rfl, Nat.le_refl _⟩
    obtain ⟨ad, n, cap, hc, hn⟩ := hb
    have := run_inplace (ty := o.type) hT ht hd he ht2 hi2 (w := w) (w' := w) (base := ad) (n := n) (cap := cap) g1 (by omega) q1 (fun a _ => rfl) (fun _ => rfl)
    refine ⟨_, e1, ?_⟩
    simp [execOp, ho, resolve, invoke, builtin, hc, this]

/-- behind what has no room: a new row -/
theorem lok_appendX (hT : TOk P T) {t e t2 : Nat} {x y : Operand} {i ie i2 : TI} {rd : HL} {N L : List (List V)} {κ : Nat} (ho : o.op = .call { callee := .builtin .append, args := #[x, y], argTypes := #[t, t2] }) (ht : T t = some i) (hd : i.d = .slice e) (he : T e = some ie) (hb : ie.bytes ≠ 0)
    (ht2 : T t2 = some i2) (hi2 : i2.d = .string ∨ ∃ e, i2.d = .slice e) (hx : (∃ sz nn, ov x = .sls sz L nn true ∧ (sz = ie.size ∨ L = [])) ∨ (ov x = .lit (.slice none 0 0) ∧ L = [])) (hsrc : Src P (ov y) ie.size N.length rd N) (hN : N ≠ [])
    (hg : Builtin.nextslicecap (L.length + N.length) L.length * ie.bytes ≤ 2 ^ 48) : LOk P ov o rd [] [(κ, ⟨ie.size, L ++ N, false⟩)] (.win κ ie.size 0 (L.length + N.length) (L.length + N.length)) :=
  LOk.new rfl fun S ρ w a hr hs => by
    have hr := arg_reps ho hr
    have e1 := hr x (by simp)
    have e2 := hr y (by simp)
    have hpos : 0 < N.length := List.length_pos_iff.2 hN
    obtain ⟨g1, _⟩ := hsrc S ρ w _ e2 hs
    obtain ⟨cs, q1, q1', q2, q3⟩ := hsrc.drew e2 hs N.length (Nat.le_refl _)
    rw [List.take_length] at q2
    have hbase : ∃ ad, a.eval x = .slice ad L.length L.length ∧ Src P (ov x) ie.size L.length [] L := by
      rcases hx with ⟨sz, nn, hx, hz⟩ | ⟨hx, rfl⟩
      · rw [hx] at e1
        have hsr : Src P (ov x) ie.size L.length [] L := src_sl (by rw [hx]; rfl) (by rw [hx]; exact hz.imp Eq.symm id)
        generalize a.eval x = cx at e1
        cases e1 with
        | sls h hn hc =>
          have hc := hc rfl
          subst hc
          rename_i ad n
          have hl : n = L.length := by
            generalize hv : Value.slice ad n n = v at h
            cases h with
            | sl0 => cases hv; rfl
            | sl h1 h2 h3 h4 h5 h6 => cases hv; rfl
          subst hl
          exact ⟨ad, rfl, hsr⟩
      · rw [hx] at e1
        exact ⟨none, e1.lit_inv, by rw [hx]; exact src_sl rfl (.inr rfl)⟩
    obtain ⟨ad, hc, hsl⟩ := hbase
    have e1' : Rep S ρ w (.slice ad L.length L.length) (ov x) := hc ▸ e1
    obtain ⟨old, p1, p1', p2, p3⟩ := hsl.drew e1' (Sim.empty hs.bnd) L.length (Nat.le_refl _)
    rw [List.take_length] at p2
    obtain ⟨c, rest, hcc, hrun, hrest⟩ := run_grow (ty := o.type) hT ht hd he hb ht2 hi2 g1 (by omega) hg p1 q1 p1' q1'
    refine ⟨w.drew.alloc (.cells (old ++ cs ++ rest) e), old ++ cs ++ rest, e, .slice (some ⟨w.heap.size, 0, none⟩) (L.length + N.length) c, ?_, rfl, rfl, rfl, rfl, rows_app p2 q2 p3 q3, fun ρ' h => ?_⟩
    · simp [execOp, ho, resolve, invoke, builtin, hc, hrun]
    · have hsz : c * ie.size = (L.length + N.length) * ie.size + (c - (L.length + N.length)) * ie.size := by rw [← Nat.add_mul]; congr 1; omega
      refine .win h (show (w.drew.alloc _).heap[w.heap.size]? = _ from push_new rfl) (Nat.le_refl _) hcc ?_ (.inl (by simp))
      simp only [Array.size_append, p3, q3, hrest, Nat.zero_add]
      rw [hsz, Nat.add_mul]
      exact Nat.le_refl _

end
end Go.Proofs.Ytgaginflocpcfaa
