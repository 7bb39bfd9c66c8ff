/-
  The value-level machine: maps of the call's own, their keys structs of numbers and truth values.
-/
import Derived.Test.YtgaginflocpcfaaAbsSa
import Derived.MapKept
namespace Go.Proofs.Ytgaginflocpcfaa
open Go
set_option linter.unusedVariables false
set_option linter.unusedSimpArgs false

/-- values that are told cell by cell -/
def LitsAt (xs : Array Value) (cs : List V) : Prop := xs.size = cs.length ∧ ∀ (i : Nat) (u : Value) (v : V), xs[i]? = some u → cs[i]? = some v → ∀ z, v = .lit z → u = z
theorem Rep.lits {S : Nat → Prop} {ρ : KM} {w : World} {xs : Array Value} {cs : List V} (h : Rep S ρ w (.agg xs) (.agg cs)) : LitsAt xs cs := by
  cases h with
  | agg hl h => exact ⟨hl, fun i u v a b z e => by have := h i u v a b; rw [e] at this; exact this.lit_inv⟩
/-- keys of a type may be looked up, cell by cell -/
structure KeyOk (P : Program) (kt : Nat) (sh : List Bool) : Prop where
  chk : ∀ (e : Bool) (xs : Array Value) (cs : List V) (w : World), LitsAt xs cs → (eqCells sh cs cs).isSome = true → (Instr.checkKey e 10000 kt (.agg xs)).run P w = .ok () w
  eq : ∀ (xs ys : Array Value) (cs ds : List V) (r : Bool) (w : World), LitsAt xs cs → LitsAt ys ds → eqCells sh cs ds = some r → (Op.equal kt (.agg xs) (.agg ys)).run P w = .ok r w
  kind : ∃ fs, P.underlying kt = some (.struct fs)
/-- rows of entries whose keys differ from one -/
def AllAp (sh : List Bool) (kc : List V) (l : List (List V)) : Prop := ∀ row ∈ l, ∃ c v, row = [.agg c, v] ∧ eqCells sh kc c = some false
/-- a key's place -/
inductive Look (sh : List Bool) (kc : List V) : List (List V) → Option V → Prop
  | nil : Look sh kc [] none
  | hit {c v l} (h : eqCells sh kc c = some true) (hm : AllAp sh c l) : Look sh kc ([.agg c, v] :: l) (some v)
  | miss {c v l o} (h : eqCells sh kc c = some false) (t : Look sh kc l o) : Look sh kc ([.agg c, v] :: l) o
/-- the same, in whatever order -/
structure LookU (sh : List Bool) (kc : List V) (ents : List (List V)) (r : Option V) : Prop where
  all : ∀ row ∈ ents, ∃ c v q, row = [.agg c, v] ∧ eqCells sh kc c = some q ∧ (q = true → r = some v)
  some : ∀ v, r = some v → ∃ row ∈ ents, ∃ c, row = [.agg c, v] ∧ eqCells sh kc c = some true
theorem eqCells_via : ∀ (sh : List Bool) (a b : List V), eqCells sh a b = some true → ∀ c, eqCells sh a c = eqCells sh b c := by
  intro sh a b
  induction sh, a, b using eqCells.induct with
  | case1 => intro _ c; rfl
  | case2 sh a l k' b l' ih =>
    intro h c
    simp only [eqCells, if_true, Option.map_eq_some_iff] at h
    obtain ⟨r, h1, h2⟩ := h
    simp only [Bool.and_eq_true, beq_iff_eq] at h2
    obtain ⟨rfl, rfl⟩ := h2
    cases c with
    | nil => rfl
    | cons c0 c =>
      cases c0 with
      | lit v =>
        cases v with
        | int k2 b => simp only [eqCells, ih h1]
        | _ => rfl
      | _ => rfl
  | case3 sh k a l k' b l' hk =>
    intro h
    simp [eqCells, hk] at h
  | case4 sh a l b l' ih =>
    intro h c
    simp only [eqCells, Option.map_eq_some_iff] at h
    obtain ⟨r, h1, h2⟩ := h
    simp only [Bool.and_eq_true, beq_iff_eq] at h2
    obtain ⟨rfl, rfl⟩ := h2
    cases c with
    | nil => rfl
    | cons c0 c =>
      cases c0 with
      | lit v =>
        cases v with
        | bool b => simp only [eqCells, ih h1]
        | _ => rfl
      | _ => rfl
  | case5 sh a b h1 h2 h3 =>
    intro h
    unfold eqCells at h
    split at h
    · exact (h1 rfl rfl rfl).elim
    · exact (h2 _ _ _ _ _ _ _ rfl rfl rfl).elim
    · exact (h3 _ _ _ _ _ rfl rfl rfl).elim
    · cases h
def shapeOf : V → Bool
  | .lit (.int _ _) => true
  | _ => false
theorem eqCells_shape : ∀ (sh : List Bool) (a b : List V) (r : Bool), eqCells sh a b = some r → sh = a.map shapeOf := by
  intro sh a b
  induction sh, a, b using eqCells.induct with
  | case1 => intro r _; rfl
  | case2 sh a l k' b l' ih =>
    intro r h
    simp only [eqCells, if_true, Option.map_eq_some_iff] at h
    obtain ⟨r', h1, _⟩ := h
    rw [ih r' h1]; rfl
  | case3 sh k a l k' b l' hk => intro r h; simp [eqCells, hk] at h
  | case4 sh a l b l' ih =>
    intro r h
    simp only [eqCells, Option.map_eq_some_iff] at h
    obtain ⟨r', h1, _⟩ := h
    rw [ih r' h1]; rfl
  | case5 sh a b h1 h2 h3 =>
    intro r h
    unfold eqCells at h
    split at h
    · exact (h1 rfl rfl rfl).elim
    · exact (h2 _ _ _ _ _ _ _ rfl rfl rfl).elim
    · exact (h3 _ _ _ _ _ rfl rfl rfl).elim
    · cases h
theorem Look.free {sh : List Bool} {kc : List V} {ents : List (List V)} {r : Option V} (h : Look sh kc ents r) : LookU sh kc ents r := by
  induction h with
  | nil => exact ⟨fun row h => by simp at h, fun v h => by cases h⟩
  | @hit c v l h hm =>
    refine ⟨fun row hr => ?_, fun v' hv => ?_⟩
    · rcases List.mem_cons.1 hr with rfl | hr
      · exact ⟨c, v, true, rfl, h, fun _ => rfl⟩
      · obtain ⟨c', v', h1, h2⟩ := hm row hr
        exact ⟨c', v', false, h1, by rw [eqCells_via sh kc c h]; exact h2, fun h => by cases h⟩
    · cases hv
      exact ⟨_, List.mem_cons_self .., c, rfl, h⟩
  | @miss c v l o h t ih =>
    refine ⟨fun row hr => ?_, fun v' hv => ?_⟩
    · rcases List.mem_cons.1 hr with rfl | hr
      · exact ⟨c, v, false, rfl, h, fun h => by cases h⟩
      · exact ih.all row hr
    · obtain ⟨row, h1, h2⟩ := ih.some v' hv
      exact ⟨row, List.mem_cons_of_mem _ h1, h2⟩
theorem LookU.perm {sh : List Bool} {kc : List V} {X Y : List (List V)} {r : Option V} (h : LookU sh kc X r) (hp : X.Perm Y) : LookU sh kc Y r :=
  ⟨fun row hr => h.all row (hp.mem_iff.2 hr), fun v hv => by obtain ⟨row, h1, h2⟩ := h.some v hv; exact ⟨row, hp.mem_iff.1 h1, h2⟩⟩
theorem lookU_none {sh : List Bool} {kc : List V} {X : List (List V)} (h : AllAp sh kc X) : LookU sh kc X none :=
  ⟨fun row hr => by obtain ⟨c, v, h1, h2⟩ := h row hr; exact ⟨c, v, false, h1, h2, fun h => by cases h⟩, fun v h => by cases h⟩
theorem MapL.permR {S : Nat → Prop} {ρ : KM} {w : World} {es es' : List MapEntry} (hp : es.Perm es') : ∀ {X : List (List V)}, MapL S ρ w X es → ∃ X', X.Perm X' ∧ MapL S ρ w X' es' := by
  induction hp with
  | nil => intro X h; exact ⟨X, .refl _, h⟩
  | cons r _ ih =>
    intro X h
    cases h with
    | cons hx hy t =>
      obtain ⟨X', h1, h2⟩ := ih t
      exact ⟨_, .cons _ h1, .cons hx hy h2⟩
  | swap r s l =>
    intro X h
    cases h with
    | cons hx hy t =>
      cases t with
      | cons hx' hy' t => exact ⟨_, .swap _ _ _, .cons hx' hy' (.cons hx hy t)⟩
  | trans _ _ ih1 ih2 =>
    intro X h
    obtain ⟨X1, h1, h2⟩ := ih1 h
    obtain ⟨X2, h3, h4⟩ := ih2 h2
    exact ⟨X2, h1.trans h3, h4⟩
theorem MapL.snoc {S : Nat → Prop} {ρ : KM} {w : World} {X : List (List V)} {es : List MapEntry} {x y : V} {e : MapEntry} (h : MapL S ρ w X es) (hx : Rep S ρ w e.key x) (hy : Rep S ρ w e.val y) : MapL S ρ w (X ++ [[x, y]]) (es ++ [e]) := by
  induction h with
  | nil => exact .cons hx hy .nil
  | cons a b t ih => exact .cons a b ih

section
variable {P : Program} {T : TT} {ov : Operand → V} {o : Oper} {nx : Nat} {H : GH} {K : Eff → V → Prop}

theorem ask_run {kt : Nat} {sh : List Bool} (hk : KeyOk P kt sh) {kc : List V} {S : Nat → Prop} {ρ : KM} {w : World} {xs : Array Value} (hx : LitsAt xs kc) {r : Option V} {X : List (List V)} {es : List MapEntry} (h : MapL S ρ w X es) :
    ∀ (i : Nat), (∀ row ∈ X, ∃ c v q, row = [.agg c, v] ∧ eqCells sh kc c = some q ∧ (q = true → r = some v)) →
    ∃ res, (Instr.findAsking kt (.agg xs) es i).run P w = .ok res w ∧ ((∃ v j u, r = some v ∧ res = some (j, u) ∧ Rep S ρ w u v) ∨ (res = none ∧ AllAp sh kc X)) := by
  induction h with
  | nil => intro i _; exact ⟨none, rfl, .inr ⟨rfl, fun row h => by simp at h⟩⟩
  | @cons x y e l es hx0 hy0 t ih =>
    intro i hall
    obtain ⟨c, v, q, e1, e2, e3⟩ := hall _ (List.mem_cons_self ..)
    simp only [List.cons.injEq, and_true] at e1
    obtain ⟨rfl, rfl⟩ := e1
    obtain ⟨ek, ev, eb⟩ := e
    generalize hkk : ek = k0 at hx0
    cases hx0 with
    | agg hl0 h0 =>
      rename_i ys
      subst hkk
      have hq := hk.eq _ _ _ _ _ w hx (Rep.lits (S := S) (ρ := ρ) (w := w) (.agg hl0 h0)) e2
      cases q with
      | true => exact ⟨some (i, ev), by simp [Instr.findAsking, hq], .inl ⟨_, i, ev, e3 rfl, rfl, hy0⟩⟩
      | false =>
        obtain ⟨res, r1, r2⟩ := ih (i + 1) fun row hr => hall row (List.mem_cons_of_mem _ hr)
        refine ⟨res, by simp [Instr.findAsking, hq, r1], ?_⟩
        rcases r2 with h | ⟨h1, h2⟩
        · exact .inl h
        · refine .inr ⟨h1, fun row hr => ?_⟩
          rcases List.mem_cons.1 hr with rfl | hr
          · exact ⟨c, _, rfl, e2⟩
          · exact h2 row hr
theorem look_run {kt : Nat} {sh : List Bool} (hk : KeyOk P kt sh) {kc : List V} {S : Nat → Prop} {ρ : KM} {w : World} {xs : Array Value} (hx : LitsAt xs kc) {r : Option V} {X : List (List V)} {es : List MapEntry} (h : MapL S ρ w X es) (hl : LookU sh kc X r) :
    ∃ res, (Instr.findAsking kt (.agg xs) es 0).run P w = .ok res w ∧ ((r = none ∧ res = none) ∨ ∃ v j u, r = some v ∧ res = some (j, u) ∧ Rep S ρ w u v) := by
  obtain ⟨res, r1, r2⟩ := ask_run hk hx h 0 hl.all
  refine ⟨res, r1, ?_⟩
  rcases r2 with h | ⟨h1, h2⟩
  · exact .inr h
  · refine .inl ⟨?_, h1⟩
    cases r with
    | none => rfl
    | some v =>
      obtain ⟨row, g1, c, g2, g3⟩ := hl.some v rfl
      obtain ⟨c', v', q1, q2⟩ := h2 row g1
      rw [g2] at q1
      simp only [List.cons.injEq, V.agg.injEq, and_true] at q1
      rw [q1.1, q2] at g3
      cases g3
/-- the entries of a map that is told, in its own order -/
theorem map_own {S : Nat → Prop} {ρ : KM} {w : World} {k b : Nat} {H : Hp} {ents : List (List V)} {es : Array MapEntry} {n : Nat} (hs : Sim S ρ w H) (hk : H k = some (mpO ents)) (hb : ρ k = some b) (hw : w.heap[b]? = some (.map es n)) : ∃ X, ents.Perm X ∧ MapL S ρ w X es.toList := by
  obtain ⟨c, t, hh, hR, _⟩ := hs.get hk hb
  rcases hh with hh | ⟨es0, es', n', hh, hp, rfl⟩
  · rw [hw] at hh; cases hh
  · rw [hw] at hh
    cases hh
    exact (rows_mapL hR).permR hp

theorem find_run {kt : Nat} {sh : List Bool} (hk : KeyOk P kt sh) {xs : Array Value} {w : World} {es : List MapEntry} {res : Option (Nat × Value)} (h : (Instr.findAsking kt (.agg xs) es 0).run P w = .ok res w) : (Instr.findKey kt (.agg xs) es).run P w = .ok res w := by
  obtain ⟨fs, hu⟩ := hk.kind
  cases es with
  | nil =>
    simp only [Instr.findAsking, Sem.run_pure, Result.ok.injEq, and_true] at h
    subst h
    simp [Instr.findKey, run_underlying hu, Instr.findNow]
  | cons e es => simp [Instr.findKey, run_underlying hu, Instr.findNow, Instr.sameNow, h]

theorem lok_makeMap {t kt et : Nat} {κ : Nat} (ho : o.op = .makeMap t none) : LOk P ov o [] [] [(κ, mpO [])] (.mp κ) := by
  intro S ρ w a hx hs hn next Q hK
  have hκ : ρ κ = none := hn κ (by simp [hpo_one]) rfl
  have hrow : RowsAt S ρ w 2 (mpRows []) (mapCells #[]) := rows_of_mapAt ⟨rfl, fun i e r g1 g2 => by simp at g2⟩ (fun r hr => by simp at hr)
  obtain ⟨g1, g2⟩ := new_simG (w' := w.alloc (.map #[] 0)) (pre := []) (ob := mpO []) (t := 0) hs.of_pre.bnd hκ rfl hrow rfl (.inr ⟨#[], #[], 0, push_new rfl, .refl _, rfl⟩) rfl rfl rfl
  have hr : (execOp a.eval o).run P w = .ok (.value (.map (some w.heap.size))) (w.alloc (.map #[] 0)) := by
    simp [execOp, ho, Instr.makeMap]
  simp only [Oper.wp, hr, Oper.upon]
  exact hK _ S _ _ (.mp (upd_same _ _ _) (push_new rfl)) g1 g2

theorem ins_ok {t kt et : Nat} {i : TI} {m x y : Operand} {k : Nat} {kc : List V} {yv : V} {sh : List Bool} (hT : TOk P T) (ho : o.op = .insert t m x y) (ht : T t = some i) (hd : i.d = .map kt et) (hm : ov m = .mp k) (hx : ov x = .agg kc) (hy : ov y = yv)
    (hk : KeyOk P kt sh) (hc : (eqCells sh kc kc).isSome = true) : InsOk P ov o k kc yv := by
  refine ⟨fun ents hap => ?_, fun S ρ w a hr b hb => ?_⟩
  · have hap' : AllAp sh kc ents := fun row hr => by
      obtain ⟨sh', c, v, h1, h2⟩ := hap row hr
      obtain ⟨r0, hr0⟩ := Option.isSome_iff_exists.1 hc
      rw [eqCells_shape _ _ _ _ h2, ← eqCells_shape _ _ _ _ hr0] at h2
      exact ⟨c, v, h1, h2⟩
    intro S ρ w a hr hs hn next Q hK
    rw [ho] at hr
    have e1 := hr m (by simp [Op.operands])
    have e2 := hr x (by simp [Op.operands])
    have e3 := hr y (by simp [Op.operands])
    rw [hm] at e1; rw [hx] at e2; rw [hy] at e3
    have hu := (hT t i ht).d
    rw [hd] at hu
    simp only [List.nil_append] at hs
    generalize hcm : a.eval m = cm at e1
    generalize hcx : a.eval x = cx at e2
    generalize hcy : a.eval y = cy at e3
    have e2' := e2
    cases e2 with
    | agg hl0 h0 =>
      rename_i xs
      cases e1 with
      | mp hk1 hw =>
        rename_i b es n
        obtain ⟨X, hX, hM⟩ := map_own hs (hpo_one_self k _) hk1 hw
        have hx' := Rep.lits e2'
        obtain ⟨res, r1, r2⟩ := look_run hk hx' hM ((lookU_none hap').perm hX)
        have hres : res = none := by
          rcases r2 with ⟨_, h⟩ | ⟨v, j, u, h, _⟩
          · exact h
          · cases h
        subst hres
        have r3 := find_run hk r1
        have hrun : (execOp a.eval o).run P w = .ok .skip (World.block w b (.map (es.push { key := .agg xs, val := cy, born := n }) (n + 1))) := by
          simp only [execOp, ho, Instr.mapUpdate, hcm, hcx, hcy, Sem.run_bind, run_underlying hu, Result.andThen_ok, MapKept.run_getObj_map hw, hk.chk _ _ _ _ hx' hc, r3, MapKept.run_setObj_map _ hw, Sem.run_pure]
          rfl
        have hM' : MapL S ρ w (X ++ [[.agg kc, yv]]) (es.push { key := .agg xs, val := cy, born := n }).toList := by
          rw [Array.toList_push]
          exact hM.snoc e2' e3
        obtain ⟨es2, g1, g2⟩ := hM'.perm (hX.symm.append_right [[.agg kc, yv]])
        obtain ⟨q1, q2⟩ := write_simG (ob' := mpO (ents ++ [[.agg kc, yv]])) (x' := .map (es.push { key := .agg xs, val := cy, born := n }) (n + 1)) (t := 0) hs hk1 hw rfl rfl (.inr ⟨_, _, _, _, rfl, rfl⟩) (.inr ⟨_, es2.toArray, _, rfl, by simpa using g1, rfl⟩) (mapL_rows g2)
        simp only [Oper.wp, hrun, Oper.upon]
        exact hK undef S ρ _ (.tup (by simp) (fun i u x h1 h2 => by simp at h2)) q1 q2
  · rw [ho] at hr
    have e1 := hr m (by simp [Op.operands])
    rw [hm] at e1
    generalize a.eval m = cm at e1
    cases e1 with
    | mp hk1 hw =>
      rw [hk1] at hb
      cases hb
      exact ⟨_, _, hw⟩
/-- a type's zero -/
def ZeroIs (P : Program) (t : Nat) (z : Value) : Prop := z.oneCell' = true ∧ ∀ w, (zeroValue t).run P w = .ok z w
theorem zeroIs_of {t : Nat} {z : Value} (h1 : z.oneCell' = true) (h : ((P.info? t).bind (·.zero)) = some z) : ZeroIs P t z := by
  refine ⟨h1, fun w => ?_⟩
  obtain ⟨x, hx, hz⟩ := Option.bind_eq_some_iff.1 h
  simp [zeroValue, typeInfo, hx, hz]
def lookV (ok : Bool) (r : Option V) (z : Value) : V := match ok with
  | true => .tup [r.getD (.lit z), .lit (.bool r.isSome)]
  | false => r.getD (.lit z)
theorem lok_lookup {t kt et : Nat} {i : TI} {m x : Operand} {k : Nat} {kc : List V} {ents : List (List V)} {sh : List Bool} {ob : VObj} {c : Bool} {r : Option V} {z : Value} (hT : TOk P T) (ho : o.op = .lookup t m x c) (ht : T t = some i) (hd : i.d = .map kt et) (hm : ov m = .mp k) (hx : ov x = .agg kc)
    (hob : ob = mpO ents) (hk : KeyOk P kt sh) (hc : (eqCells sh kc kc).isSome = true) (hz : ZeroIs P et z) (hl : Look sh kc ents r) : LOk P ov o [(k, ob)] [] [] (lookV c r z) := by
  subst hob
  refine LOk.read fun S ρ w a hr hs => ?_
  rw [ho] at hr
  have e1 := hr m (by simp [Op.operands])
  have e2 := hr x (by simp [Op.operands])
  rw [hm] at e1; rw [hx] at e2
  have hu := (hT t i ht).d
  rw [hd] at hu
  generalize hcm : a.eval m = cm at e1
  generalize hcx : a.eval x = cx at e2
  have e2' := e2
  cases e2 with
  | agg hl0 h0 =>
    rename_i xs
    cases e1 with
    | mp hk1 hw =>
      rename_i b es n
      obtain ⟨X, hX, hM⟩ := map_own hs (hpo_one_self k _) hk1 hw
      have hx' := Rep.lits e2'
      obtain ⟨res, r1, r2⟩ := look_run hk hx' hM (hl.free.perm hX)
      have r3 := find_run hk r1
      rcases r2 with ⟨rfl, rfl⟩ | ⟨v, j, u, rfl, rfl, hu2⟩
      · refine ⟨if c = true then .tuple #[z, .bool false] else z, ?_, ?_⟩
        · cases c with
          | true =>
            refine .tup rfl fun j u x g1 g2 => ?_
            match j, g1, g2 with
            | 0, g1, g2 =>
              simp at g1 g2
              subst g1; subst g2
              exact .lit hz.1
            | 1, g1, g2 =>
              simp at g1 g2
              subst g1; subst g2
              exact .lit rfl
            | j + 2, g1, g2 => simp at g1
          | false => exact .lit hz.1
        · simp [execOp, ho, Instr.lookup, hcm, hcx, run_underlying hu, MapKept.run_getObj_map hw, hk.chk _ _ _ _ hx' hc, r3, hz.2]
      · refine ⟨if c = true then .tuple #[u, .bool true] else u, ?_, ?_⟩
        · cases c with
          | true =>
            refine .tup rfl fun j u' x g1 g2 => ?_
            match j, g1, g2 with
            | 0, g1, g2 =>
              simp at g1 g2
              subst g1; subst g2
              exact hu2
            | 1, g1, g2 =>
              simp at g1 g2
              subst g1; subst g2
              exact .lit rfl
            | j + 2, g1, g2 => simp at g1
          | false => exact hu2
        · simp [execOp, ho, Instr.lookup, hcm, hcx, run_underlying hu, MapKept.run_getObj_map hw, hk.chk _ _ _ _ hx' hc, r3]

/- the evaluator -/
def mkMapE (nx : Nat) (r : Option Operand) (K : Eff → V → Prop) : Prop := match r with
  | none => K (.nw [] false (mpO [])) (.mp nx)
  | some _ => False
theorem mkMapE_sound {t : Nat} {r : Option Operand} (ho : o.op = .makeMap t r) (h : mkMapE nx r K) : Res P ov o nx H.hp K := by
  unfold mkMapE at h
  split at h
  · exact res_nw (lok_makeMap (kt := 0) (et := 0) ho) h
  · exact h.elim
def missQ (sh : List Bool) (kc : List V) : List (List V) → Bool
  | [] => true
  | r :: l => match r with
    | [.agg c, _] => match eqCells sh kc c with
      | some false => missQ sh kc l
      | _ => false
    | _ => false
theorem missQ_sound {sh : List Bool} {kc : List V} : ∀ {l : List (List V)}, missQ sh kc l = true → AllAp sh kc l
  | [], _ => fun r h => by simp at h
  | r :: l, h => by
    simp only [missQ] at h
    split at h
    · rename_i c v
      split at h
      · rename_i hc
        have h1 := missQ_sound h
        intro row hr
        rcases List.mem_cons.1 hr with rfl | hr
        · exact ⟨c, v, rfl, hc⟩
        · exact h1 row hr
      · cases h
    · cases h
def insertE (P : Program) (T : TT) (H : GH) (nx : Nat) (t : Nat) (m x y : V) (K : Eff → V → Prop) : Prop := tiK T t fun i => match i.d with
  | .map kt et => match m, x with
    | .mp k, .agg kc => H.getK k fun sy ob => match ob with
      | ⟨2, r0 :: ents, false⟩ => ∃ sh, KeyOk P kt sh ∧ chkK (Nat.blt k nx && ((eqCells sh kc kc).isSome && missQ sh kc ents)) (r0 = [.lit (.int .i64 (ents.length : Int)), .any] ∧ fC y fun y => K (.mi k ents kc y) .undef)
      | _ => False
    | _, _ => False
  | _ => False
theorem insertE_sound (hT : TOk P T) {t : Nat} {m x y : Operand} (ho : o.op = .insert t m x y) (h : insertE P T H nx t (ov m) (ov x) (ov y) K) : Res P ov o nx H.hp K := by
  obtain ⟨i, ht, h⟩ := tiK_sound h
  split at h
  · rename_i kt et hd
    split at h
    · rename_i k kc hm hx
      obtain ⟨sy, ob, hk, h⟩ := GH.getK_sound _ _ h
      split at h
      · rename_i r0 ents
        obtain ⟨sh, hK, h⟩ := h
        obtain ⟨hc, hr0, h⟩ := chkK_sound h
        rw [Bool.and_eq_true, Bool.and_eq_true] at hc
        have h := fC_sound (K := fun y => K (.mi k ents kc y) .undef) h
        have hap := missQ_sound hc.2.2
        refine ⟨.mi k ents kc (ov y), _, ⟨rfl, by rw [hk, hr0]; rfl, Nat.le_of_ble_eq_true hc.1, fun row hr => ?_, ins_ok hT ho ht hd hm hx rfl hK hc.2.1⟩, h⟩
        obtain ⟨c, v, h1, h2⟩ := hap row hr
        exact ⟨sh, c, v, h1, h2⟩
      · exact h.elim
    · exact h.elim
  · exact h.elim
def lookE (sh : List Bool) (kc : List V) (K : Option V → Prop) : List (List V) → Prop
  | [] => K none
  | r :: l => match r with
    | [.agg c, v] => optK (eqCells sh kc c) fun q => condN q (chkK (missQ sh c l) (K (some v))) (lookE sh kc K l)
    | _ => False
theorem lookE_sound {sh : List Bool} {kc : List V} {K : Option V → Prop} : ∀ {l : List (List V)}, lookE sh kc K l → ∃ r, Look sh kc l r ∧ K r
  | [], h => ⟨none, .nil, h⟩
  | r :: l, h => by
    simp only [lookE] at h
    split at h
    · rename_i c v
      obtain ⟨q, hq, h⟩ := optK_sound h
      rcases condN_sound h with ⟨rfl, h⟩ | ⟨rfl, h⟩
      · obtain ⟨hm, h⟩ := chkK_sound h
        exact ⟨_, .hit hq (missQ_sound hm), h⟩
      · obtain ⟨r, h1, h2⟩ := lookE_sound h
        exact ⟨r, .miss hq h1, h2⟩
    · exact h.elim
def lookupE (P : Program) (T : TT) (H : GH) (t : Nat) (m x : V) (c : Bool) (K : Eff → V → Prop) : Prop := tiK T t fun i => match i.d with
  | .map kt et => match m, x with
    | .mp k, .agg kc => H.getK k fun sy ob => match ob with
      | ⟨2, r0 :: ents, false⟩ => ∃ sh, KeyOk P kt sh ∧ ∃ z, ZeroIs P et z ∧ chkK (eqCells sh kc kc).isSome (r0 = [.lit (.int .i64 (ents.length : Int)), .any] ∧ lookE sh kc (fun r => fV (lookV c r z) fun v => K (.rd [(k, ob)]) v) ents)
      | _ => False
    | _, _ => False
  | _ => False
theorem lookupE_sound (hT : TOk P T) {t : Nat} {m x : Operand} {c : Bool} (ho : o.op = .lookup t m x c) (h : lookupE P T H t (ov m) (ov x) c K) : Res P ov o nx H.hp K := by
  obtain ⟨i, ht, h⟩ := tiK_sound h
  split at h
  · rename_i kt et hd
    split at h
    · rename_i k kc hm hx
      obtain ⟨sy, ob, hk, h⟩ := GH.getK_sound _ _ h
      split at h
      · rename_i r0 ents
        obtain ⟨sh, hK, z, hz, h⟩ := h
        obtain ⟨hc, hr0, h⟩ := chkK_sound h
        obtain ⟨r, h1, h⟩ := lookE_sound h
        have h := fV_sound (K := fun v => K (.rd [(k, ⟨2, r0 :: ents, false⟩)]) v) h
        have hl' := lok_lookup (ents := ents) (ob := ⟨2, r0 :: ents, false⟩) hT ho ht hd hm hx (by rw [hr0]; rfl) hK hc hz h1
        exact ⟨.rd [(k, _)], _, ⟨hl', Sub.one hk⟩, h⟩
      · exact h.elim
    · exact h.elim
  · exact h.elim
end
end Go.Proofs.Ytgaginflocpcfaa
