/-
  The value-level machine over the model, part 6.
-/
import Derived.Test.YtbieiehfohldjaaQe
import Derived.MapKept
namespace Go.Proofs.Ytbieiehfohldjaa
open Go
set_option linter.unusedVariables false
set_option linter.unusedSimpArgs false

/-- values that are told cell by cell -/
def LitsAt (xs : Array Value) (cs : List V) : Prop := xs.size = cs.length ∧ ∀ (i : Nat) (u : Value) (v : V), xs[i]? = some u → cs[i]? = some v → ∀ z, v = .lit z → u = z
theorem Rep.lits {S : Nat → Prop} {ρ : KM} {w : World} {xs : Array Value} {cs : List V} (h : Rep S ρ w (.agg xs) (.agg cs)) : LitsAt xs cs := by
  cases h with
  | agg hl h => exact ⟨hl, fun i u v a b z e => by have := h i u v a b; rw [e] at this; exact this.lit_inv⟩
/-- keys of a type may be looked up, cell by cell -/
structure KeyOk (P : Program) (kt : Nat) (sh : List Bool) : Prop where
  chk : ∀ (e : Bool) (xs : Array Value) (cs : List V) (w : World), LitsAt xs cs → (eqCells sh cs cs).isSome = true → (Instr.checkKey e 10000 kt (.agg xs)).run P w = .ok () w
  eq : ∀ (xs ys : Array Value) (cs ds : List V) (r : Bool) (w : World), LitsAt xs cs → LitsAt ys ds → eqCells sh cs ds = some r → (Op.equal kt (.agg xs) (.agg ys)).run P w = .ok r w
  kind : ∃ fs, P.underlying kt = some (.struct fs)
/-- rows of entries whose keys differ from one -/
def AllAp (sh : List Bool) (kc : List V) (l : List (List V)) : Prop := ∀ row ∈ l, ∃ c v, row = [.agg c, v] ∧ eqCells sh kc c = some false
/-- a key's place -/
inductive Look (sh : List Bool) (kc : List V) : List (List V) → Option V → Prop
  | nil : Look sh kc [] none
  | hit {c v l} (h : eqCells sh kc c = some true) (hm : AllAp sh c l) : Look sh kc ([.agg c, v] :: l) (some v)
  | miss {c v l o} (h : eqCells sh kc c = some false) (t : Look sh kc l o) : Look sh kc ([.agg c, v] :: l) o
/-- the same, in whatever order -/
structure LookU (sh : List Bool) (kc : List V) (ents : List (List V)) (r : Option V) : Prop where
  all : ∀ row ∈ ents, ∃ c v q, row = [.agg c, v] ∧ eqCells sh kc c = some q ∧ (q = true → r = some v)
  some : ∀ v, r = some v → ∃ row ∈ ents, ∃ c, row = [.agg c, v] ∧ eqCells sh kc c = some true
theorem eqCells_via : ∀ (sh : List Bool) (a b : List V), eqCells sh a b = some true → ∀ c, eqCells sh a c = eqCells sh b c := by
  intro sh a b
  induction sh, a, b using eqCells.induct with
  | case1 => intro _ c; rfl
  | case2 sh a l k' b l' ih =>
    intro h c
    simp only [eqCells, if_true, Option.map_eq_some_iff] at h
    obtain ⟨r, h1, h2⟩ := h
    simp only [Bool.and_eq_true, beq_iff_eq] at h2
    obtain ⟨rfl, rfl⟩ := h2
    cases c with
    | nil => rfl
    | cons c0 c =>
      cases c0 with
      | lit v =>
        cases v with
        | int k2 b => simp only [eqCells, ih h1]
        | _ => rfl
      | _ => rfl
  | case3 sh k a l k' b l' hk =>
    intro h
    simp [eqCells, hk] at h
  | case4 sh a l b l' ih =>
    intro h c
    simp only [eqCells, Option.map_eq_some_iff] at h
    obtain ⟨r, h1, h2⟩ := h
    simp only [Bool.and_eq_true, beq_iff_eq] at h2
    obtain ⟨rfl, rfl⟩ := h2
    cases c with
    | nil => rfl
    | cons c0 c =>
      cases c0 with
      | lit v =>
        cases v with
        | bool b => simp only [eqCells, ih h1]
        | _ => rfl
      | _ => rfl
  | case5 sh a b h1 h2 h3 =>
    intro h
    unfold eqCells at h
    split at h
    · exact (h1 rfl rfl rfl).elim
    · exact (h2 _ _ _ _ _ _ _ rfl rfl rfl).elim
    · exact (h3 _ _ _ _ _ rfl rfl rfl).elim
    · cases h
def shapeOf : V → Bool
  | .lit (.int _ _) => true
  | _ => false
theorem eqCells_shape : ∀ (sh : List Bool) (a b : List V) (r : Bool), eqCells sh a b = some r → sh = a.map shapeOf := by
  intro sh a b
  induction sh, a, b using eqCells.induct with
  | case1 => intro r _; rfl
  | case2 sh a l k' b l' ih =>
    intro r h
    simp only [eqCells, if_true, Option.map_eq_some_iff] at h
    obtain ⟨r', h1, _⟩ := h
    rw [ih r' h1]; rfl
  | case3 sh k a l k' b l' hk => intro r h; simp [eqCells, hk] at h
  | case4 sh a l b l' ih =>
    intro r h
    simp only [eqCells, Option.map_eq_some_iff] at h
    obtain ⟨r', h1, _⟩ := h
    rw [ih r' h1]; rfl
  | case5 sh a b h1 h2 h3 =>
    intro r h
    unfold eqCells at h
    split at h
    · exact (h1 rfl rfl rfl).elim
    · exact (h2 _ _ _ _ _ _ _ rfl rfl rfl).elim
    · exact (h3 _ _ _ _ _ rfl rfl rfl).elim
    · cases h
theorem Look.free {sh : List Bool} {kc : List V} {ents : List (List V)} {r : Option V} (h : Look sh kc ents r) : LookU sh kc ents r := by
  induction h with
  | nil => exact ⟨fun row h => by simp at h, fun v h => by cases h⟩
  | @hit c v l h hm =>
    refine ⟨fun row hr => ?_, fun v' hv => ?_⟩
    · rcases List.mem_cons.1 hr with rfl | hr
      · exact ⟨c, v, true, rfl, h, fun _ => rfl⟩
      · obtain ⟨c', v', h1, h2⟩ := hm row hr
        exact ⟨c', v', false, h1, by rw [eqCells_via sh kc c h]; exact h2, fun h => by cases h⟩
    · cases hv
      exact ⟨_, List.mem_cons_self .., c, rfl, h⟩
  | @miss c v l o h t ih =>
    refine ⟨fun row hr => ?_, fun v' hv => ?_⟩
    · rcases List.mem_cons.1 hr with rfl | hr
      · exact ⟨c, v, false, rfl, h, fun h => by cases h⟩
      · exact ih.all row hr
    · obtain ⟨row, h1, h2⟩ := ih.some v' hv
      exact ⟨row, List.mem_cons_of_mem _ h1, h2⟩
theorem LookU.perm {sh : List Bool} {kc : List V} {X Y : List (List V)} {r : Option V} (h : LookU sh kc X r) (hp : X.Perm Y) : LookU sh kc Y r :=
  ⟨fun row hr => h.all row (hp.mem_iff.2 hr), fun v hv => by obtain ⟨row, h1, h2⟩ := h.some v hv; exact ⟨row, hp.mem_iff.1 h1, h2⟩⟩
theorem lookU_none {sh : List Bool} {kc : List V} {X : List (List V)} (h : AllAp sh kc X) : LookU sh kc X none :=
  ⟨fun row hr => by obtain ⟨c, v, h1, h2⟩ := h row hr; exact ⟨c, v, false, h1, h2, fun h => by cases h⟩, fun v h => by cases h⟩
theorem MapL.permR {S : Nat → Prop} {ρ : KM} {w : World} {es es' : List MapEntry} (hp : es.Perm es') : ∀ {X : List (List V)}, MapL S ρ w X es → ∃ X', X.Perm X' ∧ MapL S ρ w X' es' := by
  induction hp with
  | nil => intro X h; exact ⟨X, .refl _, h⟩
  | cons r _ ih =>
    intro X h
    cases h with
    | cons hx hy t =>
      obtain ⟨X', h1, h2⟩ := ih t
      exact ⟨_, .cons _ h1, .cons hx hy h2⟩
  | swap r s l =>
    intro X h
    cases h with
    | cons hx hy t =>
      cases t with
      | cons hx' hy' t => exact ⟨_, .swap _ _ _, .cons hx' hy' (.cons hx hy t)⟩
  | trans _ _ ih1 ih2 =>
    intro X h
    obtain ⟨X1, h1, h2⟩ := ih1 h
    obtain ⟨X2, h3, h4⟩ := ih2 h2
    exact ⟨X2, h1.trans h3, h4⟩
theorem MapL.snoc {S : Nat → Prop} {ρ : KM} {w : World} {X : List (List V)} {es : List MapEntry} {x y : V} {e : MapEntry} (h : MapL S ρ w X es) (hx : Rep S ρ w e.key x) (hy : Rep S ρ w e.val y) : MapL S ρ w (X ++ [[x, y]]) (es ++ [e]) := by
  induction h with
  | nil => exact .cons hx hy .nil
  | cons a b t ih => exact .cons a b ih

section
variable {P : Program} {T : TT} {ov : Operand → V} {o : Oper} {nx : Nat} {H : GH} {K : Eff → V → Prop}

theorem ask_run {kt : Nat} {sh : List Bool} (hk : KeyOk P kt sh) {kc : List V} {S : Nat → Prop} {ρ : KM} {w : World} {xs : Array Value} (hx : LitsAt xs kc) {r : Option V} {X : List (List V)} {es : List MapEntry} (h : MapL S ρ w X es) :
    ∀ (i : Nat), (∀ row ∈ X, ∃ c v q, row = [.agg c, v] ∧ eqCells sh kc c = some q ∧ (q = true → r = some v)) →
    ∃ res, (Instr.findAsking kt (.agg xs) es i).run P w = .ok res w ∧ ((∃ v j u, r = some v ∧ res = some (j, u) ∧ Rep S ρ w u v) ∨ (res = none ∧ AllAp sh kc X)) := by
  induction h with
  | nil => intro i _; exact ⟨none, rfl, .inr ⟨rfl, fun row h => by simp at h⟩⟩
  | @cons x y e l es hx0 hy0 t ih =>
    intro i hall
    obtain ⟨c, v, q, e1, e2, e3⟩ := hall _ (List.mem_cons_self ..)
    simp only [List.cons.injEq, and_true] at e1
    obtain ⟨rfl, rfl⟩ := e1
    obtain ⟨ek, ev, eb⟩ := e
    generalize hkk : ek = k0 at hx0
    cases hx0 with
    | agg hl0 h0 =>
      rename_i ys
      subst hkk
      have hq := hk.eq _ _ _ _ _ w hx (Rep.lits (S := S) (ρ := ρ) (w := w) (.agg hl0 h0)) e2
      cases q with
      | true => exact ⟨some (i, ev), by simp [Instr.findAsking, hq], .inl ⟨_, i, ev, e3 rfl, rfl, hy0⟩⟩
      | false =>
        obtain ⟨res, r1, r2⟩ := ih (i + 1) fun row hr => hall row (List.mem_cons_of_mem _ hr)
        refine ⟨res, by simp [Instr.findAsking, hq, r1], ?_⟩
        rcases r2 with h | ⟨h1, h2⟩
        · exact .inl h
        · refine .inr ⟨h1, fun row hr => ?_⟩
          rcases List.mem_cons.1 hr with rfl | hr
          · exact ⟨c, _, rfl, e2⟩
          · exact h2 row hr
theorem look_run {kt : Nat} {sh : List Bool} (hk : KeyOk P kt sh) {kc : List V} {S : Nat → Prop} {ρ : KM} {w : World} {xs : Array Value} (hx : LitsAt xs kc) {r : Option V} {X : List (List V)} {es : List MapEntry} (h : MapL S ρ w X es) (hl : LookU sh kc X r) :
    ∃ res, (Instr.findAsking kt (.agg xs) es 0).run P w = .ok res w ∧ ((r = none ∧ res = none) ∨ ∃ v j u, r = some v ∧ res = some (j, u) ∧ Rep S ρ w u v) := by
  obtain ⟨res, r1, r2⟩ := ask_run hk hx h 0 hl.all
  refine ⟨res, r1, ?_⟩
  rcases r2 with h | ⟨h1, h2⟩
  · exact .inr h
  · refine .inl ⟨?_, h1⟩
    cases r with
    | none => rfl
    | some v =>
      obtain ⟨row, g1, c, g2, g3⟩ := hl.some v rfl
      obtain ⟨c', v', q1, q2⟩ := h2 row g1
      rw [g2] at q1
      simp only [List.cons.injEq, V.agg.injEq, and_true] at q1
      rw [q1.1, q2] at g3
      cases g3
/-- the entries of a map that is told, in its own order -/
theorem map_own {S : Nat → Prop} {ρ : KM} {w : World} {k b : Nat} {H : Hp} {ents : List (List V)} {es : Array MapEntry} {n : Nat} (hs : Sim S ρ w H) (hk : H k = some (mpO ents)) (hb : ρ k = some b) (hw : w.heap[b]? = some (.map es n)) : ∃ X, ents.Perm X ∧ MapL S ρ w X es.toList ∧ Born es n := by
  obtain ⟨c, t, hh, hR, _⟩ := hs.get hk hb
  rcases hh with hh | ⟨es0, es', n', hh, hp, rfl, hbn⟩
  · rw [hw] at hh; cases hh
  · rw [hw] at hh
    cases hh
    obtain ⟨X, h1, h2⟩ := (rows_mapL hR).permR hp
    exact ⟨X, h1, h2, hbn⟩

theorem find_run {kt : Nat} {sh : List Bool} (hk : KeyOk P kt sh) {xs : Array Value} {w : World} {es : List MapEntry} {res : Option (Nat × Value)} (h : (Instr.findAsking kt (.agg xs) es 0).run P w = .ok res w) : (Instr.findKey kt (.agg xs) es).run P w = .ok res w := by
  obtain ⟨fs, hu⟩ := hk.kind
  cases es with
  | nil =>
    simp only [Instr.findAsking, Sem.run_pure, Result.ok.injEq, and_true] at h
    subst h
    simp [Instr.findKey, run_underlying hu, Instr.findNow]
  | cons e es => simp [Instr.findKey, run_underlying hu, Instr.findNow, Instr.sameNow, h]

theorem born_nil : Born #[] 0 := ⟨by simp, fun x h => by simp at h⟩
theorem Born.push {es : Array MapEntry} {n : Nat} (h : Born es n) {e : MapEntry} (he : e.born = n) : Born (es.push e) (n + 1) := by
  constructor
  · rw [Array.toList_push, List.map_append, List.nodup_append]
    refine ⟨h.1, by simp, fun a ha b hb e2 => ?_⟩
    obtain ⟨x, hx, rfl⟩ := List.mem_map.1 ha
    simp at hb
    have := h.2 x hx
    omega
  · intro x hx
    rw [Array.toList_push, List.mem_append] at hx
    rcases hx with hx | hx
    · have := h.2 x hx; omega
    · simp at hx; subst hx; omega
theorem lok_makeMap {t kt et : Nat} {κ : Nat} (ho : o.op = .makeMap t none) : LOk P ov o [] [] [(κ, mpO [])] (.mp κ) := by
  intro S ρ w a hx hs hn next Q hK
  have hκ : ρ κ = none := hn κ (by simp [hpo_one]) rfl
  have hrow : RowsAt S ρ w 2 (mpRows []) (mapCells #[]) := rows_of_mapAt ⟨rfl, fun i e r g1 g2 => by simp at g2⟩ (fun r hr => by simp at hr)
  obtain ⟨g1, g2⟩ := new_simG (w' := w.alloc (.map #[] 0)) (pre := []) (ob := mpO []) (t := 0) hs.of_pre.bnd hκ rfl hrow rfl (.inr ⟨#[], #[], 0, push_new rfl, .refl _, rfl, born_nil⟩) rfl rfl rfl
  have hr : (execOp a.eval o).run P w = .ok (.value (.map (some w.heap.size))) (w.alloc (.map #[] 0)) := by
    simp [execOp, ho, Instr.makeMap]
  simp only [Oper.wp, hr, Oper.upon]
  exact hK _ S _ _ (.mp (upd_same _ _ _) (push_new rfl)) g1 g2

theorem ins_ok {t kt et : Nat} {i : TI} {m x y : Operand} {k : Nat} {kc : List V} {yv : V} {sh : List Bool} (hT : TOk P T) (ho : o.op = .insert t m x y) (ht : T t = some i) (hd : i.d = .map kt et) (hm : ov m = .mp k) (hx : ov x = .agg kc) (hy : ov y = yv)
    (hk : KeyOk P kt sh) (hc : (eqCells sh kc kc).isSome = true) : InsOk P ov o k kc yv := by
  refine ⟨fun ents hap => ?_, fun S ρ w a hr b hb => ?_⟩
  · have hap' : AllAp sh kc ents := fun row hr => by
      obtain ⟨sh', c, v, h1, h2⟩ := hap row hr
      obtain ⟨r0, hr0⟩ := Option.isSome_iff_exists.1 hc
      rw [eqCells_shape _ _ _ _ h2, ← eqCells_shape _ _ _ _ hr0] at h2
      exact ⟨c, v, h1, h2⟩
    intro S ρ w a hr hs hn next Q hK
    rw [ho] at hr
    have e1 := hr m (by simp [Op.operands])
    have e2 := hr x (by simp [Op.operands])
    have e3 := hr y (by simp [Op.operands])
    rw [hm] at e1; rw [hx] at e2; rw [hy] at e3
    have hu := (hT t i ht).d
    rw [hd] at hu
    simp only [List.nil_append] at hs
    generalize hcm : a.eval m = cm at e1
    generalize hcx : a.eval x = cx at e2
    generalize hcy : a.eval y = cy at e3
    have e2' := e2
    cases e2 with
    | agg hl0 h0 =>
      rename_i xs
      cases e1 with
      | mp hk1 hw =>
        rename_i b es n
        obtain ⟨X, hX, hM, hbn⟩ := map_own hs (hpo_one_self k _) hk1 hw
        have hx' := Rep.lits e2'
        obtain ⟨res, r1, r2⟩ := look_run hk hx' hM ((lookU_none hap').perm hX)
        have hres : res = none := by
          rcases r2 with ⟨_, h⟩ | ⟨v, j, u, h, _⟩
          · exact h
          · cases h
        subst hres
        have r3 := find_run hk r1
        have hrun : (execOp a.eval o).run P w = .ok .skip (World.block w b (.map (es.push { key := .agg xs, val := cy, born := n }) (n + 1))) := by
          simp only [execOp, ho, Instr.mapUpdate, hcm, hcx, hcy, Sem.run_bind, run_underlying hu, Result.andThen_ok, MapKept.run_getObj_map hw, hk.chk _ _ _ _ hx' hc, r3, MapKept.run_setObj_map _ hw, Sem.run_pure]
          rfl
        have hM' : MapL S ρ w (X ++ [[.agg kc, yv]]) (es.push { key := .agg xs, val := cy, born := n }).toList := by
          rw [Array.toList_push]
          exact hM.snoc e2' e3
        obtain ⟨es2, g1, g2⟩ := hM'.perm (hX.symm.append_right [[.agg kc, yv]])
        obtain ⟨q1, q2⟩ := write_simG (ob' := mpO (ents ++ [[.agg kc, yv]])) (x' := .map (es.push { key := .agg xs, val := cy, born := n }) (n + 1)) (t := 0) hs hk1 hw rfl rfl (.inr ⟨_, _, _, _, rfl, rfl⟩) (.inr ⟨_, es2.toArray, _, rfl, by simpa using g1, rfl, hbn.push rfl⟩) (mapL_rows g2)
        simp only [Oper.wp, hrun, Oper.upon]
        exact hK undef S ρ _ (.tup (by simp) (fun i u x h1 h2 => by simp at h2)) q1 q2
  · rw [ho] at hr
    have e1 := hr m (by simp [Op.operands])
    rw [hm] at e1
    generalize a.eval m = cm at e1
    cases e1 with
    | mp hk1 hw =>
      rw [hk1] at hb
      cases hb
      exact ⟨_, _, hw⟩
/-- a type's zero -/
def ZeroIs (P : Program) (t : Nat) (z : Value) : Prop := z.oneCell' = true ∧ ∀ w, (zeroValue t).run P w = .ok z w
theorem zeroIs_of {t : Nat} {z : Value} (h1 : z.oneCell' = true) (h : ((P.info? t).bind (·.zero)) = some z) : ZeroIs P t z := by
  refine ⟨h1, fun w => ?_⟩
  obtain ⟨x, hx, hz⟩ := Option.bind_eq_some_iff.1 h
  simp [zeroValue, typeInfo, hx, hz]
def lookV (ok : Bool) (r : Option V) (z : Value) : V := match ok with
  | true => .tup [r.getD (.lit z), .lit (.bool r.isSome)]
  | false => r.getD (.lit z)
theorem lok_lookup {t kt et : Nat} {i : TI} {m x : Operand} {k : Nat} {kc : List V} {ents : List (List V)} {sh : List Bool} {ob : VObj} {c : Bool} {r : Option V} {z : Value} (hT : TOk P T) (ho : o.op = .lookup t m x c) (ht : T t = some i) (hd : i.d = .map kt et) (hm : ov m = .mp k) (hx : ov x = .agg kc)
    (hob : ob = mpO ents) (hk : KeyOk P kt sh) (hc : (eqCells sh kc kc).isSome = true) (hz : ZeroIs P et z) (hl : Look sh kc ents r) : LOk P ov o [(k, ob)] [] [] (lookV c r z) := by
  subst hob
  refine LOk.read fun S ρ w a hr hs => ?_
  rw [ho] at hr
  have e1 := hr m (by simp [Op.operands])
  have e2 := hr x (by simp [Op.operands])
  rw [hm] at e1; rw [hx] at e2
  have hu := (hT t i ht).d
  rw [hd] at hu
  generalize hcm : a.eval m = cm at e1
  generalize hcx : a.eval x = cx at e2
  have e2' := e2
  cases e2 with
  | agg hl0 h0 =>
    rename_i xs
    cases e1 with
    | mp hk1 hw =>
      rename_i b es n
      obtain ⟨X, hX, hM, hbn⟩ := map_own hs (hpo_one_self k _) hk1 hw
      have hx' := Rep.lits e2'
      obtain ⟨res, r1, r2⟩ := look_run hk hx' hM (hl.free.perm hX)
      have r3 := find_run hk r1
      rcases r2 with ⟨rfl, rfl⟩ | ⟨v, j, u, rfl, rfl, hu2⟩
      · refine ⟨if c = true then .tuple #[z, .bool false] else z, ?_, ?_⟩
        · cases c with
          | true =>
            refine .tup rfl fun j u x g1 g2 => ?_
            match j, g1, g2 with
            | 0, g1, g2 =>
              simp at g1 g2
              subst g1; subst g2
              exact .lit hz.1
            | 1, g1, g2 =>
              simp at g1 g2
              subst g1; subst g2
              exact .lit rfl
            | j + 2, g1, g2 => simp at g1
          | false => exact .lit hz.1
        · simp [execOp, ho, Instr.lookup, hcm, hcx, run_underlying hu, MapKept.run_getObj_map hw, hk.chk _ _ _ _ hx' hc, r3, hz.2]
      · refine ⟨if c = true then .tuple #[u, .bool true] else u, ?_, ?_⟩
        · cases c with
          | true =>
            refine .tup rfl fun j u' x g1 g2 => ?_
            match j, g1, g2 with
            | 0, g1, g2 =>
              simp at g1 g2
              subst g1; subst g2
              exact hu2
            | 1, g1, g2 =>
              simp at g1 g2
              subst g1; subst g2
              exact .lit rfl
            | j + 2, g1, g2 => simp at g1
          | false => exact hu2
        · simp [execOp, ho, Instr.lookup, hcm, hcx, run_underlying hu, MapKept.run_getObj_map hw, hk.chk _ _ _ _ hx' hc, r3]

/- the evaluator -/
def mkMapE (nx : Nat) (r : Option Operand) (K : Eff → V → Prop) : Prop := match r with
  | none => K (.nw [] false (mpO [])) (.mp nx)
  | some _ => False
theorem mkMapE_sound {t : Nat} {r : Option Operand} (ho : o.op = .makeMap t r) (h : mkMapE nx r K) : Res P ov o nx H.hp K := by
  unfold mkMapE at h
  split at h
  · exact res_nw (lok_makeMap (kt := 0) (et := 0) ho) h
  · exact h.elim
def missQ (sh : List Bool) (kc : List V) : List (List V) → Bool
  | [] => true
  | r :: l => match r with
    | [.agg c, _] => match eqCells sh kc c with
      | some false => missQ sh kc l
      | _ => false
    | _ => false
theorem missQ_sound {sh : List Bool} {kc : List V} : ∀ {l : List (List V)}, missQ sh kc l = true → AllAp sh kc l
  | [], _ => fun r h => by simp at h
  | r :: l, h => by
    simp only [missQ] at h
    split at h
    · rename_i c v
      split at h
      · rename_i hc
        have h1 := missQ_sound h
        intro row hr
        rcases List.mem_cons.1 hr with rfl | hr
        · exact ⟨c, v, rfl, hc⟩
        · exact h1 row hr
      · cases h
    · cases h
def insertE (P : Program) (T : TT) (H : GH) (nx : Nat) (t : Nat) (m x y : V) (K : Eff → V → Prop) : Prop := tiK T t fun i => match i.d with
  | .map kt et => match m, x with
    | .mp k, .agg kc => H.getK k fun sy ob => match ob with
      | ⟨2, r0 :: ents, false⟩ => ∃ sh, KeyOk P kt sh ∧ chkK (Nat.blt k nx && ((eqCells sh kc kc).isSome && missQ sh kc ents)) (r0 = [.lit (.int .i64 (ents.length : Int)), .any] ∧ fC y fun y => K (.mi k ents kc y) .undef)
      | _ => False
    | _, _ => False
  | _ => False
theorem insertE_sound (hT : TOk P T) {t : Nat} {m x y : Operand} (ho : o.op = .insert t m x y) (h : insertE P T H nx t (ov m) (ov x) (ov y) K) : Res P ov o nx H.hp K := by
  obtain ⟨i, ht, h⟩ := tiK_sound h
  split at h
  · rename_i kt et hd
    split at h
    · rename_i k kc hm hx
      obtain ⟨sy, ob, hk, h⟩ := GH.getK_sound _ _ h
      split at h
      · rename_i r0 ents
        obtain ⟨sh, hK, h⟩ := h
        obtain ⟨hc, hr0, h⟩ := chkK_sound h
        rw [Bool.and_eq_true, Bool.and_eq_true] at hc
        have h := fC_sound (K := fun y => K (.mi k ents kc y) .undef) h
        have hap := missQ_sound hc.2.2
        refine ⟨.mi k ents kc (ov y), _, ⟨rfl, by rw [hk, hr0]; rfl, Nat.le_of_ble_eq_true hc.1, fun row hr => ?_, ins_ok hT ho ht hd hm hx rfl hK hc.2.1⟩, h⟩
        obtain ⟨c, v, h1, h2⟩ := hap row hr
        exact ⟨sh, c, v, h1, h2⟩
      · exact h.elim
    · exact h.elim
  · exact h.elim
def lookE (sh : List Bool) (kc : List V) (K : Option V → Prop) : List (List V) → Prop
  | [] => K none
  | r :: l => match r with
    | [.agg c, v] => optK (eqCells sh kc c) fun q => condN q (chkK (missQ sh c l) (K (some v))) (lookE sh kc K l)
    | _ => False
theorem lookE_sound {sh : List Bool} {kc : List V} {K : Option V → Prop} : ∀ {l : List (List V)}, lookE sh kc K l → ∃ r, Look sh kc l r ∧ K r
  | [], h => ⟨none, .nil, h⟩
  | r :: l, h => by
    simp only [lookE] at h
    split at h
    · rename_i c v
      obtain ⟨q, hq, h⟩ := optK_sound h
      rcases condN_sound h with ⟨rfl, h⟩ | ⟨rfl, h⟩
      · obtain ⟨hm, h⟩ := chkK_sound h
        exact ⟨_, .hit hq (missQ_sound hm), h⟩
      · obtain ⟨r, h1, h2⟩ := lookE_sound h
        exact ⟨r, .miss hq h1, h2⟩
    · exact h.elim
def lookupE (P : Program) (T : TT) (H : GH) (t : Nat) (m x : V) (c : Bool) (K : Eff → V → Prop) : Prop := tiK T t fun i => match i.d with
  | .map kt et => match m, x with
    | .mp k, .agg kc => H.getK k fun sy ob => match ob with
      | ⟨2, r0 :: ents, false⟩ => ∃ sh, KeyOk P kt sh ∧ ∃ z, ZeroIs P et z ∧ chkK (eqCells sh kc kc).isSome (r0 = [.lit (.int .i64 (ents.length : Int)), .any] ∧ lookE sh kc (fun r => fV (lookV c r z) fun v => K (.rd [(k, ob)]) v) ents)
      | _ => False
    | _, _ => False
  | _ => False
theorem lookupE_sound (hT : TOk P T) {t : Nat} {m x : Operand} {c : Bool} (ho : o.op = .lookup t m x c) (h : lookupE P T H t (ov m) (ov x) c K) : Res P ov o nx H.hp K := by
  obtain ⟨i, ht, h⟩ := tiK_sound h
  split at h
  · rename_i kt et hd
    split at h
    · rename_i k kc hm hx
      obtain ⟨sy, ob, hk, h⟩ := GH.getK_sound _ _ h
      split at h
      · rename_i r0 ents
        obtain ⟨sh, hK, z, hz, h⟩ := h
        obtain ⟨hc, hr0, h⟩ := chkK_sound h
        obtain ⟨r, h1, h⟩ := lookE_sound h
        have h := fV_sound (K := fun v => K (.rd [(k, ⟨2, r0 :: ents, false⟩)]) v) h
        have hl' := lok_lookup (ents := ents) (ob := ⟨2, r0 :: ents, false⟩) hT ho ht hd hm hx (by rw [hr0]; rfl) hK hc hz h1
        exact ⟨.rd [(k, _)], _, ⟨hl', Sub.one hk⟩, h⟩
      · exact h.elim
    · exact h.elim
  · exact h.elim
end
end Go.Proofs.Ytbieiehfohldjaa
namespace Go.Proofs.Ytbieiehfohldjaa
open Go
set_option linter.unusedVariables false
set_option linter.unusedSimpArgs false

section
variable {P : Program} {T : TT} {ov : Operand → V} {o : Oper}

/-- zeros, in a new row -/
theorem run_growZ (hT : TOk P T) {t e t2 ty : Nat} {i ie i2 : TI} (ht : T t = some i) (hd : i.d = .slice e) (he : T e = some ie) (hb : ie.bytes ≠ 0) (ht2 : T t2 = some i2) (hi2 : i2.d = .int .i64) {w : World} {base : Option Addr} {n cap m : Nat} {old : Array Value} {z : Value}
    (h0 : 0 < m) (hmb : m * ie.bytes ≤ 2 ^ 48) (hnm : n + m ≤ 2 ^ 49) (hz : (zeroValue e).run P w.drew = .ok z w.drew) (hzs : z.cells.size = ie.size)
    (hm : cap < n + m) (hg : Builtin.nextslicecap (n + m) cap * ie.bytes ≤ 2 ^ 48) (ho : (Builtin.firstCells ie.size n (.slice base n cap)).run P w = .ok old w)
    (ho' : (Builtin.firstCells ie.size n (.slice base n cap)).run P w.drew = .ok old w.drew) :
    ∃ c rest, n + m ≤ c ∧ (Builtin.append_ #[t, t2] ty #[.slice base n cap, .int .i64 m]).run P w = .ok (.slice (some ⟨w.heap.size, 0, none⟩) (n + m) c) (w.drew.alloc (.cells (old ++ Builtin.zeroCells z.cells m ++ rest) e)) ∧ rest.size = (c - (n + m)) * ie.size := by
  have hu := (hT t i ht).d
  rw [hd] at hu
  have hu2 := (hT t2 i2 ht2).d
  rw [hi2] at hu2
  have hb1 : 1 ≤ ie.bytes := by omega
  have hm48 : (m : Int) ≤ 2 ^ 48 := by
    have : m * 1 ≤ m * ie.bytes := Nat.mul_le_mul_left m hb1
    omega
  have wn := wrap_small (show (0 : Int) ≤ (m : Int) by omega) hm48
  obtain ⟨ti, hti, hbb, hsz⟩ := (hT e ie he).run_typeInfo w
  obtain ⟨ti', hti', hbb', hsz'⟩ := (hT e ie he).run_typeInfo w.drew
  have hszr := (hT e ie he).run_sizeOf w
  have hq : ∀ q : Nat, (Question.appendCap (n + m) cap e).cut q = n + m + q % (2 ^ 63 - (n + m)) := fun q => rfl
  have hpos := (hT e ie he).pos
  have c0 : ¬ ((m : Int) < 0) := by omega
  have c1 : ¬ ((m : Int) * (ie.bytes : Int) > 2 ^ 48) := by
    have h' : ((m * ie.bytes : Nat) : Int) ≤ 2 ^ 48 := by omega
    rw [Int.natCast_mul] at h'
    omega
  have c2 : ¬ (n + m ≤ cap) := by omega
  have c3 : ¬ (((n + m : Nat) : Int) > IntKind.i64.max) := by simp only [IntKind.max, IntKind.signed, IntKind.bits]; simp; omega
  have c5 : ¬ (Builtin.nextslicecap (n + m) cap * ie.bytes > 2 ^ 48) := by omega
  have c6 : ¬ (m * ie.size = 0) := by
    intro h
    rcases Nat.mul_eq_zero.1 h with h | h
    · omega
    · exact hpos h
  generalize hcp : n + m + w.tape w.drawn (.appendCap (n + m) cap e) % (2 ^ 63 - (n + m)) = c
  have hcm : n + m ≤ c := by omega
  refine ⟨c, Builtin.zeroCells z.cells (c - (n + m)), hcm, ?_, by simp [Builtin.zeroCells, hzs]⟩
  simp only [Builtin.append_, List.getElem?_toArray, List.getElem?_cons_zero, List.getElem?_cons_succ, Sem.run_bind, run_underlying hu, run_underlying hu2, Result.andThen_ok, hszr, Sem.run_pure, if_true, asInt, asIntOf, wn, c0, if_false, hti, hbb, c1, Int.toNat_natCast, c2, c3, false_and, c5, run_choose, Question.forced, hq, World.drew_eq, hcp, run_askRoom, hti', hbb', ho', c6, hz, newRow, run_newObj, World.alloc_eq, hsz, hsz', Bool.not_true, Bool.false_eq_true]
  rfl

/-- zeros, in place -/
theorem run_inplaceZ (hT : TOk P T) {t e t2 ty : Nat} {i ie i2 : TI} (ht : T t = some i) (hd : i.d = .slice e) (he : T e = some ie) (hb : ie.bytes ≠ 0) (ht2 : T t2 = some i2) (hi2 : i2.d = .int .i64) {w w' : World} {a : Addr} {n cap m : Nat} {z : Value}
    (h0 : 0 < m) (hmb : m * ie.bytes ≤ 2 ^ 48) (hz : (zeroValue e).run P w = .ok z w)
    (hm : n + m ≤ cap) (hst : (storeCells (a.add (n * ie.size)) (Builtin.zeroCells z.cells m).toList).run P w = .ok () w') :
    (Builtin.append_ #[t, t2] ty #[.slice (some a) n cap, .int .i64 m]).run P w = .ok (.slice (some a) (n + m) cap) w' := by
  have hu := (hT t i ht).d
  rw [hd] at hu
  have hu2 := (hT t2 i2 ht2).d
  rw [hi2] at hu2
  have hb1 : 1 ≤ ie.bytes := by omega
  have hm48 : (m : Int) ≤ 2 ^ 48 := by
    have : m * 1 ≤ m * ie.bytes := Nat.mul_le_mul_left m hb1
    omega
  have wn := wrap_small (show (0 : Int) ≤ (m : Int) by omega) hm48
  obtain ⟨ti, hti, hbb, hsz⟩ := (hT e ie he).run_typeInfo w
  have hszr := (hT e ie he).run_sizeOf w
  have hpos := (hT e ie he).pos
  have c0 : ¬ ((m : Int) < 0) := by omega
  have c1 : ¬ ((m : Int) * (ie.bytes : Int) > 2 ^ 48) := by
    have h' : ((m * ie.bytes : Nat) : Int) ≤ 2 ^ 48 := by omega
    rw [Int.natCast_mul] at h'
    omega
  have c6 : ¬ (m * ie.size = 0) := by
    intro h
    rcases Nat.mul_eq_zero.1 h with h | h
    · omega
    · exact hpos h
  simp only [Builtin.append_, List.getElem?_toArray, List.getElem?_cons_zero, List.getElem?_cons_succ, Sem.run_bind, run_underlying hu, run_underlying hu2, Result.andThen_ok, hszr, Sem.run_pure, if_true, asInt, asIntOf, wn, c0, if_false, hti, hbb, c1, Int.toNat_natCast, hm, c6, hz, hst, Bool.not_true, Bool.false_eq_true]

theorem lok_appendWZ (hT : TOk P T) {t e t2 : Nat} {x y : Operand} {i ie i2 : TI} {k κ sz n cp m : Nat} {ob : VObj} (ho : o.op = .call { callee := .builtin .append, args := #[x, y], argTypes := #[t, t2] }) (ht : T t = some i) (hd : i.d = .slice e) (he : T e = some ie) (hb : ie.bytes ≠ 0)
    (ht2 : T t2 = some i2) (hi2 : i2.d = .int .i64) (hx : ov x = .win k sz 0 n cp) (hy : ov y = .lit (.int .i64 m)) (hz : ie.size = sz) (hzo : ob.sz = sz) (hn : n = ob.rows.length) (hf : ob.frz = false) (hne : κ ≠ k) (h0 : 0 < m)
    (h1 : ∀ r ∈ List.replicate m ie.zero, r.all V.one = true) (hg : (2 * (n + m) + 192) * ie.bytes ≤ 2 ^ 48) : LOk P ov o [] [(k, ob)] [(κ, ⟨sz, ob.rows ++ List.replicate m ie.zero, false⟩)] (.win κ sz 0 (n + m) (n + m)) := by
  intro S ρ w a hr hs hnew next Q hK
  have hr := arg_reps ho hr
  have e1 := hr x (by simp)
  have e2 := hr y (by simp)
  rw [hy] at e2
  have e2 := e2.lit_inv
  have hs2 : Sim S ρ w (hpo [(k, ob)]) := hs.sub (sub_right (fun j hj => rfl))
  have hκ : ρ κ = none := hnew κ (by simp [hpo_one]) (by rw [hpo_one, if_neg hne])
  subst hz
  have hmb : m * ie.bytes ≤ 2 ^ 48 := Nat.le_trans (Nat.mul_le_mul_right _ (by omega)) hg
  have hnm : n + m ≤ 2 ^ 49 := by
    have h1 : (2 * (n + m) + 192) * 1 ≤ (2 * (n + m) + 192) * ie.bytes := Nat.mul_le_mul_left _ (by omega)
    omega
  obtain ⟨z, hzr, hz'⟩ := (hT e ie he).run_zero w
  obtain ⟨zd, hzd, hzd'⟩ := (hT e ie he).run_zero w.drew
  have hzs : z.cells.size = ie.size := by rw [← (hT e ie he).zlen, ← zAll_len _ _ hz']; simp
  have hzds : zd.cells.size = ie.size := by rw [← (hT e ie he).zlen, ← zAll_len _ _ hzd']; simp
  have hsrcx : Src P (ov x) ie.size n [(k, ob)] ob.rows := by
    rw [hx]
    have := src_win (P := P) (k := k) (lo := 0) (m := n) (cp := cp) hzo (by omega)
    rw [List.drop_zero, hn, List.take_length] at this
    rw [hn]
    exact this
  have hbase : ∃ (ad : Option Addr) (cap : Nat), a.eval x = .slice ad n cap ∧ n ≤ cap := by
    rw [hx] at e1
    generalize a.eval x = cx at e1
    cases e1 with
    | win hk hw hn' hc hf' ho' => exact ⟨_, _, rfl, by omega⟩
    | win0 => exact ⟨_, _, rfl, Nat.le_refl _⟩
  obtain ⟨ad, cap, hc, hcap⟩ := hbase
  rw [hc] at e1
  by_cases hin : n + m ≤ cap
  · rw [hx] at e1
    generalize hv : Value.slice ad n cap = v at e1
    cases e1 with
    | win hk hw hn' hcp hfit hoff =>
      rename_i b off cap' c t' fr
      simp only [Value.slice.injEq] at hv
      obtain ⟨rfl, _, rfl⟩ := hv
      obtain ⟨c0, t0, hw0, hR, _⟩ := hs2.at (hpo_one_self k ob) hk hw
      rw [hw] at hw0
      cases hw0
      rw [hzo] at hR
      have hoff' : off = 0 := by
        rcases hoff with h | h
        · simpa using h
        · omega
      subst hoff'
      subst hn
      have hsz : (ob.rows.length + m) * ie.size ≤ c.size := by
        have := Nat.mul_le_mul_right ie.size hin
        omega
      obtain ⟨q2, q3⟩ := zero_rows (S := S) (ρ := ρ) (w := w) (hT e ie he) hz' m
      rw [← hzs] at q2 q3
      have q2' : RowsAt S ρ w ie.size (List.replicate m ie.zero) (Builtin.zeroCells z.cells m) := by rw [← hzs]; exact q2
      have q3' : (Builtin.zeroCells z.cells m).size = (List.replicate m ie.zero).length * ie.size := by rw [List.length_replicate, ← hzs]; exact q3
      have hone := cells_one q2' q3' h1
      have hst : (storeCells (Addr.add ⟨b, 0, none⟩ (ob.rows.length * ie.size)) (Builtin.zeroCells z.cells m).toList).run P w = .ok () (World.block w b (.cells (wr c (ob.rows.length * ie.size) (Builtin.zeroCells z.cells m).toList) t' (0, 0))) := by
        rw [add_at, Nat.zero_add]
        have := run_storeCells (P := P) (Builtin.zeroCells z.cells m).toList w c (ob.rows.length * ie.size) 0 hw hone (by simp [q3']; rw [← Nat.add_mul]; exact hsz)
        simpa using this
      have hrun := run_inplaceZ (ty := o.type) hT ht hd he hb ht2 hi2 (a := ⟨b, 0, none⟩) (n := ob.rows.length) (cap := cap) h0 hmb hzr hin hst
      have hrows := rows_wr (pos := ob.rows.length) hR q2' q3' (Nat.le_refl _) (by rw [List.length_replicate]; exact hsz)
      rw [List.take_length, List.drop_eq_nil_of_le (by omega), List.append_nil] at hrows
      obtain ⟨p1, p2⟩ := rename_sim (ob' := ⟨ie.size, ob.rows ++ List.replicate m ie.zero, false⟩) hs2 hk hκ hw hf rfl (wr_size _ _ _) hrows
      have hex : (execOp a.eval o).run P w = .ok (.value (.slice (some ⟨b, 0, none⟩) (ob.rows.length + m) cap)) (World.block w b (.cells (wr c (ob.rows.length * ie.size) (Builtin.zeroCells z.cells m).toList) t' (0, 0))) := by
        simp [execOp, ho, resolve, invoke, builtin, hc, e2, hrun]
      simp only [Oper.wp, hex, Oper.upon]
      refine hK _ _ _ _ (.win (upd_same _ _ _) (c := wr c (ob.rows.length * ie.size) (Builtin.zeroCells z.cells m).toList) (t := t') (fr := (0, 0)) (by rw [block_get hw, if_pos rfl]) (Nat.le_refl _) hin ?_ (.inl (by simp))) p1 p2
      rw [wr_size]; exact hfit
    | win0 =>
      simp only [Value.slice.injEq] at hv
      omega
  · obtain ⟨old, p1, p1', p2, p3⟩ := hsrcx.drew e1 hs2 n (Nat.le_refl _)
    obtain ⟨q2, q3⟩ := zero_rows (S := S) (ρ := ρ) (w := w) (hT e ie he) hzd' m
    have q2' : RowsAt S ρ w ie.size (List.replicate m ie.zero) (Builtin.zeroCells zd.cells m) := by unfold Builtin.zeroCells; rw [hzds]; rw [hzds] at q2; exact q2
    have q3' : (Builtin.zeroCells zd.cells m).size = m * ie.size := by unfold Builtin.zeroCells; rw [hzds]; rw [hzds] at q3; exact q3
    obtain ⟨c, rest, hcc, hrun, hrest⟩ := run_growZ (ty := o.type) hT ht hd he hb ht2 hi2 h0 hmb hnm hzd hzds (by omega) (Nat.le_trans (Nat.mul_le_mul_right _ (nsc_le (by omega))) hg) p1 p1'
    subst hn
    rw [List.take_length] at p2
    have hex : (execOp a.eval o).run P w = .ok (.value (.slice (some ⟨w.heap.size, 0, none⟩) (ob.rows.length + m) c)) (w.drew.alloc (.cells (old ++ Builtin.zeroCells zd.cells m ++ rest) e)) := by
      simp [execOp, ho, resolve, invoke, builtin, hc, e2, hrun]
    obtain ⟨r1, r2⟩ := new_sim (pre := [(k, ob)]) (w' := w.drew.alloc (.cells (old ++ Builtin.zeroCells zd.cells m ++ rest) e)) hs.bnd hκ (ob := ⟨ie.size, ob.rows ++ List.replicate m ie.zero, false⟩) rfl (rows_app p2 q2' p3 (by rw [List.length_replicate]; exact q3')) rfl rfl rfl rfl
    simp only [Oper.wp, hex, Oper.upon]
    refine hK _ _ _ _ (.win (upd_same _ _ _) (show (w.drew.alloc _).heap[w.heap.size]? = _ from push_new rfl) (Nat.le_refl _) hcc ?_ (.inl (by simp))) r1 r2
    have hsz : c * ie.size = (ob.rows.length + m) * ie.size + (c - (ob.rows.length + m)) * ie.size := by rw [← Nat.add_mul]; congr 1; omega
    simp only [Array.size_append, p3, q3', hrest, Nat.zero_add]
    rw [hsz, Nat.add_mul]
    exact Nat.le_refl _
end
end Go.Proofs.Ytbieiehfohldjaa
namespace Go.Proofs.Ytbieiehfohldjaa
open Go
set_option linter.unusedVariables false
set_option linter.unusedSimpArgs false

/-- a function of values whose answer is told by new objects -/
structure FnN (P : Program) (k : FuncId) (args : List V) (r : V) (B' : GH) (n' : Nat) : Prop where
  ok : callOk P k = true
  lt : ∀ j, j ∈ B'.keys → j < n'
  nm : Nm (· ∈ B'.keys) r
  pl : ∀ p ∈ B', RowsNm (fun _ => False) p.2.2.rows
  fn : ∀ (S : Nat → Prop) (w : World) (vs : Array Value), vs.size = args.length → (∀ (i : Nat) (u : Value) (x : V), vs[i]? = some u → args[i]? = some x → Rep S noK w u x) → (∀ b, S b → b < w.heap.size) →
    Calls P k vs w fun e w' => ∃ v S' ρ', e = .returned v ∧ Rep S' ρ' w' v r ∧ Sim S' ρ' w' B'.hp ∧ Ext1 0 S noK w noH S' ρ' w' B'.hp

/-- names moved up, so deep -/
def shV (n d : Nat) : V → V := Nat.rec (motive := fun _ => V → V) (fun _ => .any) (fun _ ih v => match v with
  | .agg cs => .agg (cs.map ih)
  | .tup cs => .tup (cs.map ih)
  | .fn f cs => .fn f (cs.map ih)
  | .win k sz lo m cp => .win (k + n) sz lo m cp
  | .ptr k sz i off => .ptr (k + n) sz i off
  | .mp k => .mp (k + n)
  | v => v) d
def shG (n : Nat) (B : GH) : GH := B.map fun p => (p.1 + n, p.2)
theorem shG_keys (n : Nat) : ∀ (B : GH), (shG n B).keys = B.keys.map (· + n)
  | [] => rfl
  | (k, s, o) :: B => by
    have ih := shG_keys n B
    simp only [shG, List.map_cons, GH.keys] at ih ⊢
    rw [ih]
theorem GH.mem_of_hp : ∀ {B : GH} {k : Nat} {o : VObj}, B.hp k = some o → ∃ q ∈ B, q.2.2 = o
  | [], k, o, h => by simp [GH.hp] at h
  | (j, s, o') :: B, k, o, h => by
    simp only [GH.hp, upd] at h
    split at h
    · cases h; exact ⟨_, List.mem_cons_self, rfl⟩
    · obtain ⟨q, h1, h2⟩ := GH.mem_of_hp h
      exact ⟨q, List.mem_cons_of_mem _ h1, h2⟩
theorem shG_hp (n : Nat) : ∀ (B : GH) (k : Nat), (shG n B).hp k = if n ≤ k then B.hp (k - n) else none
  | [], k => by simp [shG, GH.hp]
  | (j, s, o) :: B, k => by
    have ih := shG_hp n B k
    simp only [shG, List.map_cons, GH.hp, upd] at ih ⊢
    by_cases h : k = j + n
    · subst h
      rw [if_pos rfl, if_pos (by omega), Nat.add_sub_cancel, if_pos rfl]
    · rw [if_neg h, ih]
      by_cases h2 : n ≤ k
      · rw [if_pos h2, if_pos h2, if_neg (by omega)]
      · rw [if_neg h2, if_neg h2]
theorem rep_sh {p : Nat → Prop} {S : Nat → Prop} {ρ ρ2 : KM} {w : World} {n : Nat} (hρ : ∀ k b, p k → ρ k = some b → ρ2 (k + n) = some b) : ∀ (d : Nat) (x : V) (u : Value), Nm p x → Rep S ρ w u x → Rep S ρ2 w u (shV n d x)
  | 0, x, u, _, _ => .any
  | d + 1, x, u, hn, h => by
    have lst : ∀ (cs : List V) (vs : Array Value), (∀ x ∈ cs, Nm p x) → vs.size = cs.length → (∀ (i : Nat) (u : Value) (x : V), vs[i]? = some u → cs[i]? = some x → Rep S ρ w u x) →
        vs.size = (cs.map (shV n d)).length ∧ ∀ (i : Nat) (u : Value) (x : V), vs[i]? = some u → (cs.map (shV n d))[i]? = some x → Rep S ρ2 w u x := fun cs vs h1 h2 h3 => by
      refine ⟨by simp [h2], fun i u x a b => ?_⟩
      rw [List.getElem?_map] at b
      obtain ⟨y, hy, rfl⟩ := Option.map_eq_some_iff.1 b
      exact rep_sh hρ d y u (h1 y (List.mem_of_getElem? hy)) (h3 i u y a hy)
    have same : ∀ {y : V}, Nm (fun _ => False) y → Rep S ρ w u y → Rep S ρ2 w u y := fun h1 h2 => h1.rep (fun k b h => h.elim) h2
    cases hn with
    | any => exact .any
    | lit => exact same .lit h
    | agg hc => cases h with | agg hl h => obtain ⟨a, b⟩ := lst _ _ hc hl h; exact .agg a b
    | tup hc => cases h with | tup hl h => obtain ⟨a, b⟩ := lst _ _ hc hl h; exact .tup a b
    | sl => exact same .sl h
    | sls => exact same .sls h
    | win hp =>
      cases h with
      | win a b c d e f => exact .win (hρ _ _ hp a) b c d e f
      | win0 => exact .win0
    | ptr hp => cases h with | ptr a b => exact .ptr (hρ _ _ hp a) b
    | ip => exact same .ip h
    | mp hp => cases h with | mp a b => exact .mp (hρ _ _ hp a) b
    | fn hc => cases h with | fn hl h => obtain ⟨a, b⟩ := lst _ _ hc hl h; exact .fn a b

section
variable {P : Program} {ov : Operand → V} {o : Oper}
/-- a call of it: what it was lent never changes any more -/
theorem lok_callN {f : Operand} {xs : Array Operand} {ts : Array TypeId} {kf : Nat} {caps cargs : List V} {B : HL} {B' : GH} {r : V} {nx n' : Nat} (d : Nat) (ho : o.op = .call { callee := .value f, args := xs, argTypes := ts }) (hf : ov f = .fn kf caps) (hc : FnN P kf cargs r B' n')
    (hlen : cargs.length = (xs.toList.map ov ++ caps).length) (hargs : ∀ (i : Nat) (x y : V), cargs[i]? = some x → (xs.toList.map ov ++ caps)[i]? = some y → Wv (hpo B) noK x y) (hB : ∀ k, k ∈ keysOf B → k < nx) : LOk P ov o [] B ((shG nx B').hl ++ frozen B) (shV nx d r) := by
  intro S ρ w a hx hs hn next Q hK
  simp only [List.nil_append] at hs
  obtain ⟨vs, hrun, h1, h2⟩ := run_call ho hf hc.ok hx
  obtain ⟨g1, g2⟩ := pure_args hlen hargs h1 h2 hs
  simp only [Oper.wp, hrun, Oper.upon]
  refine (hc.fn (SB S ρ (hpo B)) w vs g1 g2 (sb_bnd hs)).mono fun e w' h => ?_
  obtain ⟨v, S', ρ', rfl, q1, q2, q3⟩ := h
  have hold : ∀ b, b < w.heap.size → w'.heap[b]? = w.heap[b]? := fun b hb => q3.block b hb (fun ⟨k, o, h, _⟩ => by cases h)
  have hBn : ∀ k, nx ≤ k → hpo B k = none := fun k hk => hpo_none fun h => by have := hB k h; omega
  have hpn : ∀ k, hpo ((shG nx B').hl ++ frozen B) k = match (shG nx B').hp k with
      | some o => some o
      | none => (hpo B k).map fun o => { o with frz := true } := fun k => by
    rw [hpo_app, GH.hp_hl, frozen_at']
    cases (shG nx B').hp k <;> rfl
  have hnone : ∀ k, nx ≤ k → B'.hp (k - nx) ≠ none → ρ k = none := fun k hk h => by
    refine hn k ?_ (hBn k hk)
    rw [hpn, shG_hp, if_pos hk]
    cases hh : B'.hp (k - nx) with
    | none => exact absurd hh h
    | some o => simp
  let ρ2 : KM := fun k => if nx ≤ k ∧ B'.hp (k - nx) ≠ none then ρ' (k - nx) else ρ k
  have r1 : ∀ k, nx ≤ k → B'.hp (k - nx) ≠ none → ρ2 k = ρ' (k - nx) := fun k a b => by simp only [ρ2]; rw [if_pos ⟨a, b⟩]
  have r2 : ∀ k, ¬ (nx ≤ k ∧ B'.hp (k - nx) ≠ none) → ρ2 k = ρ k := fun k a => by simp only [ρ2]; rw [if_neg a]
  have hkey : ∀ k b, k ∈ B'.keys → ρ' k = some b → ρ2 (k + nx) = some b := fun k b h1 h2 => by
    rw [r1 (k + nx) (by omega) (by rw [Nat.add_sub_cancel]; exact GH.hp_keys.2 h1), Nat.add_sub_cancel]; exact h2
  have hup2 : ∀ k b, ρ k = some b → ρ2 k = some b := fun k b h => by
    by_cases hc : nx ≤ k ∧ B'.hp (k - nx) ≠ none
    · rw [hnone k hc.1 hc.2] at h; cases h
    · rw [r2 k hc]; exact h
  have hrep : Rep S' ρ2 w' v (shV nx d r) := rep_sh hkey d r v hc.nm q1
  have hup : ∀ {u : Value} {x : V}, Rep S ρ w u x → Rep S' ρ2 w' u x := fun h => h.mono (fun b h => q3.more b (.inl h)) (fun b hb => hold b (hs.bnd b hb)) hup2 q3.keeps
  have sp : ∀ k o, hpo ((shG nx B').hl ++ frozen B) k = some o → (nx ≤ k ∧ B'.hp (k - nx) = some o) ∨ (¬ (nx ≤ k ∧ B'.hp (k - nx) ≠ none) ∧ k < nx ∧ ∃ o0, hpo B k = some o0 ∧ o = { o0 with frz := true }) := fun k o h => by
    rw [hpn, shG_hp] at h
    by_cases hk : nx ≤ k
    · rw [if_pos hk] at h
      cases hh : B'.hp (k - nx) with
      | some o' => rw [hh] at h; cases h; exact .inl ⟨hk, rfl⟩
      | none => rw [hh, hBn k hk] at h; cases h
    · rw [if_neg hk] at h
      cases hb : hpo B k with
      | none => rw [hb] at h; cases h
      | some o0 => rw [hb] at h; cases h; exact .inr ⟨fun q => hk q.1, by omega, o0, rfl, rfl⟩
  refine hK v S' ρ2 w' hrep ⟨fun k o hk => ?_, fun k k' o o' b a1 a2 a3 a4 => ?_, q2.bnd⟩ ?_
  · rcases sp k o hk with ⟨k1, k2⟩ | ⟨k1, k2, o0, h0, rfl⟩
    · have e := r1 k k1 (by rw [k2]; simp)
      rcases q2.obj (k - nx) o k2 with ⟨b, cc, t, p1, p2, p3, p4, p5⟩ | ⟨p1, p2⟩
      · refine .inl ⟨b, cc, t, by rw [e]; exact p1, p2, ⟨p3.1, p3.2.1, fun i j r u x z1 z2 z3 => ?_⟩, p4, p5⟩
        obtain ⟨q, hq1, hq2⟩ := GH.mem_of_hp k2
        exact (hc.pl _ hq1 r (by rw [hq2]; exact List.mem_of_getElem? z1) x (List.mem_of_getElem? z2)).rep (fun k b h _ => h.elim) (p3.2.2 i j r u x z1 z2 z3)
      · exact .inr ⟨by rw [e]; exact p1, p2⟩
    · have e := r2 k k1
      rcases hs.obj k o0 h0 with ⟨b, c, t, p1, p2, p3, p4, p5⟩ | ⟨p1, p2⟩
      · refine .inl ⟨b, c, t, by rw [e]; exact p1, ?_, p3.mono fun u x h => hup h, fun _ => q3.more b (.inr ⟨k, o0, h0, p1⟩), fun h => by cases h⟩
        exact p2.of (hold b (hs.lt h0 p1))
      · exact .inr ⟨by rw [e]; exact p1, p2⟩
  · have fresh : ∀ k o b, nx ≤ k → B'.hp (k - nx) = some o → ρ2 k = some b → w.heap.size ≤ b := fun k o b k1 k2 h => by
      rw [r1 k k1 (by rw [k2]; simp)] at h
      rcases q3.live b ⟨_, o, k2, h⟩ with h | ⟨_, _, h, _⟩
      · exact h
      · cases h
    have oldb : ∀ k o0 b, ¬ (nx ≤ k ∧ B'.hp (k - nx) ≠ none) → hpo B k = some o0 → ρ2 k = some b → ρ k = some b ∧ b < w.heap.size := fun k o0 b k1 k2 h => by
      rw [r2 k k1] at h
      exact ⟨h, hs.lt k2 h⟩
    rcases sp k o a1 with ⟨k1, k2⟩ | ⟨k1, _, o0, h0, _⟩
    · rcases sp k' o' a2 with ⟨k1', k2'⟩ | ⟨k1', _, o0', h0', _⟩
      · rw [r1 k k1 (by rw [k2]; simp)] at a3
        rw [r1 k' k1' (by rw [k2']; simp)] at a4
        have := q2.inj _ _ _ _ _ k2 k2' a3 a4
        omega
      · have := fresh k o b k1 k2 a3
        have := (oldb k' o0' b k1' h0' a4).2
        omega
    · rcases sp k' o' a2 with ⟨k1', k2'⟩ | ⟨k1', _, o0', h0', _⟩
      · have := fresh k' o' b k1' k2' a4
        have := (oldb k o0 b k1 h0 a3).2
        omega
      · exact hs.inj k k' o0 o0' b h0 h0' (oldb k o0 b k1 h0 a3).1 (oldb k' o0' b k1' h0' a4).1
  · exact { os := q3.os, tape := q3.tape, output := q3.output, size := q3.size, block := fun b hb _ => hold b hb, keeps := q3.keeps, more := fun b h => q3.more b (.inl h)
            only := fun b h => by
              rcases q3.only b h with h | h | ⟨k, o, h, _⟩
              · rcases h with h | ⟨k, o, g1, g2⟩
                · exact .inl h
                · have g3 := (hs.frz g1 g2).1
                  cases hf : o.frz with
                  | true => exact .inl (g3 hf)
                  | false => exact .inr (.inr ⟨k, o, g1, hf, g2⟩)
              · exact .inr (.inl h)
              · cases h
            live := fun b ⟨k, o, h, hb⟩ => by
              rcases sp k o h with ⟨k1, k2⟩ | ⟨k1, _, o0, h0, _⟩
              · rw [r1 k k1 (by rw [k2]; simp)] at hb
                rcases q3.live b ⟨_, o, k2, hb⟩ with h | ⟨_, _, h, _⟩
                · exact .inl h
                · cases h
              · rw [r2 k k1] at hb
                exact .inr ⟨k, o0, h0, hb⟩
            own := fun b ⟨k, o, h, hf, hb⟩ => by
              rcases sp k o h with ⟨k1, k2⟩ | ⟨k1, _, o0, h0, rfl⟩
              · rw [r1 k k1 (by rw [k2]; simp)] at hb
                rcases q3.own b ⟨_, o, k2, hf, hb⟩ with h | ⟨_, _, h, _⟩
                · exact .inl h
                · cases h
              · cases hf
            keys := hup2
            dom := fun k b h => by
              by_cases hc : nx ≤ k ∧ B'.hp (k - nx) ≠ none
              · refine .inr ?_
                rw [hpn, shG_hp, if_pos hc.1]
                cases hh : B'.hp (k - nx) with
                | none => exact absurd hh hc.2
                | some o => exact ⟨o, rfl⟩
              · rw [r2 k hc] at h; exact .inl h }
end
end Go.Proofs.Ytbieiehfohldjaa
namespace Go.Proofs.Ytbieiehfohldjaa
open Go
set_option linter.unusedVariables false
set_option linter.unusedSimpArgs false

/-- a contract, and that there is such a function -/
structure FnC (P : Program) (k : FuncId) (args : List V) (F : HL) (r : V) (F' : HL) : Prop where
  ok : callOk P k = true
  fn : Fn P k args F r F'

section
variable {P : Program} {T : TT} {ov : Operand → V} {o : Oper} {nx : Nat} {H : GH} {K : Eff → V → Prop}

def V.lenQ : V → Option Nat
  | .lit (.string s) => some s.size
  | .lit (.slice none 0 0) => some 0
  | .win _ _ _ n _ => some n
  | .sl _ l => some l.length
  | .sls _ l _ _ => some l.length
  | _ => none
theorem V.lenQ_len {x : V} {n : Nat} (h : x.lenQ = some n) : x.len? = some n := by
  unfold V.lenQ at h
  split at h <;> first | exact h | cases h
def lenE (T : TT) (t : Nat) (x : V) (K : Eff → V → Prop) : Prop := tiK T t fun i => match i.d with
  | .string => match x with
    | .lit (.string s) => K (.rd []) (.lit (.int .i64 s.size))
    | _ => False
  | .slice _ => chkK x.isSl <| optK x.lenQ fun n => K (.rd []) (.lit (.int .i64 n))
  | _ => False
theorem lenE_sound (hT : TOk P T) {t : Nat} {x : Operand} (ho : o.op = .call { callee := .builtin .len, args := #[x], argTypes := #[t] }) (h : lenE T t (ov x) K) : Res P ov o nx H.hp K := by
  obtain ⟨i, ht, h⟩ := tiK_sound h
  split at h
  · rename_i hd
    split at h
    · rename_i s hx
      exact res_rd (lok_len hT ho ht (.inl ⟨hd, s, hx⟩) (by rw [hx]; rfl)) h
    · exact h.elim
  · rename_i e hd
    obtain ⟨hs, h⟩ := chkK_sound h
    obtain ⟨n, hn, h⟩ := optK_sound h
    exact res_rd (lok_len hT ho ht (.inr ⟨⟨e, hd⟩, fun s e => by rw [e] at hs; cases hs⟩) (V.lenQ_len hn)) h
  · exact h.elim

def mmE (mx : Bool) (x y : V) (K : Eff → V → Prop) : Prop := match x with
  | .lit (.int k m) => match y with
    | .lit (.int _ n) => match mx with
      | true => ∃ z : Int, z = max m n ∧ K (.rd []) (.lit (.int k z))
      | false => ∃ z : Int, z = min m n ∧ K (.rd []) (.lit (.int k z))
    | _ => False
  | _ => False
theorem minE_sound {x y : Operand} {ts : Array TypeId} (ho : o.op = .call { callee := .builtin .min, args := #[x, y], argTypes := ts }) (h : mmE false (ov x) (ov y) K) : Res P ov o nx H.hp K := by
  unfold mmE at h
  split at h
  · rename_i hx
    split at h
    · rename_i hy
      obtain ⟨z, rfl, h⟩ := h
      exact res_rd (lok_min ho hx hy) h
    · exact h.elim
  · exact h.elim
theorem maxE_sound {x y : Operand} {ts : Array TypeId} (ho : o.op = .call { callee := .builtin .max, args := #[x, y], argTypes := ts }) (h : mmE true (ov x) (ov y) K) : Res P ov o nx H.hp K := by
  unfold mmE at h
  split at h
  · rename_i hx
    split at h
    · rename_i hy
      obtain ⟨z, rfl, h⟩ := h
      exact res_rd (lok_max ho hx hy) h
    · exact h.elim
  · exact h.elim

def TD.isSeq : TD → Bool
  | .string => true
  | .slice _ => true
  | _ => false
theorem TD.seq {d : TD} (h : d.isSeq = true) : d = .string ∨ ∃ e, d = .slice e := by
  cases d <;> first | exact .inl rfl | exact .inr ⟨_, rfl⟩ | cases h
def apartQ (d : HL) (k : Nat) : Bool := !((keysOf d).contains k)
theorem apartQ_sound {d : HL} {k : Nat} {ob : VObj} (h : apartQ d k = true) : Apart d [(k, ob)] := fun j hj => by
  rw [hpo_one] at hj
  split at hj
  · rename_i e
    subst e
    refine hpo_none ?_
    simpa [apartQ] using h
  · exact absurd rfl hj
def oneRows (N : List (List V)) : Prop := ∀ r ∈ N, r.all V.one = true

/-- as many zeros behind nil, or behind all that an object holds -/
def appZ (H : GH) (nx : Nat) (ie : TI) (x y : V) (K : Eff → V → Prop) : Prop := match x with
  | .lit (.slice none 0 0) => match y with
    | .lit (.int .i64 n) => 0 < n ∧ n * ie.bytes ≤ 2 ^ 48 ∧ K (.nw [] false ⟨ie.size, [], false⟩) (.win nx ie.size 0 n.toNat n.toNat)
    | _ => False
  | .win k sz 0 n cp => H.getK k fun sy ob => chkK (!ob.frz && Nat.blt k nx && Nat.beq ie.size sz && Nat.beq ob.sz sz) <| match y with
    | .lit (.int .i64 m) => n = ob.rows.length ∧ 0 < m ∧ (2 * (n + m.toNat) + 192) * ie.bytes ≤ 2 ^ 48 ∧ fCs ie.zero fun z => fRs (List.replicate m.toNat z) fun N => oneRows N ∧ K (.sw [] k ob ⟨sz, ob.rows ++ N, false⟩) (.win nx sz 0 (n + m.toNat) (n + m.toNat))
    | _ => False
  | _ => False
def TD.isI64 : TD → Bool
  | .int .i64 => true
  | _ => false
theorem TD.i64 {d : TD} (h : d.isI64 = true) : d = .int .i64 := by
  cases d with
  | int k => cases k <;> first | rfl | cases h
  | _ => cases h
def appE (T : TT) (H : GH) (nx : Nat) (t t2 : Nat) (x y : V) (K : Eff → V → Prop) : Prop := tiK T t fun i => match i.d with
  | .slice e => tiK T e fun ie => tiK T t2 fun i2 => condN i2.d.isI64 (chkK (!(Nat.beq ie.bytes 0)) <| appZ H nx ie x y K) <| chkK (i2.d.isSeq && !(Nat.beq ie.bytes 0)) <| srcE H y ie.size fun rd N => match x with
    | .win k sz 0 n cp => H.getK k fun sy ob => chkK (!ob.frz && Nat.blt k nx && Nat.beq ie.size sz && Nat.beq ob.sz sz && apartQ rd k) <|
        n = ob.rows.length ∧ oneRows N ∧ (2 * (n + N.length) + 192) * ie.bytes ≤ 2 ^ 48 ∧ K (.sw rd k ob ⟨sz, ob.rows ++ N, false⟩) (.win nx sz 0 (ob.rows ++ N).length (ob.rows ++ N).length)
    | .sls sz L nn ex => chkK (ex && Nat.beq sz ie.size) <| (N = [] → L = []) ∧ (2 * (L.length + N.length) + 192) * ie.bytes ≤ 2 ^ 48 ∧ K (.nw rd true ⟨ie.size, L ++ N, false⟩) (.win nx ie.size 0 (L ++ N).length (L ++ N).length)
    | .lit (.slice none 0 0) => (2 * N.length + 192) * ie.bytes ≤ 2 ^ 48 ∧ K (.nw rd true ⟨ie.size, N, false⟩) (.win nx ie.size 0 N.length N.length)
    | _ => False
  | _ => False
theorem appE_sound (hT : TOk P T) {t t2 : Nat} {x y : Operand} (ho : o.op = .call { callee := .builtin .append, args := #[x, y], argTypes := #[t, t2] }) (h : appE T H nx t t2 (ov x) (ov y) K) : Res P ov o nx H.hp K := by
  obtain ⟨i, ht, h⟩ := tiK_sound h
  split at h
  · rename_i e hd
    obtain ⟨ie, he, h⟩ := tiK_sound h
    obtain ⟨i2, ht2, h⟩ := tiK_sound h
    rcases condN_sound h with ⟨hz, h⟩ | ⟨_, h⟩
    · obtain ⟨hc, h⟩ := chkK_sound h
      have hb : ie.bytes ≠ 0 := fun e => by rw [e] at hc; exact absurd hc (by decide)
      unfold appZ at h
      split at h
      · rename_i hx
        split at h
        · rename_i n hy
          obtain ⟨h0, hg, h⟩ := h
          exact res_nw (lok_appendZ hT ho ht hd he hb ht2 (TD.i64 hz) hx hy h0 hg) h
        · exact h.elim
      · rename_i k sz n cp hx
        obtain ⟨sy, ob, hk, h⟩ := GH.getK_sound _ _ h
        obtain ⟨hq, h⟩ := chkK_sound h
        simp only [Bool.and_eq_true] at hq
        obtain ⟨⟨⟨q1, q2⟩, q3⟩, q4⟩ := hq
        have hlt : k < nx := Nat.le_of_ble_eq_true q2
        split at h
        · rename_i m hy
          obtain ⟨hn, h0, hg, h⟩ := h
          obtain ⟨h1, h⟩ := fRs_sound _ (fCs_sound _ h)
          have hy' : ov y = .lit (.int .i64 (m.toNat : Int)) := by rw [hy, Int.toNat_of_nonneg (Int.le_of_lt h0)]
          have hl := lok_appendWZ (κ := nx) hT ho ht hd he hb ht2 (TD.i64 hz) hx hy' (Nat.eq_of_beq_eq_true q3) (Nat.eq_of_beq_eq_true q4) hn (by simpa using q1) (by omega) (by omega) h1 hg
          exact ⟨.sw [] k ob _, _, ⟨hl, (fun _ _ h => by cases h), hk⟩, h⟩
        · exact h.elim
      · exact h.elim
    obtain ⟨hc, h⟩ := chkK_sound h
    rw [Bool.and_eq_true] at hc
    have hi2 := TD.seq hc.1
    have hb : ie.bytes ≠ 0 := fun e => by rw [e] at hc; exact absurd hc.2 (by decide)
    obtain ⟨rd, N, hsrc, hsub, h⟩ := srcE_sound (P := P) h
    split at h
    · rename_i k sz n cp hx
      obtain ⟨sy, ob, hk, h⟩ := GH.getK_sound _ _ h
      obtain ⟨hq, hn, h1, hg, h⟩ := chkK_sound h
      simp only [Bool.and_eq_true] at hq
      obtain ⟨⟨⟨⟨q1, q2⟩, q3⟩, q4⟩, q5⟩ := hq
      have hlt : k < nx := Nat.le_of_ble_eq_true q2
      have hl := lok_appendW (κ := nx) hT ho ht hd he hb ht2 hi2 hx (Nat.eq_of_beq_eq_true q3) (Nat.eq_of_beq_eq_true q4) hn (by simpa using q1) hsrc (apartQ_sound q5) (by omega) h1 hg
      rw [hn, ← List.length_append] at hl
      exact ⟨.sw rd k ob _, _, ⟨hl, hsub, hk⟩, h⟩
    · rename_i sz L nn ex hx
      obtain ⟨hq, hN, hg, hK⟩ := chkK_sound h
      clear h
      rw [Bool.and_eq_true] at hq
      have hz := Nat.eq_of_beq_eq_true hq.2
      have := hq.1
      subst this
      have hl := lok_appendN (κ := nx) hT ho ht hd he hb ht2 hi2 (.inl ⟨sz, nn, hx, .inl hz⟩) hsrc hN hg
      rw [← List.length_append] at hl
      exact ⟨.nw rd true _, _, ⟨hl, hsub⟩, hK⟩
    · rename_i hx
      obtain ⟨hg, h⟩ := h
      have hl := lok_appendN (κ := nx) (L := []) hT ho ht hd he hb ht2 hi2 (.inr ⟨hx, rfl⟩) hsrc (fun _ => rfl) (by simpa using hg)
      simp only [List.length_nil, Nat.zero_add, List.nil_append] at hl
      exact ⟨.nw rd true _, _, ⟨hl, hsub⟩, h⟩
    · exact h.elim
  · exact h.elim

def selfK (rd : HL) (k : Nat) (X : Prop) : Prop := match rd with
  | [(j, _)] => chkK (Nat.beq j k) X
  | _ => False
theorem selfK_sound {rd : HL} {k : Nat} {X : Prop} (h : selfK rd k X) : (∃ ob, rd = [(k, ob)]) ∧ X := by
  match rd, h with
  | [(j, ob)], h =>
    obtain ⟨q, h⟩ := chkK_sound h
    exact ⟨⟨ob, by rw [Nat.eq_of_beq_eq_true q]⟩, h⟩
def copyE (T : TT) (H : GH) (nx : Nat) (t : Nat) (x y : V) (K : Eff → V → Prop) : Prop := tiK T t fun i => match i.d with
  | .slice e => tiK T e fun ie => srcE H y ie.size fun rd N => match x with
    | .win k sz lo n cp => H.getK k fun sy ob => chkK (!ob.frz && Nat.blt k nx && Nat.beq ie.size sz && Nat.beq ob.sz sz) <|
        match apartQ rd k with
        | true => oneRows N ∧ n ≤ cp ∧ lo + min N.length n ≤ ob.rows.length ∧ K (.wr rd k ob ⟨sz, ob.rows.take lo ++ N.take (min N.length n) ++ ob.rows.drop (lo + min N.length n), false⟩) (.lit (.int .i64 (min N.length n : Nat)))
        | false => selfK rd k (oneRows N ∧ n ≤ cp ∧ lo + min N.length n ≤ ob.rows.length ∧ K (.wr [] k ob ⟨sz, ob.rows.take lo ++ N.take (min N.length n) ++ ob.rows.drop (lo + min N.length n), false⟩) (.lit (.int .i64 (min N.length n : Nat))))
    | _ => False
  | _ => False
theorem copyE_sound (hT : TOk P T) {t t2 : Nat} {x y : Operand} (ho : o.op = .call { callee := .builtin .copy, args := #[x, y], argTypes := #[t, t2] }) (h : copyE T H nx t (ov x) (ov y) K) : Res P ov o nx H.hp K := by
  obtain ⟨i, ht, h⟩ := tiK_sound h
  split at h
  · rename_i e hd
    obtain ⟨ie, he, h⟩ := tiK_sound h
    obtain ⟨rd, N, hsrc, hsub, h⟩ := srcE_sound (P := P) h
    split at h
    · rename_i k sz lo n cp hx
      obtain ⟨sy, ob, hk, h⟩ := GH.getK_sound _ _ h
      obtain ⟨hq, h⟩ := chkK_sound h
      simp only [Bool.and_eq_true] at hq
      obtain ⟨⟨⟨q1, q2⟩, q3⟩, q4⟩ := hq
      have hlt : k < nx := Nat.le_of_ble_eq_true q2
      split at h
      · rename_i q5
        obtain ⟨h1, hn, hl, h⟩ := h
        have hl := lok_copy hT ho ht hd he hx (Nat.eq_of_beq_eq_true q3) (Nat.eq_of_beq_eq_true q4) (by simpa using q1) hsrc (apartQ_sound q5) rfl h1 hn hl
        exact ⟨.wr rd k ob _, _, ⟨hl, hsub, hk, hlt⟩, h⟩
      · obtain ⟨⟨ob2, rfl⟩, h1, hn, hl, hKK⟩ := selfK_sound h
        have e : H.hp k = some ob2 := hsub k ob2 (hpo_one_self _ _)
        rw [hk] at e
        cases e
        have hl := lok_copy_self hT ho ht hd he hx (Nat.eq_of_beq_eq_true q3) (Nat.eq_of_beq_eq_true q4) (by simpa using q1) hsrc rfl h1 hn hl
        exact ⟨.wr [] k ob _, _, ⟨hl, Sub.nil _, hk, hlt⟩, hKK⟩
    · exact h.elim
  · exact h.elim

/- CALLS OF FUNCTIONS OF VALUES -/
/-- a cell as a contract tells it -/
def cvC (H : GH) (v : V) (K : V → HL → Prop) : Prop := match v with
  | .win k sz lo n cp => H.getK k fun sy ob => chkK (Nat.beq ob.sz sz) <| lo + n ≤ ob.rows.length ∧ rowsPlain ob.rows ∧ K (.sl sz ((ob.rows.drop lo).take n)) [(k, ob)]
  | .sls sz l nn ex => K (.sl sz l) []
  | .lit (.slice none 0 0) => ∃ sz, K (.sl sz []) []
  | .lit v => K (.lit v) []
  | .sl sz l => K (.sl sz l) []
  | .ip cs => K (.ip cs) []
  | .any => K .any []
  | _ => False
def cvCs (H : GH) (l : List V) : (List V → HL → Prop) → Prop := List.rec (motive := fun _ => (List V → HL → Prop) → Prop) (fun K => K [] []) (fun v _ ih K => cvC H v fun v B => ih fun l B' => K (v :: l) (B ++ B')) l
def cvA (H : GH) (v : V) (K : V → HL → Prop) : Prop := match v with
  | .agg cs => cvCs H cs fun cs B => K (.agg cs) B
  | v => cvC H v K
def cvAs (H : GH) (l : List V) : (List V → HL → Prop) → Prop := List.rec (motive := fun _ => (List V → HL → Prop) → Prop) (fun K => K [] []) (fun v _ ih K => cvA H v fun v B => ih fun l B' => K (v :: l) (B ++ B')) l

/-- lists -/
def cvL (f : V → (V → HL → Prop) → Prop) (l : List V) : (List V → HL → Prop) → Prop := List.rec (motive := fun _ => (List V → HL → Prop) → Prop) (fun K => K [] []) (fun v _ ih K => f v fun v B => ih fun l B' => K (v :: l) (B ++ B')) l
/-- functions with what they have captured, and pointers to what never changes any more -/
def cvN (H : GH) (n : Nat) : V → (V → HL → Prop) → Prop := Nat.rec (motive := fun _ => V → (V → HL → Prop) → Prop) (cvC H) (fun _ ih v K => match v with
  | .agg cs => cvL ih cs fun cs B => K (.agg cs) B
  | .fn f caps => cvL ih caps fun cs B => K (.fn f cs) B
  | .ptr k sz i off => H.getK k fun sy ob => chkK (Nat.beq ob.sz sz) <| rowK sy ob i fun row => chkK (Nat.ble off row.length) <| cvL ih (row.drop off) fun cs B => K (.ip cs) ((k, ob) :: B)
  | v => cvC H v K) n
def cvGs (H : GH) (l : List V) : (List V → HL → Prop) → Prop := cvL (cvN H 4) l

def AllAt (H : Hp) (B : HL) : Prop := ∀ p ∈ B, H p.1 = some p.2
theorem AllAt.sub {H : Hp} : ∀ {B : HL}, AllAt H B → Sub (hpo B) H
  | [], _ => Sub.nil H
  | (k, o) :: B, h => Sub.cons (h (k, o) (by simp)) (AllAt.sub fun p hp => h p (by simp [hp]))
theorem AllAt.mem {H : Hp} : ∀ {B : HL} {p : Nat × VObj}, AllAt H B → p ∈ B → hpo B p.1 = some p.2
  | (k, o) :: B, p, h, hp => by
    simp only [hpo, upd]
    split
    · rename_i e
      have h1 := h (k, o) (by simp)
      have h2 := h p hp
      rw [e] at h2
      simp only at h1
      rw [h1] at h2
      exact h2
    · rename_i e
      rcases List.mem_cons.1 hp with rfl | hp
      · exact absurd rfl e
      · exact AllAt.mem (fun p hp => h p (by simp [hp])) hp
theorem AllAt.app {H : Hp} {B B' : HL} (h : AllAt H B) (h' : AllAt H B') : AllAt H (B ++ B') := fun p hp => by
  rcases List.mem_append.1 hp with hp | hp
  · exact h p hp
  · exact h' p hp

/-- told as a contract does: for every memory in which these objects lie -/
def CvOk (H : Hp) (c a : V) (B : HL) : Prop := AllAt H B ∧ ∀ G : Hp, (∀ p ∈ B, G p.1 = some p.2) → Wv G noK c a
theorem cvC_sound {v : V} {K : V → HL → Prop} (h : cvC H v K) : ∃ c B, CvOk H.hp c v B ∧ K c B := by
  unfold cvC at h
  split at h
  · rename_i k sz lo n cp
    obtain ⟨sy, ob, hk, h⟩ := GH.getK_sound _ _ h
    obtain ⟨hz, hl, hp, h⟩ := chkK_sound h
    refine ⟨_, _, ⟨fun p hp => by simp only [List.mem_singleton] at hp; subst hp; exact hk, fun G hG => ?_⟩, h⟩
    have hG := hG (k, ob) (by simp)
    have := rc_wv (H := G) (τ := noK) (x := .win k sz lo n cp) (by simp only [okc, hG]; exact ⟨Nat.eq_of_beq_eq_true hz, hl, hp⟩)
    simpa only [rc, hG] using this
  · exact ⟨_, _, ⟨fun p hp => by simp at hp, fun _ _ => .slsl⟩, h⟩
  · obtain ⟨sz, h⟩ := h
    exact ⟨_, _, ⟨fun p hp => by simp at hp, fun _ _ => .nil⟩, h⟩
  · exact ⟨_, _, ⟨fun p hp => by simp at hp, fun _ _ => .lit⟩, h⟩
  · exact ⟨_, _, ⟨fun p hp => by simp at hp, fun _ _ => .sl⟩, h⟩
  · exact ⟨_, _, ⟨fun p hp => by simp at hp, fun _ _ => .ip⟩, h⟩
  · exact ⟨_, _, ⟨fun p hp => by simp at hp, fun _ _ => .any⟩, h⟩
  · exact h.elim
def CvsOk (H : Hp) (cs as : List V) (B : HL) : Prop := AllAt H B ∧ cs.length = as.length ∧ ∀ G : Hp, (∀ p ∈ B, G p.1 = some p.2) → ∀ (i : Nat) (x y : V), cs[i]? = some x → as[i]? = some y → Wv G noK x y
theorem cvs_nil (H : Hp) : CvsOk H [] [] [] := ⟨fun p hp => by simp at hp, rfl, fun _ _ i x y h => by simp at h⟩
theorem cvs_cons {H : Hp} {c a : V} {cs as : List V} {B B' : HL} (h1 : CvOk H c a B) (h2 : CvsOk H cs as B') : CvsOk H (c :: cs) (a :: as) (B ++ B') :=
  ⟨h1.1.app h2.1, by simp [h2.2.1], fun G hG i x y p q => by
    cases i with
    | zero => simp at p q; subst p; subst q; exact h1.2 G fun r hr => hG r (by simp [hr])
    | succ i => exact h2.2.2 G (fun r hr => hG r (by simp [hr])) i x y (by simpa using p) (by simpa using q)⟩
theorem cvCs_sound : ∀ (l : List V) {K : List V → HL → Prop}, cvCs H l K → ∃ cs B, CvsOk H.hp cs l B ∧ K cs B
  | [], _, h => ⟨[], [], cvs_nil _, h⟩
  | v :: l, K, h => by
    have h : cvC H v fun v B => cvCs H l fun l B' => K (v :: l) (B ++ B') := h
    obtain ⟨c, B, h1, h⟩ := cvC_sound h
    obtain ⟨cs, B', h2, h⟩ := cvCs_sound l h
    exact ⟨_, _, cvs_cons h1 h2, h⟩
theorem cvA_sound {v : V} {K : V → HL → Prop} (h : cvA H v K) : ∃ c B, CvOk H.hp c v B ∧ K c B := by
  unfold cvA at h
  split at h
  · obtain ⟨cs, B, h1, h⟩ := cvCs_sound _ h
    exact ⟨_, _, ⟨h1.1, fun G hG => .agg h1.2.1 (h1.2.2 G hG)⟩, h⟩
  · exact cvC_sound h
theorem cvAs_sound : ∀ (l : List V) {K : List V → HL → Prop}, cvAs H l K → ∃ cs B, CvsOk H.hp cs l B ∧ K cs B
  | [], _, h => ⟨[], [], cvs_nil _, h⟩
  | v :: l, K, h => by
    have h : cvA H v fun v B => cvAs H l fun l B' => K (v :: l) (B ++ B') := h
    obtain ⟨c, B, h1, h⟩ := cvA_sound h
    obtain ⟨cs, B', h2, h⟩ := cvAs_sound l h
    exact ⟨_, _, cvs_cons h1 h2, h⟩

theorem cvL_sound {H : GH} {f : V → (V → HL → Prop) → Prop} (hf : ∀ v K, f v K → ∃ c B, CvOk H.hp c v B ∧ K c B) : ∀ (l : List V) {K : List V → HL → Prop}, cvL f l K → ∃ cs B, CvsOk H.hp cs l B ∧ K cs B
  | [], _, h => ⟨[], [], cvs_nil _, h⟩
  | v :: l, K, h => by
    have h : f v fun v B => cvL f l fun l B' => K (v :: l) (B ++ B') := h
    obtain ⟨c, B, h1, h⟩ := hf _ _ h
    obtain ⟨cs, B', h2, h⟩ := cvL_sound hf l h
    exact ⟨_, _, cvs_cons h1 h2, h⟩
theorem cvN_sound {H : GH} : ∀ (n : Nat) (v : V) (K : V → HL → Prop), cvN H n v K → ∃ c B, CvOk H.hp c v B ∧ K c B
  | 0, v, K, h => cvC_sound h
  | n + 1, v, K, h => by
    have ih := cvN_sound (H := H) n
    cases v with
    | agg cs =>
      have h : cvL (cvN H n) cs fun cs B => K (.agg cs) B := h
      obtain ⟨cs', B, h1, h⟩ := cvL_sound ih _ h
      exact ⟨_, _, ⟨h1.1, fun G hG => .agg h1.2.1 (h1.2.2 G hG)⟩, h⟩
    | fn f caps =>
      have h : cvL (cvN H n) caps fun cs B => K (.fn f cs) B := h
      obtain ⟨cs', B, h1, h⟩ := cvL_sound ih _ h
      exact ⟨_, _, ⟨h1.1, fun G hG => .fn h1.2.1 (h1.2.2 G hG)⟩, h⟩
    | ptr k sz i off =>
      have h : H.getK k fun sy ob => chkK (Nat.beq ob.sz sz) <| rowK sy ob i fun row => chkK (Nat.ble off row.length) <| cvL (cvN H n) (row.drop off) fun cs B => K (.ip cs) ((k, ob) :: B) := h
      obtain ⟨sy, ob, hk, h⟩ := GH.getK_sound _ _ h
      obtain ⟨hz, h⟩ := chkK_sound h
      obtain ⟨row, hrow, h⟩ := rowK_sound h
      obtain ⟨ho, h⟩ := chkK_sound h
      obtain ⟨cs, B, h1, h⟩ := cvL_sound ih _ h
      have ho := Nat.le_of_ble_eq_true ho
      refine ⟨_, _, ⟨fun p hp => ?_, fun G hG => ?_⟩, h⟩
      · rcases List.mem_cons.1 hp with rfl | hp
        · exact hk
        · exact h1.1 p hp
      · have hl := h1.2.1
        rw [List.length_drop] at hl
        refine .ptrI (hG (k, ob) (by simp)) (Nat.eq_of_beq_eq_true hz) hrow (by omega) fun j x y a b => ?_
        exact h1.2.2 G (fun p hp => hG p (by simp [hp])) j x y a (by rw [List.getElem?_drop]; exact b)
    | _ => exact cvC_sound h
theorem cvGs_sound (l : List V) {H : GH} {K : List V → HL → Prop} (h : cvGs H l K) : ∃ cs B, CvsOk H.hp cs l B ∧ K cs B := cvL_sound (cvN_sound 4) l h

/-- what is left to be shown of a call -/
def CallN (P : Program) (kf : Nat) (cargs : List V) (nx : Nat) (B : HL) (K : Eff → V → Prop) : Prop := match B with
  | [] => ∃ r, FnC P kf cargs [] r [] ∧ fV r fun r => K (.rd []) r
  | B => ∃ r, FnC P kf cargs [] r [] ∧ ((Cl r ∧ fV r fun r => K (.rd B) r) ∨ (chkK ((keysOf B).all fun k => Nat.blt k nx) <| fV r fun r => K (.fz B) r))
/-- how calls are taken -/
abbrev CET := Nat → List V → GH → Nat → (Eff → V → Prop) → Prop
def CESound (P : Program) (CE : CET) : Prop := ∀ (kf : Nat) (as : List V) (H : GH) (nx : Nat) (K : Eff → V → Prop), CE kf as H nx K →
  ∃ eff v, K eff v ∧ ∀ (ov : Operand → V) (o : Oper) (f : Operand) (xs : Array Operand) (ts : Array TypeId) (caps : List V), o.op = .call { callee := .value f, args := xs, argTypes := ts } → ov f = .fn kf caps → as = xs.toList.map ov ++ caps → EOk P ov o nx H.hp v eff
/-- by contracts -/
def ceC (P : Program) : CET := fun kf as H nx K => cvGs H as fun cs B => CallN P kf cs nx B K
theorem ceC_sound : CESound P (ceC P) := by
  intro kf as H nx K h
  obtain ⟨cs, B, ⟨h1, h2, h3⟩, h⟩ := cvGs_sound _ h
  have h3 := h3 (hpo B) (fun p hp => h1.mem hp)
  unfold CallN at h
  split at h
  · obtain ⟨r, hc, h⟩ := h
    refine ⟨.rd [], _, fV_sound (K := fun r => K (.rd []) r) h, fun ov o f xs ts caps ho hf ha => ?_⟩
    subst ha
    exact ⟨lok_callF (B := []) ho hf hc.1 hc.2 h2 h3, Sub.nil _⟩
  · obtain ⟨r, hc, h⟩ := h
    rcases h with ⟨hr, h⟩ | h
    · refine ⟨.rd B, _, fV_sound (K := fun r => K (.rd B) r) h, fun ov o f xs ts caps ho hf ha => ?_⟩
      subst ha
      exact ⟨lok_callC ho hf hc.1 hc.2 h2 h3 hr, h1.sub⟩
    · obtain ⟨hk, h⟩ := chkK_sound h
      refine ⟨.fz B, _, fV_sound (K := fun r => K (.fz B) r) h, fun ov o f xs ts caps ho hf ha => ?_⟩
      subst ha
      refine ⟨lok_callF ho hf hc.1 hc.2 h2 h3, h1.sub, fun k hk' => ?_⟩
      rw [List.all_eq_true] at hk
      exact Nat.le_of_ble_eq_true (hk k hk')
def callE (CE : CET) (ov : Operand → V) (H : GH) (nx : Nat) (f : V) (xs : List Operand) (K : Eff → V → Prop) : Prop := match f with
  | .fn kf caps => argsK ov xs fun as => CE kf (as ++ caps) H nx K
  | _ => False
theorem callE_sound {CE : CET} (hCE : CESound P CE) {f : Operand} {xs : Array Operand} {ts : Array TypeId} (ho : o.op = .call { callee := .value f, args := xs, argTypes := ts }) (h : callE CE ov H nx (ov f) xs.toList K) : Res P ov o nx H.hp K := by
  unfold callE at h
  split at h
  · rename_i kf caps hf
    obtain ⟨eff, v, h1, h2⟩ := hCE _ _ _ _ _ (argsK_sound _ h)
    exact ⟨eff, v, h2 ov o f xs ts caps ho hf rfl, h1⟩
  · exact h.elim

def capE (T : TT) (t : Nat) (x : V) (K : Eff → V → Prop) : Prop := tiK T t fun i => match i.d with
  | .slice e => match x with
    | .lit (.slice none 0 0) => K (.rd []) (.lit (.int .i64 0))
    | _ => False
  | _ => False
theorem capE_sound (hT : TOk P T) {t : Nat} {x : Operand} (ho : o.op = .call { callee := .builtin .cap, args := #[x], argTypes := #[t] }) (h : capE T t (ov x) K) : Res P ov o nx H.hp K := by
  obtain ⟨i, ht, h⟩ := tiK_sound h
  split at h
  · rename_i e hd
    split at h
    · rename_i hx
      exact res_rd (lok_capNil hT ho ht hd hx) h
    · exact h.elim
  · exact h.elim

def builtinE (T : TT) (ov : Operand → V) (H : GH) (nx : Nat) (b : Builtin) (xs : List Operand) (ts : List TypeId) (K : Eff → V → Prop) : Prop := match b with
  | .len => match xs, ts with
    | [x], [t] => lenE T t (ov x) K
    | _, _ => False
  | .cap => match xs, ts with
    | [x], [t] => capE T t (ov x) K
    | _, _ => False
  | .min => match xs with
    | [x, y] => mmE false (ov x) (ov y) K
    | _ => False
  | .max => match xs with
    | [x, y] => mmE true (ov x) (ov y) K
    | _ => False
  | .append => match xs, ts with
    | [x, y], [t, t2] => appE T H nx t t2 (ov x) (ov y) K
    | _, _ => False
  | .copy => match xs, ts with
    | [x, y], [t, _] => copyE T H nx t (ov x) (ov y) K
    | _, _ => False
  | _ => False

/-- a slice of bytes, made one of the same type: its memory never changes any more -/
theorem lok_convSelf (hT : TOk P T) {src e : Nat} {x : Operand} {i ie : TI} {k lo n cp : Nat} {ob : VObj} (ho : o.op = .convert src src x) (ht : T src = some i) (hd : i.d = .slice e) (he : T e = some ie) (hie : ie.d = .int .u8)
    (hx : ov x = .win k 1 lo n cp) (h1 : 1 ≤ n) (hz : ob.sz = 1) (hf : ob.frz = false) (hl : lo + n ≤ ob.rows.length) (hp : rowsPlain ob.rows) : LOk P ov o [] [(k, ob)] [] (.sls 1 ((ob.rows.drop lo).take n) true false) := by
  intro S ρ w a hr hs hn next Q hK
  rw [ho] at hr
  have e1 := hr x (by simp [Op.operands])
  rw [hx] at e1
  have hs' : Sim S ρ w (hpo [(k, ob)]) := by simpa using hs
  have hu := (hT src i ht).d
  rw [hd] at hu
  have hue := (hT e ie he).d
  rw [hie] at hue
  have hk0 : hpo [(k, ob)] k = some ob := by simp [hpo, upd]
  generalize hcx : a.eval x = u at e1
  cases e1 with
  | win0 => omega
  | @win _ _ _ b off cap _ _ _ _ c t fr hk hw hn2 hcp hfit hoff =>
    obtain ⟨c', t', hb, hrows, _, hnf⟩ := hs'.at hk0 hk hw
    rw [hw] at hb
    cases hb
    have hown : Own ρ (hpo [(k, ob)]) b := ⟨k, ob, hk0, hf, hk⟩
    let w' : World := World.block w b (.cells c t (c.size, c.size + 1))
    have hg : ∀ b', w'.heap[b']? = if b' = b then some (.cells c t (c.size, c.size + 1)) else w.heap[b']? := fun b' => block_get hw b'
    have hmark : (markStringish ⟨b, off, none⟩).run P w = .ok () w' := by
      simp only [markStringish, Sem.run_bind, run_shape, Result.andThen_ok]
      rw [show w.shape? b = some (t, c.size) by simp [World.shape?, hw]]
      simp only [run_freeze]
      congr 1
      simp only [World.freeze, w', World.block, Nat.one_ne_zero, if_false]
      congr 1
      apply Array.ext_getElem?
      intro j
      simp only [Array.getElem?_modify, Array.getElem?_setIfInBounds]
      have hbl : b < w.heap.size := hs'.lt hk0 hk
      by_cases hj : b = j
      · subst hj
        have hwb : w.heap[b] = .cells c t (0, 0) := by rw [Array.getElem?_eq_getElem hbl] at hw; exact Option.some.inj hw
        simp [hbl, hwb]
      · simp [hj]
    have hex : (execOp a.eval o).run P w = .ok (.value (.slice (some ⟨b, off, none⟩) n cap)) w' := by
      have hconv : (convert src src (.slice (some ⟨b, off, none⟩) n cap)).run P w = .ok (.slice (some ⟨b, off, none⟩) n cap) w' := by
        simp [convert, run_underlying hu, run_underlying hue, hmark]
      simp [execOp, ho, hcx, hconv]
    simp only [Oper.wp, hex, Oper.upon]
    have hoff : off = lo := by rcases hoff with h | h <;> omega
    subst hoff
    have hL : ((ob.rows.drop off).take n).length = n := by simp; omega
    have hkeep : Keeps w w' := ⟨fun b' c1 t1 fr1 h => by
      rw [hg]
      by_cases e : b' = b
      · subst e
        rw [hw] at h
        cases h
        exact ⟨c, _, by rw [if_pos rfl], rfl⟩
      · exact ⟨c1, fr1, by rw [if_neg e]; exact h, rfl⟩, fun b' es n' h => by
      rw [hg]
      by_cases e : b' = b
      · subst e; rw [hw] at h; cases h
      · exact ⟨es, n', by rw [if_neg e]; exact h⟩⟩
    have hSb : ∀ b', S b' → w'.heap[b']? = w.heap[b']? := fun b' h => by
      rw [hg, if_neg]
      rintro rfl
      exact hnf hf h
    refine hK _ (fun b' => S b' ∨ b' = b) ρ w' ?_ (Sim.empty (fun b' h => ?_)) ?_
    · refine .sls ?_ (fun _ => rfl) (fun h => by cases h)
      rw [show (Value.slice (some ⟨b, off, none⟩) n cap) = .slice (some ⟨b, off, none⟩) ((ob.rows.drop off).take n).length cap by rw [hL]]
      refine .sl (.inr rfl) (by rw [hg, if_pos rfl]) (fun r hr => ?_) (by rw [hL]; omega) (by rw [hL]; omega) fun i j r u x a1 a2 a3 => ?_
      · rw [← hz]
        exact hrows.1 r (List.mem_of_mem_drop (List.mem_of_mem_take hr))
      · have hi : i < n := by rw [← hL]; exact (List.getElem?_eq_some_iff.1 a1).1
        rw [List.getElem?_take, if_pos hi, List.getElem?_drop] at a1
        have h0 := hrows.2.2 (off + i) j r u x a1 a2 (by rw [hz]; rw [show (off + i) * 1 + j = off + i * 1 + j by omega]; exact a3)
        have hx1 := List.all_eq_true.1 (hp r (List.mem_of_getElem? a1)) x (List.mem_of_getElem? a2)
        exact ((kfc_nm (p := fun _ => False) hx1).rep (fun _ _ h _ => h.elim) h0 : Rep S noK w u x).mono (fun b h => .inl h) hSb (fun _ _ h => h) hkeep
    · rw [show w'.heap.size = w.heap.size from block_size _ _ _]
      rcases h with h | rfl
      · exact hs'.bnd b' h
      · exact hs'.lt hk0 hk
    · exact {
        os := rfl
        tape := rfl
        output := rfl
        size := by rw [show w'.heap.size = w.heap.size from block_size _ _ _]; exact Nat.le_refl _
        block := fun b' _ ho => by
          rw [hg, if_neg]
          rintro rfl
          exact ho hown
        keeps := hkeep
        more := fun b' h => .inl h
        only := fun b' h => by
          rcases h with h | rfl
          · exact .inl h
          · exact .inr (.inr hown)
        live := fun b' h => by obtain ⟨k', o', h1, _⟩ := h; cases h1
        own := fun b' h => by obtain ⟨k', o', h1, _⟩ := h; cases h1
        keys := fun _ _ h => h
        dom := fun _ _ h => .inl h }
def convX (T : TT) (H : GH) (nx s d : Nat) (x : V) (K : Eff → V → Prop) : Prop := match x with
  | .win k sz lo n cp => tiK T d fun i' => match i'.d with
    | .slice e => tiK T e fun ie => match ie.d with
      | .int .u8 => H.getK k fun sy ob => chkK (Nat.beq s d && Nat.ble 1 n && !ob.frz && Nat.beq sz 1 && Nat.beq ob.sz 1) <| lo + n ≤ ob.rows.length ∧ rowsPlain ob.rows ∧ K (.gn [(k, sy, ob)] [] nx) (.sls 1 ((ob.rows.drop lo).take n) true false)
      | _ => False
    | _ => convE T H s d (.win k sz lo n cp) K
  | x => convE T H s d x K
theorem convX_sound (hT : TOk P T) {s d : Nat} {x : Operand} (ho : o.op = .convert s d x) (h : convX T H nx s d (ov x) K) : Res P ov o nx H.hp K := by
  unfold convX at h
  split at h
  · rename_i k sz lo n cp hx
    obtain ⟨i', ht', h1⟩ := tiK_sound h
    split at h1
    · rename_i e hd'
      obtain ⟨ie, he, h2⟩ := tiK_sound h1
      split at h2
      · rename_i hie
        obtain ⟨sy, ob, hk, h3⟩ := GH.getK_sound _ _ h2
        obtain ⟨hq, hl, hp, h4⟩ := chkK_sound h3
        simp only [Bool.and_eq_true] at hq
        obtain ⟨⟨⟨⟨q1, q2⟩, q3⟩, q4⟩, q5⟩ := hq
        have q1 := Nat.eq_of_beq_eq_true q1
        subst q1
        have q4 := Nat.eq_of_beq_eq_true q4
        subst q4
        have hL := lok_convSelf hT ho ht' hd' he hie hx (Nat.le_of_ble_eq_true q2) (Nat.eq_of_beq_eq_true q5) (by simpa using q3) hl hp
        exact ⟨.gn [(k, sy, ob)] [] nx, _, ⟨hL, Sub.one hk, Nat.le_refl _, fun j h _ => by simp [GH.hl, keysOf] at h, fun j h => by simp [GH.hl, keysOf] at h⟩, h4⟩
      · exact h2.elim
    · exact convE_sound hT ho (by rw [hx]; exact h1)
  · exact convE_sound hT ho h

/-- one operation -/
def opE (P : Program) (T : TT) (CE : CET) (ov : Operand → V) (H : GH) (nx : Nat) (op : Op) (K : Eff → V → Prop) : Prop := match op with
  | .move x => K (.rd []) (ov x)
  | .assign x => K (.rd []) (ov x)
  | .pick c x y => pickE (ov c) (ov x) (ov y) K
  | .alloc e => allocE T nx e K
  | .box e x => boxE T nx e (ov x) K
  | .build t ps => buildE T ov t ps.toList K
  | .buildSlice t n ps => buildSliceF T ov H nx t n ps.toList K
  | .load t x => loadE T H t (ov x) K
  | .store t x y => storeE T H nx t (ov x) (ov y) K
  | .nilCheck x => nilCheckE (ov x) K
  | .binOp op t x y _ => opBinE P T op t (ov x) (ov y) K
  | .unOp op _ x => unE op (ov x) K
  | .convert s d x => convX T H nx s d (ov x) K
  | .makeFunc f first caps => makeFuncE ov f first caps.toList K
  | .makeSlice t x y => makeSliceE T nx t (ov x) (ov y) K
  | .slice t x lo hi mx => sliceF T ov H nx t (ov x) lo hi mx K
  | .fieldAddr t x f => fieldAddrE T t (ov x) f K
  | .field t x f => fieldE T t (ov x) f K
  | .indexAddr t x y => idxAddrE T t (ov x) (ov y) K
  | .index t x y => indexE T t (ov x) (ov y) K
  | .extract x n => extractE (ov x) n K
  | .makeMap t r => mkMapE nx r K
  | .insert t m x y => insertE P T H nx t (ov m) (ov x) (ov y) K
  | .lookup t m x c => lookupE P T H t (ov m) (ov x) c K
  | .sliceToArrayPointer t x => arrPtrE T t (ov x) K
  | .call c => match c with
    | ⟨.builtin b, xs, ts⟩ => builtinE T ov H nx b xs.toList ts.toList K
    | ⟨.value f, xs, _⟩ => callE CE ov H nx (ov f) xs.toList K
    | _ => False
  | _ => False

theorem arr1 {α : Type} {xs : Array α} {x : α} (h : xs.toList = [x]) : xs = #[x] := Array.toList_inj.1 h
theorem arr2 {α : Type} {xs : Array α} {x y : α} (h : xs.toList = [x, y]) : xs = #[x, y] := Array.toList_inj.1 h

theorem opE_sound (hT : TOk P T) {CE : CET} (hCE : CESound P CE) (h : opE P T CE ov H nx o.op K) : Res P ov o nx H.hp K := by
  unfold opE at h
  split at h
  case h_1 x ho => exact res_rd (lok_move (.inl ho)) h
  case h_2 x ho => exact res_rd (lok_move (.inr ho)) h
  case h_3 c x y ho => exact pickE_sound ho h
  case h_4 e ho => exact allocE_sound hT ho h
  case h_5 e x ho => exact boxE_sound ho h
  case h_6 t ps ho => exact buildE_sound hT ho h
  case h_7 t n ps ho => exact buildSliceF_sound hT ho h
  case h_8 t x ho => exact loadE_sound hT ho h
  case h_9 t x y ho => exact storeE_sound hT ho h
  case h_10 x ho => exact nilCheckE_sound ho h
  case h_11 op t x y t' ho => exact opBinE_sound hT ho h
  case h_12 op t x ho => exact unE_sound ho h
  case h_13 s d x ho => exact convX_sound hT ho h
  case h_14 f first caps ho => exact makeFuncE_sound ho h
  case h_15 t x y ho => exact makeSliceE_sound hT ho h
  case h_16 t x lo hi mx ho => exact sliceF_sound hT ho h
  case h_17 t x f ho => exact fieldAddrE_sound hT ho h
  case h_18 t x f ho => exact fieldE_sound hT ho h
  case h_19 t x y ho => exact idxAddrE_sound hT ho h
  case h_20 t x y ho => exact indexE_sound hT ho h
  case h_21 x n ho => exact extractE_sound ho h
  case h_22 t r ho => exact mkMapE_sound ho h
  case h_23 t m x y ho => exact insertE_sound hT ho h
  case h_24 t m x c ho => exact lookupE_sound hT ho h
  case h_25 t x ho => exact arrPtrE_sound hT ho h
  case h_26 c ho =>
    split at h
    · rename_i b xs ts
      unfold builtinE at h
      split at h
      · split at h
        · rename_i x t hx ht
          rw [arr1 hx, arr1 ht] at ho
          exact lenE_sound hT ho h
        · exact h.elim
      · split at h
        · rename_i x t hx ht
          rw [arr1 hx, arr1 ht] at ho
          exact capE_sound hT ho h
        · exact h.elim
      · split at h
        · rename_i x y hx
          rw [arr2 hx] at ho
          exact minE_sound ho h
        · exact h.elim
      · split at h
        · rename_i x y hx
          rw [arr2 hx] at ho
          exact maxE_sound ho h
        · exact h.elim
      · split at h
        · rename_i x y t t2 hx ht
          rw [arr2 hx, arr2 ht] at ho
          exact appE_sound hT ho h
        · exact h.elim
      · split at h
        · rename_i x y t t2 hx ht
          rw [arr2 hx, arr2 ht] at ho
          exact copyE_sound hT ho h
        · exact h.elim
      · exact h.elim
    · rename_i f xs ts
      exact callE_sound hCE ho h
    · exact h.elim
  case h_27 => exact h.elim

end
end Go.Proofs.Ytbieiehfohldjaa
namespace Go.Proofs.Ytbieiehfohldjaa
open Go
set_option linter.unusedVariables false
set_option linter.unusedSimpArgs false

def stOf (e : Tr) (H : GH) (nx : Nat) : St := ⟨e.get, H.hp, nx⟩

/-- a slot is written -/
def dstK (N : Nat) (e : Tr) (d : Option Nat) (v : V) (K : Tr → Prop) : Prop := match d with
  | none => K e
  | some d => chkK (Nat.blt d N) <| e.setK d v K
theorem dstK_sound {N : Nat} {e : Tr} {d : Option Nat} {v : V} {K : Tr → Prop} (h : dstK N e d v K) : ∃ e', e'.get = updO e.get d v ∧ (∀ t, d = some t → t < N) ∧ K e' := by
  cases d with
  | none => exact ⟨e, rfl, (fun t h => by cases h), h⟩
  | some d =>
    obtain ⟨hd, h⟩ := chkK_sound h
    obtain ⟨e', h1, h⟩ := Tr.setK_sound _ _ h
    exact ⟨e', h1, (fun t h => by cases h; exact Nat.le_of_ble_eq_true hd), h⟩

abbrev OKF := Tr → GH → Nat → List KK → (Tr → GH → Nat → Prop) → Prop
def opsNil (ops : Array Oper) (dr : Bool) : OKF := fun e H nx acc K => match dr with
    | true => drawQ ops acc.reverse = true ∧ K e H nx
    | false => K e H nx
def opsOn (P : Program) (T : TT) (CE : CET) (N : Nat) (o : Oper) (ih : OKF) (H : GH) (nx : Nat) (acc : List KK) (K : Tr → GH → Nat → Prop) (e : Tr) : Prop :=
  opE P T CE (ovOf e.get) H nx o.op fun eff v => fV v fun v => dstK N e o.dst v fun e' => upH eff H nx fun H' nx' => ih e' H' nx' (eff.kk nx :: acc) K
def opsOff (N : Nat) (o : Oper) (ih : OKF) (H : GH) (nx : Nat) (acc : List KK) (K : Tr → GH → Nat → Prop) (e : Tr) : Prop := dstK N e o.dst .undef fun e' => ih e' H nx (([], [], false) :: acc) K
def opsCons (P : Program) (T : TT) (CE : CET) (N : Nat) (ops : Array Oper) (o : Oper) (ih : OKF) : OKF := fun e H nx acc K => match o.guard with
    | none => opsOn P T CE N o ih H nx acc K e
    | some (j, want) => optK ((ops[j]?).bind (·.dst)) fun t => match e.get t with
      | .lit (.bool b) => match want with
        | true => condN b (e.setK t (.lit (.bool true)) (opsOn P T CE N o ih H nx acc K)) (e.setK t (.lit (.bool false)) (opsOff N o ih H nx acc K))
        | false => condN b (e.setK t (.lit (.bool true)) (opsOff N o ih H nx acc K)) (e.setK t (.lit (.bool false)) (opsOn P T CE N o ih H nx acc K))
      | .tup [] => opsOff N o ih H nx acc K e
      | _ => False
/-- operations -/
def opsE (P : Program) (T : TT) (CE : CET) (N : Nat) (ops : Array Oper) (dr : Bool) (l : List Oper) : OKF := List.rec (motive := fun _ => OKF) (opsNil ops dr) (fun o _ ih => opsCons P T CE N ops o ih) l

theorem stOf_get {e e' : Tr} {H : GH} {nx : Nat} (h : e.get = e'.get) : stOf e H nx = stOf e' H nx := by simp only [stOf, h]

theorem upH_sound {eff : Eff} {H : GH} {nx : Nat} {K : GH → Nat → Prop} {P : Program} {ov : Operand → V} {o : Oper} {v : V} (he : EOk P ov o nx H.hp v eff) (h : upH eff H nx K) :
    ∃ (r : OpR) (H' : GH) (nx' : Nat), r.v = v ∧ r.kk = eff.kk nx ∧ H'.hp = r.act H.hp ∧ nx ≤ nx' ∧ ((r.ins = none ∧ LOk P ov o r.rd r.pre r.post r.v ∧ Sub (hpo r.rd) H.hp ∧ Sub (hpo r.pre) H.hp ∧ (∀ k, k ∈ keysOf r.post → k ∉ keysOf r.pre → nx ≤ k) ∧ (∀ k, k ∈ keysOf r.post → k < nx')) ∨
      ∃ k kc y ents, r = ⟨[], [(k, mpO ents)], [(k, mpO (ents ++ [[.agg kc, y]]))], .undef, some (k, [.agg kc, y])⟩ ∧ H.hp k = some (mpO ents) ∧ k < nx' ∧ (∀ r ∈ ents, KeyAp kc r) ∧ InsOk P ov o k kc y) ∧ K H' nx' := by
  cases eff with
  | rd d => exact ⟨⟨d, [], [], v, none⟩, H, nx, rfl, rfl, rfl, Nat.le_refl _, .inl ⟨rfl, he.1, he.2, Sub.nil _, fun k h => by simp [keysOf] at h, fun k h => by simp [keysOf] at h⟩, h⟩
  | nw d sy ob => exact ⟨⟨d, [], [(nx, ob)], v, none⟩, _, nx + 1, rfl, rfl, rfl, Nat.le_succ _, .inl ⟨rfl, he.1, he.2, Sub.nil _, fun k h _ => by simp [keysOf] at h; omega, fun k h => by simp [keysOf] at h; omega⟩, h⟩
  | wr d k ob ob' =>
    obtain ⟨h1, h2, h3, h4⟩ := he
    obtain ⟨H', g1, g2⟩ := GH.putK_sound _ _ h
    exact ⟨⟨d, [(k, ob)], [(k, ob')], v, none⟩, H', nx, rfl, rfl, by rw [g1]; simp only [OpR.act, Hp.add, Hp.del, upd_upd], Nat.le_refl _, .inl ⟨rfl, h1, h2, Sub.one h3, fun j h h' => absurd h h', fun j h => by simp [keysOf] at h; subst h; exact h4⟩, g2⟩
  | mi k ents kc y =>
    obtain ⟨h1, h2, h3, h4, h5⟩ := he
    have h := fRs_sound (K := fun ents' => H.putK k (mpO ents') fun H => K H nx) _ h
    obtain ⟨H', g1, g2⟩ := GH.putK_sound _ _ h
    exact ⟨⟨[], [(k, mpO ents)], [(k, mpO (ents ++ [[.agg kc, y]]))], .undef, some (k, [.agg kc, y])⟩, H', nx, h1.symm, rfl, by rw [g1]; simp only [OpR.act, h2, mpAdd]; rfl, Nat.le_refl _, .inr ⟨k, kc, y, ents, rfl, h2, h3, h4, h5⟩, g2⟩
  | sw d k ob ob' =>
    obtain ⟨h1, h2, h3⟩ := he
    obtain ⟨H', g1, g2⟩ := GH.delK_sound _ _ h
    exact ⟨⟨d, [(k, ob)], [(nx, ob')], v, none⟩, _, nx + 1, rfl, rfl, by simp only [GH.hp, g1]; rfl, Nat.le_succ _, .inl ⟨rfl, h1, h2, Sub.one h3, fun j h _ => by simp [keysOf] at h; omega, fun j h => by simp [keysOf] at h; omega⟩, g2⟩
  | gn B B' nx' =>
    obtain ⟨h1, h2, h3, h4, h5⟩ := he
    obtain ⟨H', g1, g2⟩ := GH.delsK_sound _ _ h
    exact ⟨⟨[], B.hl, B'.hl, v, none⟩, B' ++ H', nx', rfl, rfl, by rw [GH.app_hp, g1]; rfl, h3, .inl ⟨rfl, h1, Sub.nil _, h2, h4, h5⟩, g2⟩
  | fz B =>
    obtain ⟨h1, h2, h3⟩ := he
    obtain ⟨H', g1, g2⟩ := GH.fzK_sound _ h
    have hk : keysOf (frozen B) = keysOf B := by simp [keysOf, frozen]
    refine ⟨⟨[], B, frozen B, v, none⟩, H', nx, rfl, by simp only [OpR.kk, OpR.wk, Eff.kk, hk]; rfl, ?_, Nat.le_refl _, .inl ⟨rfl, h1, Sub.nil _, h2, fun j h h' => absurd (hk ▸ h) h', fun j h => h3 j (hk ▸ h)⟩, g2⟩
    rw [g1]
    show H.hp.add (frozen B) = (H.hp.del B).add (frozen B)
    funext t
    rw [add_apply, add_apply, del_apply]
    cases hf : hpo (frozen B) t with
    | some o => rfl
    | none =>
      have : hpo B t = none := hpo_none (fun hm => mem_keys.2 (hk.symm ▸ hm) hf)
      rw [this]

section
variable {P : Program} {T : TT} {CE : CET} {N m : Nat}

theorem opsE_sound (hT : TOk P T) (hCE : CESound P CE) {ops : Array Oper} {dr : Bool} : ∀ (l : List Oper) (e : Tr) (H : GH) (nx : Nat) (acc : List KK) {K : Tr → GH → Nat → Prop} (accR : List OpR), opsE P T CE N ops dr l e H nx acc K → acc = (accR.map OpR.kk).reverse →
    AOps P N ops dr l (stOf e H nx) accR fun st => ∃ e H nx, st = stOf e H nx ∧ K e H nx
  | [], e, H, nx, acc, K, accR, h, hacc => by
    cases dr with
    | true =>
      refine aops_nil ?_ ⟨e, H, nx, rfl, h.2⟩
      have := h.1
      rw [hacc, List.reverse_reverse] at this
      simp [drawQ_sound this]
    | false => exact aops_nil rfl ⟨e, H, nx, rfl, h⟩
  | o :: l, e, H, nx, acc, K, accR, h, hacc => by
    have onS : ∀ (e : Tr) (g : gOn ops e.get o), (opE P T CE (ovOf e.get) H nx o.op fun eff v => fV v fun v => dstK N e o.dst v fun e' => upH eff H nx fun H' nx' => opsE P T CE N ops dr l e' H' nx' (eff.kk nx :: acc) K) →
        AOps P N ops dr (o :: l) (stOf e H nx) accR fun st => ∃ e H nx, st = stOf e H nx ∧ K e H nx := fun e g h => by
      obtain ⟨eff, v, he, h⟩ := opE_sound hT hCE h
      obtain ⟨e', he', hd, h⟩ := dstK_sound (fV_sound (K := fun v => dstK N e o.dst v fun e' => upH eff H nx fun H' nx' => opsE P T CE N ops dr l e' H' nx' (eff.kk nx :: acc) K) h)
      obtain ⟨r, H', nx', hv, hkk, hH, hn, hon, hK⟩ := upH_sound he h
      have ih := opsE_sound hT hCE l e' H' nx' _ (accR ++ [r]) hK (by simp [hacc, hkk])
      refine aops_cons (st1 := stOf e' H' nx') ⟨hv ▸ he', hH, hn, hd, ?_⟩ ih
      rcases hon with ⟨h0, h1, h2, h3, h4, h5⟩ | ⟨k, kc, y, ents, h1, h2⟩
      · exact .inl ⟨h0, g, h1, h2, h3, h4, h5⟩
      · exact .inr (.inr ⟨g, k, kc, y, ents, h1, h2⟩)
    have offS : ∀ (e : Tr) (g : gOff ops e.get o), (dstK N e o.dst .undef fun e' => opsE P T CE N ops dr l e' H nx (([], [], false) :: acc) K) →
        AOps P N ops dr (o :: l) (stOf e H nx) accR fun st => ∃ e H nx, st = stOf e H nx ∧ K e H nx := fun e g h => by
      obtain ⟨e', he', hd, h⟩ := dstK_sound h
      have ih := opsE_sound hT hCE l e' H nx _ (accR ++ [⟨[], [], [], .undef, none⟩]) h (by simp [hacc, OpR.kk, OpR.wk, keysOf])
      exact aops_cons (r := ⟨[], [], [], .undef, none⟩) (st1 := stOf e' H nx) ⟨he', rfl, Nat.le_refl _, hd, .inr (.inl ⟨g, rfl⟩)⟩ ih
    have h : opsCons P T CE N ops o (opsE P T CE N ops dr l) e H nx acc K := h
    simp only [opsCons] at h
    cases hg : o.guard with
    | none =>
      rw [hg] at h
      exact onS e (by simp [gOn, hg]) h
    | some jw =>
      obtain ⟨j, want⟩ := jw
      rw [hg] at h
      simp only at h
      obtain ⟨t, ht, h⟩ := optK_sound h
      split at h
      · rename_i b hb
        cases want with
        | true =>
          rcases condN_sound h with ⟨rfl, h⟩ | ⟨rfl, h⟩
          · obtain ⟨e1, h1, h⟩ := Tr.setK_sound _ _ h
            rw [upd_self hb] at h1
            rw [← stOf_get h1]
            exact onS e1 (by simp only [gOn, hg]; exact ⟨t, ht, by rw [h1]; exact hb⟩) h
          · obtain ⟨e1, h1, h⟩ := Tr.setK_sound _ _ h
            rw [upd_self hb] at h1
            rw [← stOf_get h1]
            exact offS e1 (by simp only [gOff, hg]; exact ⟨t, ht, .inl (by rw [h1]; exact hb)⟩) h
        | false =>
          rcases condN_sound h with ⟨rfl, h⟩ | ⟨rfl, h⟩
          · obtain ⟨e1, h1, h⟩ := Tr.setK_sound _ _ h
            rw [upd_self hb] at h1
            rw [← stOf_get h1]
            exact offS e1 (by simp only [gOff, hg]; exact ⟨t, ht, .inl (by rw [h1]; exact hb)⟩) h
          · obtain ⟨e1, h1, h⟩ := Tr.setK_sound _ _ h
            rw [upd_self hb] at h1
            rw [← stOf_get h1]
            exact onS e1 (by simp only [gOn, hg]; exact ⟨t, ht, by rw [h1]; exact hb⟩) h
      · rename_i hb
        exact offS e (by simp only [gOff, hg]; exact ⟨t, ht, .inr hb⟩) h
      · exact h.elim

/-- where code ends, in listed states -/
def QOf (Q : Exit → Tr → GH → Nat → Prop) : Exit → St → Prop := fun ex st => ∃ e H nx, st = stOf e H nx ∧ Q ex e H nx

abbrev QT := Exit → Tr → GH → Nat → Prop
def qSeq (y : QT → Tr → GH → Nat → Prop) (Q : QT) : QT := fun ex e H nx => match ex with
    | .normal => y Q e H nx
    | ex => Q ex e H nx
def qBlock (id : Nat) (Q : QT) : QT := fun ex e H nx => match ex with
    | .exit id' => match Nat.beq id' id with
      | true => Q .normal e H nx
      | false => Q (.exit id') e H nx
    | ex => Q ex e H nx
def cCond (c : Operand) (x y : QT → Tr → GH → Nat → Prop) (Q : QT) (e : Tr) (H : GH) (nx : Nat) : Prop := match ovOf e.get c with
    | .lit (.bool b) => condN b (x Q e H nx) (y Q e H nx)
    | _ => False
/-- it ends just so -/
def AWpD (P : Program) (N m : Nat) (c : Code) (ex : Exit) (e : Tr) (H : GH) (nx : Nat) (st : St) : Prop := AWp P N m c (fun ex1 st1 => ex1 = ex ∧ st1 = stOf e H nx) st
def LoopN (P : Program) (T : TT) (CE : CET) (dt : Bool) (N m : Nat) (c : Code) (Q : QT) (e : Tr) (H : GH) (nx : Nat) : Prop :=
  (dt = true → ∃ ex e' H' nx', Q ex e' H' nx' ∧ AWpD P N m (.loop c) ex e' H' nx' (stOf e H nx)) ∧ (dt = false → AWp P N m (.loop c) (QOf Q) (stOf e H nx))
/-- code -/
def vc (P : Program) (T : TT) (CE : CET) (dt : Bool) (N m : Nat) (c : Code) : QT → Tr → GH → Nat → Prop := Code.rec (motive := fun _ => QT → Tr → GH → Nat → Prop)
  (fun Q e H nx => Q .normal e H nx)
  (fun _ ops dr Q e H nx => opsE P T CE N ops dr ops.toList e H nx [] (Q .normal))
  (fun _ _ x y Q e H nx => x (qSeq y Q) e H nx)
  (fun c _ _ x y Q e H nx => cCond c x y Q e H nx)
  (fun id _ x Q e H nx => x (qBlock id Q) e H nx)
  (fun c _ Q e H nx => LoopN P T CE dt N m c Q e H nx)
  (fun _ _ _ _ _ _ _ _ _ _ => False)
  (fun id Q e H nx => Q (.exit id) e H nx)
  (fun _ _ _ _ _ _ => False)
  (fun _ _ _ _ _ => False)
  (fun _ _ _ _ _ => False)
  (fun Q e H nx => Q .ret e H nx)
  (fun _ _ _ _ _ => False) c

theorem vc_det (hT : TOk P T) (hCE : CESound P CE) (hm : P.follows .mixedOrders = true) : ∀ (c : Code) (Q : Exit → Tr → GH → Nat → Prop) (e : Tr) (H : GH) (nx : Nat), vc P T CE true N m c Q e H nx → ∃ ex e' H' nx', Q ex e' H' nx' ∧ AWpD P N m c ex e' H' nx' (stOf e H nx)
  | .skip, Q, e, H, nx, h => ⟨_, _, _, _, h, awp_skip ⟨rfl, rfl⟩⟩
  | .exit id, Q, e, H, nx, h => ⟨_, _, _, _, h, awp_exit ⟨rfl, rfl⟩⟩
  | .ret, Q, e, H, nx, h => ⟨_, _, _, _, h, awp_ret ⟨rfl, rfl⟩⟩
  | .seq x y, Q, e, H, nx, h => by
    obtain ⟨ex, e1, H1, nx1, hq, hx⟩ := vc_det hT hCE hm x (qSeq (vc P T CE true N m y) Q) e H nx h
    cases ex with
    | normal =>
      obtain ⟨ex, e2, H2, nx2, hq, hy⟩ := vc_det hT hCE hm y Q e1 H1 nx1 hq
      exact ⟨ex, e2, H2, nx2, hq, awp_seq (awp_mono hx fun ex' st' ⟨h1, h2⟩ => by subst h1; subst h2; exact hy)⟩
    | _ => exact ⟨_, e1, H1, nx1, hq, awp_seq (awp_mono hx fun ex' st' ⟨h1, h2⟩ => by subst h1; exact ⟨rfl, h2⟩)⟩
  | .cond c x y, Q, e, H, nx, h => by
    have h : cCond c (vc P T CE true N m x) (vc P T CE true N m y) Q e H nx := h
    unfold cCond at h
    split at h
    · rename_i b hb
      cases b with
      | true =>
        obtain ⟨ex, e1, H1, nx1, hq, hx⟩ := vc_det hT hCE hm x Q e H nx h
        exact ⟨ex, e1, H1, nx1, hq, awp_cond hb (fun _ => hx) (fun h => by cases h)⟩
      | false =>
        obtain ⟨ex, e1, H1, nx1, hq, hx⟩ := vc_det hT hCE hm y Q e H nx h
        exact ⟨ex, e1, H1, nx1, hq, awp_cond hb (fun h => by cases h) (fun _ => hx)⟩
    · exact h.elim
  | .block id c, Q, e, H, nx, h => by
    obtain ⟨ex, e1, H1, nx1, hq, hx⟩ := vc_det hT hCE hm c (qBlock id Q) e H nx h
    cases ex with
    | exit id' =>
      simp only [qBlock] at hq
      cases hb : Nat.beq id' id with
      | true =>
        rw [hb] at hq
        have := Nat.eq_of_beq_eq_true hb
        subst this
        exact ⟨.normal, e1, H1, nx1, hq, awp_block (awp_mono hx fun ex' st' ⟨h1, h2⟩ => by subst h1; simp only [aBlock, if_true]; exact ⟨trivial, h2⟩)⟩
      | false =>
        rw [hb] at hq
        have hne : id' ≠ id := fun e => by subst e; rw [Nat.beq_refl] at hb; cases hb
        exact ⟨.exit id', e1, H1, nx1, hq, awp_block (awp_mono hx fun ex' st' ⟨h1, h2⟩ => by subst h1; simp only [aBlock, hne, if_false]; exact ⟨trivial, h2⟩)⟩
    | _ => exact ⟨_, e1, H1, nx1, hq, awp_block (awp_mono hx fun ex' st' ⟨h1, h2⟩ => by subst h1; exact ⟨rfl, h2⟩)⟩
  | .region id ops dr, Q, e, H, nx, h => by
    obtain ⟨rs, st', h1, h2, e1, H1, nx1, rfl, hK⟩ := opsE_sound (P := P) (N := N) hT hCE ops.toList e H nx [] [] h rfl
    refine ⟨.normal, e1, H1, nx1, hK, ?_⟩
    cases dr with
    | true => exact awp_drawn hm ⟨rs, _, h1, h2, rfl, rfl⟩
    | false => exact awp_region ⟨rs, _, h1, h2, rfl, rfl⟩
  | .loop c, Q, e, H, nx, h => h.1 rfl
  | .rangeFunc _ _ _ _, _, _, _, _, h => h.elim
  | .scope _, _, _, _, _, h => h.elim
  | .label _, _, _, _, _, h => h.elim
  | .goto _, _, _, _, _, h => h.elim
  | .refuse _, _, _, _, _, h => h.elim
theorem vc_sound (hT : TOk P T) (hCE : CESound P CE) (hm : P.follows .mixedOrders = true) : ∀ (c : Code) (Q : Exit → Tr → GH → Nat → Prop) (e : Tr) (H : GH) (nx : Nat), vc P T CE false N m c Q e H nx → AWp P N m c (QOf Q) (stOf e H nx)
  | .skip, Q, e, H, nx, h => awp_skip ⟨e, H, nx, rfl, h⟩
  | .exit id, Q, e, H, nx, h => awp_exit ⟨e, H, nx, rfl, h⟩
  | .ret, Q, e, H, nx, h => awp_ret ⟨e, H, nx, rfl, h⟩
  | .seq x y, Q, e, H, nx, h => by
    refine awp_seq (awp_mono (vc_sound hT hCE hm x (qSeq (vc P T CE false N m y) Q) e H nx h) fun ex st hq => ?_)
    obtain ⟨e', H', nx', rfl, hq⟩ := hq
    cases ex with
    | normal => exact vc_sound hT hCE hm y Q e' H' nx' hq
    | _ => exact ⟨e', H', nx', rfl, hq⟩
  | .cond c x y, Q, e, H, nx, h => by
    have h : cCond c (vc P T CE false N m x) (vc P T CE false N m y) Q e H nx := h
    unfold cCond at h
    split at h
    · rename_i b hb
      refine awp_cond hb (fun ht => ?_) (fun hf => ?_)
      · subst ht; exact vc_sound hT hCE hm x Q e H nx h
      · subst hf; exact vc_sound hT hCE hm y Q e H nx h
    · exact h.elim
  | .block id c, Q, e, H, nx, h => by
    refine awp_block (awp_mono (vc_sound hT hCE hm c (qBlock id Q) e H nx h) fun ex st hq => ?_)
    obtain ⟨e', H', nx', rfl, hq⟩ := hq
    cases ex with
    | exit id' =>
      simp only [aBlock, qBlock] at hq ⊢
      cases hb : Nat.beq id' id with
      | true =>
        rw [hb] at hq
        rw [if_pos (Nat.eq_of_beq_eq_true hb)]
        exact ⟨e', H', nx', rfl, hq⟩
      | false =>
        rw [hb] at hq
        rw [if_neg (fun e => by subst e; rw [Nat.beq_refl] at hb; cases hb)]
        exact ⟨e', H', nx', rfl, hq⟩
    | _ => exact ⟨e', H', nx', rfl, hq⟩
  | .region id ops dr, Q, e, H, nx, h => by
    have := opsE_sound (P := P) (N := N) hT hCE ops.toList e H nx [] [] h rfl
    cases dr with
    | true => exact awp_drawn hm this
    | false => exact awp_region this
  | .loop c, Q, e, H, nx, h => h.2 rfl
  | .rangeFunc _ _ _ _, _, _, _, _, h => h.elim
  | .scope _, _, _, _, _, h => h.elim
  | .label _, _, _, _, _, h => h.elim
  | .goto _, _, _, _, _, h => h.elim
  | .refuse _, _, _, _, _, h => h.elim

end

/- A FUNCTION OF VALUES -/
def resOne (T : TT) (e : Tr) (H : GH) (r : ResultVar) (K' : V → Prop) : Prop := match r with
    | .tmp t => fV (e.get t) K'
    | .cell a ty => match e.get a with
      | .ptr k sz i off => tiK T ty fun ti => H.getK k fun sy ob => rowK sy ob i fun row => chkK (Nat.beq ob.sz sz && Nat.ble (off + ti.size) row.length) <| fV (ldV ti (row.drop off)) K'
      | _ => False
def resQ (T : TT) (e : Tr) (H : GH) (l : List ResultVar) : (List V → Prop) → Prop := List.rec (motive := fun _ => (List V → Prop) → Prop) (fun K => K []) (fun r _ ih K => resOne T e H r fun v => ih fun l => K (v :: l)) l
theorem resQ_sound {T : TT} {e : Tr} {H : GH} {nx : Nat} : ∀ (rs : List ResultVar) {K : List V → Prop}, resQ T e H rs K → ∃ xs, resL T (stOf e H nx) rs = some xs ∧ K xs
  | [], K, h => ⟨[], rfl, h⟩
  | r :: rs, K, h => by
    have h : resOne T e H r fun v => resQ T e H rs fun l => K (v :: l) := h
    have key : ∃ v, resV T (stOf e H nx) r = some v ∧ resQ T e H rs fun l => K (v :: l) := by
      cases r with
      | tmp t => exact ⟨e.get t, rfl, fV_sound (K := fun v => resQ T e H rs fun l => K (v :: l)) h⟩
      | cell a ty =>
        simp only [resOne] at h
        split at h
        · rename_i k sz i off ha
          obtain ⟨ti, ht, h⟩ := tiK_sound h
          obtain ⟨sy, ob, hk, h⟩ := GH.getK_sound _ _ h
          obtain ⟨row, hrow, h⟩ := rowK_sound h
          obtain ⟨hc, h⟩ := chkK_sound h
          rw [Bool.and_eq_true] at hc
          refine ⟨_, ?_, fV_sound (K := fun v => resQ T e H rs fun l => K (v :: l)) h⟩
          simp only [resV, stOf, ha, ht, hk, hrow]
          rw [if_pos ⟨Nat.eq_of_beq_eq_true hc.1, Nat.le_of_ble_eq_true hc.2⟩]
        · exact h.elim
    obtain ⟨v, hv, h⟩ := key
    obtain ⟨l, hl, h⟩ := resQ_sound (nx := nx) rs h
    exact ⟨v :: l, by simp only [resL, hv, hl], h⟩

/-- the answer as a contract tells it -/
def cvT (H : GH) (v : V) (K : V → Prop) : Prop := match v with
  | .tup cs => cvAs H cs fun cs _ => K (.tup cs)
  | v => cvA H v fun v _ => K v
def retQ (T : TT) (fn : Func) (r : V) : Exit → Tr → GH → Nat → Prop := fun ex e H nx => match ex with
  | .normal => resQ T e H fn.results.toList fun xs => cvT H (pack xs) fun v => v = r
  | .ret => resQ T e H fn.results.toList fun xs => cvT H (pack xs) fun v => v = r
  | _ => False
theorem cvT_sound {H : GH} {v : V} {K : V → Prop} (h : cvT H v K) : ∃ r, Wv H.hp noK r v ∧ K r := by
  unfold cvT at h
  split at h
  · obtain ⟨cs, B, h1, h⟩ := cvAs_sound _ h
    exact ⟨_, .tup h1.2.1 (h1.2.2 H.hp h1.1), h⟩
  · obtain ⟨c, B, h1, h⟩ := cvA_sound h
    exact ⟨_, h1.2 H.hp h1.1, h⟩
theorem retQ_sound {T : TT} {fn : Func} {r : V} {ex : Exit} {st : St} (h : QOf (retQ T fn r) ex st) : fnPost T fn [] r [] ex st := by
  obtain ⟨e, H, nx, rfl, h⟩ := h
  have key : ∀ ex, (ex = .normal ∨ ex = .ret) → (resQ T e H fn.results.toList fun xs => cvT H (pack xs) fun v => v = r) → fnPost T fn [] r [] ex (stOf e H nx) := fun ex hex h => by
    obtain ⟨xs, hx, h⟩ := resQ_sound (nx := nx) _ h
    obtain ⟨r', hw, rfl⟩ := cvT_sound h
    exact ⟨hex, xs, H.hp, noK, hx, fun _ _ h => h, hw, (fun k o h => by cases h), (fun k k' k0 h => by cases h), (fun k h => absurd rfl h), (fun k h => by simp [keysOf] at h)⟩
  cases ex with
  | normal => exact key _ (.inl rfl) h
  | ret => exact key _ (.inr rfl) h
  | _ => exact h.elim

/-- the slots at the beginning -/
def initK : List V → Nat → Tr → (Tr → Prop) → Prop
  | [], _, e, K => K e
  | v :: l, i, e, K => e.setK i v fun e => initK l (i + 1) e K
theorem initK_sound : ∀ (l : List V) (i : Nat) (e : Tr) {K : Tr → Prop}, initK l i e K → ∃ e' : Tr, (∀ t, e'.get t = if i ≤ t then (match l[t - i]? with | some v => v | none => e.get t) else e.get t) ∧ K e'
  | [], i, e, _, h => ⟨e, fun t => by simp, h⟩
  | v :: l, i, e, K, h => by
    obtain ⟨e1, h1, h⟩ := Tr.setK_sound _ _ h
    obtain ⟨e2, h2, h⟩ := initK_sound l (i + 1) e1 h
    refine ⟨e2, fun t => ?_, h⟩
    rw [h2, h1]
    simp only [upd]
    by_cases h0 : t = i
    · subst h0
      rw [if_neg (by omega), if_pos (Nat.le_refl _), Nat.sub_self, if_pos rfl]
      rfl
    · by_cases h3 : i + 1 ≤ t
      · rw [if_neg h0, if_pos h3, if_pos (show i ≤ t by omega), show t - i = (t - (i + 1)) + 1 by omega, List.getElem?_cons_succ]
      · rw [if_neg h3, if_neg h0, if_neg (by omega)]

/- CALLS TAKEN BY THE CALLEE's TEXT -/
def namesV (n : Nat) : V → List Nat := Nat.rec (motive := fun _ => V → List Nat) (fun _ => []) (fun _ ih v => match v with
  | .agg cs => cs.flatMap ih
  | .tup cs => cs.flatMap ih
  | .fn _ cs => cs.flatMap ih
  | .win k _ _ _ _ => [k]
  | .ptr k _ _ _ => [k]
  | .mp k => [k]
  | _ => []) n
def rowNames (p : Nat × Bool × VObj) : List Nat := match p with
  | (_, true, _) => []
  | (_, false, o) => o.rows.flatMap fun r => r.flatMap (namesV 3)
def memN (l : List Nat) (k : Nat) : Bool := match l with
  | [] => false
  | j :: l => match Nat.beq k j with
    | true => true
    | false => memN l k
theorem memN_mem : ∀ {l : List Nat} {k : Nat}, memN l k = true → k ∈ l
  | [], k, h => by cases h
  | j :: l, k, h => by
    simp only [memN] at h
    split at h
    · rename_i hb; rw [Nat.eq_of_beq_eq_true hb]; simp
    · exact List.mem_cons_of_mem _ (memN_mem h)
/-- names more -/
def addN : List Nat → List Nat → (List Nat → Prop) → Prop
  | [], ks, K => K ks
  | n :: ns, ks, K => match memN ks n with
    | true => addN ns ks K
    | false => addN ns (n :: ks) K
def growK : GH → List Nat → (List Nat → Prop) → Prop
  | [], ks, K => K ks
  | (k, s, o) :: H, ks, K => match memN ks k with
    | true => addN (rowNames (k, s, o)) ks fun ks => growK H ks K
    | false => growK H ks K
def reachK (n : Nat) (H : GH) : List Nat → (List Nat → Prop) → Prop := Nat.rec (motive := fun _ => List Nat → (List Nat → Prop) → Prop) (fun ks K => K ks) (fun _ ih ks K => match ks with
  | [] => K []
  | k :: ks => growK H (k :: ks) fun ks => ih ks K) n
theorem addN_sound : ∀ (ns ks : List Nat) {K : List Nat → Prop}, addN ns ks K → ∃ ks, K ks
  | [], ks, K, h => ⟨ks, h⟩
  | n :: ns, ks, K, h => by
    simp only [addN] at h
    split at h
    · exact addN_sound ns ks h
    · exact addN_sound ns _ h
theorem growK_sound : ∀ (H : GH) (ks : List Nat) {K : List Nat → Prop}, growK H ks K → ∃ ks, K ks
  | [], ks, K, h => ⟨ks, h⟩
  | (k, s, o) :: H, ks, K, h => by
    simp only [growK] at h
    split at h
    · obtain ⟨ks', h⟩ := addN_sound _ _ h
      exact growK_sound H ks' h
    · exact growK_sound H ks h
theorem reachK_sound : ∀ (n : Nat) (H : GH) (ks : List Nat) {K : List Nat → Prop}, reachK n H ks K → ∃ ks, K ks
  | 0, H, ks, K, h => ⟨ks, h⟩
  | n + 1, H, [], K, h => ⟨[], h⟩
  | n + 1, H, k :: ks, K, h => by
    obtain ⟨ks', h⟩ := growK_sound H (k :: ks) (K := fun ks => reachK n H ks K) h
    exact reachK_sound n H ks' h
/-- what can be reached from values -/
def fromK (H : GH) (ns : List Nat) (K : List Nat → Prop) : Prop := addN ns [] fun ks => reachK 4 H ks K
theorem fromK_sound {H : GH} {ns : List Nat} {K : List Nat → Prop} (h : fromK H ns K) : ∃ ks, K ks := by
  obtain ⟨ks, h⟩ := addN_sound _ _ h
  exact reachK_sound _ _ _ h
def GH.selK (q : Nat → Bool) : GH → (GH → Prop) → Prop
  | [], K => K []
  | (k, s, o) :: l, K => match q k with
    | true => GH.selK q l fun l' => K ((k, s, o) :: l')
    | false => GH.selK q l K
theorem GH.selK_sound {q : Nat → Bool} : ∀ (H : GH) {K : GH → Prop}, H.selK q K → ∃ B, B.hp = (fun k => if q k = true then H.hp k else none) ∧ (∀ p ∈ B, p ∈ H) ∧ K B
  | [], K, h => ⟨[], by funext k; simp [GH.hp], fun p hp => hp, h⟩
  | (k, s, o) :: l, K, h => by
    simp only [GH.selK] at h
    cases hq : q k with
    | true =>
      rw [hq] at h
      obtain ⟨B, h1, h2, h3⟩ := GH.selK_sound l h
      refine ⟨_, ?_, fun p hp => ?_, h3⟩
      · simp only [GH.hp, h1]
        funext t
        simp only [upd]
        by_cases e : t = k
        · subst e; simp [hq]
        · simp [e]
      · rcases List.mem_cons.1 hp with rfl | hp
        · simp
        · simp [h2 p hp]
    | false =>
      rw [hq] at h
      obtain ⟨B, h1, h2, h3⟩ := GH.selK_sound l h
      refine ⟨B, ?_, fun p hp => by simp [h2 p hp], h3⟩
      rw [h1]
      funext t
      simp only [GH.hp, upd]
      by_cases e : t = k
      · subst e; simp [hq]
      · simp [e]
def packK : List V → (V → Prop) → Prop
  | [x], K => K x
  | l, K => K (.tup l)
theorem packK_eq (l : List V) (K : V → Prop) : packK l K = K (pack l) := by
  match l with
  | [] => rfl
  | [x] => rfl
  | x :: y :: l => rfl
/-- what the callee leaves -/
def retG (T : TT) (fn : Func) (B : GH) (nx : Nat) (K : V → GH → Nat → Prop) : QT := fun ex e H nx1 => match ex with
  | .normal => resQ T e H fn.results.toList fun xs => packK xs fun v => fV v fun v => fromK H (namesV 4 v) fun ks => H.selK (fun k => Nat.blt k nx || memN ks k) fun B' =>
      chkK (Nat.ble nx nx1 && B'.keys.all (fun k => Nat.blt k nx1 && (Nat.ble nx k || memN B.keys k)) && nmQ (memN B'.keys) 4 v) <| objsNm (memN B'.keys) B' <| K v B' nx1
  | .ret => resQ T e H fn.results.toList fun xs => packK xs fun v => fV v fun v => fromK H (namesV 4 v) fun ks => H.selK (fun k => Nat.blt k nx || memN ks k) fun B' =>
      chkK (Nat.ble nx nx1 && B'.keys.all (fun k => Nat.blt k nx1 && (Nat.ble nx k || memN B.keys k)) && nmQ (memN B'.keys) 4 v) <| objsNm (memN B'.keys) B' <| K v B' nx1
  | _ => False
structure RetOk (B B' : GH) (nx nx' : Nat) (v : V) : Prop where
  le : nx ≤ nx'
  lt : ∀ j, j ∈ B'.keys → j < nx'
  new : ∀ j, j ∈ B'.keys → j ∉ B.keys → nx ≤ j
  nv : Nm (· ∈ B'.keys) v
  nb : ∀ p ∈ B', RowsNm (· ∈ B'.keys) p.2.2.rows
theorem retG_sound {T : TT} {fn : Func} {B : GH} {nx : Nat} {K : V → GH → Nat → Prop} {ex : Exit} {e : Tr} {H : GH} {nx1 : Nat} (h : retG T fn B nx K ex e H nx1) :
    (ex = .normal ∨ ex = .ret) ∧ ∃ xs B', resL T (stOf e H nx1) fn.results.toList = some xs ∧ Sub B'.hp H.hp ∧ RetOk B B' nx nx1 (pack xs) ∧ K (pack xs) B' nx1 := by
  have key : (resQ T e H fn.results.toList fun xs => packK xs fun v => fV v fun v => fromK H (namesV 4 v) fun ks => H.selK (fun k => Nat.blt k nx || memN ks k) fun B' =>
      chkK (Nat.ble nx nx1 && B'.keys.all (fun k => Nat.blt k nx1 && (Nat.ble nx k || memN B.keys k)) && nmQ (memN B'.keys) 4 v) <| objsNm (memN B'.keys) B' <| K v B' nx1) →
      ∃ xs B', resL T (stOf e H nx1) fn.results.toList = some xs ∧ Sub B'.hp H.hp ∧ RetOk B B' nx nx1 (pack xs) ∧ K (pack xs) B' nx1 := fun h => by
    obtain ⟨xs, hx, h⟩ := resQ_sound (nx := nx1) _ h
    rw [packK_eq] at h
    have h := fV_sound (v := pack xs) h
    obtain ⟨ks, h⟩ := fromK_sound h
    obtain ⟨B', h1, h2, h⟩ := GH.selK_sound H h
    obtain ⟨hc, h⟩ := chkK_sound h
    obtain ⟨ho, h⟩ := objsNm_sound _ h
    simp only [Bool.and_eq_true] at hc
    obtain ⟨⟨c1, c2⟩, c3⟩ := hc
    rw [List.all_eq_true] at c2
    refine ⟨xs, B', hx, fun k o hk => ?_, ⟨Nat.le_of_ble_eq_true c1, fun j hj => ?_, fun j hj hn => ?_, ?_, fun p hp => ?_⟩, h⟩
    · rw [h1] at hk
      simp only at hk
      split at hk
      · exact hk
      · cases hk
    · have := c2 j hj
      rw [Bool.and_eq_true] at this
      exact Nat.le_of_ble_eq_true this.1
    · have := c2 j hj
      rw [Bool.and_eq_true, Bool.or_eq_true] at this
      rcases this.2 with h | h
      · exact Nat.le_of_ble_eq_true h
      · exact absurd (memN_mem h) hn
    · exact (nmQ_sound 4 _ c3).mono fun k hk => memN_mem hk
    · exact fun r hr x hx => (ho p hp r hr x hx).mono fun k hk => memN_mem hk
  cases ex with
  | normal => exact ⟨.inl rfl, key h⟩
  | ret => exact ⟨.inr rfl, key h⟩
  | _ => exact h.elim

theorem fnG_of {P : Program} {T : TT} (hT : TOk P T) {k N nx nx1 : Nat} {fn : Func} {c : Code} {args : List V} {B B' : GH} {ex : Exit} {e : Tr} {H : GH} {xs : List V} (hf : P.funcs[k]? = some fn) (hb : fn.body = some c) (hok : callOk P k = true) (hN : N = args.length + (fn.ntmps - args.length)) (hB : ∀ j ∈ B.keys, j < nx)
    (hex : ex = .normal ∨ ex = .ret) (hres : resL T (stOf e H nx1) fn.results.toList = some xs) (hsub : Sub B'.hp H.hp) (hr : RetOk B B' nx nx1 (pack xs)) (h : AWpD P N nx c ex e H nx1 ⟨argEnv args, B.hp, nx⟩) : FnG P k args B nx (pack xs) B' nx1 := by
  refine ⟨hok, hr.le, hr.lt, hr.new, fun S ρ w vs hl hrep hs hnew => ?_⟩
  refine calls_of_wp hf hb ?_
  have hst : SimSt N S ρ { tmps := vs ++ Array.replicate (fn.ntmps - vs.size) undef, defers := [] } w ⟨argEnv args, B.hp, nx⟩ :=
    ⟨hs, argEnv_rep hl hrep, by simp [hN, hl], rfl, hnew, fun k o hk => hB k (GH.hp_keys.1 (by simp only at hk; rw [hk]; simp))⟩
  refine h S ρ _ w hst _ fun ex1 st1 S' ρ' a' w' hq hs' he => ?_
  obtain ⟨rfl, rfl⟩ := hq
  obtain ⟨u, hu, hur⟩ := results_run hT hs' hres
  have hret : ∃ v S' ρ', Ending.returned u = .returned v ∧ Rep S' ρ' w' v (pack xs) ∧ Sim S' ρ' w' B'.hp ∧ Ext0 S ρ w B.hp S' ρ' w' B'.hp := by
    refine ⟨u, S', ρ', rfl, hur, hs'.sim.sub hsub, ?_⟩
    exact { os := he.os, tape := he.tape, output := he.output, size := he.size, block := he.block, keeps := he.keeps, more := he.more, only := he.only
            live := fun b hb => he.live b (hb.sub hsub), own := fun b hb => he.own b (hb.sub hsub)
            keys := fun k b h => by
              rcases Nat.lt_or_ge k nx with hk | hk
              · exact he.low k b hk h
              · rw [hnew k hk] at h; cases h }
  rcases hex with rfl | rfl
  · exact ⟨hs'.defers, u, hu, hret⟩
  · exact ⟨hs'.defers, u, hu, hret⟩

/-- the texts that are taken at a call -/
abbrev ITab := Nat → Option (Func × Code × Nat × Nat × Nat)
/-- a function that gives a slice of elements of so many cells back, in new memory -/
def CloneOk (P : Program) (k N : Nat) : Prop := ∀ (L : List (List V)) (nx : Nat), oneRows L → L.length ≤ 2 ^ 32 → RowsNm (fun _ => False) L → FnG P k [.sl N L] [] nx (.win nx N 0 L.length L.length) [(nx, true, ⟨N, L, false⟩)] (nx + 1)
def IOk (P : Program) (I : ITab) : Prop := ∀ k fn c N d z, I k = some (fn, c, N, d, z) → P.funcs[k]? = some fn ∧ fn.body = some c ∧ callOk P k = true ∧ (z ≠ 0 → CloneOk P k z)
/-- by a contract whose answer lies in new memory -/
def callNN (P : Program) : CET := fun kf as H nx K => cvGs H as fun cs B => chkK ((keysOf B).all fun k => Nat.blt k nx) <| ∃ r B' n', FnN P kf cs r B' n' ∧ fV (shV nx 4 r) fun r => K (.gn (ghOf B) (shG nx B' ++ ghFz B) (nx + n')) r
theorem callNN_sound {P : Program} : CESound P (callNN P) := by
  intro kf as H nx K h
  obtain ⟨cs, B, ⟨h1, h2, h3⟩, h⟩ := cvGs_sound _ h
  obtain ⟨hk, r, B', n', hc, h⟩ := chkK_sound h
  rw [List.all_eq_true] at hk
  have hk : ∀ k, k ∈ keysOf B → k < nx := fun k h => Nat.le_of_ble_eq_true (hk k h)
  have h := fV_sound (v := shV nx 4 r) h
  have h3 := h3 (hpo B) (fun p hp => h1.mem hp)
  have ek : ∀ k, k ∈ keysOf (GH.hl (shG nx B' ++ ghFz B)) ↔ (∃ j ∈ B'.keys, k = j + nx) ∨ k ∈ keysOf B := fun k => by
    have e : GH.hl (shG nx B' ++ ghFz B) = (shG nx B').hl ++ frozen B := by rw [← ghFz_hl]; simp [GH.hl]
    have e2 : keysOf ((shG nx B').hl ++ frozen B) = keysOf (shG nx B').hl ++ keysOf (frozen B) := by simp [keysOf]
    have e3 : keysOf (frozen B) = keysOf B := by simp [keysOf, frozen]
    rw [e, e2, e3, GH.keys_hl, shG_keys]
    simp only [List.mem_append, List.mem_map]
    constructor
    · rintro (⟨j, h, rfl⟩ | h)
      · exact .inl ⟨j, h, rfl⟩
      · exact .inr h
    · rintro (⟨j, h, rfl⟩ | h)
      · exact .inl ⟨j, h, rfl⟩
      · exact .inr h
  refine ⟨_, _, h, fun ov o f xs ts caps ho hf ha => ?_⟩
  subst ha
  refine ⟨?_, ?_, Nat.le_add_right _ _, fun k hk1 hk2 => ?_, fun k hk1 => ?_⟩
  · have := lok_callN (nx := nx) 4 ho hf hc h2 h3 hk
    rw [ghOf_hl]
    have e : GH.hl (shG nx B' ++ ghFz B) = (shG nx B').hl ++ frozen B := by rw [← ghFz_hl]; simp [GH.hl]
    rw [e]
    exact this
  · rw [ghOf_hl]; exact h1.sub
  · rw [ghOf_hl] at hk2
    rcases (ek k).1 hk1 with ⟨j, _, rfl⟩ | hk1
    · omega
    · exact absurd hk1 hk2
  · rcases (ek k).1 hk1 with ⟨j, hj, rfl⟩ | hk1
    · have := hc.lt j hj; omega
    · have := hk k hk1; omega
/-- a clone of what never changes -/
def cloneK (z : Nat) (as : List V) (nx : Nat) (K : Eff → V → Prop) (X : Prop) : Prop := match z with
  | 0 => X
  | z + 1 => match as with
    | [.sl sz L] => chkK (Nat.beq sz (z + 1)) <| oneRows L ∧ L.length ≤ 2 ^ 32 ∧ RowsNm (fun _ => False) L ∧ K (.gn [] [(nx, true, ⟨sz, L, false⟩)] (nx + 1)) (.win nx sz 0 L.length L.length)
    | _ => X
abbrev VCT := Nat → Nat → Code → QT → Tr → GH → Nat → Prop
/-- by the callee's text where the table has it, by a contract where it has not -/
def ceI (P : Program) (T : TT) (I : ITab) (W : VCT) : CET := fun kf as H nx K => match I kf with
  | none => ceC P kf as H nx K
  | some (fn, c, N, d, z) => match d with
    | 0 => callNN P kf as H nx K
    | d + 1 => cloneK z as nx K <| chkK (Nat.beq N (as.length + (fn.ntmps - as.length))) <| fromK H (as.flatMap (namesV 4)) fun ks => H.selK (memN ks) fun B =>
      chkK (as.all (nmQ (fun k => Nat.blt k nx) 4) && B.keys.all (fun k => Nat.blt k nx)) <| objsNm (fun k => Nat.blt k nx) B <|
        initK as 0 (Tr.full (d + 1)) fun e => W N nx c (retG T fn B nx fun v B' nx' => K (.gn B B' nx') v) e B nx
theorem init_st {args : List V} {d : Nat} {e : Tr} {B : GH} {nx : Nat} (he : ∀ t, e.get t = if 0 ≤ t then (match args[t - 0]? with | some v => v | none => (Tr.full d).get t) else (Tr.full d).get t) : (⟨argEnv args, B.hp, nx⟩ : St) = stOf e B nx := by
  simp only [stOf]
  congr 1
  funext t
  rw [he t]
  simp only [Nat.zero_le, if_true, Nat.sub_zero, argEnv, Tr.full_get, List.getD]
  cases args[t]? <;> rfl
theorem ceI_sound {P : Program} {T : TT} (hT : TOk P T) (hm : P.follows .mixedOrders = true) {I : ITab} (hI : IOk P I) {CE : CET} (hCE : CESound P CE) : CESound P (ceI P T I (vc P T CE true)) := by
  intro kf as H nx K h
  unfold ceI at h
  split at h
  · exact ceC_sound _ _ _ _ _ h
  · rename_i fn c N d z hI'
    obtain ⟨hf, hb, hok, hcl⟩ := hI _ _ _ _ _ _ hI'
    split at h
    · exact callNN_sound _ _ _ _ _ h
    rename_i d
    have alt : ∀ (X : Prop), cloneK z as nx K X → (∃ sz L, as = [.sl sz L] ∧ z = sz ∧ z ≠ 0 ∧ oneRows L ∧ L.length ≤ 2 ^ 32 ∧ RowsNm (fun _ => False) L ∧ K (.gn [] [(nx, true, ⟨sz, L, false⟩)] (nx + 1)) (.win nx sz 0 L.length L.length)) ∨ X := fun X h => by
      unfold cloneK at h
      split at h
      · exact .inr h
      · split at h
        · obtain ⟨hz, h1, h2, h3, h4⟩ := chkK_sound h
          exact .inl ⟨_, _, rfl, (Nat.eq_of_beq_eq_true hz).symm, by omega, h1, h2, h3, h4⟩
        · exact .inr h
    rcases alt _ h with ⟨sz, L, ha0, hz, hz0, c1, c2, c3, hK⟩ | h
    · subst ha0
      subst hz
      have hg := hcl hz0 L nx c1 c2 c3
      refine ⟨_, _, hK, fun ov o f xs' ts caps hop hf' ha => ?_⟩
      refine ⟨lok_callG hop hf' hg ha (fun x hx => by simp only [List.mem_singleton] at hx; subst hx; exact .sl) (fun p hp => by cases hp) (fun j hj => by cases hj) (.win (by simp [GH.keys])) (fun p hp r hr x hx => ?_), Sub.nil _, Nat.le_succ _, ?_, ?_⟩
      · simp only [List.mem_singleton] at hp
        subst hp
        exact (c3 r hr x hx).mono fun k hk => hk.elim
      · intro k h1 _
        simp only [GH.hl, keysOf, List.map_cons, List.map_nil, List.mem_singleton] at h1
        omega
      · intro k h1
        simp only [GH.hl, keysOf, List.map_cons, List.map_nil, List.mem_singleton] at h1
        omega
    obtain ⟨hN, h⟩ := chkK_sound h
    have hN := Nat.eq_of_beq_eq_true hN
    obtain ⟨ks, h⟩ := fromK_sound h
    obtain ⟨B, b1, b2, h⟩ := GH.selK_sound H h
    obtain ⟨hc, h⟩ := chkK_sound h
    obtain ⟨ho, h⟩ := objsNm_sound _ h
    obtain ⟨e, he, h⟩ := initK_sound _ _ _ h
    obtain ⟨ex, e1, H1, nx1, hq, hd⟩ := vc_det hT hCE hm c _ e B nx h
    obtain ⟨hex, xs, B', hres, hsub, hr, hK⟩ := retG_sound hq
    rw [Bool.and_eq_true] at hc
    have hB : ∀ j ∈ B.keys, j < nx := fun j hj => Nat.le_of_ble_eq_true (List.all_eq_true.1 hc.2 j hj)
    rw [← init_st he] at hd
    have hg := fnG_of hT hf hb hok hN hB hex hres hsub hr hd
    refine ⟨_, _, hK, fun ov o f xs' ts caps hop hf' ha => ?_⟩
    refine ⟨lok_callG hop hf' hg ha (fun x hx => (nmQ_sound 4 x (List.all_eq_true.1 hc.1 x hx)).mono fun k hk => Nat.le_of_ble_eq_true hk) (fun p hp r hr x hx => (ho p hp r hr x hx).mono fun k hk => Nat.le_of_ble_eq_true hk) hB hr.nv hr.nb, ?_, hr.le, ?_, ?_⟩
    · rw [GH.hp_hl, b1]
      intro k o hk
      simp only at hk
      split at hk
      · exact hk
      · cases hk
    · intro k h1 h2
      rw [GH.keys_hl] at h1 h2
      exact hr.new k h1 h2
    · intro k h1
      rw [GH.keys_hl] at h1
      exact hr.lt k h1
/-- texts within texts, so deep -/
def ceN (P : Program) (T : TT) (I : ITab) : Nat → CET
  | 0 => ceC P
  | n + 1 => ceI P T I (vc P T (ceN P T I n) true)
theorem ceN_sound {P : Program} {T : TT} (hT : TOk P T) (hm : P.follows .mixedOrders = true) {I : ITab} (hI : IOk P I) : ∀ n, CESound P (ceN P T I n)
  | 0 => ceC_sound
  | n + 1 => ceI_sound hT hm hI (ceN_sound hT hm hI n)
def noI : ITab := fun _ => none
theorem noI_ok {P : Program} : IOk P noI := fun k fn c N d z h => by cases h

/-- A FUNCTION OF VALUES: what is to be shown of its body. -/
theorem fn_vcI {P : Program} {T : TT} (hT : TOk P T) (hm : P.follows .mixedOrders = true) {I : ITab} (hI : IOk P I) (n : Nat) {k N d : Nat} {fn : Func} {c : Code} {args : List V} {r : V} (hf : P.funcs[k]? = some fn) (hb : fn.body = some c) (hn : (fn.name == "runtime.NumGoroutine") = false) (hN : N = args.length + (fn.ntmps - args.length))
    (h : initK args 0 (Tr.full d) fun e => vc P T (ceN P T I n) false N 0 c (retQ T fn r) e [] 0) : FnC P k args [] r [] := by
  refine ⟨by simp [callOk, hf, hn, hb], ?_⟩
  obtain ⟨e, he, h⟩ := initK_sound _ _ _ h
  refine fn_intro (m := 0) hT hf hb hN (fun k h => by simp [keysOf] at h) ?_
  have hst : (⟨argEnv args, hpo [], 0⟩ : St) = stOf e [] 0 := init_st (B := []) he
  rw [hst]
  exact awp_mono (vc_sound hT (ceN_sound hT hm hI n) hm c _ e [] 0 h) fun ex st hq => retQ_sound hq
theorem fn_vc {P : Program} {T : TT} (hT : TOk P T) (hm : P.follows .mixedOrders = true) {k N d : Nat} {fn : Func} {c : Code} {args : List V} {r : V} (hf : P.funcs[k]? = some fn) (hb : fn.body = some c) (hn : (fn.name == "runtime.NumGoroutine") = false) (hN : N = args.length + (fn.ntmps - args.length))
    (h : initK args 0 (Tr.full d) fun e => vc P T (ceC P) false N 0 c (retQ T fn r) e [] 0) : FnC P k args [] r [] := fn_vcI hT hm noI_ok 0 hf hb hn hN h

attribute [irreducible] LoopN
end Go.Proofs.Ytbieiehfohldjaa
namespace Go.Proofs.Ytbieiehfohldjaa
open Go
set_option linter.unusedVariables false
set_option linter.unusedSimpArgs false

attribute [local semireducible] LoopN
/-- several slots are written -/
def setsK (l : List (Nat × V)) : Tr → (Tr → Prop) → Prop := List.rec (motive := fun _ => Tr → (Tr → Prop) → Prop) (fun e K => K e) (fun p _ ih e K => match p with
  | (k, v) => e.setK k v fun e => ih e K) l
def updL (f : Nat → V) : List (Nat × V) → Nat → V
  | [] => f
  | p :: l => updL (upd f p.1 p.2) l
theorem setsK_sound : ∀ (l : List (Nat × V)) (e : Tr) {K : Tr → Prop}, setsK l e K → ∃ e', e'.get = updL e.get l ∧ K e'
  | [], e, K, h => ⟨e, rfl, h⟩
  | p :: l, e, K, h => by
    obtain ⟨k, v⟩ := p
    have h : e.setK k v fun e => setsK l e K := h
    obtain ⟨e1, h1, h⟩ := Tr.setK_sound _ _ h
    obtain ⟨e2, h2, h⟩ := setsK_sound l e1 h
    exact ⟨e2, by rw [h2, h1]; rfl, h⟩

/- one state told by another one: 't': the new name's old one -/
abbrev Ren := List (Nat × Nat)
noncomputable def lookN (l : Ren) (k : Nat) : Option Nat := List.rec (motive := fun _ => Option Nat) none (fun p _ ih => match Nat.beq k p.1 with
  | true => some p.2
  | false => ih) l
noncomputable def tauF (m : Nat) (l : Ren) (k : Nat) : Option Nat := match Nat.blt k m with
  | true => some k
  | false => lookN l k
noncomputable def tauQ (m : Nat) (l : Ren) (k k' : Nat) : Bool := match tauF m l k with
  | some j => Nat.beq j k'
  | none => false
theorem tauQ_eq {m : Nat} {l : Ren} {k k' : Nat} (h : tauQ m l k k' = true) : tauF m l k = some k' := by
  unfold tauQ at h
  split at h
  · rename_i j hj; rw [hj, Nat.eq_of_beq_eq_true h]
  · cases h
theorem lookN_mem : ∀ {l : Ren} {k j : Nat}, lookN l k = some j → (k, j) ∈ l
  | [], k, j, h => by cases h
  | p :: l, k, j, h => by
    have h : (match Nat.beq k p.1 with | true => some p.2 | false => lookN l k) = some j := h
    split at h
    · rename_i hb
      have := Nat.eq_of_beq_eq_true hb
      cases h
      subst this
      simp
    · exact List.mem_cons_of_mem _ (lookN_mem h)
def nodupN : List Nat → Bool
  | [] => true
  | k :: l => !(l.contains k) && nodupN l
theorem nodupN_sound : ∀ {l : List Nat}, nodupN l = true → l.Nodup
  | [], _ => List.nodup_nil
  | k :: l, h => by
    simp only [nodupN, Bool.and_eq_true, Bool.not_eq_true', List.contains_eq_mem, decide_eq_false_iff_not] at h
    exact List.nodup_cons.2 ⟨h.1, nodupN_sound h.2⟩
/-- is it a renaming, of names from m up to nx? -/
noncomputable def renOk (m nx : Nat) (l : Ren) : Bool := Nat.ble m nx && nodupN (l.map (·.2)) && nodupN (l.map (·.1)) && l.all fun p => Nat.ble m p.1 && Nat.blt p.1 nx && Nat.ble m p.2
structure TauOk (m nx : Nat) (τ : Nat → Option Nat) : Prop where
  low : ∀ k, k < m → τ k = some k
  nx : ∀ k, nx ≤ k → τ k = none
  inj : ∀ k k' k0, τ k = some k0 → τ k' = some k0 → k = k'
theorem nodup_snd : ∀ {l : Ren}, (l.map (·.2)).Nodup → ∀ {p q : Nat × Nat}, p ∈ l → q ∈ l → p.2 = q.2 → p = q
  | [], _, p, q, h, _, _ => by cases h
  | r :: l, hn, p, q, h1, h2, e => by
    rw [List.map_cons, List.nodup_cons] at hn
    rcases List.mem_cons.1 h1 with h1 | h1 <;> rcases List.mem_cons.1 h2 with h2 | h2
    · rw [h1, h2]
    · exact absurd (List.mem_map.2 ⟨q, h2, by rw [← e, h1]⟩) hn.1
    · exact absurd (List.mem_map.2 ⟨p, h1, by rw [e, h2]⟩) hn.1
    · exact nodup_snd hn.2 h1 h2 e
theorem tau_ok {m nx : Nat} {l : Ren} (h : renOk m nx l = true) : TauOk m nx (tauF m l) := by
  simp only [renOk, Bool.and_eq_true] at h
  obtain ⟨⟨⟨h1, h2⟩, _⟩, h3⟩ := h
  have h1 := Nat.le_of_ble_eq_true h1
  have hn := nodupN_sound h2
  have hm : ∀ p ∈ l, m ≤ p.1 ∧ p.1 < nx ∧ m ≤ p.2 := fun p hp => by
    have := List.all_eq_true.1 h3 p hp
    simp only [Bool.and_eq_true] at this
    exact ⟨Nat.le_of_ble_eq_true this.1.1, Nat.le_of_ble_eq_true this.1.2, Nat.le_of_ble_eq_true this.2⟩
  have hlow : ∀ k, k < m → tauF m l k = some k := fun k hk => by
    simp only [tauF]
    rw [show Nat.blt k m = true from Nat.ble_eq_true_of_le hk]
  have hhigh : ∀ k, ¬ k < m → tauF m l k = lookN l k := fun k hk => by
    simp only [tauF]
    cases hb : Nat.blt k m with
    | true => exact absurd (Nat.le_of_ble_eq_true hb) hk
    | false => rfl
  refine ⟨hlow, fun k hk => ?_, fun k k' k0 a b => ?_⟩
  · rw [hhigh k (by omega)]
    cases hl : lookN l k with
    | none => rfl
    | some j => have := (hm _ (lookN_mem hl)).2.1; simp only at this; omega
  · by_cases hk : k < m <;> by_cases hk' : k' < m
    · rw [hlow k hk] at a; rw [hlow k' hk'] at b; cases a; cases b; rfl
    · rw [hlow k hk] at a; rw [hhigh k' hk'] at b; cases a
      have := (hm _ (lookN_mem b)).2.2; simp only at this; omega
    · rw [hlow k' hk'] at b; rw [hhigh k hk] at a; cases b
      have := (hm _ (lookN_mem a)).2.2; simp only at this; omega
    · rw [hhigh k hk] at a; rw [hhigh k' hk'] at b
      have := nodup_snd hn (lookN_mem a) (lookN_mem b) rfl
      exact (Prod.mk.inj this).1

abbrev WVF := V → V → Prop → Prop
def wvL (f : WVF) (cs : List V) : List V → Prop → Prop := List.rec (motive := fun _ => List V → Prop → Prop) (fun ds X => match ds with
  | [] => X
  | _ => False) (fun c _ ih ds X => match ds with
  | d :: ds => f c d (ih ds X)
  | [] => False) cs
/-- a value told more weakly -/
def wvK (m : Nat) (t : Ren) (n : Nat) : WVF := Nat.rec (motive := fun _ => WVF) (fun _ _ _ => False) (fun _ ih x y X => match x with
  | .any => X
  | .lit a => match y with
    | .lit b => a = b ∧ X
    | _ => False
  | .sl sz l => match y with
    | .sl sz' l' => chkK (Nat.beq sz sz') (l = l' ∧ X)
    | .sls sz' l' _ _ => chkK (Nat.beq sz sz') (l = l' ∧ X)
    | .lit (.slice none 0 0) => l = [] ∧ X
    | _ => False
  | .win k sz lo n cp => match y with
    | .win k' sz' lo' n' cp' => chkK (tauQ m t k k' && Nat.beq sz sz') (lo = lo' ∧ n = n' ∧ cp = cp' ∧ X)
    | .lit (.slice none 0 0) => n = 0 ∧ cp = 0 ∧ X
    | .sls sz' l' nn' ex' => match ex' with
      | true => l' = [] ∧ n = 0 ∧ cp = 0 ∧ X
      | false => False
    | _ => False
  | .ptr k sz i off => match y with
    | .ptr k' sz' i' off' => chkK (tauQ m t k k' && Nat.beq sz sz') (i = i' ∧ off = off' ∧ X)
    | _ => False
  | .mp k => match y with
    | .mp k' => chkK (tauQ m t k k') X
    | _ => False
  | .ip cs => match y with
    | .ip ds => cs = ds ∧ X
    | _ => False
  | .sls sz l nn ex => match y with
    | .sls sz' l' nn' ex' => sz = sz' ∧ l = l' ∧ nn = nn' ∧ ex = ex' ∧ X
    | _ => False
  | .agg cs => match y with
    | .agg ds => wvL ih cs ds X
    | _ => False
  | .tup cs => match y with
    | .tup ds => wvL ih cs ds X
    | _ => False
  | .fn f cs => match y with
    | .fn f' ds => chkK (Nat.beq f f') (wvL ih cs ds X)
    | _ => False) n
def WVS (B : Hp) (τ : Nat → Option Nat) (f : WVF) : Prop := ∀ x y X, f x y X → Wv B τ x y ∧ X
theorem wvL_sound {B : Hp} {τ : Nat → Option Nat} {f : WVF} (hf : WVS B τ f) : ∀ (cs ds : List V) (X : Prop), wvL f cs ds X → (cs.length = ds.length ∧ ∀ (i : Nat) (x y : V), cs[i]? = some x → ds[i]? = some y → Wv B τ x y) ∧ X
  | [], [], X, h => ⟨⟨rfl, fun i x y a => by simp at a⟩, h⟩
  | [], _ :: _, X, h => h.elim
  | c :: cs, [], X, h => h.elim
  | c :: cs, d :: ds, X, h => by
    have h : f c d (wvL f cs ds X) := h
    obtain ⟨h1, h⟩ := hf _ _ _ h
    obtain ⟨⟨h2, h3⟩, h4⟩ := wvL_sound hf cs ds X h
    refine ⟨⟨by simp [h2], fun i x y a b => ?_⟩, h4⟩
    cases i with
    | zero => simp at a b; subst a; subst b; exact h1
    | succ i => exact h3 i x y (by simpa using a) (by simpa using b)
theorem wvK_sound {B : Hp} {m : Nat} {t : Ren} : ∀ (n : Nat), WVS B (tauF m t) (wvK m t n)
  | 0 => fun x y X h => h.elim
  | n + 1 => fun x y X h => by
    have ih := wvK_sound (B := B) (m := m) (t := t) n
    cases x with
    | any => exact ⟨.any, h⟩
    | lit a =>
      cases y with
      | lit b => obtain ⟨rfl, h⟩ := h; exact ⟨.lit, h⟩
      | _ => exact h.elim
    | sl sz l =>
      cases y with
      | sl sz' l' =>
        obtain ⟨hc, rfl, h9⟩ := chkK_sound (b := Nat.beq sz sz') h
        obtain rfl := Nat.eq_of_beq_eq_true hc
        exact ⟨.sl, h9⟩
      | sls sz' l' nn ex =>
        obtain ⟨hc, rfl, h9⟩ := chkK_sound (b := Nat.beq sz sz') h
        obtain rfl := Nat.eq_of_beq_eq_true hc
        exact ⟨.slsl, h9⟩
      | lit v =>
        have h : (match v with | .slice none 0 0 => l = [] ∧ X | _ => False) := by
          revert h; simp only [wvK]
          intro h
          split at h <;> first | (rename_i e; cases e; exact h) | (rename_i e; cases e) | exact h.elim
        split at h
        · obtain ⟨rfl, h⟩ := h; exact ⟨.nil, h⟩
        · exact h.elim
      | _ => exact h.elim
    | win k sz lo n cp =>
      cases y with
      | win k' sz' lo' n' cp' =>
        obtain ⟨hc, rfl, rfl, rfl, h9⟩ := chkK_sound (b := tauQ m t k k' && Nat.beq sz sz') h
        rw [Bool.and_eq_true] at hc
        obtain rfl := Nat.eq_of_beq_eq_true hc.2
        exact ⟨.win (tauQ_eq hc.1), h9⟩
      | lit v =>
        have h : (match v with | .slice none 0 0 => n = 0 ∧ cp = 0 ∧ X | _ => False) := by
          revert h; simp only [wvK]
          intro h
          split at h <;> first | (rename_i e; cases e; exact h) | (rename_i e; cases e) | exact h.elim
        split at h
        · obtain ⟨rfl, rfl, h⟩ := h; exact ⟨.winN, h⟩
        · exact h.elim
      | sls sz' l' nn' ex' =>
        cases ex' with
        | true =>
          obtain ⟨rfl, rfl, rfl, h⟩ := h
          exact ⟨.winX, h⟩
        | false => exact h.elim
      | _ => exact h.elim
    | ptr k sz i off =>
      cases y with
      | ptr k' sz' i' off' =>
        obtain ⟨hc, rfl, rfl, h9⟩ := chkK_sound (b := tauQ m t k k' && Nat.beq sz sz') h
        rw [Bool.and_eq_true] at hc
        obtain rfl := Nat.eq_of_beq_eq_true hc.2
        exact ⟨.ptr (tauQ_eq hc.1), h9⟩
      | _ => exact h.elim
    | mp k =>
      cases y with
      | mp k' =>
        obtain ⟨hc, h9⟩ := chkK_sound (b := tauQ m t k k') h
        exact ⟨.mp (tauQ_eq hc), h9⟩
      | _ => exact h.elim
    | ip cs =>
      cases y with
      | ip ds => obtain ⟨rfl, h⟩ := h; exact ⟨.ip, h⟩
      | _ => exact h.elim
    | sls sz l nn ex =>
      cases y with
      | sls sz' l' nn' ex' => obtain ⟨rfl, rfl, rfl, rfl, h⟩ := h; exact ⟨.sls, h⟩
      | _ => exact h.elim
    | agg cs =>
      cases y with
      | agg ds => obtain ⟨⟨h1, h2⟩, h⟩ := wvL_sound ih cs ds X h; exact ⟨.agg h1 h2, h⟩
      | _ => exact h.elim
    | tup cs =>
      cases y with
      | tup ds => obtain ⟨⟨h1, h2⟩, h⟩ := wvL_sound ih cs ds X h; exact ⟨.tup h1 h2, h⟩
      | _ => exact h.elim
    | fn f cs =>
      cases y with
      | fn f' ds =>
        obtain ⟨hc, h9⟩ := chkK_sound (b := Nat.beq f f') h
        obtain rfl := Nat.eq_of_beq_eq_true hc
        obtain ⟨⟨h1, h2⟩, h8⟩ := wvL_sound ih cs ds X h9
        exact ⟨.fn h1 h2, h8⟩
      | _ => exact h.elim

/-- slots -/
def wkTr (f : WVF) (e2 : Tr) : Tr → Prop → Prop := Tr.rec (motive := fun _ => Tr → Prop → Prop) (fun e1 X => match e1 with
  | .lf => X
  | _ => False) (fun v2 _ _ ihl ihr e1 X => match e1 with
  | .nd v1 l1 r1 => f v2 v1 (ihl l1 (ihr r1 X))
  | .lf => False) e2
theorem wkTr_sound {B : Hp} {τ : Nat → Option Nat} {f : WVF} (hf : WVS B τ f) : ∀ (e2 e1 : Tr) (X : Prop), wkTr f e2 e1 X → (∀ t, Wv B τ (e2.get t) (e1.get t)) ∧ X
  | .lf, .lf, X, h => ⟨fun t => .tup rfl (fun i x y a => by simp at a), h⟩
  | .lf, .nd _ _ _, X, h => h.elim
  | .nd _ _ _, .lf, X, h => h.elim
  | .nd v2 l2 r2, .nd v1 l1 r1, X, h => by
    have h : f v2 v1 (wkTr f l2 l1 (wkTr f r2 r1 X)) := h
    obtain ⟨h1, h⟩ := hf _ _ _ h
    obtain ⟨h2, h⟩ := wkTr_sound hf l2 l1 _ h
    obtain ⟨h3, h⟩ := wkTr_sound hf r2 r1 _ h
    refine ⟨fun t => ?_, h⟩
    simp only [Tr.get]
    split
    · exact h1
    · split
      · exact h2 _
      · exact h3 _
def rowsWk (f : WVF) (rs : List (List V)) : List (List V) → Prop → Prop := List.rec (motive := fun _ => List (List V) → Prop → Prop) (fun qs X => match qs with
  | [] => X
  | _ => False) (fun r _ ih qs X => match qs with
  | q :: qs => wvL f r q (ih qs X)
  | [] => False) rs
theorem rowsWk_sound {B : Hp} {τ : Nat → Option Nat} {f : WVF} (hf : WVS B τ f) : ∀ (rs qs : List (List V)) (X : Prop), rowsWk f rs qs X → (rs.length = qs.length ∧ (∀ (i : Nat) (r s : List V), rs[i]? = some r → qs[i]? = some s → r.length = s.length) ∧
    ∀ (i j : Nat) (r s : List V) (x y : V), rs[i]? = some r → qs[i]? = some s → r[j]? = some x → s[j]? = some y → Wv B τ x y) ∧ X
  | [], [], X, h => ⟨⟨rfl, (fun i r s a => by simp at a), fun i j r s x y a => by simp at a⟩, h⟩
  | [], _ :: _, X, h => h.elim
  | c :: cs, [], X, h => h.elim
  | c :: cs, d :: ds, X, h => by
    have h : wvL f c d (rowsWk f cs ds X) := h
    obtain ⟨⟨h1, h1'⟩, h⟩ := wvL_sound hf _ _ _ h
    obtain ⟨⟨h2, h3, h4⟩, h5⟩ := rowsWk_sound hf cs ds X h
    refine ⟨⟨by simp [h2], fun i r s a b => ?_, fun i j r s x y a b p q => ?_⟩, h5⟩
    · cases i with
      | zero => simp at a b; subst a; subst b; exact h1
      | succ i => exact h3 i r s (by simpa using a) (by simpa using b)
    · cases i with
      | zero => simp at a b; subst a; subst b; exact h1' j x y p q
      | succ i => exact h4 i j r s x y (by simpa using a) (by simpa using b) p q
/-- objects -/
def objsWk (m : Nat) (t : Ren) (f : WVF) (H1 : GH) (H2 : GH) : Prop → Prop := List.rec (motive := fun _ => Prop → Prop) (fun X => X) (fun p _ ih X => match p with
  | (k2, sy, o2) => match tauF m t k2 with
    | some k1 => H1.getK k1 fun _ o1 => chkK (Nat.beq o2.sz o1.sz && (o2.frz == o1.frz)) <| condN sy (o2.rows = o1.rows ∧ rowsPlain o2.rows ∧ ih X) (rowsWk f o2.rows o1.rows (ih X))
    | none => o2.rows = [] ∧ ih X) H2
theorem objsWk_sound {m : Nat} {t : Ren} {f : WVF} (hf : WVS noH (tauF m t) f) {H1 : GH} : ∀ (H2 : GH) (X : Prop), objsWk m t f H1 H2 X →
    (∀ k o, H2.hp k = some o → (∃ k0 o0, tauF m t k = some k0 ∧ H1.hp k0 = some o0 ∧ ORel noH (tauF m t) o o0) ∨ (tauF m t k = none ∧ o.rows = [])) ∧ X
  | [], X, h => ⟨fun k o h => (by cases h), h⟩
  | (k2, sy, o2) :: H2, X, h => by
    have h : (match tauF m t k2 with
      | some k1 => H1.getK k1 fun _ o1 => chkK (Nat.beq o2.sz o1.sz && (o2.frz == o1.frz)) <| condN sy (o2.rows = o1.rows ∧ rowsPlain o2.rows ∧ objsWk m t f H1 H2 X) (rowsWk f o2.rows o1.rows (objsWk m t f H1 H2 X))
      | none => o2.rows = [] ∧ objsWk m t f H1 H2 X : Prop) := h
    have key : ((∃ k0 o0, tauF m t k2 = some k0 ∧ H1.hp k0 = some o0 ∧ ORel noH (tauF m t) o2 o0) ∨ (tauF m t k2 = none ∧ o2.rows = [])) ∧ objsWk m t f H1 H2 X := by
      split at h
      · rename_i k1 hk
        obtain ⟨s1, o1, h1, h⟩ := GH.getK_sound _ _ h
        obtain ⟨hc, h⟩ := chkK_sound h
        rw [Bool.and_eq_true] at hc
        have hz := Nat.eq_of_beq_eq_true hc.1
        have hfr : o2.frz = o1.frz := by simpa using hc.2
        rcases condN_sound h with ⟨_, h⟩ | ⟨_, h⟩
        · obtain ⟨h2, h3, h4⟩ := h
          refine And.intro (.inl ⟨k1, o1, hk, h1, ⟨hz, hfr, by rw [h2], fun i r s a b => by rw [h2, b] at a; cases a; rfl, fun i j r s x y a b p q => ?_⟩⟩) h4
          rw [← h2, a] at b
          obtain rfl : r = s := Option.some.inj b
          rw [p] at q
          obtain rfl : x = y := Option.some.inj q
          have := h3 r (List.mem_of_getElem? a)
          rw [List.all_eq_true] at this
          exact kfc_wv (this x (List.mem_of_getElem? p))
        · obtain ⟨⟨h2, h3, h4⟩, h5⟩ := rowsWk_sound hf _ _ _ h
          exact ⟨.inl ⟨k1, o1, hk, h1, ⟨hz, hfr, h2, h3, h4⟩⟩, h5⟩
      · rename_i hk
        exact ⟨.inr ⟨hk, h.1⟩, h.2⟩
    obtain ⟨hkey, h⟩ := key
    obtain ⟨ih1, ih2⟩ := objsWk_sound hf H2 X h
    refine ⟨fun k o hk => ?_, ih2⟩
    simp only [GH.hp, upd] at hk
    split at hk
    · rename_i e; subst e; cases hk; exact hkey
    · exact ih1 k o hk

/-- the state e1, H1 is told by e2, H2, nx2 -/
def wkE (m : Nat) (t : Ren) (e1 : Tr) (H1 : GH) (e2 : Tr) (H2 : GH) (nx2 : Nat) (X : Prop) : Prop :=
  chkK (renOk m nx2 t && H2.keys.all fun k => Nat.blt k nx2) <| wkTr (wvK m t 5) e2 e1 <| objsWk m t (wvK m t 4) H1 H2 X
theorem wkE_sound {m nx1 : Nat} {t : Ren} {e1 e2 : Tr} {H1 H2 : GH} {nx2 : Nat} {X : Prop} (h : wkE m t e1 H1 e2 H2 nx2 X) : Wk m (tauF m t) (stOf e1 H1 nx1) (stOf e2 H2 nx2) ∧ X := by
  obtain ⟨hc, h⟩ := chkK_sound h
  rw [Bool.and_eq_true] at hc
  obtain ⟨h1, h⟩ := wkTr_sound (B := noH) (wvK_sound 5) _ _ _ h
  obtain ⟨h2, h⟩ := objsWk_sound (wvK_sound 4) _ _ h
  have ht := tau_ok hc.1
  refine ⟨⟨h1, h2, ht.inj, ht.nx, fun k o hk => ?_, ht.low⟩, h⟩
  exact Nat.le_of_ble_eq_true (List.all_eq_true.1 hc.2 k (GH.hp_keys.1 (by simp only [stOf] at hk; rw [hk]; simp)))

/- the renaming, found -/
abbrev RVF := V → V → Ren → (Ren → Prop) → Prop
noncomputable def addRen (m : Nat) (k k' : Nat) (acc : Ren) (K : Ren → Prop) : Prop := match Nat.blt k m with
  | true => K acc
  | false => match lookN acc k with
    | some _ => K acc
    | none => K ((k, k') :: acc)
def renLK (f : RVF) (cs : List V) : List V → Ren → (Ren → Prop) → Prop := List.rec (motive := fun _ => List V → Ren → (Ren → Prop) → Prop) (fun _ acc K => K acc) (fun c _ ih ds acc K => match ds with
  | d :: ds => f c d acc fun acc => ih ds acc K
  | [] => K acc) cs
noncomputable def renVK (m n : Nat) : RVF := Nat.rec (motive := fun _ => RVF) (fun _ _ acc K => K acc) (fun _ ih x y acc K => match x with
  | .win k _ _ _ _ => match y with
    | .win k' _ _ _ _ => addRen m k k' acc K
    | _ => K acc
  | .ptr k _ _ _ => match y with
    | .ptr k' _ _ _ => addRen m k k' acc K
    | _ => K acc
  | .agg cs => match y with
    | .agg ds => renLK ih cs ds acc K
    | _ => K acc
  | .tup cs => match y with
    | .tup ds => renLK ih cs ds acc K
    | _ => K acc
  | .fn _ cs => match y with
    | .fn _ ds => renLK ih cs ds acc K
    | _ => K acc
  | _ => K acc) n
def renTrK (f : RVF) (e2 : Tr) : Tr → Ren → (Ren → Prop) → Prop := Tr.rec (motive := fun _ => Tr → Ren → (Ren → Prop) → Prop) (fun _ acc K => K acc) (fun v2 _ _ ihl ihr e1 acc K => match e1 with
  | .nd v1 l1 r1 => f v2 v1 acc fun acc => ihl l1 acc fun acc => ihr r1 acc K
  | .lf => K acc) e2
def renRowsK (f : RVF) (rs : List (List V)) : List (List V) → Ren → (Ren → Prop) → Prop := List.rec (motive := fun _ => List (List V) → Ren → (Ren → Prop) → Prop) (fun _ acc K => K acc) (fun r _ ih qs acc K => match qs with
  | q :: qs => renLK f r q acc fun acc => ih qs acc K
  | [] => K acc) rs
def GH.getO : GH → Nat → Option (Bool × VObj)
  | [], _ => none
  | (j, s, o) :: l, k => match Nat.beq k j with
    | true => some (s, o)
    | false => GH.getO l k
noncomputable def renHK (f : RVF) (H1 : GH) (H2 : GH) : Ren → (Ren → Prop) → Prop := List.rec (motive := fun _ => Ren → (Ren → Prop) → Prop) (fun acc K => K acc) (fun p _ ih acc K => match p with
  | (k2, false, o2) => match lookN acc k2 with
    | some k1 => match H1.getO k1 with
      | some (_, o1) => renRowsK f o2.rows o1.rows acc fun acc => ih acc K
      | none => ih acc K
    | none => ih acc K
  | (_, true, _) => ih acc K) H2
def RVS (f : RVF) : Prop := ∀ x y acc K, f x y acc K → ∃ t, K t
theorem addRen_sound {m k k' : Nat} {acc : Ren} {K : Ren → Prop} (h : addRen m k k' acc K) : ∃ t, K t := by
  unfold addRen at h
  split at h
  · exact ⟨_, h⟩
  · split at h <;> exact ⟨_, h⟩
theorem renLK_sound {f : RVF} (hf : RVS f) : ∀ (cs ds : List V) (acc : Ren) (K : Ren → Prop), renLK f cs ds acc K → ∃ t, K t
  | [], ds, acc, K, h => ⟨_, h⟩
  | c :: cs, [], acc, K, h => ⟨_, h⟩
  | c :: cs, d :: ds, acc, K, h => by
    obtain ⟨t, h⟩ := hf c d acc (fun acc => renLK f cs ds acc K) h
    exact renLK_sound hf cs ds t K h
theorem renVK_sound {m : Nat} : ∀ n, RVS (renVK m n)
  | 0 => fun x y acc K h => ⟨_, h⟩
  | n + 1 => fun x y acc K h => by
    have ih := renVK_sound (m := m) n
    cases x with
    | win k sz lo n' cp => cases y <;> first | exact addRen_sound (K := K) h | exact ⟨_, h⟩
    | ptr k sz i off => cases y <;> first | exact addRen_sound (K := K) h | exact ⟨_, h⟩
    | agg cs => cases y <;> first | exact renLK_sound ih cs _ acc K h | exact ⟨_, h⟩
    | tup cs => cases y <;> first | exact renLK_sound ih cs _ acc K h | exact ⟨_, h⟩
    | fn f cs => cases y <;> first | exact renLK_sound ih cs _ acc K h | exact ⟨_, h⟩
    | _ => exact ⟨_, h⟩
theorem renTrK_sound {f : RVF} (hf : RVS f) : ∀ (e2 e1 : Tr) (acc : Ren) (K : Ren → Prop), renTrK f e2 e1 acc K → ∃ t, K t
  | .lf, e1, acc, K, h => ⟨_, h⟩
  | .nd v2 l2 r2, .lf, acc, K, h => ⟨_, h⟩
  | .nd v2 l2 r2, .nd v1 l1 r1, acc, K, h => by
    obtain ⟨t, h⟩ := hf v2 v1 acc (fun acc => renTrK f l2 l1 acc fun acc => renTrK f r2 r1 acc K) h
    obtain ⟨t, h⟩ := renTrK_sound hf l2 l1 t (fun acc => renTrK f r2 r1 acc K) h
    exact renTrK_sound hf r2 r1 t K h
theorem renRowsK_sound {f : RVF} (hf : RVS f) : ∀ (rs qs : List (List V)) (acc : Ren) (K : Ren → Prop), renRowsK f rs qs acc K → ∃ t, K t
  | [], qs, acc, K, h => ⟨_, h⟩
  | r :: rs, [], acc, K, h => ⟨_, h⟩
  | r :: rs, q :: qs, acc, K, h => by
    obtain ⟨t, h⟩ := renLK_sound hf r q acc (fun acc => renRowsK f rs qs acc K) h
    exact renRowsK_sound hf rs qs t K h
theorem renHK_sound {f : RVF} (hf : RVS f) {H1 : GH} : ∀ (H2 : GH) (acc : Ren) (K : Ren → Prop), renHK f H1 H2 acc K → ∃ t, K t
  | [], acc, K, h => ⟨_, h⟩
  | (k2, true, o2) :: H2, acc, K, h => renHK_sound hf H2 acc K h
  | (k2, false, o2) :: H2, acc, K, h => by
    have h : (match lookN acc k2 with
      | some k1 => match H1.getO k1 with
        | some (_, o1) => renRowsK f o2.rows o1.rows acc fun acc => renHK f H1 H2 acc K
        | none => renHK f H1 H2 acc K
      | none => renHK f H1 H2 acc K) := h
    split at h
    · split at h
      · obtain ⟨t, h⟩ := renRowsK_sound hf _ _ _ _ h
        exact renHK_sound hf H2 t K h
      · exact renHK_sound hf H2 acc K h
    · exact renHK_sound hf H2 acc K h
/-- told by e2, H2, nx2, by a renaming that is found -/
def wkA (m : Nat) (e1 : Tr) (H1 : GH) (e2 : Tr) (H2 : GH) (nx2 : Nat) : Prop := renTrK (renVK m 4) e2 e1 [] fun t => renHK (renVK m 3) H1 H2 t fun t => wkE m t e1 H1 e2 H2 nx2 True
theorem wkA_sound {m : Nat} {e1 : Tr} {H1 : GH} {e2 : Tr} {H2 : GH} {nx2 : Nat} (h : wkA m e1 H1 e2 H2 nx2) : ∃ t, wkE m t e1 H1 e2 H2 nx2 True := by
  obtain ⟨t, h⟩ := renTrK_sound (renVK_sound 4) _ _ _ _ h
  exact renHK_sound (renVK_sound 3) _ _ _ h

section
variable {P : Program} {N m : Nat}
theorem awp_wkpost {c : Code} {Q : Exit → St → Prop} {st : St} (h : AWp P N m c (fun ex st1 => ∃ τ st2, Wk m τ st1 st2 ∧ Q ex st2) st) : AWp P N m c Q st := fun S ρ a w hs R hR =>
  h S ρ a w hs R fun e st' S' ρ' a' w' hq hs' he => by
    obtain ⟨τ, st2, hw, hq⟩ := hq
    obtain ⟨h1, h2⟩ := wk_sound hw hs'
    exact hR e st2 S' _ a' w' hq h1 (he.trans h2)
theorem wk_refl {st : St} (h1 : m ≤ st.nx) (h2 : ∀ k o, st.H k = some o → k < st.nx) : ∀ τ : Nat → Option Nat, (∀ k, τ k = if k < st.nx then some k else none) → (∀ t, Wv noH τ (st.env t) (st.env t)) → (∀ k o, st.H k = some o → ORel noH τ o o) → Wk m τ st st := fun τ hτ he ho =>
  { env := he
    heap := fun k o hk => .inl ⟨k, o, by rw [hτ, if_pos (h2 k o hk)], hk, ho k o hk⟩
    inj := fun k k' k0 a b => by
      rw [hτ] at a b
      split at a
      · split at b
        · cases a; cases b; rfl
        · cases b
      · cases a
    nx := fun k hk => by rw [hτ, if_neg (by omega)]
    old := h2
    low := fun k hk => by rw [hτ, if_pos (by omega)] }

/-- what is to hold behind a round, where the loop's end is known -/
def qRoundD {X : Type} (m : Nat) (I : X → Prop) (μ : X → Nat) (x : X) (hv : List (Nat × V)) (e0 : Tr) (sl : X → List (Nat × V)) (hp : X → GH) (nx1 : Nat) (exF : Exit) (lF : List (Nat × V)) (HF : GH) (nxF : Nat) : QT := fun ex e1 H1 _ => match ex with
  | .normal => ∃ x', I x' ∧ μ x' < μ x ∧ setsK hv e0 fun e0 => setsK (sl x') e0 fun e2 => wkA m e1 H1 e2 (hp x') nx1
  | ex => ex = exF ∧ setsK hv e0 fun e0 => setsK lF e0 fun e2 => wkA m e1 H1 e2 HF nxF
/-- what is to hold behind a round -/
def qRound {X : Type} (m : Nat) (I : X → Prop) (μ : X → Nat) (x : X) (hv : List (Nat × V)) (e0 : Tr) (sl : X → List (Nat × V)) (hp : X → GH) (nx1 : Nat) (Q : QT) : QT := fun ex e1 H1 nx => match ex with
  | .normal => ∃ x', I x' ∧ μ x' < μ x ∧ setsK hv e0 fun e0 => setsK (sl x') e0 fun e2 => wkA m e1 H1 e2 (hp x') nx1
  | ex => Q ex e1 H1 nx
theorem two_sets {hv : List (Nat × V)} {e : Tr} (l : List (Nat × V)) {K : Tr → Prop} (h : setsK hv e fun e0 => setsK l e0 K) : ∃ e', e'.get = updL (updL e.get hv) l ∧ K e' := by
  obtain ⟨a, ha, h⟩ := setsK_sound _ _ h
  obtain ⟨b, hb, h⟩ := setsK_sound _ _ h
  exact ⟨b, by rw [hb, ha], h⟩
theorem wk_sets {hv : List (Nat × V)} {e e1 : Tr} {H1 : GH} {n1 : Nat} {l : List (Nat × V)} {H2 : GH} {n2 : Nat} (h : setsK hv e fun e0 => setsK l e0 fun e2 => wkA m e1 H1 e2 H2 n2) : ∃ t, Wk m (tauF m t) (stOf e1 H1 n1) ⟨updL (updL e.get hv) l, H2.hp, n2⟩ := by
  obtain ⟨e2, h2, h⟩ := two_sets l h
  obtain ⟨t, h⟩ := wkA_sound h
  refine ⟨t, ?_⟩
  have := (wkE_sound (nx1 := n1) h).1
  simp only [stOf, h2] at this
  exact this
/-- A LOOP: 'hv': slots that are written and not told; at its head, for an x of which I holds, the slots 'sl x' and the objects 'hp x'. -/
theorem loop_vc {T : TT} {CE : CET} (hT : TOk P T) (hCE : CESound P CE) (hm : P.follows .mixedOrders = true) {c : Code} {Q : QT} {e : Tr} {H : GH} {nx : Nat} {X : Type} (hv : List (Nat × V)) (x0 : X) (sl : X → List (Nat × V)) (hp : X → GH) (nx1 : Nat) (I : X → Prop) (μ : X → Nat)
    (h0 : I x0) (hs : setsK hv e fun e0 => setsK (sl x0) e0 fun e2 => wkA m e H e2 (hp x0) nx1)
    (hr : ∀ x, I x → setsK hv e fun e0 => setsK (sl x) e0 fun e1 => vc P T CE false N m c (qRound m I μ x hv e sl hp nx1 Q) e1 (hp x) nx1) : LoopN P T CE false N m c Q e H nx := by
  refine ⟨fun h => (by cases h), fun _ => ?_⟩
  obtain ⟨t0, hs⟩ := wk_sets (n1 := nx) hs
  refine awp_loop (fun x => ⟨updL (updL e.get hv) (sl x), (hp x).hp, nx1⟩) I μ h0 hs fun x hx => ?_
  obtain ⟨e1, h1, h⟩ := two_sets (sl x) (hr x hx)
  have := vc_sound hT hCE hm c _ e1 (hp x) nx1 h
  rw [show stOf e1 (hp x) nx1 = ⟨updL (updL e.get hv) (sl x), (hp x).hp, nx1⟩ by simp only [stOf, h1]] at this
  refine awp_mono this fun ex st hq => ?_
  obtain ⟨e', H', nx', rfl, hq⟩ := hq
  cases ex with
  | normal =>
    obtain ⟨x', h1, h2, h3⟩ := hq
    obtain ⟨t, h3⟩ := wk_sets (n1 := nx') h3
    exact ⟨x', _, h1, h2, h3⟩
  | _ => exact ⟨e', H', nx', rfl, hq⟩
/-- a loop whose end is known: it ends by exF, with slots lF and objects HF -/
theorem loop_vcD {T : TT} {CE : CET} (hT : TOk P T) (hCE : CESound P CE) (hm : P.follows .mixedOrders = true) {c : Code} {Q : QT} {e : Tr} {H : GH} {nx : Nat} {X : Type} (hv : List (Nat × V)) (x0 : X) (sl : X → List (Nat × V)) (hp : X → GH) (nx1 : Nat) (I : X → Prop) (μ : X → Nat) (exF : Exit) (lF : List (Nat × V)) (HF : GH) (nxF : Nat) (hex : exF ≠ .normal)
    (h0 : I x0) (hs : setsK hv e fun e0 => setsK (sl x0) e0 fun e2 => wkA m e H e2 (hp x0) nx1)
    (hr : ∀ x, I x → setsK hv e fun e0 => setsK (sl x) e0 fun e1 => vc P T CE true N m c (qRoundD m I μ x hv e sl hp nx1 exF lF HF nxF) e1 (hp x) nx1)
    (hq : setsK hv e fun e0 => setsK lF e0 fun e2 => Q exF e2 HF nxF) : LoopN P T CE true N m c Q e H nx := by
  obtain ⟨eF, hF, hQ⟩ := two_sets lF hq
  refine ⟨fun _ => ⟨exF, eF, HF, nxF, hQ, ?_⟩, fun h => (by cases h)⟩
  refine awp_wkpost ?_
  obtain ⟨t0, hs⟩ := wk_sets (n1 := nx) hs
  refine awp_loop (fun x => ⟨updL (updL e.get hv) (sl x), (hp x).hp, nx1⟩) I μ h0 hs fun x hx => ?_
  obtain ⟨e1, h1, h⟩ := two_sets (sl x) (hr x hx)
  obtain ⟨ex, e', H', nx', hq, hd⟩ := vc_det hT hCE hm c _ e1 (hp x) nx1 h
  rw [show stOf e1 (hp x) nx1 = ⟨updL (updL e.get hv) (sl x), (hp x).hp, nx1⟩ by simp only [stOf, h1]] at hd
  refine awp_mono hd fun ex1 st hst => ?_
  obtain ⟨rfl, rfl⟩ := hst
  have other : (ex1 = exF ∧ setsK hv e fun e0 => setsK lF e0 fun e2 => wkA m e' H' e2 HF nxF) → ∃ τ st2, Wk m τ (stOf e' H' nx') st2 ∧ ex1 = exF ∧ st2 = stOf eF HF nxF := fun hq => by
    obtain ⟨he, hqq⟩ := hq
    obtain ⟨t, hqq⟩ := wk_sets (n1 := nx') hqq
    refine ⟨_, _, hqq, he, ?_⟩
    simp only [stOf, hF]
  cases ex1 with
  | normal =>
    obtain ⟨x', h1, h2, h3⟩ := hq
    obtain ⟨t, h3⟩ := wk_sets (n1 := nx') h3
    exact ⟨x', _, h1, h2, h3⟩
  | _ => exact other hq
/-- a loop, one round of it -/
def qAgain (P : Program) (T : TT) (CE : CET) (dt : Bool) (N m : Nat) (c : Code) (Q : QT) : QT := fun ex e H nx => match ex with
  | .normal => LoopN P T CE dt N m c Q e H nx
  | ex => Q ex e H nx
/-- a loop, one round behind the other, so many -/
def Unr (P : Program) (N m : Nat) (c : Code) (Q : Exit → St → Prop) : Nat → St → Prop
  | 0, _ => False
  | n + 1, st => AWp P N m c (aThen (Unr P N m c Q n) Q) st
theorem unr_loop {c : Code} {Q : Exit → St → Prop} : ∀ {n : Nat} {st : St}, Unr P N m c Q n st → AWp P N m (.loop c) Q st := by
  intro n0 st0 h0 S ρ a w hs R hR b k cs
  have key : ∀ n st S' ρ' a' w', Unr P N m c Q n st → SimSt N S' ρ' a' w' st → Ext1 m S ρ w st0.H S' ρ' w' st.H →
      ∃ e a'' w'', R e a'' w'' ∧ Arrives P (lone (b.at a' (.code c :: .inLoop c :: k)) cs w') b k cs e a'' w'' := by
    intro n
    induction n with
    | zero => intro st S' ρ' a' w' h; exact h.elim
    | succ n ih =>
      intro st S' ρ' a' w' h hs' he
      obtain ⟨e, a₁, w₁, hq, harr⟩ := h S' ρ' a' w' hs' (fun e a₁ w₁ => match e with
        | .normal => ∃ st' S'' ρ'', Unr P N m c Q n st' ∧ SimSt N S'' ρ'' a₁ w₁ st' ∧ Ext1 m S ρ w st0.H S'' ρ'' w₁ st'.H
        | e => R e a₁ w₁) (fun e st' S'' ρ'' a₁ w₁ hq hs'' he' => by
          cases e with
          | normal => exact ⟨st', S'', ρ'', hq, hs'', he.trans he'⟩
          | _ => exact hR _ st' S'' ρ'' a₁ w₁ hq hs'' (he.trans he')) b (.inLoop c :: k) cs
      cases e with
      | normal =>
        obtain ⟨st', S'', ρ'', h1, h2, h3⟩ := hq
        obtain ⟨e₂, a₂, w₂, hq₂, harr₂⟩ := ih st' S'' ρ'' a₁ w₁ h1 h2 h3
        exact ⟨e₂, a₂, w₂, hq₂, .of_steps (Steps.trans harr (.one step_inLoop)) harr₂⟩
      | exit id => exact ⟨_, a₁, w₁, hq, .pass (x := .inLoop c) rfl (fun _ _ => .inl (by simp)) harr⟩
      | goto l => exact ⟨_, a₁, w₁, hq, .pass (x := .inLoop c) rfl (fun _ _ => .inl (by simp)) harr⟩
      | ret => exact ⟨_, a₁, w₁, hq, .pass (x := .inLoop c) rfl (fun _ _ => .inl (by simp)) harr⟩
      | panic ch => exact ⟨_, a₁, w₁, hq, .pass (x := .inLoop c) rfl (fun _ _ => .inl (by simp)) harr⟩
      | outgrown => exact ⟨_, a₁, w₁, hq, .pass (x := .inLoop c) rfl (fun _ _ => .inl (by simp)) harr⟩
  obtain ⟨e, a', w', hq, harr⟩ := key _ st0 S ρ a w h0 hs (Ext1.refl _ _ _ _ _)
  exact ⟨e, a', w', hq, .of_steps (.one step_loop) harr⟩
theorem Unr.mono {c : Code} {Q Q' : Exit → St → Prop} (hq : ∀ ex st, Q ex st → Q' ex st) : ∀ {n : Nat} {st : St}, Unr P N m c Q n st → Unr P N m c Q' n st
  | 0, _, h => h
  | n + 1, st, h => awp_mono h fun ex st' h => by
    cases ex with
    | normal => exact Unr.mono hq h
    | _ => exact hq _ _ h
/-- so many rounds, by value -/
def UnrK (P : Program) (T : TT) (CE : CET) (dt : Bool) (N m : Nat) (c : Code) (Q : QT) (n : Nat) : Tr → GH → Nat → Prop := Nat.rec (motive := fun _ => Tr → GH → Nat → Prop) (fun _ _ _ => False) (fun _ ih e H nx => vc P T CE dt N m c (fun ex e H nx => match ex with
  | .normal => ih e H nx
  | ex => Q ex e H nx) e H nx) n
theorem loop_unr {T : TT} {CE : CET} (hT : TOk P T) (hCE : CESound P CE) (hm : P.follows .mixedOrders = true) {dt : Bool} {c : Code} {Q : QT} {e : Tr} {H : GH} {nx : Nat} (n : Nat) (h : UnrK P T CE dt N m c Q n e H nx) : LoopN P T CE dt N m c Q e H nx := by
  cases dt with
  | false =>
    refine ⟨fun h => (by cases h), fun _ => unr_loop (n := n) ?_⟩
    revert e H nx
    induction n with
    | zero => intro e H nx h; exact h.elim
    | succ n ih =>
      intro e H nx h
      have h : vc P T CE false N m c (fun ex e H nx => match ex with
        | .normal => UnrK P T CE false N m c Q n e H nx
        | ex => Q ex e H nx) e H nx := h
      refine awp_mono (vc_sound hT hCE hm c _ e H nx h) fun ex st hq => ?_
      obtain ⟨e', H', nx', rfl, hq⟩ := hq
      cases ex with
      | normal => exact ih hq
      | _ => exact ⟨e', H', nx', rfl, hq⟩
  | true =>
    refine ⟨fun _ => ?_, fun h => (by cases h)⟩
    have key : ∀ (n : Nat) (e : Tr) (H : GH) (nx : Nat), UnrK P T CE true N m c Q n e H nx → ∃ ex e' H' nx', Q ex e' H' nx' ∧ Unr P N m c (fun ex1 st1 => ex1 = ex ∧ st1 = stOf e' H' nx') n (stOf e H nx) := by
      intro n
      induction n with
      | zero => intro e H nx h; exact h.elim
      | succ n ih =>
        intro e H nx h
        have h : vc P T CE true N m c (fun ex e H nx => match ex with
          | .normal => UnrK P T CE true N m c Q n e H nx
          | ex => Q ex e H nx) e H nx := h
        obtain ⟨ex, e1, H1, nx1, hq, hd⟩ := vc_det hT hCE hm c _ e H nx h
        cases ex with
        | normal =>
          obtain ⟨ex, e2, H2, nx2, hQ, hu⟩ := ih e1 H1 nx1 hq
          exact ⟨ex, e2, H2, nx2, hQ, awp_mono hd fun ex' st' ⟨h1, h2⟩ => by subst h1; subst h2; exact hu⟩
        | _ => exact ⟨_, e1, H1, nx1, hq, awp_mono hd fun ex' st' ⟨h1, h2⟩ => by subst h1; exact ⟨rfl, h2⟩⟩
    obtain ⟨ex, e', H', nx', hQ, hu⟩ := key n e H nx h
    exact ⟨ex, e', H', nx', hQ, unr_loop hu⟩
end

/-- the slots that code writes -/
noncomputable def wrs (c : Code) : List Nat := Code.rec (motive := fun _ => List Nat) [] (fun _ ops _ => ops.toList.filterMap (·.dst)) (fun _ _ x y => x ++ y) (fun _ _ _ x y => x ++ y) (fun _ _ x => x) (fun _ x => x) (fun _ _ _ _ x y => x ++ y) (fun _ => []) (fun _ x => x) (fun _ => []) (fun _ => []) [] (fun _ => []) c
noncomputable def hvOf (c : Code) : List (Nat × V) := (wrs c).map fun k => (k, .any)

/-- slots from d on -/
noncomputable def deadL (d n : Nat) : List (Nat × V) := Nat.rec (motive := fun _ => Nat → List (Nat × V)) (fun _ => []) (fun _ ih d => (d, .any) :: ih (d + 1)) n d
/-- what is not told at a loop's head: what its body writes, and the slots from d on -/
noncomputable def hvD (d N : Nat) (c : Code) : List (Nat × V) := hvOf c ++ deadL d (N - d)
section
variable {P : Program} {N m : Nat}
/-- a loop: what it writes, and the slots from d on, are not told, but for 'sl x' -/
theorem loop_w {T : TT} {CE : CET} (hT : TOk P T) (hCE : CESound P CE) (hm : P.follows .mixedOrders = true) (d : Nat) {c : Code} {Q : QT} {e : Tr} {H : GH} {nx : Nat} {X : Type} (x0 : X) (sl : X → List (Nat × V)) (hp : X → GH) (nx1 : Nat) (I : X → Prop) (μ : X → Nat)
    (h0 : I x0) (hs : setsK (hvD d N c) e fun e0 => setsK (sl x0) e0 fun e2 => wkA m e H e2 (hp x0) nx1)
    (hr : ∀ x, I x → setsK (hvD d N c) e fun e0 => setsK (sl x) e0 fun e1 => vc P T CE false N m c (qRound m I μ x (hvD d N c) e sl hp nx1 Q) e1 (hp x) nx1) : LoopN P T CE false N m c Q e H nx :=
  loop_vc hT hCE hm (hvD d N c) x0 sl hp nx1 I μ h0 hs hr
/-- the same, where the objects stay as they are -/
theorem loop_k {T : TT} {CE : CET} (hT : TOk P T) (hCE : CESound P CE) (hm : P.follows .mixedOrders = true) (d : Nat) {c : Code} {Q : QT} {e : Tr} {H : GH} {nx : Nat} {X : Type} (x0 : X) (sl : X → List (Nat × V)) (I : X → Prop) (μ : X → Nat)
    (h0 : I x0) (hs : setsK (hvD d N c) e fun e0 => setsK (sl x0) e0 fun e2 => wkA m e H e2 H nx)
    (hr : ∀ x, I x → setsK (hvD d N c) e fun e0 => setsK (sl x) e0 fun e1 => vc P T CE false N m c (qRound m I μ x (hvD d N c) e sl (fun _ => H) nx Q) e1 H nx) : LoopN P T CE false N m c Q e H nx :=
  loop_w hT hCE hm d x0 sl (fun _ => H) nx I μ h0 hs hr
theorem loop_wD {T : TT} {CE : CET} (hT : TOk P T) (hCE : CESound P CE) (hm : P.follows .mixedOrders = true) (d : Nat) {c : Code} {Q : QT} {e : Tr} {H : GH} {nx : Nat} {X : Type} (x0 : X) (sl : X → List (Nat × V)) (hp : X → GH) (nx1 : Nat) (I : X → Prop) (μ : X → Nat) (exF : Exit) (lF : List (Nat × V)) (HF : GH) (nxF : Nat) (hex : exF ≠ .normal)
    (h0 : I x0) (hs : setsK (hvD d N c) e fun e0 => setsK (sl x0) e0 fun e2 => wkA m e H e2 (hp x0) nx1)
    (hr : ∀ x, I x → setsK (hvD d N c) e fun e0 => setsK (sl x) e0 fun e1 => vc P T CE true N m c (qRoundD m I μ x (hvD d N c) e sl hp nx1 exF lF HF nxF) e1 (hp x) nx1)
    (hq : setsK (hvD d N c) e fun e0 => setsK lF e0 fun e2 => Q exF e2 HF nxF) : LoopN P T CE true N m c Q e H nx :=
  loop_vcD hT hCE hm (hvD d N c) x0 sl hp nx1 I μ exF lF HF nxF hex h0 hs hr hq
end

/- a table of texts, as a list -/
def bodyOf (fn : Func) : Code := match fn.body with
  | some c => c
  | none => .skip
abbrev IRow := Nat × Func × Nat × Nat × Nat
noncomputable def inlTab (l : List IRow) : ITab := fun k => List.rec (motive := fun _ => Option (Func × Code × Nat × Nat × Nat)) none (fun p _ ih => match Nat.beq k p.1 with
  | true => some (p.2.1, bodyOf p.2.1, p.2.2.1, p.2.2.2.1, p.2.2.2.2)
  | false => ih) l
def InlOk (P : Program) : List IRow → Prop
  | [] => True
  | p :: l => (P.funcs[p.1]? = some p.2.1 ∧ callOk P p.1 = true ∧ p.2.1.body.isSome = true ∧ (p.2.2.2.2 = 0 ∨ CloneOk P p.1 p.2.2.2.2)) ∧ InlOk P l
theorem inl_ok {P : Program} : ∀ {l : List IRow}, InlOk P l → IOk P (inlTab l)
  | [], _, k, fn, c, N, d, z, h => by cases h
  | p :: l, ⟨⟨h1, h2, h3, h5⟩, h4⟩, k, fn, c, N, d, z, h => by
    have h : (match Nat.beq k p.1 with
      | true => some (p.2.1, bodyOf p.2.1, p.2.2.1, p.2.2.2.1, p.2.2.2.2)
      | false => inlTab l k) = some (fn, c, N, d, z) := h
    split at h
    · rename_i hb
      have := Nat.eq_of_beq_eq_true hb
      simp only [Option.some.injEq, Prod.mk.injEq] at h
      obtain ⟨rfl, rfl, _, _, rfl⟩ := h
      rw [this]
      refine ⟨h1, ?_, h2, fun hz => h5.resolve_left hz⟩
      unfold bodyOf
      cases hb : p.2.1.body with
      | none => rw [hb] at h3; cases h3
      | some c => rfl
    · exact inl_ok h4 k fn c N d z h
end Go.Proofs.Ytbieiehfohldjaa
