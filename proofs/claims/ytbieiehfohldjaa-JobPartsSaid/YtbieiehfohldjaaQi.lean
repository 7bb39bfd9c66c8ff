/-
  The value-level machine over the model, part 9.
-/
import Derived.Test.YtbieiehfohldjaaQh
import Derived.ChangeKeysEq
namespace Go.Proofs.Ytbieiehfohldjaa
open Go
set_option linter.unusedVariables false
set_option linter.unusedSimpArgs false
set_option maxRecDepth 100000

def flatFs (P : Program) (f : TypeId → Option (List Bool)) : List Field → Nat → Option (List Bool)
  | [], _ => some []
  | x :: fs, o => if x.name != "_" && x.offset == o then (f x.type).bind fun sh => if sh.length == P.cellsOf x.type then (flatFs P f fs (o + sh.length)).map (sh ++ ·) else none else none
def repSh (sh : List Bool) : Nat → List Bool
  | 0 => []
  | n + 1 => sh ++ repSh sh n
/-- the shape of a type of plain cells: true a number, false a truth value -/
def flatTy (P : Program) : Nat → TypeId → Option (List Bool)
  | 0, _ => none
  | m + 1, t => match P.underlying t with
    | some .bool => some [false]
    | some (.int _) => some [true]
    | some (.struct fs) => if P.stoodInHeld t then none else flatFs P (flatTy P m) fs.toList 0
    | some (.array n e) => (flatTy P m e).bind fun sh => if sh.length == P.cellsOf e then some (repSh sh n) else none
    | _ => none
def AtV (xs : Array Value) (o : Nat) (cs : List V) : Prop := ∀ (i : Nat) (v : Value), cs[i]? = some (.lit v) → xs[o + i]? = some v
theorem AtV.take {xs : Array Value} {o : Nat} {cs : List V} (h : AtV xs o cs) (n : Nat) : AtV xs o (cs.take n) := fun i v e => by
  rw [List.getElem?_take] at e
  split at e
  · exact h i v e
  · cases e
theorem AtV.drop {xs : Array Value} {o : Nat} {cs : List V} (h : AtV xs o cs) (n : Nat) : AtV xs (o + n) (cs.drop n) := fun i v e => by
  rw [List.getElem?_drop] at e
  have := h (n + i) v e
  rwa [← Nat.add_assoc] at this
theorem eqCells_lenD : ∀ (sh : List Bool) (cs ds : List V) (r : Bool), eqCells sh cs ds = some r → cs.length = sh.length ∧ ds.length = sh.length ∧ (∀ x ∈ cs, ∃ v, x = .lit v) ∧ ∀ x ∈ ds, ∃ v, x = .lit v
  | [], [], [], r, h => ⟨rfl, rfl, fun x h => (by cases h), fun x h => (by cases h)⟩
  | [], [], _ :: _, r, h => by simp [eqCells] at h
  | [], _ :: _, _, r, h => by simp [eqCells] at h
  | true :: sh, cs, ds, r, h => by
    match cs, ds, h with
    | .lit (.int k a) :: l, .lit (.int k' b) :: l', h =>
      simp only [eqCells] at h
      split at h
      · obtain ⟨r', hr', _⟩ := Option.map_eq_some_iff.1 h
        obtain ⟨h1, h2, h3, h4⟩ := eqCells_lenD sh l l' r' hr'
        exact ⟨by simp [h1], by simp [h2], fun x hx => by rcases List.mem_cons.1 hx with rfl | hx; exact ⟨_, rfl⟩; exact h3 x hx, fun x hx => by rcases List.mem_cons.1 hx with rfl | hx; exact ⟨_, rfl⟩; exact h4 x hx⟩
      · cases h
  | false :: sh, cs, ds, r, h => by
    match cs, ds, h with
    | .lit (.bool a) :: l, .lit (.bool b) :: l', h =>
      simp only [eqCells] at h
      obtain ⟨r', hr', _⟩ := Option.map_eq_some_iff.1 h
      obtain ⟨h1, h2, h3, h4⟩ := eqCells_lenD sh l l' r' hr'
      exact ⟨by simp [h1], by simp [h2], fun x hx => by rcases List.mem_cons.1 hx with rfl | hx; exact ⟨_, rfl⟩; exact h3 x hx, fun x hx => by rcases List.mem_cons.1 hx with rfl | hx; exact ⟨_, rfl⟩; exact h4 x hx⟩
theorem eqCells_app : ∀ (sh1 sh2 : List Bool) (cs ds : List V) (r : Bool), eqCells (sh1 ++ sh2) cs ds = some r → ∃ r1 r2, eqCells sh1 (cs.take sh1.length) (ds.take sh1.length) = some r1 ∧ eqCells sh2 (cs.drop sh1.length) (ds.drop sh1.length) = some r2 ∧ r = (r1 && r2)
  | [], sh2, cs, ds, r, h => ⟨true, r, by simp [eqCells], by simpa using h, by simp⟩
  | true :: sh, sh2, cs, ds, r, h => by
    match cs, ds, h with
    | .lit (.int k a) :: l, .lit (.int k' b) :: l', h =>
      simp only [eqCells, List.cons_append] at h
      split at h
      · rename_i hk
        obtain ⟨r', hr', rfl⟩ := Option.map_eq_some_iff.1 h
        obtain ⟨r1, r2, h1, h2, rfl⟩ := eqCells_app sh sh2 l l' r' hr'
        exact ⟨(a == b) && r1, r2, by simp only [List.length_cons, List.take_succ_cons, eqCells, hk, if_true, h1, Option.map_some], by simpa using h2, by rw [Bool.and_assoc]⟩
      · cases h
  | false :: sh, sh2, cs, ds, r, h => by
    match cs, ds, h with
    | .lit (.bool a) :: l, .lit (.bool b) :: l', h =>
      simp only [eqCells, List.cons_append] at h
      obtain ⟨r', hr', rfl⟩ := Option.map_eq_some_iff.1 h
      obtain ⟨r1, r2, h1, h2, rfl⟩ := eqCells_app sh sh2 l l' r' hr'
      exact ⟨(a == b) && r1, r2, by simp only [List.length_cons, List.take_succ_cons, eqCells, h1, Option.map_some], by simpa using h2, by rw [Bool.and_assoc]⟩
theorem run_part_agg {P : Program} {t : TypeId} {cs : Array Value} {o : Nat} {w : World} (ha : aggOf P t = true) (hd : (P.underlying t).isSome = true) : (part t cs o).run P w = .ok (.agg (cs.extract o (o + P.cellsOf t))) w := by
  obtain ⟨d, hd⟩ := Option.isSome_iff_exists.1 hd
  have hag : (isAgg t).run P w = .ok (aggOf P t) w := by
    simp only [isAgg, Sem.run_bind, run_underlying hd, Result.andThen_ok, aggOf, hd]
    cases d <;> rfl
  obtain ⟨i, hi⟩ := info_of_underlying hd
  unfold part
  simp only [Sem.run_bind, hag, Result.andThen_ok, ha, if_true, run_sizeOf w hi, Sem.run_pure]
theorem AtV.cut {xs : Array Value} {o n : Nat} {cs : List V} (h : AtV xs o cs) (hn : cs.length ≤ n) : AtV (xs.extract o (o + n)) 0 cs := fun i v e => by
  have hi := (List.getElem?_eq_some_iff.1 e).1
  have := h i v e
  have hx := (Array.getElem?_eq_some_iff.1 this).1
  rw [Nat.zero_add, Array.getElem?_extract]
  rw [if_pos (by omega)]
  exact this
/-- what is to be shown of a type -/
def FlatRun (P : Program) (w : World) (D : Nat) (t : TypeId) (sh : List Bool) : Prop := ∀ (xs ys : Array Value) (o : Nat) (cs ds : List V) (r : Bool), AtV xs o cs → AtV ys o ds → eqCells sh cs ds = some r → sh.length = P.cellsOf t → ∃ a b, (part t xs o).run P w = .ok a w ∧ (part t ys o).run P w = .ok b w ∧ (Op.equalIn D t a b).run P w = .ok r w
theorem flatFs_run {P : Program} {w : World} {D : Nat} {f : TypeId → Option (List Bool)} (hf : ∀ t sh, f t = some sh → FlatRun P w D t sh) (xs ys : Array Value) : ∀ (fs : List Field) (q : Nat) (sh : List Bool) (cs ds : List V) (r : Bool), flatFs P f fs q = some sh → AtV xs q cs → AtV ys q ds → eqCells sh cs ds = some r → (Op.eqFields D xs ys fs).run P w = .ok r w
  | [], q, sh, cs, ds, r, h, hx, hy, hr => by
    simp only [flatFs, Option.some.injEq] at h
    subst h
    obtain ⟨h1, h2, _⟩ := eqCells_lenD _ _ _ _ hr
    rw [List.length_eq_zero_iff.1 h1, List.length_eq_zero_iff.1 h2] at hr
    simp only [eqCells, Option.some.injEq] at hr
    subst hr
    rfl
  | x :: fs, q, sh, cs, ds, r, h, hx, hy, hr => by
    simp only [flatFs] at h
    split at h
    · rename_i hc
      simp only [Bool.and_eq_true, bne_iff_ne, ne_eq, beq_iff_eq] at hc
      obtain ⟨h1, rfl⟩ := hc
      obtain ⟨s1, hs, h⟩ := Option.bind_eq_some_iff.1 h
      split at h
      · rename_i hl
        rw [beq_iff_eq] at hl
        obtain ⟨s2, h2, rfl⟩ := Option.map_eq_some_iff.1 h
        obtain ⟨r1, r2, e1, e2, rfl⟩ := eqCells_app _ _ _ _ _ hr
        obtain ⟨a, b, p1, p2, p3⟩ := hf _ _ hs xs ys x.offset _ _ r1 (hx.take _) (hy.take _) e1 hl
        have ih := flatFs_run hf xs ys fs (x.offset + s1.length) s2 _ _ r2 h2 (hx.drop _) (hy.drop _) e2
        simp only [Op.eqFields, ne_eq, h1, not_false_eq_true, if_true, Sem.run_bind, p1, p2, Result.andThen_ok, p3]
        cases r1 with
        | true => simpa using ih
        | false => simp
      · cases h
    · cases h
theorem flatIt_run {P : Program} {w : World} {D : Nat} {e : TypeId} {sh : List Bool} (hf : FlatRun P w D e sh) (hl : sh.length = P.cellsOf e) (xs ys : Array Value) : ∀ (n k : Nat) (cs ds : List V) (r : Bool), AtV xs (k * P.cellsOf e) cs → AtV ys (k * P.cellsOf e) ds → eqCells (repSh sh n) cs ds = some r → (Op.eqItems D e (P.cellsOf e) xs ys (List.range' k n)).run P w = .ok r w
  | 0, k, cs, ds, r, hx, hy, hr => by
    obtain ⟨h1, h2, _⟩ := eqCells_lenD _ _ _ _ hr
    rw [List.length_eq_zero_iff.1 h1, List.length_eq_zero_iff.1 h2] at hr
    simp only [repSh, eqCells, Option.some.injEq] at hr
    subst hr
    rfl
  | n + 1, k, cs, ds, r, hx, hy, hr => by
    obtain ⟨r1, r2, e1, e2, rfl⟩ := eqCells_app _ _ _ _ _ hr
    obtain ⟨a, b, p1, p2, p3⟩ := hf xs ys _ _ _ r1 (hx.take _) (hy.take _) e1 hl
    have hk : k * P.cellsOf e + sh.length = (k + 1) * P.cellsOf e := by rw [hl, Nat.succ_mul]
    have ih := flatIt_run hf hl xs ys n (k + 1) _ _ r2 (hk ▸ hx.drop _) (hk ▸ hy.drop _) e2
    simp only [List.range'_succ, Op.eqItems, Sem.run_bind, p1, p2, Result.andThen_ok, p3]
    cases r1 with
    | true => simpa using ih
    | false => simp
/-- structs and arrays -/
theorem flatAgg_run {P : Program} {w : World} {d m : Nat} (ih : ∀ t sh, flatTy P m t = some sh → FlatRun P w (d + m) t sh) {t : TypeId} {sh : List Bool} (h : flatTy P (m + 1) t = some sh) (ha : aggOf P t = true) {xs ys : Array Value} {cs ds : List V} {r : Bool} (hx : AtV xs 0 cs) (hy : AtV ys 0 ds) (hr : eqCells sh cs ds = some r) :
    (Op.equalIn (d + (m + 1)) t (.agg xs) (.agg ys)).run P w = .ok r w := by
  unfold flatTy at h
  rw [show d + (m + 1) = (d + m) + 1 from rfl]
  split at h
  · rename_i hu; simp [aggOf, hu] at ha
  · rename_i hu; simp [aggOf, hu] at ha
  · rename_i fs hu
    split at h
    · cases h
    · rename_i hs
      have hfs : P.fieldsOf t = fs := by simp [Program.fieldsOf, hu]
      rw [run_equalIn_struct w (d + m) t xs ys (by rw [hfs]; exact hu) (by simpa using hs), hfs]
      exact flatFs_run ih xs ys _ 0 _ _ _ _ h hx hy hr
  · rename_i n e hu
    obtain ⟨s, hs, h⟩ := Option.bind_eq_some_iff.1 h
    split at h
    · rename_i hl
      rw [beq_iff_eq] at hl
      simp only [Option.some.injEq] at h
      subst h
      have hue : ∃ i, P.info? e = some i := by
        cases m with
        | zero => simp [flatTy] at hs
        | succ m =>
          unfold flatTy at hs
          cases hq : P.underlying e with
          | none => simp [hq] at hs
          | some _ => exact info_of_underlying hq
      obtain ⟨i, hi⟩ := hue
      rw [run_equalIn_array w (d + m) xs ys hu hi, List.range_eq_range']
      exact flatIt_run (ih _ _ hs) hl xs ys n 0 _ _ _ (by rw [Nat.zero_mul]; exact hx) (by rw [Nat.zero_mul]; exact hy) hr
    · cases h
  · cases h
theorem flat_run {P : Program} {w : World} {d : Nat} : ∀ (m : Nat) (t : TypeId) (sh : List Bool), flatTy P m t = some sh → FlatRun P w (d + m) t sh
  | 0, t, sh, h => by simp [flatTy] at h
  | m + 1, t, sh, h => by
    intro xs ys o cs ds r hx hy hr hl
    have ih := fun t sh h => flat_run (P := P) (w := w) (d := d) m t sh h
    obtain ⟨l1, l2, q1, q2⟩ := eqCells_lenD _ _ _ _ hr
    cases ha : aggOf P t with
    | true =>
      have hd : (P.underlying t).isSome = true := by
        cases hu : P.underlying t with
        | none => simp [aggOf, hu] at ha
        | some _ => rfl
      refine ⟨_, _, run_part_agg ha hd, run_part_agg ha hd, ?_⟩
      exact flatAgg_run ih h ha (hx.cut (by omega)) (hy.cut (by omega)) hr
    | false =>
      have hk : ∃ u v, cs = [.lit u] ∧ ds = [.lit v] ∧ (P.underlying t).isSome = true ∧ (Op.equalIn (d + (m + 1)) t u v).run P w = .ok r w := by
        unfold flatTy at h
        split at h
        · rename_i hu
          simp only [Option.some.injEq] at h
          subst h
          match cs, ds, hr with
          | [.lit (.bool a)], [.lit (.bool b)], hr =>
            simp only [eqCells, Option.map_some, Option.some.injEq, Bool.and_true] at hr
            subst hr
            exact ⟨_, _, rfl, rfl, by rw [hu]; rfl, run_equalIn_bool' w (d + m) _ _ _ hu⟩
          | .lit (.bool a) :: _ :: _, .lit (.bool b) :: l, hr => simp at l1
          | [.lit (.bool a)], .lit (.bool b) :: _ :: _, hr => simp at l2
        · rename_i hu
          simp only [Option.some.injEq] at h
          subst h
          match cs, ds, hr with
          | [.lit (.int k a)], [.lit (.int k' b)], hr =>
            simp only [eqCells] at hr
            split at hr
            · rename_i hk
              subst hk
              simp only [Option.map_some, Option.some.injEq, Bool.and_true] at hr
              subst hr
              exact ⟨_, _, rfl, rfl, by rw [hu]; rfl, run_equalIn_int w (d + m) _ _ _ _ _ hu⟩
            · cases hr
          | .lit (.int k a) :: _ :: _, .lit (.int k' b) :: l, hr => simp at l1
          | [.lit (.int k a)], .lit (.int k' b) :: _ :: _, hr => simp at l2
        · rename_i hu; simp [aggOf, hu] at ha
        · rename_i hu; simp [aggOf, hu] at ha
        · cases h
      obtain ⟨u, v, rfl, rfl, hd, he⟩ := hk
      exact ⟨u, v, run_part hd ha (hx 0 u rfl), run_part hd ha (hy 0 v rfl), he⟩
theorem eqFlat_deep {P : Program} {t : Nat} {sh : List Bool} (hg : P.eqGuardType P.depth t = false) (ha : aggOf P t = true) (hf : flatTy P 10 t = some sh) : EqFlat P t sh := by
  intro op x y xs ys cs ds r w hxl hyl hx hy hr hop
  refine ⟨run_eqGuard_agg w op t x y xs ys hg, ?_⟩
  have lift : ∀ (xs : Array Value) (cs : List V), xs.size = cs.length → (∀ (i : Nat) (u : Value) (v : V), xs[i]? = some u → cs[i]? = some v → ∀ z, v = .lit z → u = z) → AtV xs 0 cs := fun xs cs hl h i v e => by
    have hi : i < cs.length := (List.getElem?_eq_some_iff.1 e).1
    have hi' : i < xs.size := by omega
    rw [Nat.zero_add, Array.getElem?_eq_getElem hi', h i xs[i] _ (Array.getElem?_eq_getElem hi') e v rfl]
  have he := flatAgg_run (P := P) (w := w) (d := 9990) (m := 9) (fun t sh h => flat_run 9 t sh h) hf ha (lift xs cs hxl hx) (lift ys ds hyl hy) hr
  rcases hop with rfl | rfl
  · rw [run_eql_struct, he]; rfl
  · rw [run_neq_struct, he]; rfl
end Go.Proofs.Ytbieiehfohldjaa
namespace Go.Proofs.Ytbieiehfohldjaa
open Go
set_option linter.unusedVariables false
set_option linter.unusedSimpArgs false
set_option maxRecDepth 100000

theorem rep_sl_noK {S : Nat → Prop} {ρ : KM} {w : World} {u : Value} {sz : Nat} {L : List (List V)} (h : Rep S ρ w u (.sl sz L)) : Rep S noK w u (.sl sz L) := by
  cases h with
  | sl0 ha => exact .sl0 ha
  | sl a b c d e f => exact .sl a b c d e f
theorem fnG_at {P : Program} {T : TT} (hT : TOk P T) (hm : P.follows .mixedOrders = true) {k N d : Nat} {fn : Func} {c : Code} {args : List V} {X : V → GH → Nat → Prop} (hf : P.funcs[k]? = some fn) (hb : fn.body = some c) (hok : callOk P k = true) (hN : N = args.length + (fn.ntmps - args.length))
    (h : initK args 0 (Tr.full d) fun e => vc P T (ceC P) true N 0 c (retG T fn [] 0 X) e [] 0) : ∃ r B' nx', FnG P k args [] 0 r B' nx' ∧ X r B' nx' := by
  obtain ⟨e, he, h⟩ := initK_sound _ _ _ h
  obtain ⟨ex, e1, H1, nx1, hq, hd⟩ := vc_det hT ceC_sound hm c _ e [] 0 h
  obtain ⟨hex, xs, B', hres, hsub, hr, hK⟩ := retG_sound hq
  rw [← init_st (B := []) he] at hd
  exact ⟨_, _, _, fnG_of hT hf hb hok hN (fun j hj => by cases hj) hex hres hsub hr hd, hK⟩
theorem cloneOk_of {P : Program} {T : TT} (hT : TOk P T) (hm : P.follows .mixedOrders = true) {k N n d : Nat} {fn : Func} {c : Code} (hf : P.funcs[k]? = some fn) (hb : fn.body = some c) (hok : callOk P k = true) (hN : n = 1 + (fn.ntmps - 1))
    (h0 : initK [V.lit (.slice none 0 0)] 0 (Tr.full d) fun e => vc P T (ceC P) true n 0 c (retG T fn [] 0 fun v B' nx' => v = .lit (.slice none 0 0)) e [] 0)
    (h1 : ∀ L : List (List V), Side (oneRows L) → Side (L.length ≤ 2 ^ 32) → Side (RowsNm (fun _ => False) L) → initK [V.sls N L true false] 0 (Tr.full d) fun e => vc P T (ceC P) true n 0 c (retG T fn [] 0 fun v B' nx' => ∃ q s, v = .win q N 0 L.length L.length ∧ B' = [(q, s, ⟨N, L, false⟩)]) e [] 0) : CloneOk P k N := by
  intro L nx c1 c2 c3
  refine ⟨hok, Nat.le_succ _, fun j hj => ?_, fun j hj _ => ?_, fun S ρ w vs hl hrep hs hnew => ?_⟩
  · simp only [GH.keys, List.map_cons, List.map_nil, List.mem_singleton] at hj; omega
  · simp only [GH.keys, List.map_cons, List.map_nil, List.mem_singleton] at hj; omega
  have hl1 : vs.size = 1 := hl
  have hv : vs[0]? = some vs[0] := by simp [hl1]
  have h2 := hrep 0 vs[0] _ hv rfl
  have only : ∀ (y : V), Rep S noK w vs[0] y → ∀ (i : Nat) (u : Value) (x : V), vs[i]? = some u → [y][i]? = some x → Rep S noK w u x := fun y hy i u x a b => by
    cases i with
    | zero => rw [hv] at a; cases a; cases b; exact hy
    | succ i => cases b
  have hs0 : Sim S noK w (GH.hp []) := Sim.empty hs.bnd
  have hcase : (vs[0] = .slice none 0 0 ∧ L = []) ∨ Rep S noK w vs[0] (.sls N L true false) := by
    generalize vs[0] = v at h2
    cases h2 with
    | sl0 ha =>
      rename_i a cap
      cases a with
      | none => exact .inl ⟨by rw [ha rfl], rfl⟩
      | some a => exact .inr (.sls (.sl0 ha) (fun _ => rfl) (fun h => by cases h))
    | sl a1 a2 a3 a4 a5 a6 => exact .inr (.sls (.sl a1 a2 a3 a4 a5 a6) (fun _ => rfl) (fun h => by cases h))
  have hpe : ∀ (s : Bool) (o : VObj) (q t : Nat), GH.hp [(q, s, o)] t = if t = q then some o else none := fun s o q t => by
    simp only [GH.hp, upd]
  rcases hcase with ⟨hv0, rfl⟩ | hv1
  · obtain ⟨r, B', nx', hg, rfl⟩ := fnG_at hT hm hf hb hok hN h0
    refine (hg.fn S noK w vs hl (only _ (by rw [hv0]; exact .lit rfl)) hs0 (fun _ _ => rfl)).mono fun e w' h => ?_
    obtain ⟨v, S', ρ', rfl, hr, hs', he⟩ := h
    refine ⟨v, S', ρ, rfl, ?_, ⟨fun j o hj => ?_, fun j j' o o' b a1 a2 a3 a4 => ?_, hs'.bnd⟩, ?_⟩
    · rw [hr.lit_inv]; exact .win0
    · rw [hpe] at hj
      split at hj
      · rename_i e; subst e; cases hj; exact .inr ⟨hnew _ (Nat.le_refl _), rfl⟩
      · cases hj
    · rw [hpe] at a1 a2
      split at a1
      · rename_i e1
        split at a2
        · rename_i e2; rw [e1, e2]
        · cases a2
      · cases a1
    · have nl : ∀ b, ¬ Live ρ (GH.hp [(nx, true, ⟨N, [], false⟩)]) b := fun b ⟨j, o, q1, q2⟩ => by
        rw [hpe] at q1
        split at q1
        · rename_i e; subst e; rw [hnew _ (Nat.le_refl _)] at q2; cases q2
        · cases q1
      have no : ∀ b, ¬ Own ρ (GH.hp [(nx, true, ⟨N, [], false⟩)]) b := fun b ⟨j, o, q1, _, q2⟩ => nl b ⟨j, o, q1, q2⟩
      have n0 : ∀ (τ : KM) b, ¬ Own τ (GH.hp []) b := fun τ b ⟨j, o, q1, _, q2⟩ => by cases q1
      exact { os := he.os, tape := he.tape, output := he.output, size := he.size
              block := fun b hb _ => he.block b hb (n0 _ b)
              keeps := he.keeps, more := he.more
              only := fun b hb => by
                rcases he.only b hb with h | h | h
                · exact .inl h
                · exact .inr (.inl h)
                · exact (n0 _ b h).elim
              live := fun b h => (nl b h).elim
              own := fun b h => (no b h).elim
              keys := fun _ _ h => h }
  · obtain ⟨r, B', nx', hg, q0, s, rfl, rfl⟩ := fnG_at hT hm hf hb hok hN (h1 L ⟨c1⟩ ⟨c2⟩ ⟨c3⟩)
    refine (hg.fn S noK w vs hl (only _ hv1) hs0 (fun _ _ => rfl)).mono fun e w' h => ?_
    obtain ⟨v, S', ρ', rfl, hr, hs', he⟩ := h
    let ρ2 : KM := fun j => if j = nx then ρ' q0 else ρ j
    have e2 : ρ2 nx = ρ' q0 := by simp [ρ2]
    have lv : ∀ b, Live ρ2 (GH.hp [(nx, true, ⟨N, L, false⟩)]) b → Live ρ' (GH.hp [(q0, s, ⟨N, L, false⟩)]) b := fun b ⟨j, o, q1, q2⟩ => by
      rw [hpe] at q1
      split at q1
      · rename_i e; subst e; rw [e2] at q2; exact ⟨q0, o, by rw [hpe, if_pos rfl]; exact q1, q2⟩
      · cases q1
    have ow : ∀ b, Own ρ2 (GH.hp [(nx, true, ⟨N, L, false⟩)]) b → Own ρ' (GH.hp [(q0, s, ⟨N, L, false⟩)]) b := fun b ⟨j, o, q1, qf, q2⟩ => by
      rw [hpe] at q1
      split at q1
      · rename_i e; subst e; rw [e2] at q2; exact ⟨q0, o, by rw [hpe, if_pos rfl]; exact q1, qf, q2⟩
      · cases q1
    have n0 : ∀ (τ : KM) b, ¬ Own τ (GH.hp []) b := fun τ b ⟨j, o, q1, _, q2⟩ => by cases q1
    have n1 : ∀ (τ : KM) b, ¬ Live τ (GH.hp []) b := fun τ b ⟨j, o, q1, q2⟩ => by cases q1
    refine ⟨v, S', ρ2, rfl, ?_, ⟨fun j o hj => ?_, fun j j' o o' b a1 a2 a3 a4 => ?_, hs'.bnd⟩, ?_⟩
    · have key : ∀ n, Rep S' ρ' w' v (.win q0 N 0 n n) → Rep S' ρ2 w' v (.win nx N 0 n n) := fun n h => by
        cases h with
        | win hk hw hn hc hf' ho => exact .win (by rw [e2]; exact hk) hw hn hc hf' ho
        | win0 => exact .win0
      exact key _ hr
    · rw [hpe] at hj
      split at hj
      · rename_i e
        subst e
        cases hj
        rcases hs'.obj q0 ⟨N, L, false⟩ (by rw [hpe, if_pos rfl]) with ⟨b, cc, t, p1, p2, p3, p4, p5⟩ | ⟨p1, p2⟩
        · refine .inl ⟨b, cc, t, by rw [e2]; exact p1, p2, ⟨p3.1, p3.2.1, fun i j r u x q1 q2 q3 => ?_⟩, p4, p5⟩
          exact (c3 r (List.mem_of_getElem? q1) x (List.mem_of_getElem? q2)).rep (fun k b h _ => h.elim) (p3.2.2 i j r u x q1 q2 q3)
        · exact .inr ⟨by rw [e2]; exact p1, p2⟩
      · cases hj
    · rw [hpe] at a1 a2
      split at a1
      · rename_i e1
        split at a2
        · rename_i e2; rw [e1, e2]
        · cases a2
      · cases a1
    · exact { os := he.os, tape := he.tape, output := he.output, size := he.size
              block := fun b hb _ => he.block b hb (n0 _ b)
              keeps := he.keeps, more := he.more
              only := fun b hb => by
                rcases he.only b hb with h | h | h
                · exact .inl h
                · exact .inr (.inl h)
                · exact (n0 _ b h).elim
              live := fun b h => by
                rcases he.live b (lv b h) with h | h
                · exact .inl h
                · exact (n1 _ b h).elim
              own := fun b h => by
                rcases he.own b (ow b h) with h | h
                · exact .inl h
                · exact (n0 _ b h).elim
              keys := fun j b h => by
                have : j ≠ nx := fun e => by subst e; rw [hnew _ (Nat.le_refl _)] at h; cases h
                simp only [ρ2, this, if_false]
                exact h }
end Go.Proofs.Ytbieiehfohldjaa
namespace Go.Proofs.Ytbieiehfohldjaa
open Go
set_option linter.unusedVariables false
set_option linter.unusedSimpArgs false
set_option maxRecDepth 100000

/-- the answer, told by new objects -/
def retN (T : TT) (fn : Func) (r0 : V) (B0 : GH) (n0 : Nat) : QT := fun ex e H nx1 => match ex with
  | .normal => resQ T e H fn.results.toList fun xs => packK xs fun v => wkA 0 (.nd v .lf .lf) H (.nd r0 .lf .lf) B0 n0
  | .ret => resQ T e H fn.results.toList fun xs => packK xs fun v => wkA 0 (.nd v .lf .lf) H (.nd r0 .lf .lf) B0 n0
  | _ => False
theorem retN_sound {T : TT} {fn : Func} {r0 : V} {B0 : GH} {n0 : Nat} {ex : Exit} {e : Tr} {H : GH} {nx1 : Nat} (h : retN T fn r0 B0 n0 ex e H nx1) :
    (ex = .normal ∨ ex = .ret) ∧ ∃ xs t, resL T (stOf e H nx1) fn.results.toList = some xs ∧ Wk 0 (tauF 0 t) (stOf (.nd (pack xs) .lf .lf) H nx1) (stOf (.nd r0 .lf .lf) B0 n0) := by
  have key : (resQ T e H fn.results.toList fun xs => packK xs fun v => wkA 0 (.nd v .lf .lf) H (.nd r0 .lf .lf) B0 n0) → ∃ xs t, resL T (stOf e H nx1) fn.results.toList = some xs ∧ Wk 0 (tauF 0 t) (stOf (.nd (pack xs) .lf .lf) H nx1) (stOf (.nd r0 .lf .lf) B0 n0) := fun h => by
    obtain ⟨xs, hx, h⟩ := resQ_sound (nx := nx1) _ h
    rw [packK_eq] at h
    obtain ⟨t, h⟩ := wkA_sound h
    exact ⟨xs, t, hx, (wkE_sound (nx1 := nx1) h).1⟩
  cases ex with
  | normal => exact ⟨.inl rfl, key h⟩
  | ret => exact ⟨.inr rfl, key h⟩
  | _ => exact h.elim
/-- rows with no names in them -/
def plB : GH → Prop
  | [] => True
  | p :: B => rowsPlain p.2.2.rows ∧ plB B
theorem plB_sound : ∀ {B : GH}, plB B → ∀ p ∈ B, RowsNm (fun _ => False) p.2.2.rows
  | [], _, p, h => by cases h
  | q :: B, ⟨h1, h2⟩, p, h => by
    rcases List.mem_cons.1 h with rfl | h
    · exact RowsNm.plain h1
    · exact plB_sound h2 p h
theorem fn_vcN {P : Program} {T : TT} (hT : TOk P T) (hm : P.follows .mixedOrders = true) {I : ITab} (hI : IOk P I) (n : Nat) {k N d : Nat} {fn : Func} {c : Code} {args : List V} {r0 : V} {B0 : GH} {n0 : Nat} (hf : P.funcs[k]? = some fn) (hb : fn.body = some c) (hn : (fn.name == "runtime.NumGoroutine") = false) (hN : N = args.length + (fn.ntmps - args.length))
    (hk : B0.keys.all (fun j => Nat.blt j n0) = true) (hnm : nmQ (memN B0.keys) 4 r0 = true) (hpl : plB B0)
    (h : initK args 0 (Tr.full d) fun e => vc P T (ceN P T I n) false N 0 c (retN T fn r0 B0 n0) e [] 0) : FnN P k args r0 B0 n0 := by
  obtain ⟨e, he, h⟩ := initK_sound _ _ _ h
  refine ⟨by simp [callOk, hf, hn, hb], fun j hj => Nat.le_of_ble_eq_true (List.all_eq_true.1 hk j hj), (nmQ_sound 4 _ hnm).mono fun k hk => memN_mem hk, plB_sound hpl, fun S w vs hl hr hS => ?_⟩
  have hA := vc_sound hT (ceN_sound hT hm hI n) hm c _ e [] 0 h
  rw [← init_st (B := []) he] at hA
  refine calls_of_wp hf hb ?_
  have hst : SimSt N S noK { tmps := vs ++ Array.replicate (fn.ntmps - vs.size) undef, defers := [] } w ⟨argEnv args, GH.hp [], 0⟩ :=
    ⟨Sim.empty hS, argEnv_rep hl hr, by simp [hN, hl], rfl, fun _ _ => rfl, fun k o hk => by cases hk⟩
  refine hA S noK _ w hst _ fun ex st' S' ρ' a' w' hq hs' hx => ?_
  obtain ⟨e1, H1, nx1, rfl, hq⟩ := hq
  obtain ⟨hex, xs, t, hres, hw⟩ := retN_sound hq
  obtain ⟨u, hu, hur⟩ := results_run hT hs' hres
  have hret : ∃ v S'' ρ'', Ending.returned u = .returned v ∧ Rep S'' ρ'' w' v r0 ∧ Sim S'' ρ'' w' B0.hp ∧ Ext1 0 S noK w noH S'' ρ'' w' B0.hp := by
    have hs1 : SimSt 1 S' ρ' { tmps := #[u], defers := [] } w' (stOf (.nd (pack xs) .lf .lf) H1 nx1) := by
      refine ⟨hs'.sim, fun t => ?_, rfl, rfl, hs'.new, hs'.old⟩
      cases t with
      | zero => exact hur
      | succ t =>
        have e2 : (stOf (.nd (pack xs) .lf .lf) H1 nx1).env (t + 1) = .undef := by
          simp only [stOf, Tr.get]
          cases hq : Nat.beq ((t + 1) % 2) 1 <;> rfl
        rw [e2]
        simp only [Array.getD, List.size_toArray, List.length_cons, List.length_nil]
        rw [dif_neg (by omega)]
        exact .tup rfl fun i u x h1 h2 => by simp at h2
    obtain ⟨g1, g2⟩ := wk_sound hw hs1
    exact ⟨u, _, _, rfl, g1.slots 0, g1.sim, hx.trans g2⟩
  rcases hex with rfl | rfl
  · exact ⟨hs'.defers, u, hu, hret⟩
  · exact ⟨hs'.defers, u, hu, hret⟩
theorem fnN_args {P : Program} {k : FuncId} {args args' : List V} {r : V} {B : GH} {n : Nat} (h : FnN P k args' r B n) (e : args = args') : FnN P k args r B n := e ▸ h
end Go.Proofs.Ytbieiehfohldjaa
namespace Go.Proofs.Ytbieiehfohldjaa
open Go
set_option linter.unusedVariables false
set_option linter.unusedSimpArgs false
set_option maxRecDepth 100000
set_option maxHeartbeats 2000000

structure Blk where
  f : Fin 64 → UInt8
def Blk.row (x : Blk) : List V := [u8V (x.f 0), u8V (x.f 1), u8V (x.f 2), u8V (x.f 3), u8V (x.f 4), u8V (x.f 5), u8V (x.f 6), u8V (x.f 7), u8V (x.f 8), u8V (x.f 9), u8V (x.f 10), u8V (x.f 11), u8V (x.f 12), u8V (x.f 13), u8V (x.f 14), u8V (x.f 15), u8V (x.f 16), u8V (x.f 17), u8V (x.f 18), u8V (x.f 19), u8V (x.f 20), u8V (x.f 21), u8V (x.f 22), u8V (x.f 23), u8V (x.f 24), u8V (x.f 25), u8V (x.f 26), u8V (x.f 27), u8V (x.f 28), u8V (x.f 29), u8V (x.f 30), u8V (x.f 31), u8V (x.f 32), u8V (x.f 33), u8V (x.f 34), u8V (x.f 35), u8V (x.f 36), u8V (x.f 37), u8V (x.f 38), u8V (x.f 39), u8V (x.f 40), u8V (x.f 41), u8V (x.f 42), u8V (x.f 43), u8V (x.f 44), u8V (x.f 45), u8V (x.f 46), u8V (x.f 47), u8V (x.f 48), u8V (x.f 49), u8V (x.f 50), u8V (x.f 51), u8V (x.f 52), u8V (x.f 53), u8V (x.f 54), u8V (x.f 55), u8V (x.f 56), u8V (x.f 57), u8V (x.f 58), u8V (x.f 59), u8V (x.f 60), u8V (x.f 61), u8V (x.f 62), u8V (x.f 63)]
def Blk.bs (x : Blk) : BS := [x.f 0, x.f 1, x.f 2, x.f 3, x.f 4, x.f 5, x.f 6, x.f 7, x.f 8, x.f 9, x.f 10, x.f 11, x.f 12, x.f 13, x.f 14, x.f 15, x.f 16, x.f 17, x.f 18, x.f 19, x.f 20, x.f 21, x.f 22, x.f 23, x.f 24, x.f 25, x.f 26, x.f 27, x.f 28, x.f 29, x.f 30, x.f 31, x.f 32, x.f 33, x.f 34, x.f 35, x.f 36, x.f 37, x.f 38, x.f 39, x.f 40, x.f 41, x.f 42, x.f 43, x.f 44, x.f 45, x.f 46, x.f 47, x.f 48, x.f 49, x.f 50, x.f 51, x.f 52, x.f 53, x.f 54, x.f 55, x.f 56, x.f 57, x.f 58, x.f 59, x.f 60, x.f 61, x.f 62, x.f 63]
def Blk.dflt : Blk := ⟨fun _ => 0⟩
instance : Inhabited Blk := ⟨Blk.dflt⟩
def Blk.of (b : BS) : Blk := ⟨fun i => b[i.val]?.getD 0⟩
theorem Blk.row_bs (x : Blk) : x.row = x.bs.map u8V := rfl
theorem Blk.bs_fn (x : Blk) : x.bs = List.ofFn x.f := by rfl
theorem Blk.bs_len (x : Blk) : x.bs.length = 64 := rfl
theorem Blk.bs_get (x : Blk) (i : Fin 64) : x.bs[i.val]? = some (x.f i) := by
  rw [Blk.bs_fn, List.getElem?_ofFn]
  simp
theorem Blk.ext_bs {x y : Blk} (h : x.bs = y.bs) : x = y := by
  obtain ⟨f⟩ := x
  obtain ⟨g⟩ := y
  congr 1
  funext i
  have h1 := Blk.bs_get ⟨f⟩ i
  have h2 := Blk.bs_get ⟨g⟩ i
  rw [h, h2] at h1
  exact (Option.some.inj h1).symm
instance : DecidableEq Blk := fun x y => if h : x.bs = y.bs then isTrue (Blk.ext_bs h) else isFalse fun e => h (by rw [e])
theorem Blk.of_bs (x : Blk) : Blk.of x.bs = x := by
  obtain ⟨f⟩ := x
  unfold Blk.of
  congr 1
  funext i
  rw [Blk.bs_get]
  rfl
theorem Blk.bs_of {b : BS} (h : b.length = 64) : (Blk.of b).bs = b := by
  refine List.ext_getElem (by rw [Blk.bs_len, h]) fun i h1 h2 => ?_
  have := Blk.bs_get (Blk.of b) ⟨i, by omega⟩
  rw [List.getElem?_eq_getElem h1] at this
  rw [Option.some.inj this]
  simp [Blk.of, List.getElem?_eq_getElem h2]
theorem Blk.bs_inj {x y : Blk} : x.bs = y.bs ↔ x = y := ⟨Blk.ext_bs, fun h => by rw [h]⟩
/-- two texts of bytes, held against each other number by number -/
def eqL : BS → BS → Bool
  | a :: l, b :: k => ((a.toNat : Int) == (b.toNat : Int)) && eqL l k
  | [], [] => true
  | _, _ => false
theorem eqL_eq : ∀ (l k : BS), eqL l k = decide (l = k)
  | [], [] => rfl
  | [], _ :: _ => rfl
  | _ :: _, [] => rfl
  | a :: l, b :: k => by
    rw [eqL, eqL_eq l k, Bool.eq_iff_iff]
    simp only [Bool.and_eq_true, beq_iff_eq, Int.natCast_inj, UInt8.toNat_inj, decide_eq_true_eq, List.cons.injEq]
theorem eqL_blk (x y : Blk) : eqL x.bs y.bs = decide (x = y) := by
  rw [eqL_eq, Bool.eq_iff_iff, decide_eq_true_eq, decide_eq_true_eq, Blk.bs_inj]
theorem blk_cells {b : BS} : Blk.row (Blk.of b) = (Blk.of b).bs.map u8V := rfl
/-- a list of 64 cells of bytes is a block -/
theorem blk_pick {l : BS} (h : l.length = 64) : l.map u8V = (Blk.of l).row := by rw [Blk.row_bs, Blk.bs_of h]
structure Sns where
  key : Int
  code : Int
  qual : Int
def Sns.row (x : Sns) : List V := [V.lit (.int .i64 x.key), V.lit (.int .i64 x.code), V.lit (.int .i64 x.qual)]
def Sns.v (x : Sns) : V := .agg [V.lit (.int .i64 x.key), V.lit (.int .i64 x.code), V.lit (.int .i64 x.qual)]
def Sns.wf (x : Sns) : Prop := (-9223372036854775808 ≤ x.key ∧ x.key ≤ 9223372036854775807) ∧ (-9223372036854775808 ≤ x.code ∧ x.code ≤ 9223372036854775807) ∧ (-9223372036854775808 ≤ x.qual ∧ x.qual ≤ 9223372036854775807)
def Sns.dflt : Sns := ⟨0, 0, 0⟩
theorem rp_Sns (l : List Sns) : rowsPlain (l.map Sns.row) = True := rp_map (fun x => rfl) l
theorem or_Sns (l : List Sns) : oneRows (l.map Sns.row) = True := or_map (fun x => rfl) l
structure Cmd where
  op : Int
  pos : Int
  n : Int
  page : Int
  bits : Int
def Cmd.row (x : Cmd) : List V := [V.lit (.int .i64 x.op), V.lit (.int .u64 x.pos), V.lit (.int .i64 x.n), V.lit (.int .i64 x.page), V.lit (.int .i64 x.bits)]
def Cmd.v (x : Cmd) : V := .agg [V.lit (.int .i64 x.op), V.lit (.int .u64 x.pos), V.lit (.int .i64 x.n), V.lit (.int .i64 x.page), V.lit (.int .i64 x.bits)]
def Cmd.wf (x : Cmd) : Prop := (-9223372036854775808 ≤ x.op ∧ x.op ≤ 9223372036854775807) ∧ (0 ≤ x.pos ∧ x.pos ≤ 18446744073709551615) ∧ (-9223372036854775808 ≤ x.n ∧ x.n ≤ 9223372036854775807) ∧ (-9223372036854775808 ≤ x.page ∧ x.page ≤ 9223372036854775807) ∧ (-9223372036854775808 ≤ x.bits ∧ x.bits ≤ 9223372036854775807)
def Cmd.dflt : Cmd := ⟨0, 0, 0, 0, 0⟩
theorem rp_Cmd (l : List Cmd) : rowsPlain (l.map Cmd.row) = True := rp_map (fun x => rfl) l
theorem or_Cmd (l : List Cmd) : oneRows (l.map Cmd.row) = True := or_map (fun x => rfl) l
structure Dty where
  pos : Int
  data : Blk
def Dty.row (x : Dty) : List V := [V.lit (.int .i64 x.pos), u8V (x.data.f 0), u8V (x.data.f 1), u8V (x.data.f 2), u8V (x.data.f 3), u8V (x.data.f 4), u8V (x.data.f 5), u8V (x.data.f 6), u8V (x.data.f 7), u8V (x.data.f 8), u8V (x.data.f 9), u8V (x.data.f 10), u8V (x.data.f 11), u8V (x.data.f 12), u8V (x.data.f 13), u8V (x.data.f 14), u8V (x.data.f 15), u8V (x.data.f 16), u8V (x.data.f 17), u8V (x.data.f 18), u8V (x.data.f 19), u8V (x.data.f 20), u8V (x.data.f 21), u8V (x.data.f 22), u8V (x.data.f 23), u8V (x.data.f 24), u8V (x.data.f 25), u8V (x.data.f 26), u8V (x.data.f 27), u8V (x.data.f 28), u8V (x.data.f 29), u8V (x.data.f 30), u8V (x.data.f 31), u8V (x.data.f 32), u8V (x.data.f 33), u8V (x.data.f 34), u8V (x.data.f 35), u8V (x.data.f 36), u8V (x.data.f 37), u8V (x.data.f 38), u8V (x.data.f 39), u8V (x.data.f 40), u8V (x.data.f 41), u8V (x.data.f 42), u8V (x.data.f 43), u8V (x.data.f 44), u8V (x.data.f 45), u8V (x.data.f 46), u8V (x.data.f 47), u8V (x.data.f 48), u8V (x.data.f 49), u8V (x.data.f 50), u8V (x.data.f 51), u8V (x.data.f 52), u8V (x.data.f 53), u8V (x.data.f 54), u8V (x.data.f 55), u8V (x.data.f 56), u8V (x.data.f 57), u8V (x.data.f 58), u8V (x.data.f 59), u8V (x.data.f 60), u8V (x.data.f 61), u8V (x.data.f 62), u8V (x.data.f 63)]
def Dty.v (x : Dty) : V := .agg [V.lit (.int .i64 x.pos), u8V (x.data.f 0), u8V (x.data.f 1), u8V (x.data.f 2), u8V (x.data.f 3), u8V (x.data.f 4), u8V (x.data.f 5), u8V (x.data.f 6), u8V (x.data.f 7), u8V (x.data.f 8), u8V (x.data.f 9), u8V (x.data.f 10), u8V (x.data.f 11), u8V (x.data.f 12), u8V (x.data.f 13), u8V (x.data.f 14), u8V (x.data.f 15), u8V (x.data.f 16), u8V (x.data.f 17), u8V (x.data.f 18), u8V (x.data.f 19), u8V (x.data.f 20), u8V (x.data.f 21), u8V (x.data.f 22), u8V (x.data.f 23), u8V (x.data.f 24), u8V (x.data.f 25), u8V (x.data.f 26), u8V (x.data.f 27), u8V (x.data.f 28), u8V (x.data.f 29), u8V (x.data.f 30), u8V (x.data.f 31), u8V (x.data.f 32), u8V (x.data.f 33), u8V (x.data.f 34), u8V (x.data.f 35), u8V (x.data.f 36), u8V (x.data.f 37), u8V (x.data.f 38), u8V (x.data.f 39), u8V (x.data.f 40), u8V (x.data.f 41), u8V (x.data.f 42), u8V (x.data.f 43), u8V (x.data.f 44), u8V (x.data.f 45), u8V (x.data.f 46), u8V (x.data.f 47), u8V (x.data.f 48), u8V (x.data.f 49), u8V (x.data.f 50), u8V (x.data.f 51), u8V (x.data.f 52), u8V (x.data.f 53), u8V (x.data.f 54), u8V (x.data.f 55), u8V (x.data.f 56), u8V (x.data.f 57), u8V (x.data.f 58), u8V (x.data.f 59), u8V (x.data.f 60), u8V (x.data.f 61), u8V (x.data.f 62), u8V (x.data.f 63)]
def Dty.wf (x : Dty) : Prop := (-9223372036854775808 ≤ x.pos ∧ x.pos ≤ 9223372036854775807)
def Dty.dflt : Dty := ⟨0, Blk.dflt⟩
theorem rp_Dty (l : List Dty) : rowsPlain (l.map Dty.row) = True := rp_map (fun x => rfl) l
theorem or_Dty (l : List Dty) : oneRows (l.map Dty.row) = True := or_map (fun x => rfl) l
structure Med where
  blocks : List Blk
  dirty : List Dty
def Med.row (x : Med) : List V := [.sl 64 (x.blocks.map Blk.row), .sl 65 (x.dirty.map Dty.row)]
def Med.v (x : Med) : V := .agg [.sl 64 (x.blocks.map Blk.row), .sl 65 (x.dirty.map Dty.row)]
def Med.wf (x : Med) : Prop := x.blocks.length ≤ maxLen ∧ (x.dirty.length ≤ maxLen ∧ ∀ y ∈ x.dirty, y.wf)
def Med.dflt : Med := ⟨[], []⟩
theorem rp_Med (l : List Med) : rowsPlain (l.map Med.row) = True := rp_map (fun x => rfl) l
theorem or_Med (l : List Med) : oneRows (l.map Med.row) = True := or_map (fun x => rfl) l
structure Slt where
  med : Med
  present : Bool
  prot : Bool
  latch : Bool
def Slt.row (x : Slt) : List V := [.sl 64 (x.med.blocks.map Blk.row), .sl 65 (x.med.dirty.map Dty.row), bV x.present, bV x.prot, bV x.latch]
def Slt.v (x : Slt) : V := .agg [.sl 64 (x.med.blocks.map Blk.row), .sl 65 (x.med.dirty.map Dty.row), bV x.present, bV x.prot, bV x.latch]
def Slt.wf (x : Slt) : Prop := x.med.wf
def Slt.dflt : Slt := ⟨Med.dflt, false, false, false⟩
theorem rp_Slt (l : List Slt) : rowsPlain (l.map Slt.row) = True := rp_map (fun x => rfl) l
theorem or_Slt (l : List Slt) : oneRows (l.map Slt.row) = True := or_map (fun x => rfl) l
structure Unt where
  slot : Slt
  caching : Bool
  atts : List Sns
  last : Sns
def Unt.row (x : Unt) : List V := [.sl 64 (x.slot.med.blocks.map Blk.row), .sl 65 (x.slot.med.dirty.map Dty.row), bV x.slot.present, bV x.slot.prot, bV x.slot.latch, bV x.caching, .sl 3 (x.atts.map Sns.row), V.lit (.int .i64 x.last.key), V.lit (.int .i64 x.last.code), V.lit (.int .i64 x.last.qual)]
def Unt.v (x : Unt) : V := .agg [.sl 64 (x.slot.med.blocks.map Blk.row), .sl 65 (x.slot.med.dirty.map Dty.row), bV x.slot.present, bV x.slot.prot, bV x.slot.latch, bV x.caching, .sl 3 (x.atts.map Sns.row), V.lit (.int .i64 x.last.key), V.lit (.int .i64 x.last.code), V.lit (.int .i64 x.last.qual)]
def Unt.wf (x : Unt) : Prop := x.slot.wf ∧ (x.atts.length ≤ maxLen ∧ ∀ y ∈ x.atts, y.wf) ∧ x.last.wf
def Unt.dflt : Unt := ⟨Slt.dflt, false, [], Sns.dflt⟩
theorem rp_Unt (l : List Unt) : rowsPlain (l.map Unt.row) = True := rp_map (fun x => rfl) l
theorem or_Unt (l : List Unt) : oneRows (l.map Unt.row) = True := or_map (fun x => rfl) l
structure Job where
  cmd : Cmd
  len : Int
  took : Int
  rest : BS
  bad : Sns
def Job.row (x : Job) : List V := [V.lit (.int .i64 x.cmd.op), V.lit (.int .u64 x.cmd.pos), V.lit (.int .i64 x.cmd.n), V.lit (.int .i64 x.cmd.page), V.lit (.int .i64 x.cmd.bits), V.lit (.int .i64 x.len), V.lit (.int .i64 x.took), bsV x.rest, V.lit (.int .i64 x.bad.key), V.lit (.int .i64 x.bad.code), V.lit (.int .i64 x.bad.qual)]
def Job.v (x : Job) : V := .agg [V.lit (.int .i64 x.cmd.op), V.lit (.int .u64 x.cmd.pos), V.lit (.int .i64 x.cmd.n), V.lit (.int .i64 x.cmd.page), V.lit (.int .i64 x.cmd.bits), V.lit (.int .i64 x.len), V.lit (.int .i64 x.took), bsV x.rest, V.lit (.int .i64 x.bad.key), V.lit (.int .i64 x.bad.code), V.lit (.int .i64 x.bad.qual)]
def Job.wf (x : Job) : Prop := x.cmd.wf ∧ (-9223372036854775808 ≤ x.len ∧ x.len ≤ 9223372036854775807) ∧ (-9223372036854775808 ≤ x.took ∧ x.took ≤ 9223372036854775807) ∧ x.rest.length ≤ maxLen ∧ x.bad.wf
def Job.dflt : Job := ⟨Cmd.dflt, 0, 0, [], Sns.dflt⟩
theorem rp_Job (l : List Job) : rowsPlain (l.map Job.row) = True := rp_map (fun x => rfl) l
theorem or_Job (l : List Job) : oneRows (l.map Job.row) = True := or_map (fun x => rfl) l
structure Itt where
  dir : Int
  len : Int
  data : BS
  job : Job
  sense : Sns
def Itt.row (x : Itt) : List V := [V.lit (.int .i64 x.dir), V.lit (.int .i64 x.len), bsV x.data, V.lit (.int .i64 x.job.cmd.op), V.lit (.int .u64 x.job.cmd.pos), V.lit (.int .i64 x.job.cmd.n), V.lit (.int .i64 x.job.cmd.page), V.lit (.int .i64 x.job.cmd.bits), V.lit (.int .i64 x.job.len), V.lit (.int .i64 x.job.took), bsV x.job.rest, V.lit (.int .i64 x.job.bad.key), V.lit (.int .i64 x.job.bad.code), V.lit (.int .i64 x.job.bad.qual), V.lit (.int .i64 x.sense.key), V.lit (.int .i64 x.sense.code), V.lit (.int .i64 x.sense.qual)]
def Itt.v (x : Itt) : V := .agg [V.lit (.int .i64 x.dir), V.lit (.int .i64 x.len), bsV x.data, V.lit (.int .i64 x.job.cmd.op), V.lit (.int .u64 x.job.cmd.pos), V.lit (.int .i64 x.job.cmd.n), V.lit (.int .i64 x.job.cmd.page), V.lit (.int .i64 x.job.cmd.bits), V.lit (.int .i64 x.job.len), V.lit (.int .i64 x.job.took), bsV x.job.rest, V.lit (.int .i64 x.job.bad.key), V.lit (.int .i64 x.job.bad.code), V.lit (.int .i64 x.job.bad.qual), V.lit (.int .i64 x.sense.key), V.lit (.int .i64 x.sense.code), V.lit (.int .i64 x.sense.qual)]
def Itt.wf (x : Itt) : Prop := (-9223372036854775808 ≤ x.dir ∧ x.dir ≤ 9223372036854775807) ∧ (-9223372036854775808 ≤ x.len ∧ x.len ≤ 9223372036854775807) ∧ x.data.length ≤ maxLen ∧ x.job.wf ∧ x.sense.wf
def Itt.dflt : Itt := ⟨0, 0, [], Job.dflt, Sns.dflt⟩
theorem rp_Itt (l : List Itt) : rowsPlain (l.map Itt.row) = True := rp_map (fun x => rfl) l
theorem or_Itt (l : List Itt) : oneRows (l.map Itt.row) = True := or_map (fun x => rfl) l
theorem rp_Blk (l : List Blk) : rowsPlain (l.map Blk.row) = True := rp_map (fun x => rfl) l
theorem or_Blk (l : List Blk) : oneRows (l.map Blk.row) = True := or_map (fun x => rfl) l
theorem eq_sns : EqFlat Try.prog 30 [true, true, true] := eqFlat_of (by kernel_rfl) (by kernel_rfl) (by kernel_rfl) (by kernel_rfl)
theorem eq_cmd : EqFlat Try.prog 35 [true, true, true, true, true] := eqFlat_of (by kernel_rfl) (by kernel_rfl) (by kernel_rfl) (by kernel_rfl)
theorem eq_blk : EqFlat Try.prog 58 (List.replicate 64 true) := eqFlat_deep (by kernel_rfl) (by kernel_rfl) (by kernel_rfl)
theorem eq_dty : EqFlat Try.prog 81 (List.replicate 65 true) := eqFlat_deep (by kernel_rfl) (by kernel_rfl) (by kernel_rfl)
theorem cl_92 : CloneOk Try.prog 92 64 := by
  refine cloneOk_of (n := 8) (d := 4) tabOk mixed Try.func92 rfl rfl rfl ?_ ?_
  · exact rfl
  · rintro L ⟨h1⟩ ⟨h2⟩ ⟨h3⟩
    refine And.intro rfl (And.intro h1 (And.intro (by dsimp only; omega) ?_))
    refine And.intro (fun r hr x hx => (h3 r hr x hx).mono fun k h => h.elim) ?_
    exact ⟨_, _, rfl, rfl⟩
end Go.Proofs.Ytbieiehfohldjaa
