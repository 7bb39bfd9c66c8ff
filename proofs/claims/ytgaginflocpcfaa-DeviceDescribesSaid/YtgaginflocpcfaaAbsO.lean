/-
  The value-level machine: a function's contract out of its body; calls.
-/
import Derived.Test.YtgaginflocpcfaaAbsN
namespace Go.Proofs.Ytgaginflocpcfaa
open Go
set_option linter.unusedVariables false
set_option linter.unusedSimpArgs false

def argEnv (args : List V) : Nat → V := fun t => args.getD t .undef

/-- what is to hold where a function ends -/
def fnPost (T : TT) (fn : Func) (F : HL) (r : V) (F' : HL) (e : Exit) (st : St) : Prop :=
  (e = .normal ∨ e = .ret) ∧ ∃ (xs : List V) (B : Hp) (τ : Nat → Option Nat), resL T st fn.results.toList = some xs ∧ Sub B st.H ∧ Wv B τ r (pack xs) ∧
    (∀ k o, hpo F' k = some o → ∃ k0 o0, τ k = some k0 ∧ st.H k0 = some o0 ∧ B k0 = none ∧ o.frz = false ∧ ORel B τ o o0) ∧
    (∀ k k' k0, τ k = some k0 → τ k' = some k0 → k = k') ∧ (∀ k, τ k ≠ none → k ∈ keysOf F') ∧ (∀ k, k ∈ keysOf F → τ k ≠ none → τ k = some k)

theorem argEnv_rep {S : Nat → Prop} {ρ : KM} {w : World} {vs : Array Value} {args : List V} {n : Nat} (hl : vs.size = args.length) (hr : ∀ (i : Nat) (u : Value) (x : V), vs[i]? = some u → args[i]? = some x → Rep S ρ w u x) :
    SRep S ρ w { tmps := vs ++ Array.replicate n undef, defers := [] } (argEnv args) := by
  intro t
  simp only [argEnv]
  by_cases ht : t < args.length
  · have h1 : t < vs.size := by omega
    have e1 : (vs ++ Array.replicate n undef).getD t undef = vs[t] := by
      rw [Array.getD_eq_getD_getElem?, Array.getElem?_append_left h1]; simp [h1]
    have e2 : args.getD t .undef = args[t] := by simp [List.getD, ht]
    rw [e1, e2]
    exact hr t _ _ (by simp [h1]) (by simp [ht])
  · have e1 : (vs ++ Array.replicate n undef).getD t undef = undef := by
      rw [Array.getD_eq_getD_getElem?, Array.getElem?_append_right (by omega)]
      by_cases h : t - vs.size < n
      · simp [h]
      · simp [h]
    have e2 : args.getD t .undef = .undef := by simp [List.getD, ht]
    rw [e1, e2]
    exact rep_undef

theorem fn_intro {P : Program} {T : TT} (hT : TOk P T) {k N m : Nat} {fn : Func} {c : Code} {args : List V} {F F' : HL} {r : V} (hf : P.funcs[k]? = some fn) (hb : fn.body = some c) (hN : N = args.length + (fn.ntmps - args.length)) (hm : ∀ k, k ∈ keysOf F → k < m)
    (h : AWp P N m c (fnPost T fn F r F') ⟨argEnv args, hpo F, m⟩) : Fn P k args F r F' := by
  intro S ρ w vs hl hr hs hmap hnew
  refine calls_of_wp hf hb ?_
  have hm' : ∀ k o, hpo F k = some o → k < m := fun k o h => hm k (mem_keys.1 (by rw [h]; simp))
  have hst : SimSt N S ρ { tmps := vs ++ Array.replicate (fn.ntmps - vs.size) undef, defers := [] } w ⟨argEnv args, hpo F, m⟩ :=
    ⟨hs, argEnv_rep hl hr, by simp [hN, hl], rfl, (fun k hk => hnew k (fun h => Nat.lt_irrefl _ (Nat.lt_of_lt_of_le (hm k h) hk))), hm'⟩
  refine h S ρ _ w hst _ fun e st' S' ρ' a' w' hq hs' he => ?_
  obtain ⟨hex, xs, B, τ, hres, hB, hv, hobj, hinj, hdom, hlow⟩ := hq
  obtain ⟨u, hu, hur⟩ := results_run hT hs' hres
  have hret : ∃ v S'' ρ'', Ending.returned u = .returned v ∧ Rep S'' ρ'' w' v r ∧ Sim S'' ρ'' w' (hpo F') ∧ Ext S ρ w (hpo F) S'' ρ'' w' (hpo F') := by
    let ρ'' : KM := fun k => match ρ k with
      | some b => some b
      | none => if k ∈ keysOf F' then KB τ ρ' k else none
    have old : ∀ k b, ρ k = some b → ρ'' k = some b := fun k b h => by simp only [ρ'', h]
    have new : ∀ k, ρ k = none → k ∈ keysOf F' → ρ'' k = KB τ ρ' k := fun k h h' => by simp only [ρ'', h, h', if_true]
    have kb_old : ∀ k b b', ρ k = some b → KB τ ρ' k = some b' → b' = b := fun k b b' h h' => by
      have hk : k ∈ keysOf F := by
        by_cases hh : k ∈ keysOf F
        · exact hh
        · rw [hnew k hh] at h; cases h
      have hτ : τ k ≠ none := by intro h0; simp [KB, h0] at h'
      have := hlow k hk hτ
      simp only [KB, this, Option.bind_some] at h'
      rw [he.low k b (hm k hk) h] at h'
      exact (Option.some.inj h').symm
    have le : ∀ k b, KB τ ρ' k = some b → ρ'' k = some b := fun k b h => by
      cases hρ : ρ k with
      | some b0 => rw [old k b0 hρ, kb_old k b0 b hρ h]
      | none =>
        have hτ : τ k ≠ none := by intro h0; simp [KB, h0] at h
        rw [new k hρ (hdom k hτ)]; exact h
    have up : ∀ {u : Value} {x : V}, Rep (SB S' ρ' B) (KB τ ρ') w' u x → Rep (SB S' ρ' B) ρ'' w' u x := fun h => h.mono (fun _ h => h) (fun _ _ => rfl) le (Keeps.refl w')
    -- an object of the answer, and its block
    have kobj : ∀ k o b, hpo F' k = some o → ρ'' k = some b → ∃ k0 o0, τ k = some k0 ∧ st'.H k0 = some o0 ∧ B k0 = none ∧ o.frz = false ∧ ORel B τ o o0 ∧ ρ' k0 = some b := fun k o b hk hb => by
      obtain ⟨k0, o0, h1, h2, h3, h4, h5⟩ := hobj k o hk
      refine ⟨k0, o0, h1, h2, h3, h4, h5, ?_⟩
      cases hρ : ρ k with
      | some b0 =>
        rw [old k b0 hρ] at hb
        obtain rfl : b0 = b := by simpa using hb
        have hkF : k ∈ keysOf F := by
          by_cases hh : k ∈ keysOf F
          · exact hh
          · rw [hnew k hh] at hρ; cases hρ
        have := hlow k hkF (by rw [h1]; simp)
        rw [h1] at this
        obtain rfl : k0 = k := by simpa using this
        exact he.low k0 b0 (hm k0 hkF) hρ
      | none =>
        rw [new k hρ (mem_keys.1 (by rw [hk]; simp))] at hb
        simpa [KB, h1] using hb
    have hown : ∀ b, Live ρ' B b → S' b ∨ Own ρ' st'.H b := fun b ⟨k, o, h1, h2⟩ => by
      have h3 := hB k o h1
      have h4 := (hs'.sim.frz h3 h2).1
      cases hf : o.frz with
      | true => exact .inl (h4 hf)
      | false => exact .inr ⟨k, o, h3, hf, h2⟩
    refine ⟨u, SB S' ρ' B, ρ'', rfl, up (hv.rep hs'.sim hB hur), ⟨fun k o hk => ?_, fun k k' o o' b h1 h2 h3 h4 => ?_, fun b hb => ?_⟩, ?_⟩
    · obtain ⟨k0, o0, h1, h2, h3, h4, h5⟩ := hobj k o hk
      rcases hs'.sim.obj k0 o0 h2 with ⟨b, c, t, q1, q2, q3, q4, q5⟩ | ⟨q1, q2⟩
      · refine .inl ⟨b, c, t, le k b (by simp [KB, h1, q1]), q2, (h5.rows hs'.sim hB q3).mono (fun u x h => up h), (fun h => by rw [h4] at h; cases h), (fun _ hS => ?_)⟩
        rcases hS with hS | ⟨k1, o1, g1, g2⟩
        · exact q5 (by rw [← h5.frz]; exact h4) hS
        · have := hs'.sim.inj k1 k0 o1 o0 b (hB _ _ g1) h2 g2 q1
          subst this
          rw [h3] at g1; cases g1
      · refine .inr ⟨?_, ?_⟩
        · cases hρ : ρ k with
          | some b0 =>
            have hkF : k ∈ keysOf F := by
              by_cases hh : k ∈ keysOf F
              · exact hh
              · rw [hnew k hh] at hρ; cases hρ
            have := hlow k hkF (by rw [h1]; simp)
            rw [h1] at this
            cases this
            rw [he.low k b0 (hm k hkF) hρ] at q1; cases q1
          | none => rw [new k hρ (mem_keys.1 (by rw [hk]; simp))]; simp [KB, h1, q1]
        · have := h5.len
          rw [q2] at this
          exact List.length_eq_zero_iff.1 this
    · obtain ⟨k0, o0, a1, a2, _, _, _, a6⟩ := kobj k o b h1 h3
      obtain ⟨k0', o0', b1, b2, _, _, _, b6⟩ := kobj k' o' b h2 h4
      have := hs'.sim.inj k0 k0' o0 o0' b a2 b2 a6 b6
      subst this
      exact hinj k k' k0 a1 b1
    · rcases hb with hb | ⟨k, o, h1, h2⟩
      · exact hs'.sim.bnd b hb
      · exact hs'.sim.lt (hB k o h1) h2
    · exact { os := he.os, tape := he.tape, output := he.output, size := he.size, block := he.block, keeps := he.keeps
              more := fun b h => .inl (he.more b h)
              only := fun b h => by
                have key : S' b ∨ Own ρ' st'.H b := by
                  rcases h with h | h
                  · exact .inl h
                  · exact hown b h
                rcases key with h | h
                · exact he.only b h
                · exact .inr (he.own b h)
              live := fun b ⟨k, o, h1, h2⟩ => by
                obtain ⟨k0, o0, a1, a2, _, _, _, a6⟩ := kobj k o b h1 h2
                exact he.live b ⟨k0, o0, a2, a6⟩
              own := fun b ⟨k, o, h1, hf, h2⟩ => by
                obtain ⟨k0, o0, a1, a2, _, _, a5, a6⟩ := kobj k o b h1 h2
                exact he.own b ⟨k0, o0, a2, by rw [← a5.frz]; exact hf, a6⟩
              keys := old
              dom := fun k b h => by
                cases hρ : ρ k with
                | some b0 => rw [old k b0 hρ] at h; exact .inl h
                | none =>
                  refine .inr ?_
                  by_cases hk : k ∈ keysOf F'
                  · have := mem_keys.2 hk
                    exact Option.ne_none_iff_exists'.1 this
                  · simp only [ρ'', hρ, hk, if_false] at h; cases h }
  rcases hex with rfl | rfl
  · exact ⟨hs'.defers, u, hu, hret⟩
  · exact ⟨hs'.defers, u, hu, hret⟩

/-- nil, or not -/
theorem fn_nil {P : Program} {k : FuncId} {args : List V} {F F' : HL} {r : V} (i : Nat) {sz : Nat} {l : List (List V)} (hi : args[i]? = some (.sl sz l)) (h1 : l = [] → Fn P k (args.set i (.lit (.slice none 0 0))) F r F') (h2 : Fn P k (args.set i (.sls sz l true false)) F r F') : Fn P k args F r F' := by
  intro S ρ w vs hl hr hs hmap hnew
  have hlt : i < args.length := (List.getElem?_eq_some_iff.1 hi).1
  have hvi : vs[i]? = some vs[i] := by simp [show i < vs.size by omega]
  have hri := hr i vs[i] _ hvi hi
  have other : ∀ (y : V), Rep S ρ w vs[i] y → ∀ (j : Nat) (u : Value) (x : V), vs[j]? = some u → (args.set i y)[j]? = some x → Rep S ρ w u x := fun y hy j u x a b => by
    by_cases e : i = j
    · subst e
      rw [List.getElem?_set_self hlt] at b
      rw [hvi] at a
      cases a; cases b
      exact hy
    · rw [List.getElem?_set_ne e] at b
      exact hr j u x a b
  have hcase : (vs[i] = .slice none 0 0 ∧ l = []) ∨ Rep S ρ w vs[i] (.sls sz l true false) := by
    generalize vs[i] = v at hri
    cases hri with
    | sl0 ha =>
      rename_i a cap
      cases a with
      | none => exact .inl ⟨by rw [ha rfl], rfl⟩
      | some a => exact .inr (.sls (.sl0 ha) (fun _ => rfl) (fun h => by cases h))
    | sl a1 a2 a3 a4 a5 a6 => exact .inr (.sls (.sl a1 a2 a3 a4 a5 a6) (fun _ => rfl) (fun h => by cases h))
  rcases hcase with ⟨hv, hl0⟩ | hv
  · exact h1 hl0 S ρ w vs (by simpa using hl) (other _ (by rw [hv]; exact .lit rfl)) hs hmap hnew
  · exact h2 S ρ w vs (by simpa using hl) (other _ hv) hs hmap hnew

/- THE ANSWER OF A FUNCTION OF VALUES -/
/-- a cell in which no name stands, as it is; a slice into an object: what it shows -/
def rc (H : Hp) : V → V
  | .sls sz l _ _ => .sl sz l
  | .win k sz lo n _ => match H k with
    | some ob => .sl sz ((ob.rows.drop lo).take n)
    | none => .any
  | .lit (.slice none 0 0) => .sl 0 []
  | x => x
def ra (H : Hp) : V → V
  | .agg cs => .agg (cs.map (rc H))
  | x => rc H x
def rt (H : Hp) : V → V
  | .tup cs => .tup (cs.map (ra H))
  | x => ra H x
def kfc : V → Bool
  | .lit _ => true
  | .sl _ _ => true
  | _ => false
def okc (H : Hp) : V → Prop
  | .win k sz lo n _ => match H k with
    | some ob => ob.sz = sz ∧ lo + n ≤ ob.rows.length ∧ ∀ r ∈ ob.rows, r.all kfc = true
    | none => False
  | .agg _ | .tup _ | .ptr _ _ _ _ | .fn _ _ | .mp _ => False
  | _ => True
def oka (H : Hp) : V → Prop
  | .agg cs => ∀ x ∈ cs, okc H x
  | x => okc H x
def okt (H : Hp) : V → Prop
  | .tup cs => ∀ x ∈ cs, oka H x
  | x => oka H x

theorem kfc_wv {B : Hp} {τ : Nat → Option Nat} {x : V} (h : kfc x = true) : Wv B τ x x := by
  cases x <;> first | exact .lit | exact .sl | cases h
theorem rc_wv {H : Hp} {τ : Nat → Option Nat} {x : V} (h : okc H x) : Wv H τ (rc H x) x := by
  cases x with
  | lit v =>
    unfold rc
    split
    · rename_i e; cases e
    · rename_i e; cases e
    · rename_i e; cases e; exact .nil
    · exact .lit
  | agg cs => exact h.elim
  | tup cs => exact h.elim
  | sl sz l => exact .sl
  | sls sz l nn ex => exact .slsl
  | win k sz lo n cp =>
    simp only [okc] at h
    cases hk : H k with
    | none => rw [hk] at h; exact h.elim
    | some ob =>
      rw [hk] at h
      obtain ⟨h1, h2, h3⟩ := h
      simp only [rc, hk]
      have hlen : ((ob.rows.drop lo).take n).length = n := by simp; omega
      have hget : ∀ (i : Nat) (r s : List V), ((ob.rows.drop lo).take n)[i]? = some r → ob.rows[lo + i]? = some s → r = s := fun i r s a b => by
        have hi : i < n := by rw [← hlen]; exact (List.getElem?_eq_some_iff.1 a).1
        rw [List.getElem?_take_of_lt hi, List.getElem?_drop] at a
        rw [a] at b
        exact Option.some.inj b
      refine .winS hk h1 h2 hlen (fun i r s a b => by rw [hget i r s a b]) fun i j r s x y a b c d => ?_
      have e := hget i r s a b
      subst e
      rw [c] at d
      cases d
      have hm := h3 r (List.mem_of_getElem? b)
      rw [List.all_eq_true] at hm
      exact kfc_wv (hm x (List.mem_of_getElem? c))
  | ptr k sz i off => exact h.elim
  | ip cs => exact .ip
  | fn f cs => exact h.elim
  | mp k => exact h.elim
  | any => exact .any
theorem map_wv {H : Hp} {τ : Nat → Option Nat} {f : V → V} {ok : V → Prop} (hf : ∀ x, ok x → Wv H τ (f x) x) {cs : List V} (h : ∀ x ∈ cs, ok x) : ∀ (i : Nat) (x y : V), (cs.map f)[i]? = some x → cs[i]? = some y → Wv H τ x y := fun i x y a b => by
  rw [List.getElem?_map, b] at a
  cases a
  exact hf y (h y (List.mem_of_getElem? b))
theorem ra_wv {H : Hp} {τ : Nat → Option Nat} {x : V} (h : oka H x) : Wv H τ (ra H x) x := by
  cases x with
  | agg cs => exact .agg (by simp) (map_wv (fun x => rc_wv) h)
  | tup cs => exact h.elim
  | lit v => exact rc_wv (x := .lit v) h
  | sl sz l => exact rc_wv (x := .sl sz l) h
  | sls sz l nn ex => exact rc_wv (x := .sls sz l nn ex) h
  | win k sz lo n cp => exact rc_wv (x := .win k sz lo n cp) h
  | ptr k sz i off => exact h.elim
  | ip cs => exact rc_wv (x := .ip cs) h
  | fn f cs => exact h.elim
  | mp k => exact h.elim
  | any => exact .any
theorem rt_wv {H : Hp} {τ : Nat → Option Nat} {x : V} (h : okt H x) : Wv H τ (rt H x) x := by
  cases x with
  | tup cs => exact .tup (by simp) (map_wv (fun x => ra_wv) h)
  | agg cs => exact ra_wv (x := .agg cs) h
  | lit v => exact ra_wv (x := .lit v) h
  | sl sz l => exact ra_wv (x := .sl sz l) h
  | sls sz l nn ex => exact ra_wv (x := .sls sz l nn ex) h
  | win k sz lo n cp => exact ra_wv (x := .win k sz lo n cp) h
  | ptr k sz i off => exact h.elim
  | ip cs => exact ra_wv (x := .ip cs) h
  | fn f cs => exact h.elim
  | mp k => exact h.elim
  | any => exact .any

theorem fin_pure {T : TT} {fn : Func} {r : V} {st : St} {xs : List V} {e : Exit} (he : e = .normal ∨ e = .ret) (hres : resL T st fn.results.toList = some xs) (hok : okt st.H (pack xs)) (hr : rt st.H (pack xs) = r) : fnPost T fn [] r [] e st :=
  ⟨he, xs, st.H, noK, hres, fun _ _ h => h, hr ▸ rt_wv hok, (fun k o h => by cases h), (fun k k' k0 h => by cases h), (fun k h => absurd rfl h), (fun k h => by simp [keysOf] at h)⟩

/- CALLS -/
section
variable {P : Program} {T : TT} {ov : Operand → V} {o : Oper}

/-- what is called -/
def callOk (P : Program) (kf : FuncId) : Bool := match P.funcs[kf]? with
  | some fn => !(fn.name == "runtime.NumGoroutine") && fn.body.isSome
  | none => false

theorem run_call {f : Operand} {xs : Array Operand} {ts : Array TypeId} {kf : Nat} {caps : List V} {S : Nat → Prop} {ρ : KM} {w : World} {a : Act} (ho : o.op = .call { callee := .value f, args := xs, argTypes := ts }) (hf : ov f = .fn kf caps) (hok : callOk P kf = true)
    (hr : ∀ x ∈ o.op.operands.toList, Rep S ρ w (a.eval x) (ov x)) :
    ∃ vs : Array Value, (execOp a.eval o).run P w = .ok (.enter kf vs) w ∧ vs.size = (xs.toList.map ov ++ caps).length ∧ ∀ (i : Nat) (u : Value) (x : V), vs[i]? = some u → (xs.toList.map ov ++ caps)[i]? = some x → Rep S ρ w u x := by
  rw [ho] at hr
  have e1 := hr f (by simp [Op.operands, Call.operands])
  have e2 : ∀ x ∈ xs.toList, Rep S ρ w (a.eval x) (ov x) := fun x hx => hr x (by simp [Op.operands, Call.operands]; exact .inr (by simpa using hx))
  rw [hf] at e1
  generalize hc : a.eval f = cf at e1
  cases e1 with
  | fn hl hcap =>
    rename_i cvs
    unfold callOk at hok
    cases hfn : P.funcs[kf]? with
    | none => rw [hfn] at hok; cases hok
    | some fn =>
      rw [hfn] at hok
      simp only [Bool.and_eq_true, Bool.not_eq_true', beq_eq_false_iff_ne] at hok
      refine ⟨xs.map a.eval ++ cvs, ?_, by simp [hl], fun i u x h1 h2 => ?_⟩
      · have hn : ¬ (fn.name = "runtime.NumGoroutine") := hok.1
        have hb : fn.body ≠ none := by intro hh; rw [hh] at hok; simp at hok
        simp [execOp, ho, resolve, hc, Deferred.ofValue, invoke, callFunc, hfn, hn]
        exact fun h => absurd h hb
      · by_cases hi : i < xs.size
        · rw [Array.getElem?_append_left (by simpa using hi)] at h1
          rw [List.getElem?_append_left (by simpa using hi)] at h2
          simp only [Array.getElem?_map, List.getElem?_map, Array.getElem?_toList] at h1 h2
          have hx : xs[i]? = some xs[i] := by simp [hi]
          rw [hx] at h1 h2
          cases h1; cases h2
          exact e2 _ (by simp)
        · rw [Array.getElem?_append_right (by simp; omega)] at h1
          rw [List.getElem?_append_right (by simp; omega)] at h2
          simp only [Array.size_map, List.length_map, Array.length_toList] at h1 h2
          exact hcap _ u x h1 h2

/-- what is the same in every memory -/
inductive Cl : V → Prop
  | lit {v} : Cl (.lit v)
  | agg {cs : List V} (h : ∀ x ∈ cs, Cl x) : Cl (.agg cs)
  | tup {cs : List V} (h : ∀ x ∈ cs, Cl x) : Cl (.tup cs)
theorem Cl.rep {x : V} (h : Cl x) {S S' : Nat → Prop} {ρ ρ' : KM} {w w' : World} : ∀ {u : Value}, Rep S ρ w u x → Rep S' ρ' w' u x := by
  induction h with
  | lit => intro u hr; cases hr; exact .lit (by assumption)
  | agg _ ih => intro u hr; cases hr with | agg hl hr => exact .agg hl fun i u x h1 h2 => ih x (List.mem_of_getElem? h2) (hr i u x h1 h2)
  | tup _ ih => intro u hr; cases hr with | tup hl hr => exact .tup hl fun i u x h1 h2 => ih x (List.mem_of_getElem? h2) (hr i u x h1 h2)

theorem pure_args {B : HL} {cargs avs : List V} (hlen : cargs.length = avs.length) (hargs : ∀ (i : Nat) (x y : V), cargs[i]? = some x → avs[i]? = some y → Wv (hpo B) noK x y) {S : Nat → Prop} {ρ : KM} {w : World} {vs : Array Value} (hl : vs.size = avs.length)
    (hr : ∀ (i : Nat) (u : Value) (x : V), vs[i]? = some u → avs[i]? = some x → Rep S ρ w u x) (hs : Sim S ρ w (hpo B)) :
    vs.size = cargs.length ∧ ∀ (i : Nat) (u : Value) (x : V), vs[i]? = some u → cargs[i]? = some x → Rep (SB S ρ (hpo B)) noK w u x := by
  refine ⟨by omega, fun i u x h1 h2 => ?_⟩
  have hi : i < avs.length := by rw [← hlen]; exact (List.getElem?_eq_some_iff.1 h2).1
  exact (hargs i x _ h2 (List.getElem?_eq_getElem hi)).rep hs (fun _ _ h => h) (hr i u _ h1 (List.getElem?_eq_getElem hi))

theorem sb_bnd {S : Nat → Prop} {ρ : KM} {w : World} {H : Hp} (hs : Sim S ρ w H) : ∀ b, SB S ρ H b → b < w.heap.size := fun b h => by
  rcases h with h | ⟨k, o, h1, h2⟩
  · exact hs.bnd b h
  · exact hs.lt h1 h2

/-- a call of a function of values, whose answer is a plain value: what it was lent is as it was -/
theorem lok_callC {f : Operand} {xs : Array Operand} {ts : Array TypeId} {kf : Nat} {caps cargs : List V} {B : HL} {r : V} (ho : o.op = .call { callee := .value f, args := xs, argTypes := ts }) (hf : ov f = .fn kf caps) (hok : callOk P kf = true) (hc : Fn P kf cargs [] r [])
    (hlen : cargs.length = (xs.toList.map ov ++ caps).length) (hargs : ∀ (i : Nat) (x y : V), cargs[i]? = some x → (xs.toList.map ov ++ caps)[i]? = some y → Wv (hpo B) noK x y) (hr : Cl r) : LOk P ov o B [] [] r := by
  intro S ρ w a hx hs hn next Q hK
  have hs := hs.of_pre
  obtain ⟨vs, hrun, h1, h2⟩ := run_call ho hf hok hx
  obtain ⟨g1, g2⟩ := pure_args hlen hargs h1 h2 hs
  simp only [Oper.wp, hrun, Oper.upon]
  refine (hc (SB S ρ (hpo B)) noK w vs g1 g2 (Sim.empty (sb_bnd hs)) (fun k h => by simp [keysOf] at h) (fun _ _ => rfl)).mono fun e w' h => ?_
  obtain ⟨v, S', ρ', rfl, q1, q2, q3⟩ := h
  have hold : ∀ b, b < w.heap.size → w'.heap[b]? = w.heap[b]? := fun b hb => q3.block b hb (fun ⟨k, o, h, _⟩ => by cases h)
  refine hK v S ρ w' (hr.rep q1) (Sim.empty fun b hb => Nat.lt_of_lt_of_le (hs.bnd b hb) q3.size) ?_
  exact { os := q3.os, tape := q3.tape, output := q3.output, size := q3.size, block := fun b hb _ => hold b hb, keeps := q3.keeps, more := fun _ h => h, only := fun _ h => .inl h
          live := fun b ⟨k, o, h, _⟩ => by cases h
          own := fun b ⟨k, o, h, _⟩ => by cases h
          keys := fun _ _ h => h, dom := fun _ _ h => .inl h }

def frozen (B : HL) : HL := B.map fun p => (p.1, { p.2 with frz := true })
theorem frozen_at' {B : HL} {k : Nat} : hpo (frozen B) k = (hpo B k).map fun o => { o with frz := true } := by
  induction B with
  | nil => rfl
  | cons p B ih =>
    obtain ⟨j, o⟩ := p
    simp only [frozen, List.map_cons, hpo, upd] at ih ⊢
    by_cases e : k = j
    · simp [e]
    · simp only [e, if_false]; exact ih

/-- a call of a function of values: what it was lent never changes any more -/
theorem lok_callF {f : Operand} {xs : Array Operand} {ts : Array TypeId} {kf : Nat} {caps cargs : List V} {B : HL} {r : V} (ho : o.op = .call { callee := .value f, args := xs, argTypes := ts }) (hf : ov f = .fn kf caps) (hok : callOk P kf = true) (hc : Fn P kf cargs [] r [])
    (hlen : cargs.length = (xs.toList.map ov ++ caps).length) (hargs : ∀ (i : Nat) (x y : V), cargs[i]? = some x → (xs.toList.map ov ++ caps)[i]? = some y → Wv (hpo B) noK x y) : LOk P ov o [] B (frozen B) r := by
  intro S ρ w a hx hs hn next Q hK
  simp only [List.nil_append] at hs
  obtain ⟨vs, hrun, h1, h2⟩ := run_call ho hf hok hx
  obtain ⟨g1, g2⟩ := pure_args hlen hargs h1 h2 hs
  simp only [Oper.wp, hrun, Oper.upon]
  refine (hc (SB S ρ (hpo B)) noK w vs g1 g2 (Sim.empty (sb_bnd hs)) (fun k h => by simp [keysOf] at h) (fun _ _ => rfl)).mono fun e w' h => ?_
  obtain ⟨v, S', ρ', rfl, q1, q2, q3⟩ := h
  have hold : ∀ b, b < w.heap.size → w'.heap[b]? = w.heap[b]? := fun b hb => q3.block b hb (fun ⟨k, o, h, _⟩ => by cases h)
  have hρ' : ∀ k, ρ' k = none := fun k => by
    cases h : ρ' k with
    | none => rfl
    | some b =>
      rcases q3.dom k b h with h | ⟨o, h⟩
      · cases h
      · cases h
  have hrep : Rep S' ρ w' v r := q1.mono (fun _ h => h) (fun _ _ => rfl) (fun k b h => by rw [hρ' k] at h; cases h) (Keeps.refl w')
  have hup : ∀ {u : Value} {x : V}, Rep S ρ w u x → Rep S' ρ w' u x := fun h => h.mono (fun b h => q3.more b (.inl h)) (fun b hb => hold b (hs.bnd b hb)) (fun _ _ h => h) q3.keeps
  have fz : ∀ k o, hpo (frozen B) k = some o → ∃ o0, hpo B k = some o0 ∧ o = { o0 with frz := true } := fun k o h => by
    rw [frozen_at'] at h
    cases hb : hpo B k with
    | none => rw [hb] at h; cases h
    | some o0 => rw [hb] at h; cases h; exact ⟨o0, rfl, rfl⟩
  refine hK v S' ρ w' hrep ⟨fun k o hk => ?_, fun k k' o o' b a1 a2 a3 a4 => ?_, q2.bnd⟩ ?_
  · obtain ⟨o0, h0, rfl⟩ := fz k o hk
    rcases hs.obj k o0 h0 with ⟨b, c, t, p1, p2, p3, p4, p5⟩ | ⟨p1, p2⟩
    · refine .inl ⟨b, c, t, p1, ?_, p3.mono fun u x h => hup h, fun _ => q3.more b (.inr ⟨k, o0, h0, p1⟩), fun h => by cases h⟩
      exact p2.of (hold b (hs.lt h0 p1))
    · exact .inr ⟨p1, p2⟩
  · obtain ⟨o0, h0, _⟩ := fz k o a1
    obtain ⟨o0', h0', _⟩ := fz k' o' a2
    exact hs.inj k k' o0 o0' b h0 h0' a3 a4
  · exact { os := q3.os, tape := q3.tape, output := q3.output, size := q3.size, block := fun b hb _ => hold b hb, keeps := q3.keeps, more := fun b h => q3.more b (.inl h)
            only := fun b h => by
              rcases q3.only b h with h | h | ⟨k, o, h, _⟩
              · rcases h with h | ⟨k, o, g1, g2⟩
                · exact .inl h
                · have g3 := (hs.frz g1 g2).1
                  cases hf : o.frz with
                  | true => exact .inl (g3 hf)
                  | false => exact .inr (.inr ⟨k, o, g1, hf, g2⟩)
              · exact .inr (.inl h)
              · cases h
            live := fun b ⟨k, o, h, hb⟩ => by
              obtain ⟨o0, h0, _⟩ := fz k o h
              exact .inr ⟨k, o0, h0, hb⟩
            own := fun b ⟨k, o, h, hf, hb⟩ => by
              obtain ⟨o0, h0, rfl⟩ := fz k o h
              cases hf
            keys := fun _ _ h => h, dom := fun _ _ h => .inl h }

end
end Go.Proofs.Ytgaginflocpcfaa
