/-
  Layer 11: media flushed, slots, senses.
-/
import Derived.Test.YtijinkikmglpcaamMl
import Derived.Test.YtijinkikmglpcaamBs
import Derived.Test.YtijinkikmglpcaamSp
namespace Go.Proofs.Ytijinkikmglpcaa
open Go
set_option linter.unusedVariables false
set_option linter.unusedSimpArgs false
set_option maxRecDepth 100000
set_option maxHeartbeats 8000000

/-- all is flushed -/
def sSync (s : Slt) : Slt := if mRight s.med = true then ⟨⟨mdAll s.med, []⟩, s.present, s.prot, s.latch⟩ else s
def sUnload (s : Slt) : Slt × Sns := if s.present = false then (s, sNotReady) else if s.latch = true then (s, sKept) else (⟨(sSync s).med, false, s.prot, s.latch⟩, sOk)
def sKeep (s : Slt) (b : Bool) : Slt × Sns := if s.present = false then (s, sNotReady) else (⟨s.med, s.present, s.prot, b⟩, sOk)
def sReady (s : Slt) : Sns := if s.present = true then sOk else sNotReady
theorem keep_all {q : Nat → Dty → Bool} : ∀ (l : List Dty) (i : Nat), (∀ j d, d ∈ l → q j d = true) → keepF q (fun _ _ => true) i l = []
  | [], i, _ => rfl
  | d :: l, i, h => by
    simp only [keepF]
    rw [if_pos (h i d (List.mem_cons_self))]
    exact keep_all l (i + 1) fun j e he => h j e (List.mem_cons_of_mem _ he)
theorem fl_whole (m : Med) : mFl m 0 0 = if mRight m = true then (⟨mdAll m, []⟩, 0) else (mNil, 1) := by
  unfold mFl
  cases h : mRight m with
  | false => rfl
  | true =>
    rw [if_neg (by decide), if_neg (by omega), if_pos rfl, if_pos rfl]
    have hr := (right_iff m).1 h
    have e : mFlush (q_fl 0 m.blocks.length) m = mFlush q_every m := flush_congr fun j d hd => by
      have := hr.2.2 d hd
      simp only [q_fl, q_every, Bool.and_eq_true, decide_eq_true_eq]
      omega
    rw [e]
    unfold mdAll
    rw [if_pos h]
    refine congrArg (fun x => ((⟨_, x⟩ : Med), (0 : Int))) ?_
    exact keep_all m.dirty 0 fun j d _ => rfl
theorem c_ssync (s : Slt) : FnC Try.prog 61 [s.v] [] (sSync s).v [] := by
  have hF := c_cflush s.med 0 0 ⟨by decide⟩
  rw [fl_whole] at hF
  have f1 : mRight s.med = true → sSync s = ⟨⟨mdAll s.med, []⟩, s.present, s.prot, s.latch⟩ := fun h => by unfold sSync; rw [if_pos h]
  have f0 : mRight s.med = false → sSync s = s := fun h => by unfold sSync; rw [if_neg (by rw [h]; decide)]
  generalize mdAll s.med = a at *
  generalize sSync s = r at *
  generalize hg : mRight s.med = g at *
  obtain ⟨⟨bs, ds⟩, pr, pt, la⟩ := s
  dsimp only [Slt.v, Med.v] at *
  cases g
  · rw [if_neg (by decide)] at hF
    rw [f0 rfl]
    dsimp only [mNil] at hF
    refine fn_vcI (N := 15) (d := 4) tabOk mixed inlSl_ok 6 Try.func61 rfl rfl rfl ?_
    repeat'
      (conv => whnf
       first
        | (exact trivial)
        | (refine And.intro (by with_reducible rfl) ?_)
        | (refine And.intro (drawI (by kernel_rfl)) ?_)
        | (refine andI ?_ ?_)
        | (refine condT (by assumption) ?_)
        | (refine condF (by assumption) ?_)
        | (refine decT (by assumption) ?_)
        | (refine decF (by assumption) ?_)
        | (refine eqT (by assumption) ?_)
        | (refine eqF (by assumption) ?_)
        | (refine neT (by assumption) ?_)
        | (refine neF (by assumption) ?_)
        | (refine cEq (fun h => ?_) (fun h => ?_))
        | (refine cNe (fun h => ?_) (fun h => ?_))
        | (refine cNot (fun h => ?_) (fun h => ?_))
        | (refine cDec (fun h => ?_) (fun h => ?_))
        | (refine condN_split (fun h => ?_) (fun h => ?_))
        | (refine Exists.intro _ (And.intro (hF) ?_))
        | (refine Exists.intro _ (And.intro rfl ?_))
        | (refine Or.inl (And.intro (by rfl : Nat.ble _ _ = true) ?_))
        | (refine Or.inl (And.intro Cl.lit ?_))
        | (refine Or.inr ?_)
        | (refine Exists.intro (1 : Nat) ?_)
        | (refine Exists.intro _ (And.intro rfl ?_))
        | (fail))
    all_goals try refine Side.mk ?_
    all_goals try dsimp only at *
    all_goals try refine eqI ?_
    all_goals rfl
  · rw [if_pos rfl] at hF
    rw [f1 rfl]
    dsimp only at hF
    refine fn_vcI (N := 15) (d := 4) tabOk mixed inlSl_ok 6 Try.func61 rfl rfl rfl ?_
    repeat'
      (conv => whnf
       first
        | (exact trivial)
        | (refine And.intro (by with_reducible rfl) ?_)
        | (refine And.intro (drawI (by kernel_rfl)) ?_)
        | (refine andI ?_ ?_)
        | (refine condT (by assumption) ?_)
        | (refine condF (by assumption) ?_)
        | (refine decT (by assumption) ?_)
        | (refine decF (by assumption) ?_)
        | (refine eqT (by assumption) ?_)
        | (refine eqF (by assumption) ?_)
        | (refine neT (by assumption) ?_)
        | (refine neF (by assumption) ?_)
        | (refine cEq (fun h => ?_) (fun h => ?_))
        | (refine cNe (fun h => ?_) (fun h => ?_))
        | (refine cNot (fun h => ?_) (fun h => ?_))
        | (refine cDec (fun h => ?_) (fun h => ?_))
        | (refine condN_split (fun h => ?_) (fun h => ?_))
        | (refine Exists.intro _ (And.intro (hF) ?_))
        | (refine Exists.intro _ (And.intro rfl ?_))
        | (refine Or.inl (And.intro (by rfl : Nat.ble _ _ = true) ?_))
        | (refine Or.inl (And.intro Cl.lit ?_))
        | (refine Or.inr ?_)
        | (refine Exists.intro (1 : Nat) ?_)
        | (refine Exists.intro _ (And.intro rfl ?_))
        | (fail))
    all_goals try refine Side.mk ?_
    all_goals try dsimp only at *
    all_goals try refine eqI ?_
    all_goals rfl
def sSwitch (s : Slt) (on : Bool) : Slt := if on = true ∧ s.prot = false then ⟨(sSync s).med, s.present, on, s.latch⟩ else ⟨s.med, s.present, on, s.latch⟩
/-- where a sense is among some -/
theorem ix_ne {α : Type} {p : α → Bool} : ∀ (l : List α) (i : Nat), -1 ≤ ixN p i l ∧ ixN p i l < i + l.length ∨ l = []
  | [], i => .inr rfl
  | a :: l, i => by
    left
    simp only [ixN]
    split
    · simp; omega
    · rcases ix_ne (p := p) l (i + 1) with h | h
      · simp; omega
      · subst h; simp [ixN]; omega
theorem c_indexS (l : List Sns) (s : Sns) (hl : Side (l.length ≤ 2 ^ 40)) : FnC Try.prog 95 [.sl 3 (l.map Sns.row), s.v] [] (i64 (ixN (fun x => decide (s = x)) 0 l)) [] := by
  have hl := hl.h
  refine fn_vcI (N := 19) (d := 5) tabOk mixed inlN0_ok 6 Try.func95 rfl rfl rfl ?_
  repeat'
    (conv => whnf
     first
      | (exact trivial)
      | (refine And.intro (by with_reducible rfl) ?_)
      | (refine And.intro (drawI (by kernel_rfl)) ?_)
      | (refine andI ?_ ?_)
      | (refine condT (by assumption) ?_)
      | (refine condF (by assumption) ?_)
      | (refine decT (by assumption) ?_)
      | (refine decF (by assumption) ?_)
      | (refine eqT (by assumption) ?_)
      | (refine eqF (by assumption) ?_)
      | (refine neT (by assumption) ?_)
      | (refine neF (by assumption) ?_)
      | (refine cEq (fun h => ?_) (fun h => ?_))
      | (refine cNe (fun h => ?_) (fun h => ?_))
      | (refine cNot (fun h => ?_) (fun h => ?_))
      | (refine cDec (fun h => ?_) (fun h => ?_))
      | (refine condN_split (fun h => ?_) (fun h => ?_))
      | (refine Exists.intro _ (And.intro rfl ?_))
      | (refine Or.inl (And.intro (by rfl : Nat.ble _ _ = true) ?_))
      | (refine Or.inl (And.intro Cl.lit ?_))
      | (refine Or.inr ?_)
      | (refine Exists.intro (1 : Nat) ?_)
      | (refine Exists.intro _ (And.intro rfl ?_))
      | (fail))
  all_goals try refine Side.mk ?_
  all_goals try dsimp only at *
  all_goals try refine eqI ?_
  conv => whnf
  refine loop_w tabOk (ceN_sound tabOk mixed inlN0_ok 6) mixed 9 (X := Nat) 0 (fun k => [(8, i64 (k : Nat))]) (fun k => [(0, false, ⟨3, [s.row], false⟩)]) 1 (fun k => k ≤ l.length ∧ ∀ j e, j < k → l[j]? = some e → decide (s = e) = false) (fun k => l.length - k) ⟨Nat.zero_le _, fun j e h => by omega⟩ ?_ ?_
  · repeat'
      (conv => whnf
       first
        | (exact trivial)
        | (refine And.intro (by with_reducible rfl) ?_)
        | (refine And.intro (drawI (by kernel_rfl)) ?_)
        | (refine andI ?_ ?_)
        | (refine condT (by assumption) ?_)
        | (refine condF (by assumption) ?_)
        | (refine decT (by assumption) ?_)
        | (refine decF (by assumption) ?_)
        | (refine eqT (by assumption) ?_)
        | (refine eqF (by assumption) ?_)
        | (refine neT (by assumption) ?_)
        | (refine neF (by assumption) ?_)
        | (refine cEq (fun h => ?_) (fun h => ?_))
        | (refine cNe (fun h => ?_) (fun h => ?_))
        | (refine cNot (fun h => ?_) (fun h => ?_))
        | (refine cDec (fun h => ?_) (fun h => ?_))
        | (refine condN_split (fun h => ?_) (fun h => ?_))
        | (refine Or.inl (And.intro (by rfl : Nat.ble _ _ = true) ?_))
        | (refine Or.inl (And.intro Cl.lit ?_))
        | (refine Or.inr ?_)
        | (refine Exists.intro (1 : Nat) ?_)
        | (refine Exists.intro _ (And.intro rfl ?_))
        | (fail))
    all_goals try refine Side.mk ?_
    all_goals try dsimp only at *
    all_goals try refine eqI ?_
    all_goals rfl
  · rintro k ⟨hk, hn⟩
    by_cases hkl : k < l.length
    · obtain ⟨d, hd⟩ : ∃ d, l[k]? = some d := ⟨_, List.getElem?_eq_getElem hkl⟩
      have key : ∀ q, eqS s d = q → decide (s = d) = q := fun q hq => by rw [← eqS_eq]; exact hq
      repeat'
        (conv => whnf
         first
          | (exact trivial)
          | (refine And.intro (by with_reducible rfl) ?_)
          | (refine And.intro (drawI (by kernel_rfl)) ?_)
          | (refine andI ?_ ?_)
          | (refine condT (by assumption) ?_)
          | (refine condF (by assumption) ?_)
          | (refine decT (by assumption) ?_)
          | (refine decF (by assumption) ?_)
          | (refine eqT (by assumption) ?_)
          | (refine eqF (by assumption) ?_)
          | (refine neT (by assumption) ?_)
          | (refine neF (by assumption) ?_)
          | (refine cEq (fun h => ?_) (fun h => ?_))
          | (refine cNe (fun h => ?_) (fun h => ?_))
          | (refine cNot (fun h => ?_) (fun h => ?_))
          | (refine cDec (fun h => ?_) (fun h => ?_))
          | (refine condN_split (fun h => ?_) (fun h => ?_))
          | (refine Exists.intro _ (And.intro (row_get hd) ?_))
          | (refine Exists.intro _ (And.intro eq_sns ?_))
          | (refine Exists.intro (k + 1) (andI ?_ (andI ?_ ?_)))
          | (refine Or.inl (And.intro (by rfl : Nat.ble _ _ = true) ?_))
          | (refine Or.inl (And.intro Cl.lit ?_))
          | (refine Or.inr ?_)
          | (refine Exists.intro (1 : Nat) ?_)
          | (refine Exists.intro _ (And.intro rfl ?_))
          | (fail))
      all_goals try refine Side.mk ?_
      all_goals try dsimp only at *
      all_goals try refine eqI ?_
      all_goals try simp only [List.length_map, Int.toNat_natCast] at *
      all_goals first
        | omega
        | (refine congrArg (Value.int IntKind.i64) ?_; rw [wrap64 (by omega) (by omega)]; omega)
        | (refine congrArg (fun n => V.lit (Value.int IntKind.i64 n)) ?_
           rw [ix_yes l 0 k d hd (key true (by assumption)) (fun j e hj he => hn j e hj he), Nat.zero_add])
        | (have hq := key false (by assumption)
           refine ⟨by omega, fun j e hj he => ?_⟩
           rcases Nat.lt_or_ge j k with q | q
           · exact hn j e q he
           · obtain rfl : j = k := by omega
             rw [hd] at he
             cases he
             exact hq)
        | (set_option pp.maxSteps 400 in trace_state; sorry)
    · repeat'
        (conv => whnf
         first
          | (exact trivial)
          | (refine And.intro (by with_reducible rfl) ?_)
          | (refine And.intro (drawI (by kernel_rfl)) ?_)
          | (refine andI ?_ ?_)
          | (refine condT (by assumption) ?_)
          | (refine condF (by assumption) ?_)
          | (refine decT (by assumption) ?_)
          | (refine decF (by assumption) ?_)
          | (refine eqT (by assumption) ?_)
          | (refine eqF (by assumption) ?_)
          | (refine neT (by assumption) ?_)
          | (refine neF (by assumption) ?_)
          | (refine cEq (fun h => ?_) (fun h => ?_))
          | (refine cNe (fun h => ?_) (fun h => ?_))
          | (refine cNot (fun h => ?_) (fun h => ?_))
          | (refine cDec (fun h => ?_) (fun h => ?_))
          | (refine condN_split (fun h => ?_) (fun h => ?_))
          | (refine Or.inl (And.intro (by rfl : Nat.ble _ _ = true) ?_))
          | (refine Or.inl (And.intro Cl.lit ?_))
          | (refine Or.inr ?_)
          | (refine Exists.intro (1 : Nat) ?_)
          | (refine Exists.intro _ (And.intro rfl ?_))
          | (fail))
      all_goals try refine Side.mk ?_
      all_goals try dsimp only at *
      all_goals try refine eqI ?_
      all_goals try simp only [List.length_map, Int.toNat_natCast] at *
      all_goals first
        | omega
        | (refine congrArg (fun n => V.lit (Value.int IntKind.i64 n)) ?_
           rw [ix_no l 0 (fun e he => by
             obtain ⟨j, hj, rfl⟩ := List.getElem_of_mem he
             exact hn j _ (by omega) (List.getElem?_eq_getElem hj))])
        | (set_option pp.maxSteps 400 in trace_state; sorry)
def sHas (l : List Sns) (s : Sns) : Bool := l.any fun x => decide (s = x)
def sPow : Sns := ⟨6, 0x29, 0⟩
/-- an attention more -/
def sAdd (l : List Sns) (s : Sns) : List Sns := if sHas l s = true then l else if s = sPow then [s] else if 4 ≤ l.length then l else l ++ [s]
theorem sAdd_len (l : List Sns) (s : Sns) : (sAdd l s).length ≤ l.length + 1 := by
  unfold sAdd
  (repeat' split) <;> simp
noncomputable def inlSa : List IRow := [(80, Try.f80, 2, 2, 0), (96, Try.f96, 5, 3, 0), (81, Try.f81, 9, 4, 0), (79, Try.f79, 9, 4, 0), (21, Try.f21, 11, 4, 0)]
theorem inlSa_ok : IOk Try.prog (inlTab inlSa) := inl_ok (by
  unfold inlSa
  refine And.intro ⟨rfl, rfl, rfl, .inl rfl⟩ ?_
  refine And.intro ⟨rfl, rfl, rfl, .inl rfl⟩ ?_
  refine And.intro ⟨rfl, rfl, rfl, .inl rfl⟩ ?_
  refine And.intro ⟨rfl, rfl, rfl, .inl rfl⟩ ?_
  refine And.intro ⟨rfl, rfl, rfl, .inl rfl⟩ ?_
  exact trivial)
theorem c_sadd (l : List Sns) (s : Sns) (hl : Side (l.length ≤ 2 ^ 40)) : FnC Try.prog 58 [.sl 3 (l.map Sns.row), s.v] [] (.sl 3 ((sAdd l s).map Sns.row)) [] := by
  have hI := c_indexS l s hl
  have hl := hl.h
  have h0 : 0 ≤ ixN (fun x => decide (s = x)) 0 l ↔ sHas l s = true := ix_any0 l 0
  have key : ∀ q, eqS s sPow = q → decide (s = sPow) = q := fun q hq => by rw [← eqS_eq]; exact hq
  have f1 : sHas l s = true → sAdd l s = l := fun h => by unfold sAdd; rw [if_pos h]
  have f2 : sHas l s = false → s = sPow → sAdd l s = [s] := fun h h2 => by unfold sAdd; rw [if_neg (by rw [h]; decide), if_pos h2]
  have f3 : sHas l s = false → s ≠ sPow → 4 ≤ l.length → sAdd l s = l := fun h h2 h3 => by unfold sAdd; rw [if_neg (by rw [h]; decide), if_neg h2, if_pos h3]
  have f4 : sHas l s = false → s ≠ sPow → ¬ 4 ≤ l.length → sAdd l s = l ++ [s] := fun h h2 h3 => by unfold sAdd; rw [if_neg (by rw [h]; decide), if_neg h2, if_neg h3]
  generalize sAdd l s = r at *
  generalize sHas l s = g at *
  generalize ixN (fun x => decide (s = x)) 0 l = ix at *
  obtain ⟨a, b, c⟩ := s
  dsimp only [Sns.v] at *
  refine fn_vcI (N := 26) (d := 5) tabOk mixed inlSa_ok 6 Try.func58 rfl rfl rfl ?_
  repeat'
    (conv => whnf
     first
      | (exact trivial)
      | (refine And.intro (by with_reducible rfl) ?_)
      | (refine And.intro (drawI (by kernel_rfl)) ?_)
      | (refine andI ?_ ?_)
      | (refine condT (by assumption) ?_)
      | (refine condF (by assumption) ?_)
      | (refine decT (by assumption) ?_)
      | (refine decF (by assumption) ?_)
      | (refine eqT (by assumption) ?_)
      | (refine eqF (by assumption) ?_)
      | (refine neT (by assumption) ?_)
      | (refine neF (by assumption) ?_)
      | (refine cEq (fun h => ?_) (fun h => ?_))
      | (refine cNe (fun h => ?_) (fun h => ?_))
      | (refine cNot (fun h => ?_) (fun h => ?_))
      | (refine cDec (fun h => ?_) (fun h => ?_))
      | (refine condN_split (fun h => ?_) (fun h => ?_))
      | (refine Exists.intro _ (And.intro (hI) ?_))
      | (refine Exists.intro _ (And.intro eq_sns ?_))
      | (refine Exists.intro _ (And.intro rfl ?_))
      | (refine Or.inl (And.intro (by rfl : Nat.ble _ _ = true) ?_))
      | (refine Or.inl (And.intro Cl.lit ?_))
      | (refine Or.inr ?_)
      | (refine Exists.intro (1 : Nat) ?_)
      | (refine Exists.intro _ (And.intro rfl ?_))
      | (fail))
  all_goals try refine Side.mk ?_
  all_goals try dsimp only at *
  all_goals try refine eqI ?_
  all_goals try simp only [List.length_map] at *
  all_goals try simp (disch := (first | omega | (simp only [List.length_map, List.length_take, List.length_append, List.length_drop, List.length_cons, List.length_nil, List.length_replicate, List.length_set, len_b, len_bls, Int.toNat_natCast, Nat.zero_add]; omega))) only [List.take_of_length_le, List.drop_zero, List.nil_append, List.append_nil, Nat.zero_add, Int.toNat_natCast]
  all_goals first
    | rfl
    | assumption
    | omega
    | exact Nat.le_refl _
    | exact Nat.le_of_ble_eq_true rfl
    | (refine or_all ?_; rfl)
    | (refine rp_all ?_; rfl)
    | (refine rn_plain (rp_all ?_); rfl)
    | (rw [f1 (h0.1 (by assumption))])
    | ((have hg : g = false := by rw [← Bool.not_eq_true]; exact fun z => (by have := h0.2 z; contradiction)); have hq := of_decide_eq_true (key true (by assumption)); rw [f2 hg hq]; first | done | rfl)
    | ((have hg : g = false := by rw [← Bool.not_eq_true]; exact fun z => (by have := h0.2 z; contradiction)); have hq := of_decide_eq_false (key false (by assumption)); first | (rw [f3 hg hq (by omega)]; first | done | rfl) | (rw [f4 hg hq (by omega), List.map_append]; first | done | rfl))
    | ((first | rw [rp_b] | rw [or_b] | rw [rp_bls] | rw [or_bls] | rw [rp_Blk] | rw [or_Blk] | rw [rp_Dty] | rw [or_Dty] | rw [rp_Sns] | rw [or_Sns]); trivial)
    | (refine rn_plain ?_; (first | rw [rp_b] | rw [rp_bls] | rw [rp_Blk] | rw [rp_Dty] | rw [rp_Sns]); trivial)
    | (rw [rp_app]; refine ⟨?_, ?_⟩ <;> first | (refine rp_all ?_; rfl) | ((first | rw [rp_b] | rw [rp_bls] | rw [rp_Blk] | rw [rp_Dty] | rw [rp_Sns]); trivial))
    | (intro h; cases h; done)
    | (simp only [List.length_map, List.length_take, List.length_append, List.length_drop, List.length_cons, List.length_nil, List.length_replicate, List.length_set, len_b, len_bls, Int.toNat_natCast, Nat.zero_add]; omega)
    | (refine congrArg (Value.int IntKind.i64) ?_; rw [wrap64 (by omega) (by omega)]; omega)
    | (set_option pp.maxSteps 600 in trace_state; sorry)
end Go.Proofs.Ytijinkikmglpcaa
