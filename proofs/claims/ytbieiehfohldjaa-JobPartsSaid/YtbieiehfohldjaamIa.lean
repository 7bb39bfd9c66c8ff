/-
  Layer 11: media flushed, slots, senses.
-/
import Derived.Test.YtbieiehfohldjaamMl
import Derived.Test.YtbieiehfohldjaamBs
import Derived.Test.YtbieiehfohldjaamSp
namespace Go.Proofs.Ytbieiehfohldjaa
open Go
set_option linter.unusedVariables false
set_option linter.unusedSimpArgs false
set_option maxRecDepth 100000
set_option maxHeartbeats 8000000

/-- all is flushed -/
def sSync (s : Slt) : Slt := if mRight s.med = true then ⟨⟨mdAll s.med, []⟩, s.present, s.prot, s.latch⟩ else s
def sUnload (s : Slt) : Slt × Sns := if s.present = false then (s, sNotReady) else if s.latch = true then (s, sKept) else (⟨(sSync s).med, false, s.prot, s.latch⟩, sOk)
def sKeep (s : Slt) (b : Bool) : Slt × Sns := if s.present = false then (s, sNotReady) else (⟨s.med, s.present, s.prot, b⟩, sOk)
def sReady (s : Slt) : Sns := if s.present = true then sOk else sNotReady
theorem keep_all {q : Nat → Dty → Bool} : ∀ (l : List Dty) (i : Nat), (∀ j d, d ∈ l → q j d = true) → keepF q (fun _ _ => true) i l = []
  | [], i, _ => rfl
  | d :: l, i, h => by
    simp only [keepF]
    rw [if_pos (h i d (List.mem_cons_self))]
    exact keep_all l (i + 1) fun j e he => h j e (List.mem_cons_of_mem _ he)
theorem fl_whole (m : Med) : mFl m 0 0 = if mRight m = true then (⟨mdAll m, []⟩, 0) else (mNil, 1) := by
  unfold mFl
  cases h : mRight m with
  | false => rfl
  | true =>
    rw [if_neg (by decide), if_neg (by omega), if_pos rfl, if_pos rfl]
    have hr := (right_iff m).1 h
    have e : mFlush (q_fl 0 m.blocks.length) m = mFlush q_every m := flush_congr fun j d hd => by
      have := hr.2.2 d hd
      simp only [q_fl, q_every, Bool.and_eq_true, decide_eq_true_eq]
      omega
    rw [e]
    unfold mdAll
    rw [if_pos h]
    refine congrArg (fun x => ((⟨_, x⟩ : Med), (0 : Int))) ?_
    exact keep_all m.dirty 0 fun j d _ => rfl
theorem c_refSsync (s : Slt) : FnC Try.prog 43 [s.v] [] (sSync s).v [] := by
  have hR := c_refRight s.med
  have hA := c_refAll s.med
  have f1 : mRight s.med = true → sSync s = ⟨⟨mdAll s.med, []⟩, s.present, s.prot, s.latch⟩ := fun h => by unfold sSync; rw [if_pos h]
  have f0 : mRight s.med = false → sSync s = s := fun h => by unfold sSync; rw [if_neg (by rw [h]; decide)]
  generalize mdAll s.med = a at *
  generalize sSync s = r at *
  generalize mRight s.med = g at *
  obtain ⟨⟨bs, ds⟩, pr, pt, la⟩ := s
  dsimp only [Slt.v, Med.v] at *
  refine fn_vcI (N := 12) (d := 4) tabOk mixed inlSl_ok 6 Try.func43 rfl rfl rfl ?_
  repeat'
    (conv => whnf
     first
      | (exact trivial)
      | (refine And.intro (by with_reducible rfl) ?_)
      | (refine And.intro (drawI (by kernel_rfl)) ?_)
      | (refine andI ?_ ?_)
      | (refine condT (by assumption) ?_)
      | (refine condF (by assumption) ?_)
      | (refine decT (by assumption) ?_)
      | (refine decF (by assumption) ?_)
      | (refine eqT (by assumption) ?_)
      | (refine eqF (by assumption) ?_)
      | (refine neT (by assumption) ?_)
      | (refine neF (by assumption) ?_)
      | (refine cEq (fun h => ?_) (fun h => ?_))
      | (refine cNe (fun h => ?_) (fun h => ?_))
      | (refine cNot (fun h => ?_) (fun h => ?_))
      | (refine cDec (fun h => ?_) (fun h => ?_))
      | (refine condN_split (fun h => ?_) (fun h => ?_))
      | (refine Exists.intro _ (And.intro (hR) ?_))
      | (refine Exists.intro _ (And.intro (hA) ?_))
      | (refine Exists.intro _ (And.intro rfl ?_))
      | (refine Or.inl (And.intro (by rfl : Nat.ble _ _ = true) ?_))
      | (refine Or.inl (And.intro Cl.lit ?_))
      | (refine Or.inr ?_)
      | (refine Exists.intro (1 : Nat) ?_)
      | (refine Exists.intro _ (And.intro rfl ?_))
      | (fail))
  all_goals try refine Side.mk ?_
  all_goals try dsimp only at *
  all_goals try refine eqI ?_
  all_goals first
    | (rw [f1 (by assumption)]; first | done | rfl)
    | (rw [f0 (by assumption)]; first | done | rfl)
def sSwitch (s : Slt) (on : Bool) : Slt := if on = true ∧ s.prot = false then ⟨(sSync s).med, s.present, on, s.latch⟩ else ⟨s.med, s.present, on, s.latch⟩
theorem c_refSswitch (s : Slt) (on : Bool) : FnC Try.prog 24 [s.v, bV on] [] (sSwitch s on).v [] := by
  have hS := c_refSsync s
  unfold sSwitch
  have e1 : (sSync s).present = s.present ∧ (sSync s).prot = s.prot ∧ (sSync s).latch = s.latch := by unfold sSync; split <;> exact ⟨rfl, rfl, rfl⟩
  generalize sSync s = r at *
  obtain ⟨⟨bs, ds⟩, pr, pt, la⟩ := s
  obtain ⟨⟨bs2, ds2⟩, pr2, pt2, la2⟩ := r
  obtain ⟨q1, q2, q3⟩ := e1
  dsimp only [Slt.v, Med.v] at *
  subst q1 q2 q3
  cases on <;> cases pt2
  all_goals refine fn_vcI (N := 16) (d := 5) tabOk mixed inlSl_ok 6 Try.func24 rfl rfl rfl ?_
  repeat'
    (conv => whnf
     first
      | (exact trivial)
      | (refine And.intro (by with_reducible rfl) ?_)
      | (refine And.intro (drawI (by kernel_rfl)) ?_)
      | (refine andI ?_ ?_)
      | (refine condT (by assumption) ?_)
      | (refine condF (by assumption) ?_)
      | (refine decT (by assumption) ?_)
      | (refine decF (by assumption) ?_)
      | (refine eqT (by assumption) ?_)
      | (refine eqF (by assumption) ?_)
      | (refine neT (by assumption) ?_)
      | (refine neF (by assumption) ?_)
      | (refine cEq (fun h => ?_) (fun h => ?_))
      | (refine cNe (fun h => ?_) (fun h => ?_))
      | (refine cNot (fun h => ?_) (fun h => ?_))
      | (refine cDec (fun h => ?_) (fun h => ?_))
      | (refine condN_split (fun h => ?_) (fun h => ?_))
      | (refine Exists.intro _ (And.intro (hS) ?_))
      | (refine Exists.intro _ (And.intro rfl ?_))
      | (refine Or.inl (And.intro (by rfl : Nat.ble _ _ = true) ?_))
      | (refine Or.inl (And.intro Cl.lit ?_))
      | (refine Or.inr ?_)
      | (refine Exists.intro (1 : Nat) ?_)
      | (refine Exists.intro _ (And.intro rfl ?_))
      | (fail))
  all_goals try refine Side.mk ?_
  all_goals try dsimp only at *
  all_goals try refine eqI ?_
  all_goals rfl
/-- where a sense is among some -/
theorem ix_ne {α : Type} {p : α → Bool} : ∀ (l : List α) (i : Nat), -1 ≤ ixN p i l ∧ ixN p i l < i + l.length ∨ l = []
  | [], i => .inr rfl
  | a :: l, i => by
    left
    simp only [ixN]
    split
    · simp; omega
    · rcases ix_ne (p := p) l (i + 1) with h | h
      · simp; omega
      · subst h; simp [ixN]; omega
def sHas (l : List Sns) (s : Sns) : Bool := l.any fun x => decide (s = x)
def sPow : Sns := ⟨6, 0x29, 0⟩
/-- an attention more -/
def sAdd (l : List Sns) (s : Sns) : List Sns := if sHas l s = true then l else if s = sPow then [s] else if 4 ≤ l.length then l else l ++ [s]
theorem sAdd_len (l : List Sns) (s : Sns) : (sAdd l s).length ≤ l.length + 1 := by
  unfold sAdd
  (repeat' split) <;> simp
noncomputable def inlSa : List IRow := [(25, Try.f25, 11, 4, 0)]
theorem inlSa_ok : IOk Try.prog (inlTab inlSa) := inl_ok (by
  unfold inlSa
  refine And.intro ⟨rfl, rfl, rfl, .inl rfl⟩ ?_
  exact trivial)
end Go.Proofs.Ytbieiehfohldjaa
