/-
  Control transfers (layer 17): a host that takes packets by their toggles.
-/
import Derived.Test.YtjgconnmejkcfaaC17
namespace Go.Proofs.Ytjgconnmejkcfaa
open Go
set_option linter.unusedVariables false
set_option linter.unusedSimpArgs false
set_option maxRecDepth 100000
set_option maxHeartbeats 2000000

structure LTry where
  got : Bool
  back : Bool
def LTry.row (x : LTry) : List V := [bV x.got, bV x.back]
def LTry.v (x : LTry) : V := .agg [bV x.got, bV x.back]
def LTry.wf (x : LTry) : Prop := True
def LTry.dflt : LTry := ⟨false, false⟩
theorem rp_LTry (l : List LTry) : rowsPlain (l.map LTry.row) = True := rp_map (fun x => rfl) l
theorem or_LTry (l : List LTry) : oneRows (l.map LTry.row) = True := or_map (fun x => rfl) l
structure HS where
  i : Nat
  c : Ctl
  had : BS
  tg : Int
  ov : Bool
def Rq (n : Int) : Req := ⟨128, 6, 0, 0, n⟩
def stepH (n : Int) (x : HS) (got back : Bool) : HS :=
  if got = true ∧ x.c.tog = x.tg then ⟨x.i + 1, if back = true then cNext x.c else x.c, x.had ++ x.c.data.take 64, 1 - x.tg, decide ((x.c.data.take 64).length < 64) || decide (n ≤ ((x.had ++ x.c.data.take 64).length : Int))⟩
  else ⟨x.i + 1, if got = true ∧ back = true then cNext x.c else x.c, x.had, x.tg, false⟩
def RInv (W : BS) (n : Int) (x : HS) : Prop := x.c.req = Rq n ∧ (x.tg = 0 ∨ x.tg = 1) ∧ if x.ov = true then x.c.ok = true ∧ (x.c.st = 1 ∨ x.c.st = 3) ∧ x.had = W
  else x.c.st = 1 ∧ x.c.wait = (decide ((W.length : Int) < n) && decide (W.length % 64 = 0)) ∧ (x.c.tog = 0 ∨ x.c.tog = 1) ∧ ∃ p, p % 64 = 0 ∧ p ≤ W.length ∧ x.c.data = W.drop p ∧
    ((x.tg = x.c.tog ∧ x.had = W.take p) ∨ (x.tg = 1 - x.c.tog ∧ x.had = W.take (p + 64) ∧ p + 64 ≤ W.length ∧ (p : Int) + 64 < n))

theorem take_drop_app (W : BS) (p : Nat) : W.take p ++ (W.drop p).take 64 = W.take (p + 64) := by rw [List.take_add]
theorem stepH_inv {W : BS} {n : Int} (hn : (W.length : Int) ≤ n) {x : HS} (h : RInv W n x) (ho : x.ov = false) (got back : Bool) : RInv W n (stepH n x got back) := by
  obtain ⟨i, ⟨st, req, data, tog, wait⟩, had, tg, ov⟩ := x
  simp only at ho
  subst ho
  obtain ⟨h1, h2, h3⟩ := h
  simp only [Bool.false_eq_true, if_false] at h3
  obtain ⟨h3, h4, h5, p, p1, p2, h6, h7⟩ := h3
  simp only at h1 h2 h3 h4 h5 h6 h7
  subst h1; subst h3; subst h6
  have hlen : (W.drop p).length = W.length - p := by simp
  have nx : (64 < W.length - p ∨ (wait = true ∧ 0 < W.length - p)) → cNext ⟨1, Rq n, W.drop p, tog, wait⟩ = ⟨1, Rq n, W.drop (p + 64), 1 - tog, wait⟩ := fun h => by
    simp only [cNext, hlen]
    rw [if_pos h]
    simp [List.drop_drop, Nat.add_comm]
  have nx' : ¬ (64 < W.length - p ∨ (wait = true ∧ 0 < W.length - p)) → cNext ⟨1, Rq n, W.drop p, tog, wait⟩ = cAt 3 (Rq n) := fun h => by
    simp only [cNext, hlen]
    rw [if_neg h]
  have hw : wait = true ↔ (W.length : Int) < n ∧ W.length % 64 = 0 := by rw [h4]; simp
  have okD : ∀ t, (t = 0 ∨ t = 1) → ∀ l, (Ctl.mk 1 (Rq n) l t wait).ok = true := fun t ht l => by rw [Ctl.ok_iff]; simp; exact ht
  have ok3 : (cAt 3 (Rq n)).ok = true := by rw [Ctl.ok_iff]; simp [cAt]
  have tt : 1 - tog = 0 ∨ 1 - tog = 1 := by omega
  rcases h7 with ⟨rfl, rfl⟩ | ⟨rfl, rfl, q1, q2⟩
  · -- in step
    cases got with
    | false => exact ⟨rfl, h2, rfl, h4, h5, p, p1, p2, rfl, .inl ⟨rfl, rfl⟩⟩
    | true =>
      simp only [stepH, and_self, if_true, take_drop_app]
      have hl : (W.take (p + 64)).length = min (p + 64) W.length := by simp
      have hl2 : ((W.drop p).take 64).length = min 64 (W.length - p) := by simp
      by_cases hov : (W.length - p < 64 ∨ n ≤ ((p + 64 : Nat) : Int) ∧ 64 ≤ W.length - p)
      · have e : (decide (((W.drop p).take 64).length < 64) || decide (n ≤ ((W.take (p + 64)).length : Int))) = true := by
          rw [hl, hl2]; simp; omega
        rw [e]
        refine ⟨?_, tt, ?_⟩
        · cases back with
          | false => rfl
          | true =>
            simp only [if_true]
            by_cases hc : (64 < W.length - p ∨ (wait = true ∧ 0 < W.length - p))
            · rw [nx hc]
            · rw [nx' hc]; rfl
        · have hW : W.take (p + 64) = W := List.take_of_length_le (by omega)
          simp only [if_true]
          refine ⟨?_, ?_, hW⟩
          · cases back with
            | false => exact okD tg h5 _
            | true =>
              simp only [if_true]
              by_cases hc : (64 < W.length - p ∨ (wait = true ∧ 0 < W.length - p))
              · rw [nx hc]; exact okD _ tt _
              · rw [nx' hc]; exact ok3
          · cases back with
            | false => exact .inl rfl
            | true =>
              simp only [if_true]
              by_cases hc : (64 < W.length - p ∨ (wait = true ∧ 0 < W.length - p))
              · rw [nx hc]; exact .inl rfl
              · rw [nx' hc]; exact .inr rfl
      · have e : (decide (((W.drop p).take 64).length < 64) || decide (n ≤ ((W.take (p + 64)).length : Int))) = false := by
          rw [hl, hl2]; simp; omega
        rw [e]
        refine ⟨?_, tt, ?_⟩
        · cases back with
          | false => rfl
          | true =>
            simp only [if_true]
            rw [nx (by rw [hw]; omega)]
        · simp only [Bool.false_eq_true, if_false]
          cases back with
          | false =>
            simp only [Bool.false_eq_true, if_false]
            exact ⟨by first | trivial | rfl, h4, h5, p, p1, p2, by first | trivial | rfl, .inr ⟨by first | trivial | rfl, by first | trivial | rfl, by omega, by omega⟩⟩
          | true =>
            simp only [if_true]
            rw [nx (by rw [hw]; omega)]
            exact ⟨by first | trivial | rfl, h4, tt, p + 64, by omega, by omega, by first | trivial | rfl, .inl ⟨by first | trivial | rfl, by first | trivial | rfl⟩⟩
  · -- the device does not know that the packet came
    have hne : ¬ (tog = 1 - tog) := by omega
    simp only [stepH, hne, and_false, if_false]
    cases hgb : (got && back) with
    | false =>
      have : ¬ (got = true ∧ back = true) := by simpa using hgb
      simp only [this, if_false]
      exact ⟨by first | trivial | rfl, h2, by simp only [Bool.false_eq_true, if_false]; exact ⟨by first | trivial | rfl, h4, h5, p, p1, p2, by first | trivial | rfl, .inr ⟨by first | trivial | rfl, by first | trivial | rfl, q1, q2⟩⟩⟩
    | true =>
      have : got = true ∧ back = true := by simpa using hgb
      simp only [this, and_self, if_true]
      rw [nx (by rw [hw]; omega)]
      exact ⟨by first | trivial | rfl, h2, by simp only [Bool.false_eq_true, if_false]; exact ⟨by first | trivial | rfl, h4, tt, p + 64, by omega, by omega, by first | trivial | rfl, .inl ⟨by first | trivial | rfl, by first | trivial | rfl⟩⟩⟩
theorem RInv.had {W : BS} {n : Int} {x : HS} (h : RInv W n x) : x.had.length ≤ W.length ∧ x.had = W.take x.had.length := by
  obtain ⟨_, _, h⟩ := h
  split at h
  · rw [h.2.2]; simp
  · obtain ⟨_, _, _, p, _, p2, _, h⟩ := h
    rcases h with ⟨_, h⟩ | ⟨_, h, h1, _⟩
    · rw [h]; simp
      exact Nat.min_le_right _ _
    · rw [h]; simp
      exact Nat.min_le_right _ _

theorem stepGo {W : BS} {n : Int} {i : Nat} {c : Ctl} {had : BS} {tg : Int} {got back : Bool} (h : RInv W n (stepH n ⟨i, c, had, tg, false⟩ got back)) (hg : got = true) (ht : c.tog = tg) (o : Bool)
    (ho : o = (decide (min 64 c.data.length < 64) || decide (n ≤ ((had.length + min 64 c.data.length : Nat) : Int)))) : RInv W n ⟨i + 1, if back = true then cNext c else c, had ++ c.data.take 64, 1 - tg, o⟩ := by
  rw [ho]
  simpa [stepH, hg, ht] using h
theorem stepNo1 {W : BS} {n : Int} {i : Nat} {c : Ctl} {had : BS} {tg : Int} {got back : Bool} (h : RInv W n (stepH n ⟨i, c, had, tg, false⟩ got back)) (hg : got = false) : RInv W n ⟨i + 1, c, had, tg, false⟩ := by
  simpa [stepH, hg] using h
theorem stepNo2 {W : BS} {n : Int} {i : Nat} {c : Ctl} {had : BS} {tg : Int} {got back : Bool} (h : RInv W n (stepH n ⟨i, c, had, tg, false⟩ got back)) (hg : got = true) (ht : c.tog ≠ tg) : RInv W n ⟨i + 1, if back = true then cNext c else c, had, tg, false⟩ := by
  simpa [stepH, hg, ht] using h
theorem stepHad {W : BS} {n : Int} {i : Nat} {c : Ctl} {had : BS} {tg : Int} (h : RInv W n (stepH n ⟨i, c, had, tg, false⟩ true true)) (ht : c.tog = tg) : had.length + min 64 c.data.length ≤ W.length ∧ had ++ c.data.take 64 = W.take (had.length + min 64 c.data.length) := by
  have := h.had
  simp only [stepH, ht, and_self, if_true, List.length_append, List.length_take] at this
  exact this
attribute [local irreducible] Ctl.ok cNext cOut cOutR
theorem c_inD (r : Req) (l : BS) (t : Int) (w ack : Bool) (hok : Side ((Ctl.mk 1 r l t w).ok = true)) (hl : Side (l.length ≤ 2 ^ 40)) : FnC Try.prog 13 [(Ctl.mk 1 r l t w).v, bV ack] []
    (.tup [(if ack = true then cNext ⟨1, r, l, t, w⟩ else ⟨1, r, l, t, w⟩).v, Rpl.v ⟨4, t, l.take 64⟩, bV false]) [] :=
  fnC_eq (c_in ⟨1, r, l, t, w⟩ ack hl) (by simp [cIn, cInR, cInD, hok.h])
theorem c_reads (data : BS) (n : Int) (l : List LTry) (hn : 0 ≤ n ∧ n ≤ 65535) : FnC Try.prog 6 [bsV data, u16 n, .sl 2 (l.map LTry.row)] [] (bV true) [] := by
  have hw : IntKind.i64.wrap n = n := wrap64 (by omega) (by omega)
  have hWn : ((data.take n.toNat).length : Int) ≤ n := by simp; omega
  have hbeg : n ≠ 0 → (cBegin (Rq n) data true).v = Ctl.v ⟨1, Rq n, data.take n.toNat, 1, decide (((data.take n.toNat).length : Int) < n) && decide ((data.take n.toNat).length % 64 = 0)⟩ := fun h => by
    have hd : (Rq n).dir = 1 := by
      have h1 : inW n = true := by simp [inW]; omega
      have h2 : inB 128 = true := by decide
      have h3 : inB 6 = true := by decide
      have h4 : inW 0 = true := by decide
      simp [Req.dir, Req.ok, Rq, h, h1, h2, h3, h4]
    have e : cBegin (Rq n) data true = ⟨1, Rq n, data.take n.toNat, 1, decide (((data.take n.toNat).length : Int) < n) && decide ((data.take n.toNat).length % 64 = 0)⟩ := by
      unfold cBegin
      rw [if_neg (by simp [hd]), if_neg (by simp [hd])]
      rfl
    rw [e]
  refine fn_vcI (N := 161) (d := 8) tabOk mixed inl17_ok 3 Try.func6 rfl rfl rfl ?_
  repeat'
    (conv => whnf
     first
      | (exact trivial)
      | (refine And.intro (by with_reducible rfl) ?_)
      | (refine And.intro (drawI (by kernel_rfl)) ?_)
      | (refine andI ?_ ?_)
      | (refine condT (by assumption) ?_)
      | (refine condF (by assumption) ?_)
      | (refine decT (by assumption) ?_)
      | (refine decF (by assumption) ?_)
      | (refine eqT (by assumption) ?_)
      | (refine eqF (by assumption) ?_)
      | (refine neT (by assumption) ?_)
      | (refine neF (by assumption) ?_)
      | (refine cEq (fun h => ?_) (fun h => ?_))
      | (refine cNe (fun h => ?_) (fun h => ?_))
      | (refine cNot (fun h => ?_) (fun h => ?_))
      | (refine cDec (fun h => ?_) (fun h => ?_))
      | (refine condN_split (fun h => ?_) (fun h => ?_))
      | (refine Exists.intro _ (And.intro (c_alive17) ?_))
      | (refine Exists.intro _ (And.intro (fnC_eq (fnC_args (c_begin (Rq n) data true ?_) (by simp only [hw]; rfl)) (hbeg (by assumption))) ?_))
      | (refine Or.inl (And.intro Cl.lit ?_))
      | (refine Or.inr ?_)
      | (refine Exists.intro 1 ?_))
  all_goals try refine Side.mk ?_
  all_goals try dsimp only at *
  all_goals try refine eqI ?_
  all_goals try first
    | omega
    | (simp only [nil_b, rp_nil, rp_app, rp_b, or_nil, or_app, or_b, len_b, take_b, drop_b, rep_b, app_b, List.length_append, List.length_take, List.length_drop, List.length_nil, List.drop_zero, List.take_length, List.nil_append, List.append_nil, Int.toNat_natCast, toNat_min, take_min, and_true, true_and, and_self]; done)
    | (simp only [nil_b, rp_nil, rp_app, rp_b, or_nil, or_app, or_b, len_b, take_b, drop_b, rep_b, app_b, List.length_append, List.length_take, List.length_drop, List.length_nil, List.drop_zero, List.take_length, List.nil_append, List.append_nil, Int.toNat_natCast, toNat_min, take_min, and_true, true_and, and_self]; omega)
    | (simp only [nil_b, rp_nil, rp_app, rp_b, or_nil, or_app, or_b, len_b, take_b, drop_b, rep_b, app_b, List.length_append, List.length_take, List.length_drop, List.length_nil, List.drop_zero, List.take_length, List.nil_append, List.append_nil, Int.toNat_natCast, toNat_min, take_min, and_true, true_and, and_self] at *; omega)
  all_goals conv => whnf
  all_goals refine loop_w tabOk (ceN_sound tabOk mixed inl17_ok 3) mixed 18 (X := HS) ⟨0, ⟨1, Rq n, data.take n.toNat, 1, decide (((data.take n.toNat).length : Int) < n) && decide ((data.take n.toNat).length % 64 = 0)⟩, [], 1, false⟩ (fun ⟨i, _, had, tg, ov⟩ => [(12, i64 (i : Nat)), (9, .win 1 1 0 had.length had.length), (10, i64 tg), (11, bV ov)]) (fun ⟨_, c, had, _, _⟩ => [(1, true, ⟨1, byteRows had, false⟩), (0, false, ⟨9, [c.row], false⟩)]) 2 (fun x => x.i ≤ l.length ∧ RInv (data.take n.toNat) n x) (fun x => l.length - x.i) ⟨Nat.zero_le _, rfl, .inr rfl, rfl, rfl, .inr rfl, 0, rfl, Nat.zero_le _, rfl, .inl ⟨rfl, rfl⟩⟩ ?_ ?_
  · repeat'
      (conv => whnf
       first
        | (exact trivial)
        | (refine And.intro (by with_reducible rfl) ?_)
        | (refine And.intro (drawI (by kernel_rfl)) ?_)
        | (refine andI ?_ ?_)
        | (refine condT (by assumption) ?_)
        | (refine condF (by assumption) ?_)
        | (refine decT (by assumption) ?_)
        | (refine decF (by assumption) ?_)
        | (refine eqT (by assumption) ?_)
        | (refine eqF (by assumption) ?_)
        | (refine neT (by assumption) ?_)
        | (refine neF (by assumption) ?_)
        | (refine cEq (fun h => ?_) (fun h => ?_))
        | (refine cNe (fun h => ?_) (fun h => ?_))
        | (refine cNot (fun h => ?_) (fun h => ?_))
        | (refine cDec (fun h => ?_) (fun h => ?_))
        | (refine condN_split (fun h => ?_) (fun h => ?_))
        | (refine Or.inl (And.intro Cl.lit ?_))
        | (refine Or.inr ?_)
        | (refine Exists.intro 1 ?_))
    all_goals try refine Side.mk ?_
    all_goals try dsimp only at *
    all_goals try refine eqI ?_
    all_goals rfl
  · rintro ⟨i, ⟨st, ⟨r1, r2, r3, r4, r5⟩, dt, tc, w⟩, had, tg, ov⟩ ⟨hi, hx⟩
    have hhad := hx.had
    cases ov with
    | true =>
      obtain ⟨hr, ht, hok, hst, hh⟩ := hx
      simp only at hr ht hok hst hh hi
      repeat'
        (conv => whnf
         first
          | (exact trivial)
          | (refine And.intro (by with_reducible rfl) ?_)
          | (refine And.intro (drawI (by kernel_rfl)) ?_)
          | (refine andI ?_ ?_)
          | (refine condT (by assumption) ?_)
          | (refine condF (by assumption) ?_)
          | (refine decT (by assumption) ?_)
          | (refine decF (by assumption) ?_)
          | (refine eqT (by assumption) ?_)
          | (refine eqF (by assumption) ?_)
          | (refine neT (by assumption) ?_)
          | (refine neF (by assumption) ?_)
          | (refine cEq (fun h => ?_) (fun h => ?_))
          | (refine cNe (fun h => ?_) (fun h => ?_))
          | (refine cNot (fun h => ?_) (fun h => ?_))
          | (refine cDec (fun h => ?_) (fun h => ?_))
          | (refine condN_split (fun h => ?_) (fun h => ?_))
          | (refine Exists.intro _ (And.intro (fnC_args (c_out ⟨_, ⟨_, _, _, _, _⟩, _, _, _⟩ ⟨_, _, _, _, _, _, _, _, _⟩) (by first | rfl | ((conv => lhs; simp only [rp_nil, rp_app, rp_b, or_nil, or_app, or_b, len_b, take_b, drop_b, rep_b, app_b, List.length_append, List.length_take, List.length_drop, List.length_nil, List.drop_zero, List.take_length, List.nil_append, List.append_nil, Int.toNat_natCast, toNat_min, take_min, and_true, true_and, and_self]) <;> rfl) | ((conv => lhs; simp only [rp_nil, rp_app, rp_b, or_nil, or_app, or_b, len_b, take_b, drop_b, rep_b, app_b, List.length_append, List.length_take, List.length_drop, List.length_nil, List.drop_zero, List.take_length, List.nil_append, List.append_nil, Int.toNat_natCast, toNat_min, take_min, and_true, true_and, and_self, sl1_nil]) <;> rfl))) ?_))
          | (refine Exists.intro _ (And.intro (by first | rfl | ((conv => lhs; simp only [nil_b, rp_nil, rp_app, rp_b, or_nil, or_app, or_b, len_b, take_b, drop_b, rep_b, app_b, List.length_append, List.length_take, List.length_drop, List.length_nil, List.drop_zero, List.take_length, List.nil_append, List.append_nil, Int.toNat_natCast, toNat_min, take_min, and_true, true_and, and_self]) <;> rfl)) ?_))
          | (refine Or.inl (And.intro Cl.lit ?_))
          | (refine Or.inr ?_)
          | (refine Exists.intro 1 ?_))
      all_goals try refine Side.mk ?_
      all_goals try dsimp only at *
      all_goals try refine eqI ?_
      all_goals try (simp only [nil_b, rp_nil, rp_app, rp_b, or_nil, or_app, or_b, len_b, take_b, drop_b, rep_b, app_b, List.length_append, List.length_take, List.length_drop, List.length_nil, List.drop_zero, List.take_length, List.nil_append, List.append_nil, Int.toNat_natCast, toNat_min, take_min, and_true, true_and, and_self]; omega)
      all_goals (have hO : ∀ x : Evt, x.data = [] → x.tog = 1 → cOut ⟨st, ⟨r1, r2, r3, r4, r5⟩, dt, tc, w⟩ x = cZero ∧ cOutR ⟨st, ⟨r1, r2, r3, r4, r5⟩, dt, tc, w⟩ x = ⟨1, 0, []⟩ := fun x h1 h2 => by
                   have hs : cStat ⟨st, ⟨r1, r2, r3, r4, r5⟩, dt, tc, w⟩ x = true := by
                     simp [cStat, h1, h2]
                     omega
                   simp [cOut, cOutR, hok, h1, hs])
      all_goals (obtain ⟨hO1, hO2⟩ := hO _ (rfl : (Evt.mk 0 0 0 0 1 false 0 0 []).data = []) rfl)
      all_goals try rw [hO1]
      all_goals try rw [hO2]
      all_goals first
        | rfl
        | (exfalso; apply absurd (congrArg Rpl.kind hO2); assumption)
        | (exfalso; simp only [eq_str, hh, beq_self_eq_true, reduceCtorEq] at *)
    | false =>
      obtain ⟨hr, ht, hst, hwt, htc, p, p1, p2, hd, hcase⟩ := id hx
      simp only at hr ht hst hwt htc hd hcase hi
      subst hst
      have hlen : dt.length ≤ 1000 := by
        simp only [len_b] at *
        rw [hd]; simp; omega
      have hI := fun xg xb => stepH_inv hWn hx rfl xg xb
      have hS := stepHad (hI true true)
      have hok : (Ctl.mk 1 ⟨r1, r2, r3, r4, r5⟩ dt tc w).ok = true := (Ctl.ok_iff _).2 ⟨by simp, by simp, htc, .inl rfl⟩
      repeat'
        (conv => whnf
         first
          | (exact trivial)
          | (refine And.intro (by with_reducible rfl) ?_)
          | (refine And.intro (drawI (by kernel_rfl)) ?_)
          | (refine andI ?_ ?_)
          | (refine condT (by assumption) ?_)
          | (refine condF (by assumption) ?_)
          | (refine decT (by assumption) ?_)
          | (refine decF (by assumption) ?_)
          | (refine eqT (by assumption) ?_)
          | (refine eqF (by assumption) ?_)
          | (refine neT (by assumption) ?_)
          | (refine neF (by assumption) ?_)
          | (refine cEq (fun h => ?_) (fun h => ?_))
          | (refine cNe (fun h => ?_) (fun h => ?_))
          | (refine cNot (fun h => ?_) (fun h => ?_))
          | (refine cDec (fun h => ?_) (fun h => ?_))
          | (refine condN_split (fun h => ?_) (fun h => ?_))
          | (refine Exists.intro _ (And.intro (c_inD ⟨_, _, _, _, _⟩ _ _ _ _ ?_ ?_) ?_))
          | (refine Exists.intro _ (And.intro (map_get LTry.dflt ?_) ?_))
          | (refine Exists.intro _ (And.intro (by first | rfl | ((conv => lhs; simp only [nil_b, rp_nil, rp_app, rp_b, or_nil, or_app, or_b, len_b, take_b, drop_b, rep_b, app_b, List.length_append, List.length_take, List.length_drop, List.length_nil, List.drop_zero, List.take_length, List.nil_append, List.append_nil, Int.toNat_natCast, toNat_min, take_min, and_true, true_and, and_self]) <;> rfl)) ?_))
          | (have h9 : tc = tg := (by assumption); refine Exists.intro ⟨i + 1, ?_, had ++ dt.take 64, 1 - tg, ?_⟩ (andI ?_ (andI ?_ ?_)))
          | (refine Exists.intro ⟨i + 1, ?_, had, tg, ?_⟩ (andI ?_ (andI ?_ ?_)))
          | (refine Or.inl (And.intro Cl.lit ?_))
          | (refine Or.inr ?_)
          | (refine Exists.intro 1 ?_))
      all_goals try refine Side.mk ?_
      all_goals try dsimp only
      all_goals try refine eqI ?_
      all_goals try simp only [List.length_map, len_b, Int.toNat_natCast]
      all_goals try exact hok
      all_goals try rfl
      all_goals try (simp only [List.length_map, len_b] at *; omega)
      all_goals clear hbeg
      all_goals try (simp only [rp_b, or_b]; done)
      all_goals try (rw [wrap64 (by omega) (by omega)]; done)
      all_goals try (rw [wrap64 (by omega) (by omega)]; rfl)
      all_goals try (simp only [app_b, len_b]; done)
      all_goals clear hx hWn hn
      all_goals try simp only [nil_b, rp_nil, rp_app, rp_b, or_nil, or_app, or_b, len_b, take_b, drop_b, rep_b, app_b, List.length_append, List.length_take, List.length_drop, List.length_nil, List.drop_zero, List.take_length, List.nil_append, List.append_nil, Int.toNat_natCast, toNat_min, take_min, and_true, true_and, and_self, eq_str, List.length_map, List.length_append, List.length_take] at *
      all_goals try omega
      all_goals first
        | (refine ⟨by omega, stepGo (hI _ _) (by assumption) (by assumption) _ ?_⟩; clear hI hS; rw [Bool.eq_iff_iff]; simp only [Bool.or_eq_true, decide_eq_true_eq, ge_iff_le, true_iff]; omega)
        | exact ⟨by omega, stepNo1 (hI _ false) (by assumption)⟩
        | (simp only [Bool.false_eq_true, if_false]; exact ⟨by omega, stepNo1 (hI _ false) (by assumption)⟩)
        | exact ⟨by omega, stepNo2 (hI _ _) (by assumption) (by assumption)⟩
        | (exfalso; clear hI; specialize hS (by assumption); obtain ⟨s1, s2⟩ := hS; first | omega | (rw [← s2, List.take_of_length_le (by simp)] at h; simp at h))
        | (exfalso; clear hI hS; rw [← hhad.2] at h; simp at h; done)
        | (exfalso; clear hI hS; omega)
        | skip
  all_goals have hT : data.take n.toNat = data := List.take_of_length_le (by simp only [len_b] at *; omega)
  · repeat'
      (conv => whnf
       first
        | (exact trivial)
        | (refine And.intro (by with_reducible rfl) ?_)
        | (refine And.intro (drawI (by kernel_rfl)) ?_)
        | (refine andI ?_ ?_)
        | (refine condT (by assumption) ?_)
        | (refine condF (by assumption) ?_)
        | (refine decT (by assumption) ?_)
        | (refine decF (by assumption) ?_)
        | (refine eqT (by assumption) ?_)
        | (refine eqF (by assumption) ?_)
        | (refine neT (by assumption) ?_)
        | (refine neF (by assumption) ?_)
        | (refine cEq (fun h => ?_) (fun h => ?_))
        | (refine cNe (fun h => ?_) (fun h => ?_))
        | (refine cNot (fun h => ?_) (fun h => ?_))
        | (refine cDec (fun h => ?_) (fun h => ?_))
        | (refine condN_split (fun h => ?_) (fun h => ?_))
        | (refine Or.inl (And.intro Cl.lit ?_))
        | (refine Or.inr ?_)
        | (refine Exists.intro 1 ?_))
    all_goals try refine Side.mk ?_
    all_goals try dsimp only at *
    all_goals try refine eqI ?_
    all_goals rfl
  · rintro ⟨i, ⟨st, ⟨r1, r2, r3, r4, r5⟩, dt, tc, w⟩, had, tg, ov⟩ ⟨hi, hx⟩
    have hhad := hx.had
    cases ov with
    | true =>
      obtain ⟨hr, ht, hok, hst, hh⟩ := hx
      simp only at hr ht hok hst hh hi
      repeat'
        (conv => whnf
         first
          | (exact trivial)
          | (refine And.intro (by with_reducible rfl) ?_)
          | (refine And.intro (drawI (by kernel_rfl)) ?_)
          | (refine andI ?_ ?_)
          | (refine condT (by assumption) ?_)
          | (refine condF (by assumption) ?_)
          | (refine decT (by assumption) ?_)
          | (refine decF (by assumption) ?_)
          | (refine eqT (by assumption) ?_)
          | (refine eqF (by assumption) ?_)
          | (refine neT (by assumption) ?_)
          | (refine neF (by assumption) ?_)
          | (refine cEq (fun h => ?_) (fun h => ?_))
          | (refine cNe (fun h => ?_) (fun h => ?_))
          | (refine cNot (fun h => ?_) (fun h => ?_))
          | (refine cDec (fun h => ?_) (fun h => ?_))
          | (refine condN_split (fun h => ?_) (fun h => ?_))
          | (refine Exists.intro _ (And.intro (fnC_args (c_out ⟨_, ⟨_, _, _, _, _⟩, _, _, _⟩ ⟨_, _, _, _, _, _, _, _, _⟩) (by first | rfl | ((conv => lhs; simp only [rp_nil, rp_app, rp_b, or_nil, or_app, or_b, len_b, take_b, drop_b, rep_b, app_b, List.length_append, List.length_take, List.length_drop, List.length_nil, List.drop_zero, List.take_length, List.nil_append, List.append_nil, Int.toNat_natCast, toNat_min, take_min, and_true, true_and, and_self]) <;> rfl) | ((conv => lhs; simp only [rp_nil, rp_app, rp_b, or_nil, or_app, or_b, len_b, take_b, drop_b, rep_b, app_b, List.length_append, List.length_take, List.length_drop, List.length_nil, List.drop_zero, List.take_length, List.nil_append, List.append_nil, Int.toNat_natCast, toNat_min, take_min, and_true, true_and, and_self, sl1_nil]) <;> rfl))) ?_))
          | (refine Exists.intro _ (And.intro (by first | rfl | ((conv => lhs; simp only [nil_b, rp_nil, rp_app, rp_b, or_nil, or_app, or_b, len_b, take_b, drop_b, rep_b, app_b, List.length_append, List.length_take, List.length_drop, List.length_nil, List.drop_zero, List.take_length, List.nil_append, List.append_nil, Int.toNat_natCast, toNat_min, take_min, and_true, true_and, and_self]) <;> rfl)) ?_))
          | (refine Or.inl (And.intro Cl.lit ?_))
          | (refine Or.inr ?_)
          | (refine Exists.intro 1 ?_))
      all_goals try refine Side.mk ?_
      all_goals try dsimp only at *
      all_goals try refine eqI ?_
      all_goals try (simp only [nil_b, rp_nil, rp_app, rp_b, or_nil, or_app, or_b, len_b, take_b, drop_b, rep_b, app_b, List.length_append, List.length_take, List.length_drop, List.length_nil, List.drop_zero, List.take_length, List.nil_append, List.append_nil, Int.toNat_natCast, toNat_min, take_min, and_true, true_and, and_self]; omega)
      all_goals (have hO : ∀ x : Evt, x.data = [] → x.tog = 1 → cOut ⟨st, ⟨r1, r2, r3, r4, r5⟩, dt, tc, w⟩ x = cZero ∧ cOutR ⟨st, ⟨r1, r2, r3, r4, r5⟩, dt, tc, w⟩ x = ⟨1, 0, []⟩ := fun x h1 h2 => by
                   have hs : cStat ⟨st, ⟨r1, r2, r3, r4, r5⟩, dt, tc, w⟩ x = true := by
                     simp [cStat, h1, h2]
                     omega
                   simp [cOut, cOutR, hok, h1, hs])
      all_goals (obtain ⟨hO1, hO2⟩ := hO _ (rfl : (Evt.mk 0 0 0 0 1 false 0 0 []).data = []) rfl)
      all_goals try rw [hO1]
      all_goals try rw [hO2]
      all_goals first
        | rfl
        | (exfalso; apply absurd (congrArg Rpl.kind hO2); assumption)
        | (exfalso; simp only [eq_str, hh, hT, beq_self_eq_true, reduceCtorEq] at *)
    | false =>
      obtain ⟨hr, ht, hst, hwt, htc, p, p1, p2, hd, hcase⟩ := id hx
      simp only at hr ht hst hwt htc hd hcase hi
      subst hst
      have hlen : dt.length ≤ 1000 := by
        simp only [len_b] at *
        rw [hd]; simp; omega
      have hI := fun xg xb => stepH_inv hWn hx rfl xg xb
      have hS := stepHad (hI true true)
      have hok : (Ctl.mk 1 ⟨r1, r2, r3, r4, r5⟩ dt tc w).ok = true := (Ctl.ok_iff _).2 ⟨by simp, by simp, htc, .inl rfl⟩
      repeat'
        (conv => whnf
         first
          | (exact trivial)
          | (refine And.intro (by with_reducible rfl) ?_)
          | (refine And.intro (drawI (by kernel_rfl)) ?_)
          | (refine andI ?_ ?_)
          | (refine condT (by assumption) ?_)
          | (refine condF (by assumption) ?_)
          | (refine decT (by assumption) ?_)
          | (refine decF (by assumption) ?_)
          | (refine eqT (by assumption) ?_)
          | (refine eqF (by assumption) ?_)
          | (refine neT (by assumption) ?_)
          | (refine neF (by assumption) ?_)
          | (refine cEq (fun h => ?_) (fun h => ?_))
          | (refine cNe (fun h => ?_) (fun h => ?_))
          | (refine cNot (fun h => ?_) (fun h => ?_))
          | (refine cDec (fun h => ?_) (fun h => ?_))
          | (refine condN_split (fun h => ?_) (fun h => ?_))
          | (refine Exists.intro _ (And.intro (c_inD ⟨_, _, _, _, _⟩ _ _ _ _ ?_ ?_) ?_))
          | (refine Exists.intro _ (And.intro (map_get LTry.dflt ?_) ?_))
          | (refine Exists.intro _ (And.intro (by first | rfl | ((conv => lhs; simp only [nil_b, rp_nil, rp_app, rp_b, or_nil, or_app, or_b, len_b, take_b, drop_b, rep_b, app_b, List.length_append, List.length_take, List.length_drop, List.length_nil, List.drop_zero, List.take_length, List.nil_append, List.append_nil, Int.toNat_natCast, toNat_min, take_min, and_true, true_and, and_self]) <;> rfl)) ?_))
          | (have h9 : tc = tg := (by assumption); refine Exists.intro ⟨i + 1, ?_, had ++ dt.take 64, 1 - tg, ?_⟩ (andI ?_ (andI ?_ ?_)))
          | (refine Exists.intro ⟨i + 1, ?_, had, tg, ?_⟩ (andI ?_ (andI ?_ ?_)))
          | (refine Or.inl (And.intro Cl.lit ?_))
          | (refine Or.inr ?_)
          | (refine Exists.intro 1 ?_))
      all_goals try refine Side.mk ?_
      all_goals try dsimp only
      all_goals try refine eqI ?_
      all_goals try simp only [List.length_map, len_b, Int.toNat_natCast]
      all_goals try exact hok
      all_goals try rfl
      all_goals try (simp only [List.length_map, len_b] at *; omega)
      all_goals clear hbeg
      all_goals try (simp only [rp_b, or_b]; done)
      all_goals try (rw [wrap64 (by omega) (by omega)]; done)
      all_goals try (rw [wrap64 (by omega) (by omega)]; rfl)
      all_goals try (simp only [app_b, len_b]; done)
      all_goals clear hx hWn hn
      all_goals try simp only [nil_b, rp_nil, rp_app, rp_b, or_nil, or_app, or_b, len_b, take_b, drop_b, rep_b, app_b, List.length_append, List.length_take, List.length_drop, List.length_nil, List.drop_zero, List.take_length, List.nil_append, List.append_nil, Int.toNat_natCast, toNat_min, take_min, and_true, true_and, and_self, eq_str, List.length_map, List.length_append, List.length_take] at *
      all_goals try simp only [hT] at *
      all_goals try omega
      all_goals first
        | (refine ⟨by omega, stepGo (hI _ _) (by assumption) (by assumption) _ ?_⟩; clear hI hS; rw [Bool.eq_iff_iff]; simp only [Bool.or_eq_true, decide_eq_true_eq, ge_iff_le, true_iff]; omega)
        | exact ⟨by omega, stepNo1 (hI _ false) (by assumption)⟩
        | (simp only [Bool.false_eq_true, if_false]; exact ⟨by omega, stepNo1 (hI _ false) (by assumption)⟩)
        | exact ⟨by omega, stepNo2 (hI _ _) (by assumption) (by assumption)⟩
        | (exfalso; clear hI; specialize hS (by assumption); obtain ⟨s1, s2⟩ := hS; first | omega | (rw [← s2, List.take_of_length_le (by simp)] at h; simp at h))
        | (exfalso; clear hI hS; rw [← hhad.2] at h; simp at h; done)
        | (exfalso; clear hI hS; omega)
        | skip
end Go.Proofs.Ytjgconnmejkcfaa
