/-
  Control transfers (layer 17): the values, and the contracts of the program's functions and of the document's.
-/
import Derived.Test.YtjgconnmejkcfaaL15
namespace Go.Proofs.Ytjgconnmejkcfaa
open Go
set_option linter.unusedVariables false
set_option linter.unusedSimpArgs false
set_option maxRecDepth 100000
set_option maxHeartbeats 2000000

def Req.row (x : Req) : List V := [V.lit (.int .i64 x.ty), V.lit (.int .i64 x.code), V.lit (.int .i64 x.val), V.lit (.int .i64 x.idx), V.lit (.int .i64 x.len)]
def Req.v (x : Req) : V := .agg [V.lit (.int .i64 x.ty), V.lit (.int .i64 x.code), V.lit (.int .i64 x.val), V.lit (.int .i64 x.idx), V.lit (.int .i64 x.len)]
def Req.wf (x : Req) : Prop := (-9223372036854775808 ≤ x.ty ∧ x.ty ≤ 9223372036854775807) ∧ (-9223372036854775808 ≤ x.code ∧ x.code ≤ 9223372036854775807) ∧ (-9223372036854775808 ≤ x.val ∧ x.val ≤ 9223372036854775807) ∧ (-9223372036854775808 ≤ x.idx ∧ x.idx ≤ 9223372036854775807) ∧ (-9223372036854775808 ≤ x.len ∧ x.len ≤ 9223372036854775807)
def Req.dflt : Req := ⟨0, 0, 0, 0, 0⟩
theorem rp_Req (l : List Req) : rowsPlain (l.map Req.row) = True := rp_map (fun x => rfl) l
theorem or_Req (l : List Req) : oneRows (l.map Req.row) = True := or_map (fun x => rfl) l
structure Ctl where
  st : Int
  req : Req
  data : BS
  tog : Int
  wait : Bool
def Ctl.row (x : Ctl) : List V := [V.lit (.int .i64 x.st), V.lit (.int .i64 x.req.ty), V.lit (.int .i64 x.req.code), V.lit (.int .i64 x.req.val), V.lit (.int .i64 x.req.idx), V.lit (.int .i64 x.req.len), bsV x.data, V.lit (.int .i64 x.tog), bV x.wait]
def Ctl.v (x : Ctl) : V := .agg [V.lit (.int .i64 x.st), V.lit (.int .i64 x.req.ty), V.lit (.int .i64 x.req.code), V.lit (.int .i64 x.req.val), V.lit (.int .i64 x.req.idx), V.lit (.int .i64 x.req.len), bsV x.data, V.lit (.int .i64 x.tog), bV x.wait]
def Ctl.wf (x : Ctl) : Prop := (-9223372036854775808 ≤ x.st ∧ x.st ≤ 9223372036854775807) ∧ x.req.wf ∧ x.data.length ≤ maxLen ∧ (-9223372036854775808 ≤ x.tog ∧ x.tog ≤ 9223372036854775807)
def Ctl.dflt : Ctl := ⟨0, Req.dflt, [], 0, false⟩
theorem rp_Ctl (l : List Ctl) : rowsPlain (l.map Ctl.row) = True := rp_map (fun x => rfl) l
theorem or_Ctl (l : List Ctl) : oneRows (l.map Ctl.row) = True := or_map (fun x => rfl) l
structure Rpl where
  kind : Int
  tog : Int
  data : BS
def Rpl.row (x : Rpl) : List V := [V.lit (.int .i64 x.kind), V.lit (.int .i64 x.tog), bsV x.data]
def Rpl.v (x : Rpl) : V := .agg [V.lit (.int .i64 x.kind), V.lit (.int .i64 x.tog), bsV x.data]
def Rpl.wf (x : Rpl) : Prop := (-9223372036854775808 ≤ x.kind ∧ x.kind ≤ 9223372036854775807) ∧ (-9223372036854775808 ≤ x.tog ∧ x.tog ≤ 9223372036854775807) ∧ x.data.length ≤ maxLen
def Rpl.dflt : Rpl := ⟨0, 0, []⟩
theorem rp_Rpl (l : List Rpl) : rowsPlain (l.map Rpl.row) = True := rp_map (fun x => rfl) l
theorem or_Rpl (l : List Rpl) : oneRows (l.map Rpl.row) = True := or_map (fun x => rfl) l
structure Evt where
  kind : Int
  addr : Int
  ep : Int
  stream : Int
  tog : Int
  ack : Bool
  lun : Int
  n : Int
  data : BS
def Evt.row (x : Evt) : List V := [V.lit (.int .i64 x.kind), V.lit (.int .i64 x.addr), V.lit (.int .i64 x.ep), V.lit (.int .i64 x.stream), V.lit (.int .i64 x.tog), bV x.ack, V.lit (.int .i64 x.lun), V.lit (.int .u64 x.n), bsV x.data]
def Evt.v (x : Evt) : V := .agg [V.lit (.int .i64 x.kind), V.lit (.int .i64 x.addr), V.lit (.int .i64 x.ep), V.lit (.int .i64 x.stream), V.lit (.int .i64 x.tog), bV x.ack, V.lit (.int .i64 x.lun), V.lit (.int .u64 x.n), bsV x.data]
def Evt.wf (x : Evt) : Prop := (-9223372036854775808 ≤ x.kind ∧ x.kind ≤ 9223372036854775807) ∧ (-9223372036854775808 ≤ x.addr ∧ x.addr ≤ 9223372036854775807) ∧ (-9223372036854775808 ≤ x.ep ∧ x.ep ≤ 9223372036854775807) ∧ (-9223372036854775808 ≤ x.stream ∧ x.stream ≤ 9223372036854775807) ∧ (-9223372036854775808 ≤ x.tog ∧ x.tog ≤ 9223372036854775807) ∧ (-9223372036854775808 ≤ x.lun ∧ x.lun ≤ 9223372036854775807) ∧ (0 ≤ x.n ∧ x.n ≤ 18446744073709551615) ∧ x.data.length ≤ maxLen
def Evt.dflt : Evt := ⟨0, 0, 0, 0, 0, false, 0, 0, []⟩
theorem rp_Evt (l : List Evt) : rowsPlain (l.map Evt.row) = True := rp_map (fun x => rfl) l
theorem or_Evt (l : List Evt) : oneRows (l.map Evt.row) = True := or_map (fun x => rfl) l

/-- may it be? -/
def Ctl.ok (c : Ctl) : Bool := decide (0 ≤ c.st) && (decide (c.st ≤ 4) && ((decide (c.tog = 0) || decide (c.tog = 1)) && (decide (c.st = 1) || (decide (c.tog = 0) && (decide (c.data.length = 0) && !c.wait)))))
def cAt (s : Int) (r : Req) : Ctl := ⟨s, r, [], 0, false⟩
def cZero : Ctl := cAt 0 ⟨0, 0, 0, 0, 0⟩
def cBegin (r : Req) (l : BS) (ok : Bool) : Ctl :=
  if ok = false ∨ r.dir = 2 then cAt 4 r else if r.dir = 0 then cAt 2 r else ⟨1, r, l.take r.len.toNat, 1, decide (((l.take r.len.toNat).length : Int) < r.len) && decide ((l.take r.len.toNat).length % 64 = 0)⟩
def cNext (c : Ctl) : Ctl := if 64 < c.data.length ∨ (c.wait = true ∧ 0 < c.data.length) then ⟨c.st, c.req, c.data.drop 64, 1 - c.tog, c.wait⟩ else cAt 3 c.req
def cIn (c : Ctl) (ack : Bool) : Ctl := if c.ok = false then c else if c.st = 0 then cZero else if c.st = 1 then (if ack = true then cNext c else c) else if c.st = 2 then (if ack = true then cZero else c) else cAt 4 c.req
def cInR (c : Ctl) : Rpl := if c.ok = false then ⟨0, 0, []⟩ else if c.st = 0 then ⟨2, 0, []⟩ else if c.st = 1 then ⟨4, c.tog, c.data.take 64⟩ else if c.st = 2 then ⟨4, 1, []⟩ else ⟨3, 0, []⟩
def cInD (c : Ctl) (ack : Bool) : Bool := if c.ok = false then false else if c.st = 2 then ack else false
def cStat (c : Ctl) (x : Evt) : Bool := decide (x.data.length = 0) && (decide (x.tog = 1) && (decide (c.st ≠ 2) && decide (c.st ≠ 4)))
def cOut (c : Ctl) (x : Evt) : Ctl := if c.ok = false then c else if x.data.length > 64 then c else if cStat c x = true then cZero else if c.st = 0 then cZero else cAt 4 c.req
def cOutR (c : Ctl) (x : Evt) : Rpl := if c.ok = false then ⟨0, 0, []⟩ else if x.data.length > 64 then ⟨0, 0, []⟩ else if cStat c x = true then ⟨1, 0, []⟩ else if c.st = 0 then ⟨2, 0, []⟩ else ⟨3, 0, []⟩

theorem Ctl.ok_iff (c : Ctl) : c.ok = true ↔ 0 ≤ c.st ∧ c.st ≤ 4 ∧ (c.tog = 0 ∨ c.tog = 1) ∧ (c.st = 1 ∨ c.tog = 0 ∧ c.data = [] ∧ c.wait = false) := by
  simp [Ctl.ok]
theorem and_one (x : Int) : bits .and .i64 x 1 = x % 2 := and_mask .i64 1 (by decide) x
theorem xor_one {t : Int} (h : t = 0 ∨ t = 1) : bits .xor .i64 t 1 = 1 - t := by rcases h with rfl | rfl <;> decide
theorem len0 (l : BS) : ((l.length : Nat) : Int) = 0 ↔ l = [] := by rw [← List.length_eq_zero_iff]; omega

noncomputable def inl17 : List IRow := [(21, Try.f21, 8, 4), (25, Try.f25, 54, 6), (27, Try.f27, 24, 5), (24, Try.f24, 8, 4), (26, Try.f26, 9, 4)]
theorem inl17_ok : IOk Try.prog (inlTab inl17) := inl_ok (by
  unfold inl17
  repeat' (first | exact trivial | refine And.intro (And.intro rfl (And.intro rfl rfl)) ?_))

theorem c_ctlRight (c : Ctl) : FnC Try.prog 16 [c.v] [] (bV c.ok) [] := by
  obtain ⟨s, ⟨a, b, cc, d, e⟩, l, t, w⟩ := c
  refine fn_vcI (N := 38) (d := 6) tabOk mixed inl17_ok 3 Try.func16 rfl rfl rfl ?_
  repeat'
    (conv => whnf
     first
      | (exact trivial)
      | (refine And.intro (by with_reducible rfl) ?_)
      | (refine And.intro (drawI (by kernel_rfl)) ?_)
      | (refine andI ?_ ?_)
      | (refine condT (by assumption) ?_)
      | (refine condF (by assumption) ?_)
      | (refine decT (by assumption) ?_)
      | (refine decF (by assumption) ?_)
      | (refine eqT (by assumption) ?_)
      | (refine eqF (by assumption) ?_)
      | (refine neT (by assumption) ?_)
      | (refine neF (by assumption) ?_)
      | (refine cEq (fun h => ?_) (fun h => ?_))
      | (refine cNe (fun h => ?_) (fun h => ?_))
      | (refine cNot (fun h => ?_) (fun h => ?_))
      | (refine cDec (fun h => ?_) (fun h => ?_))
      | (refine condN_split (fun h => ?_) (fun h => ?_))
      | (refine Or.inl (And.intro Cl.lit ?_))
      | (refine Or.inr ?_)
      | (refine Exists.intro 1 ?_))
  all_goals try refine Side.mk ?_
  all_goals try dsimp only at *
  all_goals try refine eqI ?_
  all_goals refine bI ?_
  all_goals try simp only [and_one, len_b] at *
  all_goals rw [Bool.eq_iff_iff]
  all_goals (cases w <;> simp [Ctl.ok, -List.length_eq_zero_iff] <;> omega)
theorem c_refRight (c : Ctl) : FnC Try.prog 17 [c.v] [] (bV c.ok) [] := by
  obtain ⟨s, ⟨a, b, cc, d, e⟩, l, t, w⟩ := c
  refine fn_vcI (N := 40) (d := 6) tabOk mixed inl17_ok 3 Try.func17 rfl rfl rfl ?_
  repeat'
    (conv => whnf
     first
      | (exact trivial)
      | (refine And.intro (by with_reducible rfl) ?_)
      | (refine And.intro (drawI (by kernel_rfl)) ?_)
      | (refine andI ?_ ?_)
      | (refine condT (by assumption) ?_)
      | (refine condF (by assumption) ?_)
      | (refine decT (by assumption) ?_)
      | (refine decF (by assumption) ?_)
      | (refine eqT (by assumption) ?_)
      | (refine eqF (by assumption) ?_)
      | (refine neT (by assumption) ?_)
      | (refine neF (by assumption) ?_)
      | (refine cEq (fun h => ?_) (fun h => ?_))
      | (refine cNe (fun h => ?_) (fun h => ?_))
      | (refine cNot (fun h => ?_) (fun h => ?_))
      | (refine cDec (fun h => ?_) (fun h => ?_))
      | (refine condN_split (fun h => ?_) (fun h => ?_))
      | (refine Or.inl (And.intro Cl.lit ?_))
      | (refine Or.inr ?_)
      | (refine Exists.intro 1 ?_))
  all_goals try refine Side.mk ?_
  all_goals try dsimp only at *
  all_goals try refine eqI ?_
  all_goals refine bI ?_
  all_goals try simp only [len_b] at *
  all_goals rw [Bool.eq_iff_iff]
  all_goals (cases w <;> simp [Ctl.ok, -List.length_eq_zero_iff] <;> omega)

theorem dir_len {r : Req} (h : r.dir ≠ 0) : 0 ≤ r.len ∧ r.len < 65536 := by
  have hk : Req.ok r = true := by
    by_cases hk : Req.ok r = true
    · exact hk
    · exact absurd (by simp [Req.dir, hk]) h
  simp [Req.ok, inW] at hk
  omega
attribute [local irreducible] Req.dir Req.ok Ctl.ok
theorem c_begin (r : Req) (l : BS) (ok : Bool) (hl : Side (l.length ≤ 2 ^ 40)) : FnC Try.prog 10 [r.v, bsV l, bV ok] [] (cBegin r l ok).v [] := by
  have hl := hl.h
  obtain ⟨a, b, c, d, e⟩ := r
  refine fn_vcI (N := 52) (d := 6) tabOk mixed inl17_ok 3 Try.func10 rfl rfl rfl ?_
  repeat'
    (conv => whnf
     first
      | (exact trivial)
      | (refine And.intro (by with_reducible rfl) ?_)
      | (refine And.intro (drawI (by kernel_rfl)) ?_)
      | (refine andI ?_ ?_)
      | (refine condT (by assumption) ?_)
      | (refine condF (by assumption) ?_)
      | (refine decT (by assumption) ?_)
      | (refine decF (by assumption) ?_)
      | (refine eqT (by assumption) ?_)
      | (refine eqF (by assumption) ?_)
      | (refine neT (by assumption) ?_)
      | (refine neF (by assumption) ?_)
      | (refine cEq (fun h => ?_) (fun h => ?_))
      | (refine cNe (fun h => ?_) (fun h => ?_))
      | (refine cNot (fun h => ?_) (fun h => ?_))
      | (refine cDec (fun h => ?_) (fun h => ?_))
      | (refine condN_split (fun h => ?_) (fun h => ?_))
      | (refine Exists.intro _ (And.intro (c_dir _ _ _ _ _) ?_))
      | (refine Exists.intro _ (And.intro (c_clone _ ?_ ?_ ?_) ?_))
      | (refine Or.inl (And.intro Cl.lit ?_))
      | (refine Or.inr ?_)
      | (refine Exists.intro 1 ?_))
  all_goals try refine Side.mk ?_
  all_goals try dsimp only at *
  all_goals try refine eqI ?_
  all_goals try (simp [cBegin, Ctl.v, cAt, byteRows, *]; done)
  all_goals (have he := dir_len (r := ⟨a, b, c, d, e⟩) (by assumption))
  all_goals simp only at he
  all_goals try first
    | omega
    | (simp only [nil_b, rp_nil, rp_app, rp_b, or_nil, or_app, or_b, len_b, take_b, drop_b, rep_b, app_b, List.length_append, List.length_take, List.length_drop, List.length_nil, List.drop_zero, List.take_length, List.nil_append, List.append_nil, Int.toNat_natCast, toNat_min, take_min, and_true, true_and, and_self]; done)
    | (simp only [nil_b, rp_nil, rp_app, rp_b, or_nil, or_app, or_b, len_b, take_b, drop_b, rep_b, app_b, List.length_append, List.length_take, List.length_drop, List.length_nil, List.drop_zero, List.take_length, List.nil_append, List.append_nil, Int.toNat_natCast, toNat_min, take_min, and_true, true_and, and_self]; omega)
    | (simp only [nil_b, rp_nil, rp_app, rp_b, or_nil, or_app, or_b, len_b, take_b, drop_b, rep_b, app_b, List.length_append, List.length_take, List.length_drop, List.length_nil, List.drop_zero, List.take_length, List.nil_append, List.append_nil, Int.toNat_natCast, toNat_min, take_min, and_true, true_and, and_self] at *; omega)
  all_goals try simp only [nil_b, rp_nil, rp_app, rp_b, or_nil, or_app, or_b, len_b, take_b, drop_b, rep_b, app_b, List.length_append, List.length_take, List.length_drop, List.length_nil, List.drop_zero, List.take_length, List.nil_append, List.append_nil, Int.toNat_natCast, toNat_min, take_min, and_true, true_and, and_self] at *
  all_goals simp only [cBegin, *, Ctl.v, V.agg.injEq, List.cons.injEq, and_true, true_and, false_or, if_false, if_true, reduceCtorEq, len_b]
  all_goals (refine bI ?_; rw [Bool.eq_iff_iff]; simp [Int.tmod_eq_emod_of_nonneg]; omega)
theorem c_refBegin (r : Req) (l : BS) (ok : Bool) : FnC Try.prog 11 [r.v, bsV l, bV ok] [] (cBegin r l ok).v [] := by
  obtain ⟨a, b, c, d, e⟩ := r
  refine fn_vcI (N := 53) (d := 6) tabOk mixed inl17_ok 3 Try.func11 rfl rfl rfl ?_
  repeat'
    (conv => whnf
     first
      | (exact trivial)
      | (refine And.intro (by with_reducible rfl) ?_)
      | (refine And.intro (drawI (by kernel_rfl)) ?_)
      | (refine andI ?_ ?_)
      | (refine condT (by assumption) ?_)
      | (refine condF (by assumption) ?_)
      | (refine decT (by assumption) ?_)
      | (refine decF (by assumption) ?_)
      | (refine eqT (by assumption) ?_)
      | (refine eqF (by assumption) ?_)
      | (refine neT (by assumption) ?_)
      | (refine neF (by assumption) ?_)
      | (refine cEq (fun h => ?_) (fun h => ?_))
      | (refine cNe (fun h => ?_) (fun h => ?_))
      | (refine cNot (fun h => ?_) (fun h => ?_))
      | (refine cDec (fun h => ?_) (fun h => ?_))
      | (refine condN_split (fun h => ?_) (fun h => ?_))
      | (refine Exists.intro _ (And.intro (c_refDir _ _ _ _ _) ?_))
      | (refine Or.inl (And.intro Cl.lit ?_))
      | (refine Or.inr ?_)
      | (refine Exists.intro 1 ?_))
  all_goals try refine Side.mk ?_
  all_goals try dsimp only at *
  all_goals try refine eqI ?_
  all_goals try (simp [cBegin, Ctl.v, cAt, byteRows, *]; done)
  all_goals (have he := dir_len (r := ⟨a, b, c, d, e⟩) (by assumption))
  all_goals simp only at he
  all_goals try first
    | omega
    | (simp only [nil_b, rp_nil, rp_app, rp_b, or_nil, or_app, or_b, len_b, take_b, drop_b, rep_b, app_b, List.length_append, List.length_take, List.length_drop, List.length_nil, List.drop_zero, List.take_length, List.nil_append, List.append_nil, Int.toNat_natCast, toNat_min, take_min, and_true, true_and, and_self]; done)
    | (simp only [nil_b, rp_nil, rp_app, rp_b, or_nil, or_app, or_b, len_b, take_b, drop_b, rep_b, app_b, List.length_append, List.length_take, List.length_drop, List.length_nil, List.drop_zero, List.take_length, List.nil_append, List.append_nil, Int.toNat_natCast, toNat_min, take_min, and_true, true_and, and_self]; omega)
    | (simp only [nil_b, rp_nil, rp_app, rp_b, or_nil, or_app, or_b, len_b, take_b, drop_b, rep_b, app_b, List.length_append, List.length_take, List.length_drop, List.length_nil, List.drop_zero, List.take_length, List.nil_append, List.append_nil, Int.toNat_natCast, toNat_min, take_min, and_true, true_and, and_self] at *; omega)
  all_goals try simp only [nil_b, rp_nil, rp_app, rp_b, or_nil, or_app, or_b, len_b, take_b, drop_b, rep_b, app_b, List.length_append, List.length_take, List.length_drop, List.length_nil, List.drop_zero, List.take_length, List.nil_append, List.append_nil, Int.toNat_natCast, toNat_min, take_min, and_true, true_and, and_self] at *
  all_goals try (have ht : List.take e.toNat l = l := List.take_of_length_le (by omega))
  all_goals simp only [cBegin, *, Ctl.v, V.agg.injEq, List.cons.injEq, and_true, true_and, false_or, if_false, if_true, reduceCtorEq, len_b]
  all_goals (refine bI ?_; rw [Bool.eq_iff_iff]; simp [Int.tmod_eq_emod_of_nonneg]; omega)

theorem min64 (n : Nat) : n - (min 64 n) = n - 64 := by omega
theorem drop_min64 (l : BS) : List.drop (min 64 l.length) l = List.drop 64 l := by
  rcases Nat.le_total 64 l.length with h | h
  · rw [Nat.min_eq_left h]
  · rw [Nat.min_eq_right h, List.drop_of_length_le h, List.drop_of_length_le (Nat.le_refl _)]
theorem c_in (c : Ctl) (ack : Bool) (hl : Side (c.data.length ≤ 2 ^ 40)) : FnC Try.prog 13 [c.v, bV ack] [] (.tup [(cIn c ack).v, (cInR c).v, bV (cInD c ack)]) [] := by
  have hl := hl.h
  obtain ⟨s, ⟨a, b, cc, d, e⟩, l, t, w⟩ := c
  simp only at hl
  refine fn_vcI (N := 41) (d := 6) tabOk mixed inl17_ok 3 Try.func13 rfl rfl rfl ?_
  repeat'
    (conv => whnf
     first
      | (exact trivial)
      | (refine And.intro (by with_reducible rfl) ?_)
      | (refine And.intro (drawI (by kernel_rfl)) ?_)
      | (refine andI ?_ ?_)
      | (refine condT (by assumption) ?_)
      | (refine condF (by assumption) ?_)
      | (refine decT (by assumption) ?_)
      | (refine decF (by assumption) ?_)
      | (refine eqT (by assumption) ?_)
      | (refine eqF (by assumption) ?_)
      | (refine neT (by assumption) ?_)
      | (refine neF (by assumption) ?_)
      | (refine cEq (fun h => ?_) (fun h => ?_))
      | (refine cNe (fun h => ?_) (fun h => ?_))
      | (refine cNot (fun h => ?_) (fun h => ?_))
      | (refine cDec (fun h => ?_) (fun h => ?_))
      | (refine condN_split (fun h => ?_) (fun h => ?_))
      | (refine Exists.intro _ (And.intro (c_ctlRight ⟨_, ⟨_, _, _, _, _⟩, _, _, _⟩) ?_))
      | (refine Exists.intro _ (And.intro (c_clone _ ?_ ?_ ?_) ?_))
      | (refine Or.inl (And.intro Cl.lit ?_))
      | (refine Or.inr ?_)
      | (refine Exists.intro 1 ?_))
  all_goals try refine Side.mk ?_
  all_goals try dsimp only at *
  all_goals try refine eqI ?_
  all_goals try first
    | omega
    | (simp only [nil_b, rp_nil, rp_app, rp_b, or_nil, or_app, or_b, len_b, take_b, drop_b, rep_b, app_b, List.length_append, List.length_take, List.length_drop, List.length_nil, List.drop_zero, List.take_length, List.nil_append, List.append_nil, Int.toNat_natCast, toNat_min, take_min, and_true, true_and, and_self]; done)
    | (simp only [nil_b, rp_nil, rp_app, rp_b, or_nil, or_app, or_b, len_b, take_b, drop_b, rep_b, app_b, List.length_append, List.length_take, List.length_drop, List.length_nil, List.drop_zero, List.take_length, List.nil_append, List.append_nil, Int.toNat_natCast, toNat_min, take_min, and_true, true_and, and_self]; omega)
    | (simp only [nil_b, rp_nil, rp_app, rp_b, or_nil, or_app, or_b, len_b, take_b, drop_b, rep_b, app_b, List.length_append, List.length_take, List.length_drop, List.length_nil, List.drop_zero, List.take_length, List.nil_append, List.append_nil, Int.toNat_natCast, toNat_min, take_min, and_true, true_and, and_self] at *; omega)
  all_goals try simp only [nil_b, rp_nil, rp_app, rp_b, or_nil, or_app, or_b, len_b, take_b, drop_b, rep_b, app_b, List.length_append, List.length_take, List.length_drop, List.length_nil, List.drop_zero, List.take_length, List.nil_append, List.append_nil, Int.toNat_natCast, toNat_min, take_min, and_true, true_and, and_self, Int.reduceToNat, drop_min64] at *
  all_goals try (simp only [cIn, cInR, cInD, cZero, cAt, *, if_true, if_false, reduceCtorEq, Ctl.v, Rpl.v]; first | done | rfl)
  all_goals try (subst_vars; simp only [cIn, cInR, cInD, cNext, cZero, cAt, *, if_true, if_false, reduceCtorEq, Ctl.v, Rpl.v]; first | done | rfl)
  all_goals (have ht : t = 0 ∨ t = 1 := by have := ((Ctl.ok_iff _).1 (by assumption)).2.2.1; simpa using this)
  all_goals try rw [xor_one ht]
  all_goals subst_vars
  all_goals (by_cases h1 : 64 < l.length <;> by_cases h2 : 0 < l.length <;> first | (exfalso; omega) | simp [cIn, cInR, cInD, cNext, cZero, cAt, *, Ctl.v, Rpl.v])
  all_goals simp [byteRows]
theorem c_refIn (c : Ctl) (ack : Bool) : FnC Try.prog 14 [c.v, bV ack] [] (.tup [(cIn c ack).v, (cInR c).v, bV (cInD c ack)]) [] := by
  obtain ⟨s, ⟨a, b, cc, d, e⟩, l, t, w⟩ := c
  refine fn_vcI (N := 76) (d := 7) tabOk mixed inl17_ok 3 Try.func14 rfl rfl rfl ?_
  repeat'
    (conv => whnf
     first
      | (exact trivial)
      | (refine And.intro (by with_reducible rfl) ?_)
      | (refine And.intro (drawI (by kernel_rfl)) ?_)
      | (refine andI ?_ ?_)
      | (refine condT (by assumption) ?_)
      | (refine condF (by assumption) ?_)
      | (refine decT (by assumption) ?_)
      | (refine decF (by assumption) ?_)
      | (refine eqT (by assumption) ?_)
      | (refine eqF (by assumption) ?_)
      | (refine neT (by assumption) ?_)
      | (refine neF (by assumption) ?_)
      | (refine cEq (fun h => ?_) (fun h => ?_))
      | (refine cNe (fun h => ?_) (fun h => ?_))
      | (refine cNot (fun h => ?_) (fun h => ?_))
      | (refine cDec (fun h => ?_) (fun h => ?_))
      | (refine condN_split (fun h => ?_) (fun h => ?_))
      | (refine Exists.intro _ (And.intro (c_refRight ⟨_, ⟨_, _, _, _, _⟩, _, _, _⟩) ?_))
      | (refine Or.inl (And.intro Cl.lit ?_))
      | (refine Or.inr ?_)
      | (refine Exists.intro 1 ?_))
  all_goals try refine Side.mk ?_
  all_goals try dsimp only at *
  all_goals try refine eqI ?_
  all_goals try first
    | omega
    | (simp only [nil_b, rp_nil, rp_app, rp_b, or_nil, or_app, or_b, len_b, take_b, drop_b, rep_b, app_b, List.length_append, List.length_take, List.length_drop, List.length_nil, List.drop_zero, List.take_length, List.nil_append, List.append_nil, Int.toNat_natCast, toNat_min, take_min, and_true, true_and, and_self]; done)
    | (simp only [nil_b, rp_nil, rp_app, rp_b, or_nil, or_app, or_b, len_b, take_b, drop_b, rep_b, app_b, List.length_append, List.length_take, List.length_drop, List.length_nil, List.drop_zero, List.take_length, List.nil_append, List.append_nil, Int.toNat_natCast, toNat_min, take_min, and_true, true_and, and_self]; omega)
    | (simp only [nil_b, rp_nil, rp_app, rp_b, or_nil, or_app, or_b, len_b, take_b, drop_b, rep_b, app_b, List.length_append, List.length_take, List.length_drop, List.length_nil, List.drop_zero, List.take_length, List.nil_append, List.append_nil, Int.toNat_natCast, toNat_min, take_min, and_true, true_and, and_self] at *; omega)
  all_goals try simp only [nil_b, rp_nil, rp_app, rp_b, or_nil, or_app, or_b, len_b, take_b, drop_b, rep_b, app_b, List.length_append, List.length_take, List.length_drop, List.length_nil, List.drop_zero, List.take_length, List.nil_append, List.append_nil, Int.toNat_natCast, toNat_min, take_min, and_true, true_and, and_self, Int.reduceToNat, drop_min64] at *
  all_goals try (simp only [cIn, cInR, cInD, cZero, cAt, *, if_true, if_false, reduceCtorEq, Ctl.v, Rpl.v]; first | done | rfl)
  all_goals try (subst_vars; simp only [cIn, cInR, cInD, cNext, cZero, cAt, *, if_true, if_false, reduceCtorEq, Ctl.v, Rpl.v]; first | done | rfl)
  all_goals (have ht : t = 0 ∨ t = 1 := by have := ((Ctl.ok_iff _).1 (by assumption)).2.2.1; simpa using this)
  all_goals try rw [show IntKind.i64.wrap (1 - t) = 1 - t by rcases ht with rfl | rfl <;> rfl]
  all_goals subst_vars
  all_goals (by_cases h1 : 64 < l.length <;> by_cases h2 : 0 < l.length <;> first | (exfalso; omega) | skip)
  all_goals try (have h64 : List.take 64 l = l := List.take_of_length_le (by omega))
  all_goals try (have h64' : List.drop 64 l = [] := List.drop_of_length_le (by omega))
  all_goals try (have h0 : l = [] := List.length_eq_zero_iff.1 (by omega))
  all_goals try subst h0
  all_goals simp [cIn, cInR, cInD, cNext, cZero, cAt, *, Ctl.v, Rpl.v, nil_b]
attribute [local irreducible] cIn cInR cInD cStat
theorem gt64 (n : Nat) : ((n : Int) > 64) = (n > 64) := by simp only [gt_iff_lt, eq_iff_iff]; omega
theorem eq0 (n : Nat) : ((n : Int) = 0) = (n = 0) := by simp
theorem c_out (c : Ctl) (x : Evt) : FnC Try.prog 18 [c.v, x.v] [] (.tup [(cOut c x).v, (cOutR c x).v]) [] := by
  obtain ⟨s, ⟨a, b, cc, d, e⟩, l, t, w⟩ := c
  obtain ⟨k, ad, ep, sr, tg, ak, lu, n, xd⟩ := x
  refine fn_vcI (N := 34) (d := 6) tabOk mixed inl17_ok 3 Try.func18 rfl rfl rfl ?_
  repeat'
    (conv => whnf
     first
      | (exact trivial)
      | (refine And.intro (by with_reducible rfl) ?_)
      | (refine And.intro (drawI (by kernel_rfl)) ?_)
      | (refine andI ?_ ?_)
      | (refine condT (by assumption) ?_)
      | (refine condF (by assumption) ?_)
      | (refine decT (by assumption) ?_)
      | (refine decF (by assumption) ?_)
      | (refine eqT (by assumption) ?_)
      | (refine eqF (by assumption) ?_)
      | (refine neT (by assumption) ?_)
      | (refine neF (by assumption) ?_)
      | (refine cEq (fun h => ?_) (fun h => ?_))
      | (refine cNe (fun h => ?_) (fun h => ?_))
      | (refine cNot (fun h => ?_) (fun h => ?_))
      | (refine cDec (fun h => ?_) (fun h => ?_))
      | (refine condN_split (fun h => ?_) (fun h => ?_))
      | (refine Exists.intro _ (And.intro (c_ctlRight ⟨_, ⟨_, _, _, _, _⟩, _, _, _⟩) ?_))
      | (refine Or.inl (And.intro Cl.lit ?_))
      | (refine Or.inr ?_)
      | (refine Exists.intro 1 ?_))
  all_goals try refine Side.mk ?_
  all_goals try dsimp only at *
  all_goals try refine eqI ?_
  all_goals try simp only [len_b, gt64, eq0, ne_eq] at *
  all_goals try subst_vars
  all_goals first
    | (exfalso; omega)
    | simp [cOut, cOutR, cStat, cZero, cAt, *, Ctl.v, Rpl.v, nil_b]
theorem c_refOut (c : Ctl) (x : Evt) : FnC Try.prog 19 [c.v, x.v] [] (.tup [(cOut c x).v, (cOutR c x).v]) [] := by
  obtain ⟨s, ⟨a, b, cc, d, e⟩, l, t, w⟩ := c
  obtain ⟨k, ad, ep, sr, tg, ak, lu, n, xd⟩ := x
  refine fn_vcI (N := 52) (d := 6) tabOk mixed inl17_ok 3 Try.func19 rfl rfl rfl ?_
  repeat'
    (conv => whnf
     first
      | (exact trivial)
      | (refine And.intro (by with_reducible rfl) ?_)
      | (refine And.intro (drawI (by kernel_rfl)) ?_)
      | (refine andI ?_ ?_)
      | (refine condT (by assumption) ?_)
      | (refine condF (by assumption) ?_)
      | (refine decT (by assumption) ?_)
      | (refine decF (by assumption) ?_)
      | (refine eqT (by assumption) ?_)
      | (refine eqF (by assumption) ?_)
      | (refine neT (by assumption) ?_)
      | (refine neF (by assumption) ?_)
      | (refine cEq (fun h => ?_) (fun h => ?_))
      | (refine cNe (fun h => ?_) (fun h => ?_))
      | (refine cNot (fun h => ?_) (fun h => ?_))
      | (refine cDec (fun h => ?_) (fun h => ?_))
      | (refine condN_split (fun h => ?_) (fun h => ?_))
      | (refine Exists.intro _ (And.intro (c_refRight ⟨_, ⟨_, _, _, _, _⟩, _, _, _⟩) ?_))
      | (refine Or.inl (And.intro Cl.lit ?_))
      | (refine Or.inr ?_)
      | (refine Exists.intro 1 ?_))
  all_goals try refine Side.mk ?_
  all_goals try dsimp only at *
  all_goals try refine eqI ?_
  all_goals try simp only [len_b, gt64, eq0, ne_eq] at *
  all_goals try subst_vars
  all_goals try (exfalso; omega)
  all_goals try (simp [cOut, cOutR, cStat, cZero, cAt, *, Ctl.v, Rpl.v, nil_b]; done)
  all_goals (have hs := (Ctl.ok_iff _).1 (by assumption))
  all_goals (have hs : s = 2 ∨ s = 4 := by simp only at hs; omega)
  all_goals (rcases hs with rfl | rfl <;> simp [cOut, cOutR, cStat, cZero, cAt, *, Ctl.v, Rpl.v, nil_b])

def Rpl.same (a b : Rpl) : Bool := decide (a.kind = b.kind) && (decide (a.tog = b.tog) && (a.data == b.data))
theorem c_replies (r q : Rpl) : FnC Try.prog 15 [r.v, q.v] [] (bV (r.same q)) [] := by
  refine fn_vcI (N := 26) (d := 5) tabOk mixed inl17_ok 3 Try.func15 rfl rfl rfl ?_
  repeat'
    (conv => whnf
     first
      | (exact trivial)
      | (refine And.intro (by with_reducible rfl) ?_)
      | (refine And.intro (drawI (by kernel_rfl)) ?_)
      | (refine andI ?_ ?_)
      | (refine condT (by assumption) ?_)
      | (refine condF (by assumption) ?_)
      | (refine decT (by assumption) ?_)
      | (refine decF (by assumption) ?_)
      | (refine eqT (by assumption) ?_)
      | (refine eqF (by assumption) ?_)
      | (refine neT (by assumption) ?_)
      | (refine neF (by assumption) ?_)
      | (refine cEq (fun h => ?_) (fun h => ?_))
      | (refine cNe (fun h => ?_) (fun h => ?_))
      | (refine cNot (fun h => ?_) (fun h => ?_))
      | (refine cDec (fun h => ?_) (fun h => ?_))
      | (refine condN_split (fun h => ?_) (fun h => ?_))
      | (refine Exists.intro _ (And.intro rfl ?_))
      | (refine Or.inl (And.intro Cl.lit ?_))
      | (refine Or.inr ?_)
      | (refine Exists.intro 1 ?_))
  all_goals try refine Side.mk ?_
  all_goals try dsimp only at *
  all_goals try refine eqI ?_
  all_goals refine bI ?_
  all_goals simp [Rpl.same, eq_str, *]
theorem eq_req : EqFlat Try.prog 23 [true, true, true, true, true] := eqFlat_of (by kernel_rfl) (by kernel_rfl) (by kernel_rfl) (by kernel_rfl)
def Req.same (r q : Req) : Bool := (r.ty == q.ty) && ((r.code == q.code) && ((r.val == q.val) && ((r.idx == q.idx) && ((r.len == q.len) && true))))
theorem Req.same_iff (r q : Req) : r.same q = true ↔ r = q := by
  obtain ⟨a, b, c, d, e⟩ := r
  obtain ⟨a', b', c', d', e'⟩ := q
  simp [Req.same]
def Ctl.same (a b : Ctl) : Bool := decide (a.st = b.st) && (a.req.same b.req && (decide (a.tog = b.tog) && ((a.wait == b.wait) && (a.data == b.data))))
theorem Ctl.same_iff (a b : Ctl) : a.same b = true ↔ a = b := by
  obtain ⟨s, r, l, t, w⟩ := a
  obtain ⟨s', r', l', t', w'⟩ := b
  simp only [Ctl.same, Bool.and_eq_true, decide_eq_true_eq, Req.same_iff, beq_iff_eq, Ctl.mk.injEq]
  exact ⟨fun ⟨a, b, c, d, e⟩ => ⟨a, b, e, c, d⟩, fun ⟨a, b, c, d, e⟩ => ⟨a, b, d, e, c⟩⟩
theorem Rpl.same_iff (a b : Rpl) : a.same b = true ↔ a = b := by
  obtain ⟨s, r, l⟩ := a
  obtain ⟨s', r', l'⟩ := b
  simp [Rpl.same]
theorem Ctl.same_self (a : Ctl) : a.same a = true := (Ctl.same_iff a a).2 rfl
theorem Rpl.same_self (a : Rpl) : a.same a = true := (Rpl.same_iff a a).2 rfl
theorem c_same (c k : Ctl) : FnC Try.prog 9 [c.v, k.v] [] (bV (c.same k)) [] := by
  refine fn_vcI (N := 40) (d := 6) tabOk mixed inl17_ok 3 Try.func9 rfl rfl rfl ?_
  repeat'
    (conv => whnf
     first
      | (exact trivial)
      | (refine And.intro (by with_reducible rfl) ?_)
      | (refine And.intro (drawI (by kernel_rfl)) ?_)
      | (refine andI ?_ ?_)
      | (refine condT (by assumption) ?_)
      | (refine condF (by assumption) ?_)
      | (refine decT (by assumption) ?_)
      | (refine decF (by assumption) ?_)
      | (refine eqT (by assumption) ?_)
      | (refine eqF (by assumption) ?_)
      | (refine neT (by assumption) ?_)
      | (refine neF (by assumption) ?_)
      | (refine cEq (fun h => ?_) (fun h => ?_))
      | (refine cNe (fun h => ?_) (fun h => ?_))
      | (refine cNot (fun h => ?_) (fun h => ?_))
      | (refine cDec (fun h => ?_) (fun h => ?_))
      | (refine condN_split (fun h => ?_) (fun h => ?_))
      | (refine Exists.intro _ (And.intro eq_req ?_))
      | (refine Exists.intro _ (And.intro rfl ?_))
      | (refine Or.inl (And.intro Cl.lit ?_))
      | (refine Or.inr ?_)
      | (refine Exists.intro 1 ?_))
  all_goals try refine Side.mk ?_
  all_goals try dsimp only at *
  all_goals try refine eqI ?_
  all_goals refine bI ?_
  all_goals simp_all [Ctl.same, eq_str, Req.same]
theorem c_copy (c : Ctl) (hl : Side (c.data.length ≤ 2 ^ 40)) : FnC Try.prog 12 [c.v] [] c.v [] := by
  have hl := hl.h
  refine fn_vcI (N := 9) (d := 4) tabOk mixed inl17_ok 3 Try.func12 rfl rfl rfl ?_
  repeat'
    (conv => whnf
     first
      | (exact trivial)
      | (refine And.intro (by with_reducible rfl) ?_)
      | (refine And.intro (drawI (by kernel_rfl)) ?_)
      | (refine andI ?_ ?_)
      | (refine condT (by assumption) ?_)
      | (refine condF (by assumption) ?_)
      | (refine decT (by assumption) ?_)
      | (refine decF (by assumption) ?_)
      | (refine eqT (by assumption) ?_)
      | (refine eqF (by assumption) ?_)
      | (refine neT (by assumption) ?_)
      | (refine neF (by assumption) ?_)
      | (refine cEq (fun h => ?_) (fun h => ?_))
      | (refine cNe (fun h => ?_) (fun h => ?_))
      | (refine cNot (fun h => ?_) (fun h => ?_))
      | (refine cDec (fun h => ?_) (fun h => ?_))
      | (refine condN_split (fun h => ?_) (fun h => ?_))
      | (refine Or.inl (And.intro Cl.lit ?_))
      | (refine Or.inr ?_)
      | (refine Exists.intro 1 ?_))
  all_goals try refine Side.mk ?_
  all_goals try dsimp only at *
  all_goals try refine eqI ?_
  all_goals try first
    | omega
    | (simp only [nil_b, rp_nil, rp_app, rp_b, or_nil, or_app, or_b, len_b, take_b, drop_b, rep_b, app_b, List.length_append, List.length_take, List.length_drop, List.length_nil, List.drop_zero, List.take_length, List.nil_append, List.append_nil, Int.toNat_natCast, toNat_min, take_min, and_true, true_and, and_self]; done)
    | (simp only [nil_b, rp_nil, rp_app, rp_b, or_nil, or_app, or_b, len_b, take_b, drop_b, rep_b, app_b, List.length_append, List.length_take, List.length_drop, List.length_nil, List.drop_zero, List.take_length, List.nil_append, List.append_nil, Int.toNat_natCast, toNat_min, take_min, and_true, true_and, and_self]; omega)
    | (simp only [nil_b, rp_nil, rp_app, rp_b, or_nil, or_app, or_b, len_b, take_b, drop_b, rep_b, app_b, List.length_append, List.length_take, List.length_drop, List.length_nil, List.drop_zero, List.take_length, List.nil_append, List.append_nil, Int.toNat_natCast, toNat_min, take_min, and_true, true_and, and_self] at *; omega)
  all_goals simp [nil_b, rp_nil, rp_app, rp_b, or_nil, or_app, or_b, len_b, take_b, drop_b, rep_b, app_b, List.length_append, List.length_take, List.length_drop, List.length_nil, List.drop_zero, List.take_length, List.nil_append, List.append_nil, Int.toNat_natCast, toNat_min, take_min, and_true, true_and, and_self, Ctl.v]
end Go.Proofs.Ytjgconnmejkcfaa
