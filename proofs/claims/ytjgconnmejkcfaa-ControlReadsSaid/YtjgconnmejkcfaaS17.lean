/-
  Control transfers (layer 17): the statements of the laws.
-/
import Derived.Test.YtjgconnmejkcfaaB1
import Derived.Test.YtjgconnmejkcfaaC17r
namespace Go.Proofs.Ytjgconnmejkcfaa
open Go Go.ChangeShapes Go.WideShapes Go.ChangeAt Go.RowKit
set_option linter.unusedVariables false
set_option linter.unusedSimpArgs false
set_option maxRecDepth 100000

theorem open_Req {n : Nat} {xs : List V} (h : Ty Try.prog (n + 2) 23 xs) : ∃ x : Req, xs = x.row ∧ x.wf := by
  have h := ty_struct (n := n + 1) Try.underlying23 h
  obtain ⟨p0, q0, rfl, h0, h⟩ := tyFs_cons h
  obtain ⟨p1, q1, rfl, h1, h⟩ := tyFs_cons h
  obtain ⟨p2, q2, rfl, h2, h⟩ := tyFs_cons h
  obtain ⟨p3, q3, rfl, h3, h⟩ := tyFs_cons h
  obtain ⟨p4, q4, rfl, h4, h⟩ := tyFs_cons h
  obtain rfl := tyFs_nil h
  obtain ⟨z0, rfl, l0, u0⟩ := ty_int (n := n + 0) Try.underlying3 h0
  obtain ⟨z1, rfl, l1, u1⟩ := ty_int (n := n + 0) Try.underlying3 h1
  obtain ⟨z2, rfl, l2, u2⟩ := ty_int (n := n + 0) Try.underlying3 h2
  obtain ⟨z3, rfl, l3, u3⟩ := ty_int (n := n + 0) Try.underlying3 h3
  obtain ⟨z4, rfl, l4, u4⟩ := ty_int (n := n + 0) Try.underlying3 h4
  exact ⟨⟨z0, z1, z2, z3, z4⟩, rfl, ⟨bnd_i64 l0 u0, bnd_i64 l1 u1, bnd_i64 l2 u2, bnd_i64 l3 u3, bnd_i64 l4 u4⟩⟩
theorem open_Ctl {n : Nat} {xs : List V} (h : Ty Try.prog (n + 3) 28 xs) : ∃ x : Ctl, xs = x.row ∧ x.wf := by
  have h := ty_struct (n := n + 2) Try.underlying28 h
  obtain ⟨p0, q0, rfl, h0, h⟩ := tyFs_cons h
  obtain ⟨p1, q1, rfl, h1, h⟩ := tyFs_cons h
  obtain ⟨p2, q2, rfl, h2, h⟩ := tyFs_cons h
  obtain ⟨p3, q3, rfl, h3, h⟩ := tyFs_cons h
  obtain ⟨p4, q4, rfl, h4, h⟩ := tyFs_cons h
  obtain rfl := tyFs_nil h
  obtain ⟨z0, rfl, l0, u0⟩ := ty_int (n := n + 1) Try.underlying3 h0
  obtain ⟨z1, rfl, w1⟩ := open_Req (n := n + 0) h1
  obtain ⟨z2, rfl, w2⟩ := open_bytes (n := n + 0) (by kernel_rfl) Try.underlying24 Try.underlying5 h2
  obtain ⟨z3, rfl, l3, u3⟩ := ty_int (n := n + 1) Try.underlying3 h3
  obtain ⟨z4, rfl⟩ := ty_bool (n := n + 1) Try.underlying4 h4
  exact ⟨⟨z0, z1, z2, z3, z4⟩, rfl, ⟨bnd_i64 l0 u0, w1, w2, bnd_i64 l3 u3⟩⟩
theorem open_Evt {n : Nat} {xs : List V} (h : Ty Try.prog (n + 3) 41 xs) : ∃ x : Evt, xs = x.row ∧ x.wf := by
  have h := ty_struct (n := n + 2) Try.underlying41 h
  obtain ⟨p0, q0, rfl, h0, h⟩ := tyFs_cons h
  obtain ⟨p1, q1, rfl, h1, h⟩ := tyFs_cons h
  obtain ⟨p2, q2, rfl, h2, h⟩ := tyFs_cons h
  obtain ⟨p3, q3, rfl, h3, h⟩ := tyFs_cons h
  obtain ⟨p4, q4, rfl, h4, h⟩ := tyFs_cons h
  obtain ⟨p5, q5, rfl, h5, h⟩ := tyFs_cons h
  obtain ⟨p6, q6, rfl, h6, h⟩ := tyFs_cons h
  obtain ⟨p7, q7, rfl, h7, h⟩ := tyFs_cons h
  obtain ⟨p8, q8, rfl, h8, h⟩ := tyFs_cons h
  obtain rfl := tyFs_nil h
  obtain ⟨z0, rfl, l0, u0⟩ := ty_int (n := n + 1) Try.underlying3 h0
  obtain ⟨z1, rfl, l1, u1⟩ := ty_int (n := n + 1) Try.underlying3 h1
  obtain ⟨z2, rfl, l2, u2⟩ := ty_int (n := n + 1) Try.underlying3 h2
  obtain ⟨z3, rfl, l3, u3⟩ := ty_int (n := n + 1) Try.underlying3 h3
  obtain ⟨z4, rfl, l4, u4⟩ := ty_int (n := n + 1) Try.underlying3 h4
  obtain ⟨z5, rfl⟩ := ty_bool (n := n + 1) Try.underlying4 h5
  obtain ⟨z6, rfl, l6, u6⟩ := ty_int (n := n + 1) Try.underlying3 h6
  obtain ⟨z7, rfl, l7, u7⟩ := ty_int (n := n + 1) Try.underlying39 h7
  obtain ⟨z8, rfl, w8⟩ := open_bytes (n := n + 0) (by kernel_rfl) Try.underlying24 Try.underlying5 h8
  exact ⟨⟨z0, z1, z2, z3, z4, z5, z6, z7, z8⟩, rfl, ⟨bnd_i64 l0 u0, bnd_i64 l1 u1, bnd_i64 l2 u2, bnd_i64 l3 u3, bnd_i64 l4 u4, bnd_i64 l6 u6, bnd_u64 l7 u7, w8⟩⟩

set_option maxRecDepth 100000 in
theorem controlBegins_lifted (os : Os) (started : os.Started) (H : Type) (enc : TypeId × Value → H) :
    ReturnsInHanded {} Try.checked os 3 .any (Rows.controlBeginsSpec.pre6 enc Try.prog Try.f3 Rows.controlBeginsRow.domain false) (Rows.controlBeginsSpec.post enc Try.prog Try.f3 false true false false) := by
  refine returnsInHanded_of_change (C := Try.checked) own started (by kernel_rfl) Try.func3
    (ChangeSpec.witness6 (enc := enc) (C := Try.checked) false ⟨#[], #[.agg #[.int .i64 0, .int .i64 0, .int .i64 0, .int .i64 0, .int .i64 0], .slice none 0 0, .bool false], []⟩ 12 (by kernel_rfl) (by kernel_rfl) (by kernel_rfl) (by kernel_rfl)) ?_
  intro W base args ds gs before hval hW _ _
  refine law_calls (tb := 4) rfl (fun ds h => by
    match ds, h with
    | [d0, d1, d2], _ => rfl) rfl Try.underlying4 (by kernel_rfl) (fun xs hx => ?_) hval hW
  have hx0 : TysV Try.prog [23, 24, 4] xs := hx
  obtain ⟨x0, ys0, rfl, t0, hx1⟩ := tysV_cons hx0
  obtain ⟨c0, rfl, b0⟩ := tyV_agg (by kernel_rfl) t0
  obtain ⟨z0, rfl, w0⟩ := open_Req (n := 10) b0
  obtain ⟨x1, ys1, rfl, t1, hx2⟩ := tysV_cons hx1
  have b1 := tyV_one (by kernel_rfl) t1
  obtain ⟨z1, e1, w1⟩ := open_bytes (n := 10) (by kernel_rfl) Try.underlying24 Try.underlying5 b1
  obtain rfl := (List.cons.inj e1).1
  obtain ⟨x2, ys2, rfl, t2, hx3⟩ := tysV_cons hx2
  have b2 := tyV_one (by kernel_rfl) t2
  obtain ⟨z2, e2⟩ := ty_bool (n := 11) Try.underlying4 b2
  obtain rfl := (List.cons.inj e2).1
  obtain rfl := tysV_nil hx3
  exact c_begins z0 z1 z2
theorem controlBegins_holds : Rows.ControlBeginsSaid :=
  OpenClaim.holds_of_wide 3 Try.f3 rfl rfl rfl rfl rfl rfl rfl ⟨rfl, rfl, rfl, rfl, rfl⟩ rfl rfl rfl rfl rfl (by kernel_rfl) Try.func3 (by kernel_rfl)
    (of_decide_eq_true (by kernel_rfl)) (by unfold Func.isWrapper; first | (rw [if_pos (by decide +kernel)]; kernel_rfl) | (rw [if_neg (by decide +kernel)]; exact ⟨rfl, rfl⟩))
    (fun os started H enc _ => controlBegins_lifted os started H enc)
set_option maxRecDepth 100000 in
theorem controlAsks_lifted (os : Os) (started : os.Started) (H : Type) (enc : TypeId × Value → H) :
    ReturnsInHanded {} Try.checked os 4 .any (Rows.controlAsksSpec.pre6 enc Try.prog Try.f4 Rows.controlAsksRow.domain false) (Rows.controlAsksSpec.post enc Try.prog Try.f4 false true false false) := by
  refine returnsInHanded_of_change (C := Try.checked) own started (by kernel_rfl) Try.func4
    (ChangeSpec.witness6 (enc := enc) (C := Try.checked) false ⟨#[], #[.agg #[.int .i64 0, .int .i64 0, .int .i64 0, .int .i64 0, .int .i64 0, .int .i64 0, .slice none 0 0, .int .i64 0, .bool false], .bool false], []⟩ 12 (by kernel_rfl) (by kernel_rfl) (by kernel_rfl) (by kernel_rfl)) ?_
  intro W base args ds gs before hval hW _ _
  refine law_calls (tb := 4) rfl (fun ds h => by
    match ds, h with
    | [d0, d1], _ => rfl) rfl Try.underlying4 (by kernel_rfl) (fun xs hx => ?_) hval hW
  have hx0 : TysV Try.prog [28, 4] xs := hx
  obtain ⟨x0, ys0, rfl, t0, hx1⟩ := tysV_cons hx0
  obtain ⟨c0, rfl, b0⟩ := tyV_agg (by kernel_rfl) t0
  obtain ⟨z0, rfl, w0⟩ := open_Ctl (n := 9) b0
  obtain ⟨x1, ys1, rfl, t1, hx2⟩ := tysV_cons hx1
  have b1 := tyV_one (by kernel_rfl) t1
  obtain ⟨z1, e1⟩ := ty_bool (n := 11) Try.underlying4 b1
  obtain rfl := (List.cons.inj e1).1
  obtain rfl := tysV_nil hx2
  exact c_asks z0 z1
theorem controlAsks_holds : Rows.ControlAsksSaid :=
  OpenClaim.holds_of_wide 4 Try.f4 rfl rfl rfl rfl rfl rfl rfl ⟨rfl, rfl, rfl, rfl, rfl⟩ rfl rfl rfl rfl rfl (by kernel_rfl) Try.func4 (by kernel_rfl)
    (of_decide_eq_true (by kernel_rfl)) (by unfold Func.isWrapper; first | (rw [if_pos (by decide +kernel)]; kernel_rfl) | (rw [if_neg (by decide +kernel)]; exact ⟨rfl, rfl⟩))
    (fun os started H enc _ => controlAsks_lifted os started H enc)
set_option maxRecDepth 100000 in
theorem controlTakes_lifted (os : Os) (started : os.Started) (H : Type) (enc : TypeId × Value → H) :
    ReturnsInHanded {} Try.checked os 5 .any (Rows.controlTakesSpec.pre6 enc Try.prog Try.f5 Rows.controlTakesRow.domain false) (Rows.controlTakesSpec.post enc Try.prog Try.f5 false true false false) := by
  refine returnsInHanded_of_change (C := Try.checked) own started (by kernel_rfl) Try.func5
    (ChangeSpec.witness6 (enc := enc) (C := Try.checked) false ⟨#[], #[.agg #[.int .i64 0, .int .i64 0, .int .i64 0, .int .i64 0, .int .i64 0, .int .i64 0, .slice none 0 0, .int .i64 0, .bool false], .agg #[.int .i64 0, .int .i64 0, .int .i64 0, .int .i64 0, .int .i64 0, .bool false, .int .i64 0, .int .u64 0, .slice none 0 0]], []⟩ 12 (by kernel_rfl) (by kernel_rfl) (by kernel_rfl) (by kernel_rfl)) ?_
  intro W base args ds gs before hval hW _ _
  refine law_calls (tb := 4) rfl (fun ds h => by
    match ds, h with
    | [d0, d1], _ => rfl) rfl Try.underlying4 (by kernel_rfl) (fun xs hx => ?_) hval hW
  have hx0 : TysV Try.prog [28, 41] xs := hx
  obtain ⟨x0, ys0, rfl, t0, hx1⟩ := tysV_cons hx0
  obtain ⟨c0, rfl, b0⟩ := tyV_agg (by kernel_rfl) t0
  obtain ⟨z0, rfl, w0⟩ := open_Ctl (n := 9) b0
  obtain ⟨x1, ys1, rfl, t1, hx2⟩ := tysV_cons hx1
  obtain ⟨c1, rfl, b1⟩ := tyV_agg (by kernel_rfl) t1
  obtain ⟨z1, rfl, w1⟩ := open_Evt (n := 9) b1
  obtain rfl := tysV_nil hx2
  exact c_takes z0 z1
theorem controlTakes_holds : Rows.ControlTakesSaid :=
  OpenClaim.holds_of_wide 5 Try.f5 rfl rfl rfl rfl rfl rfl rfl ⟨rfl, rfl, rfl, rfl, rfl⟩ rfl rfl rfl rfl rfl (by kernel_rfl) Try.func5 (by kernel_rfl)
    (of_decide_eq_true (by kernel_rfl)) (by unfold Func.isWrapper; first | (rw [if_pos (by decide +kernel)]; kernel_rfl) | (rw [if_neg (by decide +kernel)]; exact ⟨rfl, rfl⟩))
    (fun os started H enc _ => controlTakes_lifted os started H enc)
theorem open_LCall {n : Nat} {xs : List V} (h : Ty Try.prog (n + 3) 52 xs) : ∃ x : LCall, xs = x.row ∧ x.wf := by
  have h := ty_struct (n := n + 2) Try.underlying52 h
  obtain ⟨p0, q0, rfl, h0, h⟩ := tyFs_cons h
  obtain ⟨p1, q1, rfl, h1, h⟩ := tyFs_cons h
  obtain ⟨p2, q2, rfl, h2, h⟩ := tyFs_cons h
  obtain ⟨p3, q3, rfl, h3, h⟩ := tyFs_cons h
  obtain rfl := tyFs_nil h
  obtain ⟨z0, rfl⟩ := ty_bool (n := n + 1) Try.underlying4 h0
  obtain ⟨z1, rfl⟩ := ty_bool (n := n + 1) Try.underlying4 h1
  obtain ⟨z2, rfl, w2⟩ := open_bytes (n := n + 0) (by kernel_rfl) Try.underlying24 Try.underlying5 h2
  obtain ⟨z3, rfl, l3, u3⟩ := ty_int (n := n + 1) Try.underlying3 h3
  exact ⟨⟨z0, z1, z2, z3⟩, rfl, ⟨w2, bnd_i64 l3 u3⟩⟩
set_option maxRecDepth 100000 in
theorem controlFails_lifted (os : Os) (started : os.Started) (H : Type) (enc : TypeId × Value → H) :
    ReturnsInHanded {} Try.checked os 7 .any (Rows.controlFailsSpec.pre6 enc Try.prog Try.f7 Rows.controlFailsRow.domain false) (Rows.controlFailsSpec.post enc Try.prog Try.f7 false true false false) := by
  refine returnsInHanded_of_change (C := Try.checked) own started (by kernel_rfl) Try.func7
    (ChangeSpec.witness6 (enc := enc) (C := Try.checked) false ⟨#[], #[.agg #[.int .i64 0, .int .i64 0, .int .i64 0, .int .i64 0, .int .i64 0], .slice none 0 0, .slice none 0 0], []⟩ 12 (by kernel_rfl) (by kernel_rfl) (by kernel_rfl) (by kernel_rfl)) ?_
  intro W base args ds gs before hval hW _ _
  refine law_calls (tb := 4) rfl (fun ds h => by
    match ds, h with
    | [d0, d1, d2], _ => rfl) rfl Try.underlying4 (by kernel_rfl) (fun xs hx => ?_) hval hW
  have hx0 : TysV Try.prog [23, 24, 50] xs := hx
  obtain ⟨x0, ys0, rfl, t0, hx1⟩ := tysV_cons hx0
  obtain ⟨c0, rfl, b0⟩ := tyV_agg (by kernel_rfl) t0
  obtain ⟨z0, rfl, w0⟩ := open_Req (n := 10) b0
  obtain ⟨x1, ys1, rfl, t1, hx2⟩ := tysV_cons hx1
  have b1 := tyV_one (by kernel_rfl) t1
  obtain ⟨z1, e1, w1⟩ := open_bytes (n := 10) (by kernel_rfl) Try.underlying24 Try.underlying5 b1
  obtain rfl := (List.cons.inj e1).1
  obtain ⟨x2, ys2, rfl, t2, hx3⟩ := tysV_cons hx2
  have b2 := tyV_one (by kernel_rfl) t2
  obtain ⟨z2, e2, w2⟩ := open_list (n := 11) (sz := 4) (f := LCall.row) (wf := LCall.wf) (by kernel_rfl) Try.underlying50 (fun r h => open_LCall (n := 8) h) b2
  obtain rfl := (List.cons.inj e2).1
  obtain rfl := tysV_nil hx3
  exact c_fails z0 z1 z2
theorem controlFails_holds : Rows.ControlFailsSaid :=
  OpenClaim.holds_of_wide 7 Try.f7 rfl rfl rfl rfl rfl rfl rfl ⟨rfl, rfl, rfl, rfl, rfl⟩ rfl rfl rfl rfl rfl (by kernel_rfl) Try.func7 (by kernel_rfl)
    (of_decide_eq_true (by kernel_rfl)) (by unfold Func.isWrapper; first | (rw [if_pos (by decide +kernel)]; kernel_rfl) | (rw [if_neg (by decide +kernel)]; exact ⟨rfl, rfl⟩))
    (fun os started H enc _ => controlFails_lifted os started H enc)
theorem open_LTry {n : Nat} {xs : List V} (h : Ty Try.prog (n + 2) 48 xs) : ∃ x : LTry, xs = x.row ∧ x.wf := by
  have h := ty_struct (n := n + 1) Try.underlying48 h
  obtain ⟨p0, q0, rfl, h0, h⟩ := tyFs_cons h
  obtain ⟨p1, q1, rfl, h1, h⟩ := tyFs_cons h
  obtain rfl := tyFs_nil h
  obtain ⟨z0, rfl⟩ := ty_bool (n := n + 0) Try.underlying4 h0
  obtain ⟨z1, rfl⟩ := ty_bool (n := n + 0) Try.underlying4 h1
  exact ⟨⟨z0, z1⟩, rfl, trivial⟩
set_option maxRecDepth 100000 in
theorem controlReads_lifted (os : Os) (started : os.Started) (H : Type) (enc : TypeId × Value → H) :
    ReturnsInHanded {} Try.checked os 6 .any (Rows.controlReadsSpec.pre6 enc Try.prog Try.f6 Rows.controlReadsRow.domain false) (Rows.controlReadsSpec.post enc Try.prog Try.f6 false true false false) := by
  refine returnsInHanded_of_change (C := Try.checked) own started (by kernel_rfl) Try.func6
    (ChangeSpec.witness6 (enc := enc) (C := Try.checked) false ⟨#[], #[.slice none 0 0, .int .u16 0, .slice none 0 0], []⟩ 12 (by kernel_rfl) (by kernel_rfl) (by kernel_rfl) (by kernel_rfl)) ?_
  intro W base args ds gs before hval hW _ _
  refine law_calls (tb := 4) rfl (fun ds h => by
    match ds, h with
    | [d0, d1, d2], _ => rfl) rfl Try.underlying4 (by kernel_rfl) (fun xs hx => ?_) hval hW
  have hx0 : TysV Try.prog [24, 45, 46] xs := hx
  obtain ⟨x0, ys0, rfl, t0, hx1⟩ := tysV_cons hx0
  have b0 := tyV_one (by kernel_rfl) t0
  obtain ⟨z0, e0, w0⟩ := open_bytes (n := 10) (by kernel_rfl) Try.underlying24 Try.underlying5 b0
  obtain rfl := (List.cons.inj e0).1
  obtain ⟨x1, ys1, rfl, t1, hx2⟩ := tysV_cons hx1
  have b1 := tyV_one (by kernel_rfl) t1
  obtain ⟨z1, e1, l1, u1⟩ := ty_int (n := 11) Try.underlying45 b1
  obtain rfl := (List.cons.inj e1).1
  obtain ⟨x2, ys2, rfl, t2, hx3⟩ := tysV_cons hx2
  have b2 := tyV_one (by kernel_rfl) t2
  obtain ⟨z2, e2, w2⟩ := open_list (n := 11) (sz := 2) (f := LTry.row) (wf := LTry.wf) (by kernel_rfl) Try.underlying46 (fun r h => open_LTry (n := 9) h) b2
  obtain rfl := (List.cons.inj e2).1
  obtain rfl := tysV_nil hx3
  exact c_reads z0 z1 z2 (bnd_u16 l1 u1)
theorem controlReads_holds : Rows.ControlReadsSaid :=
  OpenClaim.holds_of_wide 6 Try.f6 rfl rfl rfl rfl rfl rfl rfl ⟨rfl, rfl, rfl, rfl, rfl⟩ rfl rfl rfl rfl rfl (by kernel_rfl) Try.func6 (by kernel_rfl)
    (of_decide_eq_true (by kernel_rfl)) (by unfold Func.isWrapper; first | (rw [if_pos (by decide +kernel)]; kernel_rfl) | (rw [if_neg (by decide +kernel)]; exact ⟨rfl, rfl⟩))
    (fun os started H enc _ => controlReads_lifted os started H enc)

end Go.Proofs.Ytjgconnmejkcfaa
