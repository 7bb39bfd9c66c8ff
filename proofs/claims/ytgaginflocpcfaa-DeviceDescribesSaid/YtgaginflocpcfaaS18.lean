/-
  What every device answers (layer 18): the statements of the laws.
-/
import Derived.Test.YtgaginflocpcfaaB1
import Derived.Test.YtgaginflocpcfaaW18
import Derived.Test.YtgaginflocpcfaaWa18
namespace Go.Proofs.Ytgaginflocpcfaa
open Go Go.ChangeShapes Go.WideShapes Go.ChangeAt Go.RowKit
set_option linter.unusedVariables false
set_option linter.unusedSimpArgs false
set_option maxRecDepth 100000

theorem open_Dev {n : Nat} {xs : List V} (h : Ty Try.prog (n + 2) 23 xs) : ∃ x : Dev, xs = x.row ∧ x.wf := by
  have h := ty_struct (n := n + 1) Try.underlying23 h
  obtain ⟨p0, q0, rfl, h0, h⟩ := tyFs_cons h
  obtain ⟨p1, q1, rfl, h1, h⟩ := tyFs_cons h
  obtain ⟨p2, q2, rfl, h2, h⟩ := tyFs_cons h
  obtain ⟨p3, q3, rfl, h3, h⟩ := tyFs_cons h
  obtain ⟨p4, q4, rfl, h4, h⟩ := tyFs_cons h
  obtain rfl := tyFs_nil h
  obtain ⟨z0, rfl, l0, u0⟩ := ty_int (n := n + 0) Try.underlying3 h0
  obtain ⟨z1, rfl, l1, u1⟩ := ty_int (n := n + 0) Try.underlying3 h1
  obtain ⟨z2, rfl⟩ := ty_bool (n := n + 0) Try.underlying4 h2
  obtain ⟨z3, rfl, l3, u3⟩ := ty_int (n := n + 0) Try.underlying3 h3
  obtain ⟨z4, rfl, l4, u4⟩ := ty_int (n := n + 0) Try.underlying3 h4
  exact ⟨⟨z0, z1, z2, z3, z4⟩, rfl, ⟨bnd_i64 l0 u0, bnd_i64 l1 u1, bnd_i64 l3 u3, bnd_i64 l4 u4⟩⟩
theorem open_Req {n : Nat} {xs : List V} (h : Ty Try.prog (n + 2) 25 xs) : ∃ x : Req, xs = x.row ∧ x.wf := by
  have h := ty_struct (n := n + 1) Try.underlying25 h
  obtain ⟨p0, q0, rfl, h0, h⟩ := tyFs_cons h
  obtain ⟨p1, q1, rfl, h1, h⟩ := tyFs_cons h
  obtain ⟨p2, q2, rfl, h2, h⟩ := tyFs_cons h
  obtain ⟨p3, q3, rfl, h3, h⟩ := tyFs_cons h
  obtain ⟨p4, q4, rfl, h4, h⟩ := tyFs_cons h
  obtain rfl := tyFs_nil h
  obtain ⟨z0, rfl, l0, u0⟩ := ty_int (n := n + 0) Try.underlying3 h0
  obtain ⟨z1, rfl, l1, u1⟩ := ty_int (n := n + 0) Try.underlying3 h1
  obtain ⟨z2, rfl, l2, u2⟩ := ty_int (n := n + 0) Try.underlying3 h2
  obtain ⟨z3, rfl, l3, u3⟩ := ty_int (n := n + 0) Try.underlying3 h3
  obtain ⟨z4, rfl, l4, u4⟩ := ty_int (n := n + 0) Try.underlying3 h4
  exact ⟨⟨z0, z1, z2, z3, z4⟩, rfl, ⟨bnd_i64 l0 u0, bnd_i64 l1 u1, bnd_i64 l2 u2, bnd_i64 l3 u3, bnd_i64 l4 u4⟩⟩
theorem open_How {n : Nat} {xs : List V} (h : Ty Try.prog (n + 2) 27 xs) : ∃ x : How, xs = x.row ∧ x.wf := by
  have h := ty_struct (n := n + 1) Try.underlying27 h
  obtain ⟨p0, q0, rfl, h0, h⟩ := tyFs_cons h
  obtain ⟨p1, q1, rfl, h1, h⟩ := tyFs_cons h
  obtain rfl := tyFs_nil h
  obtain ⟨z0, rfl, l0, u0⟩ := ty_int (n := n + 0) Try.underlying3 h0
  obtain ⟨z1, rfl, l1, u1⟩ := ty_int (n := n + 0) Try.underlying3 h1
  exact ⟨⟨z0, z1⟩, rfl, ⟨bnd_i64 l0 u0, bnd_i64 l1 u1⟩⟩
set_option maxRecDepth 100000 in
theorem deviceAsks_lifted (os : Os) (started : os.Started) (H : Type) (enc : TypeId × Value → H) :
    ReturnsInHanded {} Try.checked os 3 .any (Rows.deviceAsksSpec.pre6 enc Try.prog Try.f3 Rows.deviceAsksRow.domain false) (Rows.deviceAsksSpec.post enc Try.prog Try.f3 false true false false) := by
  refine returnsInHanded_of_change (C := Try.checked) own started (by kernel_rfl) Try.func3
    (ChangeSpec.witness6 (enc := enc) (C := Try.checked) false ⟨#[], #[.agg #[.int .i64 0, .int .i64 0, .bool false, .int .i64 0, .int .i64 0], .agg #[.int .i64 0, .int .i64 0, .int .i64 0, .int .i64 0, .int .i64 0], .agg #[.int .i64 0, .int .i64 0]], []⟩ 12 (by kernel_rfl) (by kernel_rfl) (by kernel_rfl) (by kernel_rfl)) ?_
  intro W base args ds gs before hval hW _ _
  refine law_calls (tb := 4) rfl (fun ds h => by
    match ds, h with
    | [d0, d1, d2], _ => rfl) rfl Try.underlying4 (by kernel_rfl) (fun xs hx => ?_) hval hW
  have hx0 : TysV Try.prog [23, 25, 27] xs := hx
  obtain ⟨x0, ys0, rfl, t0, hx1⟩ := tysV_cons hx0
  obtain ⟨c0, rfl, b0⟩ := tyV_agg (by kernel_rfl) t0
  obtain ⟨z0, rfl, w0⟩ := open_Dev (n := 10) b0
  obtain ⟨x1, ys1, rfl, t1, hx2⟩ := tysV_cons hx1
  obtain ⟨c1, rfl, b1⟩ := tyV_agg (by kernel_rfl) t1
  obtain ⟨z1, rfl, w1⟩ := open_Req (n := 10) b1
  obtain ⟨x2, ys2, rfl, t2, hx3⟩ := tysV_cons hx2
  obtain ⟨c2, rfl, b2⟩ := tyV_agg (by kernel_rfl) t2
  obtain ⟨z2, rfl, w2⟩ := open_How (n := 10) b2
  obtain rfl := tysV_nil hx3
  exact c_deviceAsks z0 z1 z2 w1.2.2.1 w1.2.2.2.1
theorem deviceAsks_holds : Rows.DeviceAsksSaid :=
  OpenClaim.holds_of_wide 3 Try.f3 rfl rfl rfl rfl rfl rfl rfl ⟨rfl, rfl, rfl, rfl, rfl⟩ rfl rfl rfl rfl rfl (by kernel_rfl) Try.func3 (by kernel_rfl)
    (of_decide_eq_true (by kernel_rfl)) (by unfold Func.isWrapper; first | (rw [if_pos (by decide +kernel)]; kernel_rfl) | (rw [if_neg (by decide +kernel)]; exact ⟨rfl, rfl⟩))
    (fun os started H enc _ => deviceAsks_lifted os started H enc)
set_option maxRecDepth 100000 in
theorem deviceHas_lifted (os : Os) (started : os.Started) (H : Type) (enc : TypeId × Value → H) :
    ReturnsInHanded {} Try.checked os 4 .any (Rows.deviceHasSpec.pre6 enc Try.prog Try.f4 Rows.deviceHasRow.domain false) (Rows.deviceHasSpec.post enc Try.prog Try.f4 false true false false) := by
  refine returnsInHanded_of_change (C := Try.checked) own started (by kernel_rfl) Try.func4
    (ChangeSpec.witness6 (enc := enc) (C := Try.checked) false ⟨#[], #[.agg #[.int .i64 0, .int .i64 0, .bool false, .int .i64 0, .int .i64 0], .int .i64 0], []⟩ 12 (by kernel_rfl) (by kernel_rfl) (by kernel_rfl) (by kernel_rfl)) ?_
  intro W base args ds gs before hval hW _ _
  refine law_calls (tb := 4) rfl (fun ds h => by
    match ds, h with
    | [d0, d1], _ => rfl) rfl Try.underlying4 (by kernel_rfl) (fun xs hx => ?_) hval hW
  have hx0 : TysV Try.prog [23, 3] xs := hx
  obtain ⟨x0, ys0, rfl, t0, hx1⟩ := tysV_cons hx0
  obtain ⟨c0, rfl, b0⟩ := tyV_agg (by kernel_rfl) t0
  obtain ⟨z0, rfl, w0⟩ := open_Dev (n := 10) b0
  obtain ⟨x1, ys1, rfl, t1, hx2⟩ := tysV_cons hx1
  have b1 := tyV_one (by kernel_rfl) t1
  obtain ⟨z1, e1, l1, u1⟩ := ty_int (n := 11) Try.underlying3 b1
  obtain rfl := (List.cons.inj e1).1
  obtain rfl := tysV_nil hx2
  exact c_deviceHas z0 z1 (bnd_i64 l1 u1)
theorem deviceHas_holds : Rows.DeviceHasSaid :=
  OpenClaim.holds_of_wide 4 Try.f4 rfl rfl rfl rfl rfl rfl rfl ⟨rfl, rfl, rfl, rfl, rfl⟩ rfl rfl rfl rfl rfl (by kernel_rfl) Try.func4 (by kernel_rfl)
    (of_decide_eq_true (by kernel_rfl)) (by unfold Func.isWrapper; first | (rw [if_pos (by decide +kernel)]; kernel_rfl) | (rw [if_neg (by decide +kernel)]; exact ⟨rfl, rfl⟩))
    (fun os started H enc _ => deviceHas_lifted os started H enc)
set_option maxRecDepth 100000 in
theorem deviceAddresses_lifted (os : Os) (started : os.Started) (H : Type) (enc : TypeId × Value → H) :
    ReturnsInHanded {} Try.checked os 5 .any (Rows.deviceAddressesSpec.pre6 enc Try.prog Try.f5 Rows.deviceAddressesRow.domain false) (Rows.deviceAddressesSpec.post enc Try.prog Try.f5 false true false false) := by
  refine returnsInHanded_of_change (C := Try.checked) own started (by kernel_rfl) Try.func5
    (ChangeSpec.witness6 (enc := enc) (C := Try.checked) false ⟨#[], #[.agg #[.int .i64 0, .int .i64 0, .bool false, .int .i64 0, .int .i64 0], .slice none 0 0, .slice none 0 0], []⟩ 12 (by kernel_rfl) (by kernel_rfl) (by kernel_rfl) (by kernel_rfl)) ?_
  intro W base args ds gs before hval hW _ _
  refine law_calls (tb := 4) rfl (fun ds h => by
    match ds, h with
    | [d0, d1, d2], _ => rfl) rfl Try.underlying4 (by kernel_rfl) (fun xs hx => ?_) hval hW
  have hx0 : TysV Try.prog [23, 38, 39] xs := hx
  obtain ⟨x0, ys0, rfl, t0, hx1⟩ := tysV_cons hx0
  obtain ⟨c0, rfl, b0⟩ := tyV_agg (by kernel_rfl) t0
  obtain ⟨z0, rfl, w0⟩ := open_Dev (n := 10) b0
  obtain ⟨x1, ys1, rfl, t1, hx2⟩ := tysV_cons hx1
  have b1 := tyV_one (by kernel_rfl) t1
  obtain ⟨z1, e1, w1⟩ := open_list (n := 11) (sz := 5) (f := Req.row) (wf := Req.wf) (by kernel_rfl) Try.underlying38 (fun r h => open_Req (n := 9) h) b1
  obtain rfl := (List.cons.inj e1).1
  obtain ⟨x2, ys2, rfl, t2, hx3⟩ := tysV_cons hx2
  have b2 := tyV_one (by kernel_rfl) t2
  obtain ⟨z2, e2, w2⟩ := open_list (n := 11) (sz := 1) (f := fun b : Bool => [bV b]) (wf := fun _ => True) (by kernel_rfl) Try.underlying39 (fun r h => by obtain ⟨b, e2⟩ := ty_bool (n := 10) Try.underlying4 h; exact ⟨b, e2, trivial⟩) b2
  obtain rfl := (List.cons.inj e2).1
  obtain rfl := tysV_nil hx3
  exact c_deviceAddresses z0 z1 z2 (fun y hy => (w1.2 y hy).2.2.2.1)
theorem deviceAddresses_holds : Rows.DeviceAddressesSaid :=
  OpenClaim.holds_of_wide 5 Try.f5 rfl rfl rfl rfl rfl rfl rfl ⟨rfl, rfl, rfl, rfl, rfl⟩ rfl rfl rfl rfl rfl (by kernel_rfl) Try.func5 (by kernel_rfl)
    (of_decide_eq_true (by kernel_rfl)) (by unfold Func.isWrapper; first | (rw [if_pos (by decide +kernel)]; kernel_rfl) | (rw [if_neg (by decide +kernel)]; exact ⟨rfl, rfl⟩))
    (fun os started H enc _ => deviceAddresses_lifted os started H enc)
set_option maxRecDepth 100000 in
theorem deviceKeeps_lifted (os : Os) (started : os.Started) (H : Type) (enc : TypeId × Value → H) :
    ReturnsInHanded {} Try.checked os 6 .any (Rows.deviceKeepsSpec.pre6 enc Try.prog Try.f6 Rows.deviceKeepsRow.domain false) (Rows.deviceKeepsSpec.post enc Try.prog Try.f6 false true false false) := by
  refine returnsInHanded_of_change (C := Try.checked) own started (by kernel_rfl) Try.func6
    (ChangeSpec.witness6 (enc := enc) (C := Try.checked) false ⟨#[], #[.agg #[.int .i64 0, .int .i64 0, .bool false, .int .i64 0, .int .i64 0], .agg #[.int .i64 0, .int .i64 0, .int .i64 0, .int .i64 0, .int .i64 0], .agg #[.int .i64 0, .int .i64 0]], []⟩ 12 (by kernel_rfl) (by kernel_rfl) (by kernel_rfl) (by kernel_rfl)) ?_
  intro W base args ds gs before hval hW _ _
  refine law_calls (tb := 4) rfl (fun ds h => by
    match ds, h with
    | [d0, d1, d2], _ => rfl) rfl Try.underlying4 (by kernel_rfl) (fun xs hx => ?_) hval hW
  have hx0 : TysV Try.prog [23, 25, 27] xs := hx
  obtain ⟨x0, ys0, rfl, t0, hx1⟩ := tysV_cons hx0
  obtain ⟨c0, rfl, b0⟩ := tyV_agg (by kernel_rfl) t0
  obtain ⟨z0, rfl, w0⟩ := open_Dev (n := 10) b0
  obtain ⟨x1, ys1, rfl, t1, hx2⟩ := tysV_cons hx1
  obtain ⟨c1, rfl, b1⟩ := tyV_agg (by kernel_rfl) t1
  obtain ⟨z1, rfl, w1⟩ := open_Req (n := 10) b1
  obtain ⟨x2, ys2, rfl, t2, hx3⟩ := tysV_cons hx2
  obtain ⟨c2, rfl, b2⟩ := tyV_agg (by kernel_rfl) t2
  obtain ⟨z2, rfl, w2⟩ := open_How (n := 10) b2
  obtain rfl := tysV_nil hx3
  exact c_deviceKeeps z0 z1 z2 w1.2.2.2.1
theorem deviceKeeps_holds : Rows.DeviceKeepsSaid :=
  OpenClaim.holds_of_wide 6 Try.f6 rfl rfl rfl rfl rfl rfl rfl ⟨rfl, rfl, rfl, rfl, rfl⟩ rfl rfl rfl rfl rfl (by kernel_rfl) Try.func6 (by kernel_rfl)
    (of_decide_eq_true (by kernel_rfl)) (by unfold Func.isWrapper; first | (rw [if_pos (by decide +kernel)]; kernel_rfl) | (rw [if_neg (by decide +kernel)]; exact ⟨rfl, rfl⟩))
    (fun os started H enc _ => deviceKeeps_lifted os started H enc)
set_option maxRecDepth 100000 in
theorem deviceDescribes_lifted (os : Os) (started : os.Started) (H : Type) (enc : TypeId × Value → H) :
    ReturnsInHanded {} Try.checked os 7 .any (Rows.deviceDescribesSpec.pre6 enc Try.prog Try.f7 Rows.deviceDescribesRow.domain false) (Rows.deviceDescribesSpec.post enc Try.prog Try.f7 false true false false) := by
  refine returnsInHanded_of_change (C := Try.checked) own started (by kernel_rfl) Try.func7
    (ChangeSpec.witness6 (enc := enc) (C := Try.checked) false ⟨#[], #[.agg #[.int .i64 0, .int .i64 0, .bool false, .int .i64 0, .int .i64 0], .int .u8 0, .int .u8 0], []⟩ 12 (by kernel_rfl) (by kernel_rfl) (by kernel_rfl) (by kernel_rfl)) ?_
  intro W base args ds gs before hval hW _ _
  refine law_calls (tb := 4) rfl (fun ds h => by
    match ds, h with
    | [d0, d1, d2], _ => rfl) rfl Try.underlying4 (by kernel_rfl) (fun xs hx => ?_) hval hW
  have hx0 : TysV Try.prog [23, 5, 5] xs := hx
  obtain ⟨x0, ys0, rfl, t0, hx1⟩ := tysV_cons hx0
  obtain ⟨c0, rfl, b0⟩ := tyV_agg (by kernel_rfl) t0
  obtain ⟨z0, rfl, w0⟩ := open_Dev (n := 10) b0
  obtain ⟨x1, ys1, rfl, t1, hx2⟩ := tysV_cons hx1
  have b1 := tyV_one (by kernel_rfl) t1
  obtain ⟨z1, e1, l1, u1⟩ := ty_int (n := 11) Try.underlying5 b1
  obtain rfl := (List.cons.inj e1).1
  obtain ⟨x2, ys2, rfl, t2, hx3⟩ := tysV_cons hx2
  have b2 := tyV_one (by kernel_rfl) t2
  obtain ⟨z2, e2, l2, u2⟩ := ty_int (n := 11) Try.underlying5 b2
  obtain rfl := (List.cons.inj e2).1
  obtain rfl := tysV_nil hx3
  exact c_deviceDescribes z0 z1 z2 (bnd_u8 l1 u1) (bnd_u8 l2 u2)
theorem deviceDescribes_holds : Rows.DeviceDescribesSaid :=
  OpenClaim.holds_of_wide 7 Try.f7 rfl rfl rfl rfl rfl rfl rfl ⟨rfl, rfl, rfl, rfl, rfl⟩ rfl rfl rfl rfl rfl (by kernel_rfl) Try.func7 (by kernel_rfl)
    (of_decide_eq_true (by kernel_rfl)) (by unfold Func.isWrapper; first | (rw [if_pos (by decide +kernel)]; kernel_rfl) | (rw [if_neg (by decide +kernel)]; exact ⟨rfl, rfl⟩))
    (fun os started H enc _ => deviceDescribes_lifted os started H enc)

end Go.Proofs.Ytgaginflocpcfaa
