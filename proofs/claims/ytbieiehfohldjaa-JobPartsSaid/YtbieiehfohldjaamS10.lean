/-
  Jobs (layer 10): the statements of the laws.
-/
import Derived.Test.YtbieiehfohldjaaQj
import Derived.Test.YtbieiehfohldjaamJp
namespace Go.Proofs.Ytbieiehfohldjaa
open Go Go.ChangeShapes Go.WideShapes Go.ChangeAt Go.RowKit
set_option linter.unusedVariables false
set_option linter.unusedSimpArgs false
set_option maxRecDepth 100000

theorem open_bls {P : Program} {n : Nat} {t e ee : TypeId} {xs : List V} (hz : P.cellsOf e = 1) (hzz : P.cellsOf ee = 1) (hu : P.underlying t = some (.slice e)) (he : P.underlying e = some (.slice ee)) (hee : P.underlying ee = some (.int .u8)) (h : Ty P (n + 3) t xs) : ∃ l : List BS, xs = [.sl 1 (blsRows l)] ∧ l.length ≤ maxLen := by
  obtain ⟨l, rfl, h1, _⟩ := open_list (f := fun x : BS => [bsV x]) (wf := fun _ => True) hz hu (fun r hr => by
    obtain ⟨x, rfl, _⟩ := open_bytes hzz he hee hr
    exact ⟨x, rfl, trivial⟩) h
  exact ⟨l, rfl, h1⟩
theorem open_Sns {n : Nat} {xs : List V} (h : Ty Try.prog (n + 2) 30 xs) : ∃ x : Sns, xs = x.row ∧ x.wf := by
  have h := ty_struct (n := n + 1) Try.underlying30 h
  obtain ⟨p0, q0, rfl, h0, h⟩ := tyFs_cons h
  obtain ⟨p1, q1, rfl, h1, h⟩ := tyFs_cons h
  obtain ⟨p2, q2, rfl, h2, h⟩ := tyFs_cons h
  obtain rfl := tyFs_nil h
  obtain ⟨z0, rfl, l0, u0⟩ := ty_int (n := n + 0) Try.underlying3 h0
  obtain ⟨z1, rfl, l1, u1⟩ := ty_int (n := n + 0) Try.underlying3 h1
  obtain ⟨z2, rfl, l2, u2⟩ := ty_int (n := n + 0) Try.underlying3 h2
  exact ⟨⟨z0, z1, z2⟩, rfl, ⟨bnd_i64 l0 u0, bnd_i64 l1 u1, bnd_i64 l2 u2⟩⟩
theorem open_Dty {n : Nat} {xs : List V} (h : Ty Try.prog (n + 3) 81 xs) : ∃ x : Dty, xs = x.row ∧ x.wf := by
  have h := ty_struct (n := n + 2) Try.underlying81 h
  obtain ⟨p0, q0, rfl, h0, h⟩ := tyFs_cons h
  obtain ⟨p1, q1, rfl, h1, h⟩ := tyFs_cons h
  obtain rfl := tyFs_nil h
  obtain ⟨z0, rfl, l0, u0⟩ := ty_int (n := n + 1) Try.underlying3 h0
  obtain ⟨z1, rfl⟩ := open_blk (n := n + 0) Try.underlying58 Try.underlying5 h1
  exact ⟨⟨z0, z1⟩, rfl, bnd_i64 l0 u0⟩
theorem open_Cmd {n : Nat} {xs : List V} (h : Ty Try.prog (n + 2) 35 xs) : ∃ x : Cmd, xs = x.row ∧ x.wf := by
  have h := ty_struct (n := n + 1) Try.underlying35 h
  obtain ⟨p0, q0, rfl, h0, h⟩ := tyFs_cons h
  obtain ⟨p1, q1, rfl, h1, h⟩ := tyFs_cons h
  obtain ⟨p2, q2, rfl, h2, h⟩ := tyFs_cons h
  obtain ⟨p3, q3, rfl, h3, h⟩ := tyFs_cons h
  obtain ⟨p4, q4, rfl, h4, h⟩ := tyFs_cons h
  obtain rfl := tyFs_nil h
  obtain ⟨z0, rfl, l0, u0⟩ := ty_int (n := n + 0) Try.underlying3 h0
  obtain ⟨z1, rfl, l1, u1⟩ := ty_int (n := n + 0) Try.underlying33 h1
  obtain ⟨z2, rfl, l2, u2⟩ := ty_int (n := n + 0) Try.underlying3 h2
  obtain ⟨z3, rfl, l3, u3⟩ := ty_int (n := n + 0) Try.underlying3 h3
  obtain ⟨z4, rfl, l4, u4⟩ := ty_int (n := n + 0) Try.underlying3 h4
  exact ⟨⟨z0, z1, z2, z3, z4⟩, rfl, ⟨bnd_i64 l0 u0, bnd_u64 l1 u1, bnd_i64 l2 u2, bnd_i64 l3 u3, bnd_i64 l4 u4⟩⟩
theorem open_Med {n : Nat} {xs : List V} (h : Ty Try.prog (n + 5) 25 xs) : ∃ x : Med, xs = x.row ∧ x.wf := by
  have h := ty_struct (n := n + 4) Try.underlying25 h
  obtain ⟨p0, q0, rfl, h0, h⟩ := tyFs_cons h
  obtain ⟨p1, q1, rfl, h1, h⟩ := tyFs_cons h
  obtain rfl := tyFs_nil h
  obtain ⟨z0, rfl, w0⟩ := open_blks (n := n + 1) (by kernel_rfl) Try.underlying22 Try.underlying58 Try.underlying5 h0
  obtain ⟨z1, rfl, w1⟩ := open_list (n := n + 3) (sz := 65) (f := Dty.row) (wf := Dty.wf) (by kernel_rfl) Try.underlying23 (fun r h => open_Dty (n := n + 0) h) h1
  exact ⟨⟨z0, z1⟩, rfl, ⟨w0, w1⟩⟩
theorem open_Slt {n : Nat} {xs : List V} (h : Ty Try.prog (n + 6) 27 xs) : ∃ x : Slt, xs = x.row ∧ x.wf := by
  have h := ty_struct (n := n + 5) Try.underlying27 h
  obtain ⟨p0, q0, rfl, h0, h⟩ := tyFs_cons h
  obtain ⟨p1, q1, rfl, h1, h⟩ := tyFs_cons h
  obtain ⟨p2, q2, rfl, h2, h⟩ := tyFs_cons h
  obtain ⟨p3, q3, rfl, h3, h⟩ := tyFs_cons h
  obtain rfl := tyFs_nil h
  obtain ⟨z0, rfl, w0⟩ := open_Med (n := n + 0) h0
  obtain ⟨z1, rfl⟩ := ty_bool (n := n + 4) Try.underlying4 h1
  obtain ⟨z2, rfl⟩ := ty_bool (n := n + 4) Try.underlying4 h2
  obtain ⟨z3, rfl⟩ := ty_bool (n := n + 4) Try.underlying4 h3
  exact ⟨⟨z0, z1, z2, z3⟩, rfl, w0⟩
theorem open_Unt {n : Nat} {xs : List V} (h : Ty Try.prog (n + 7) 32 xs) : ∃ x : Unt, xs = x.row ∧ x.wf := by
  have h := ty_struct (n := n + 6) Try.underlying32 h
  obtain ⟨p0, q0, rfl, h0, h⟩ := tyFs_cons h
  obtain ⟨p1, q1, rfl, h1, h⟩ := tyFs_cons h
  obtain ⟨p2, q2, rfl, h2, h⟩ := tyFs_cons h
  obtain ⟨p3, q3, rfl, h3, h⟩ := tyFs_cons h
  obtain rfl := tyFs_nil h
  obtain ⟨z0, rfl, w0⟩ := open_Slt (n := n + 0) h0
  obtain ⟨z1, rfl⟩ := ty_bool (n := n + 5) Try.underlying4 h1
  obtain ⟨z2, rfl, w2⟩ := open_list (n := n + 5) (sz := 3) (f := Sns.row) (wf := Sns.wf) (by kernel_rfl) Try.underlying28 (fun r h => open_Sns (n := n + 3) h) h2
  obtain ⟨z3, rfl, w3⟩ := open_Sns (n := n + 4) h3
  exact ⟨⟨z0, z1, z2, z3⟩, rfl, ⟨w0, w2, w3⟩⟩
theorem open_Job {n : Nat} {xs : List V} (h : Ty Try.prog (n + 3) 38 xs) : ∃ x : Job, xs = x.row ∧ x.wf := by
  have h := ty_struct (n := n + 2) Try.underlying38 h
  obtain ⟨p0, q0, rfl, h0, h⟩ := tyFs_cons h
  obtain ⟨p1, q1, rfl, h1, h⟩ := tyFs_cons h
  obtain ⟨p2, q2, rfl, h2, h⟩ := tyFs_cons h
  obtain ⟨p3, q3, rfl, h3, h⟩ := tyFs_cons h
  obtain ⟨p4, q4, rfl, h4, h⟩ := tyFs_cons h
  obtain rfl := tyFs_nil h
  obtain ⟨z0, rfl, w0⟩ := open_Cmd (n := n + 0) h0
  obtain ⟨z1, rfl, l1, u1⟩ := ty_int (n := n + 1) Try.underlying3 h1
  obtain ⟨z2, rfl, l2, u2⟩ := ty_int (n := n + 1) Try.underlying3 h2
  obtain ⟨z3, rfl, w3⟩ := open_bytes (n := n + 0) (by kernel_rfl) Try.underlying36 Try.underlying5 h3
  obtain ⟨z4, rfl, w4⟩ := open_Sns (n := n + 0) h4
  exact ⟨⟨z0, z1, z2, z3, z4⟩, rfl, ⟨w0, bnd_i64 l1 u1, bnd_i64 l2 u2, w3, w4⟩⟩
set_option maxRecDepth 100000 in
theorem jobTakes_lifted (os : Os) (started : os.Started) (H : Type) (enc : TypeId × Value → H) :
    ReturnsInHanded {} Try.checked os 3 .any (Rows.jobTakesSpec.pre6 enc Try.prog Try.f3 Rows.jobTakesRow.domain false) (Rows.jobTakesSpec.post enc Try.prog Try.f3 false true false false) := by
  refine returnsInHanded_of_change (C := Try.checked) own started (by kernel_rfl) Try.func3
    (ChangeSpec.witness6 (enc := enc) (C := Try.checked) false ⟨#[], #[.agg #[.slice none 0 0, .slice none 0 0, .bool false, .bool false, .bool false, .bool false, .slice none 0 0, .int .i64 0, .int .i64 0, .int .i64 0], .agg #[.int .i64 0, .int .u64 0, .int .i64 0, .int .i64 0, .int .i64 0, .int .i64 0, .int .i64 0, .slice none 0 0, .int .i64 0, .int .i64 0, .int .i64 0], .slice none 0 0], []⟩ 12 (by kernel_rfl) (by kernel_rfl) (by kernel_rfl) (by kernel_rfl)) ?_
  intro W base args ds gs before hval hW _ _
  refine law_calls (tb := 4) rfl (fun ds h => by
    match ds, h with
    | [d0, d1, d2], _ => rfl) rfl Try.underlying4 (by kernel_rfl) (fun xs hx => ?_) hval hW
  have hx0 : TysV Try.prog [32, 38, 36] xs := hx
  obtain ⟨x0, ys0, rfl, t0, hx1⟩ := tysV_cons hx0
  obtain ⟨c0, rfl, b0⟩ := tyV_agg (by kernel_rfl) t0
  obtain ⟨z0, rfl, w0⟩ := open_Unt (n := 5) b0
  obtain ⟨x1, ys1, rfl, t1, hx2⟩ := tysV_cons hx1
  obtain ⟨c1, rfl, b1⟩ := tyV_agg (by kernel_rfl) t1
  obtain ⟨z1, rfl, w1⟩ := open_Job (n := 9) b1
  obtain ⟨x2, ys2, rfl, t2, hx3⟩ := tysV_cons hx2
  have b2 := tyV_one (by kernel_rfl) t2
  obtain ⟨z2, e2, w2⟩ := open_bytes (n := 10) (by kernel_rfl) Try.underlying36 Try.underlying5 b2
  obtain rfl := (List.cons.inj e2).1
  obtain rfl := tysV_nil hx3
  exact c_jobTakes z0 z1 z2 w1.1.2.1
theorem jobTakes_holds : Rows.JobTakesSaid :=
  OpenClaim.holds_of_wide 3 Try.f3 rfl rfl rfl rfl rfl rfl rfl ⟨rfl, rfl, rfl, rfl, rfl⟩ rfl rfl rfl rfl rfl (by kernel_rfl) Try.func3 (by kernel_rfl)
    (of_decide_eq_true (by kernel_rfl)) (by unfold Func.isWrapper; first | (rw [if_pos (by decide +kernel)]; kernel_rfl) | (rw [if_neg (by decide +kernel)]; exact ⟨rfl, rfl⟩))
    (fun os started H enc _ => jobTakes_lifted os started H enc)
set_option maxRecDepth 100000 in
theorem jobStarts_lifted (os : Os) (started : os.Started) (H : Type) (enc : TypeId × Value → H) :
    ReturnsInHanded {} Try.checked os 4 .any (Rows.jobStartsSpec.pre6 enc Try.prog Try.f4 Rows.jobStartsRow.domain false) (Rows.jobStartsSpec.post enc Try.prog Try.f4 false true false false) := by
  refine returnsInHanded_of_change (C := Try.checked) own started (by kernel_rfl) Try.func4
    (ChangeSpec.witness6 (enc := enc) (C := Try.checked) false ⟨#[], #[.agg #[.int .i64 0, .int .u64 0, .int .i64 0, .int .i64 0, .int .i64 0]], []⟩ 12 (by kernel_rfl) (by kernel_rfl) (by kernel_rfl) (by kernel_rfl)) ?_
  intro W base args ds gs before hval hW _ _
  refine law_calls (tb := 4) rfl (fun ds h => by
    match ds, h with
    | [d0], _ => rfl) rfl Try.underlying4 (by kernel_rfl) (fun xs hx => ?_) hval hW
  have hx0 : TysV Try.prog [35] xs := hx
  obtain ⟨x0, ys0, rfl, t0, hx1⟩ := tysV_cons hx0
  obtain ⟨c0, rfl, b0⟩ := tyV_agg (by kernel_rfl) t0
  obtain ⟨z0, rfl, w0⟩ := open_Cmd (n := 10) b0
  obtain rfl := tysV_nil hx1
  exact c_jobStarts z0
theorem jobStarts_holds : Rows.JobStartsSaid :=
  OpenClaim.holds_of_wide 4 Try.f4 rfl rfl rfl rfl rfl rfl rfl ⟨rfl, rfl, rfl, rfl, rfl⟩ rfl rfl rfl rfl rfl (by kernel_rfl) Try.func4 (by kernel_rfl)
    (of_decide_eq_true (by kernel_rfl)) (by unfold Func.isWrapper; first | (rw [if_pos (by decide +kernel)]; kernel_rfl) | (rw [if_neg (by decide +kernel)]; exact ⟨rfl, rfl⟩))
    (fun os started H enc _ => jobStarts_lifted os started H enc)
set_option maxRecDepth 100000 in
theorem jobParts_lifted (os : Os) (started : os.Started) (H : Type) (enc : TypeId × Value → H) :
    ReturnsInHanded {} Try.checked os 5 .any (Rows.jobPartsSpec.pre6 enc Try.prog Try.f5 Rows.jobPartsRow.domain false) (Rows.jobPartsSpec.post enc Try.prog Try.f5 false true false false) := by
  refine returnsInHanded_of_change (C := Try.checked) own started (by kernel_rfl) Try.func5
    (ChangeSpec.witness6 (enc := enc) (C := Try.checked) false ⟨#[], #[.agg #[.slice none 0 0, .slice none 0 0, .bool false, .bool false, .bool false, .bool false, .slice none 0 0, .int .i64 0, .int .i64 0, .int .i64 0], .agg #[.int .i64 0, .int .u64 0, .int .i64 0, .int .i64 0, .int .i64 0], .slice none 0 0], []⟩ 12 (by kernel_rfl) (by kernel_rfl) (by kernel_rfl) (by kernel_rfl)) ?_
  intro W base args ds gs before hval hW _ _
  refine law_calls (tb := 4) rfl (fun ds h => by
    match ds, h with
    | [d0, d1, d2], _ => rfl) rfl Try.underlying4 (by kernel_rfl) (fun xs hx => ?_) hval hW
  have hx0 : TysV Try.prog [32, 35, 52] xs := hx
  obtain ⟨x0, ys0, rfl, t0, hx1⟩ := tysV_cons hx0
  obtain ⟨c0, rfl, b0⟩ := tyV_agg (by kernel_rfl) t0
  obtain ⟨z0, rfl, w0⟩ := open_Unt (n := 5) b0
  obtain ⟨x1, ys1, rfl, t1, hx2⟩ := tysV_cons hx1
  obtain ⟨c1, rfl, b1⟩ := tyV_agg (by kernel_rfl) t1
  obtain ⟨z1, rfl, w1⟩ := open_Cmd (n := 10) b1
  obtain ⟨x2, ys2, rfl, t2, hx3⟩ := tysV_cons hx2
  have b2 := tyV_one (by kernel_rfl) t2
  obtain ⟨z2, e2, w2⟩ := open_bls (n := 9) (by kernel_rfl) (by kernel_rfl) Try.underlying52 Try.underlying36 Try.underlying5 b2
  obtain rfl := (List.cons.inj e2).1
  obtain rfl := tysV_nil hx3
  exact c_jobParts z0 z1 z2 w1.2.1
theorem jobParts_holds : Rows.JobPartsSaid :=
  OpenClaim.holds_of_wide 5 Try.f5 rfl rfl rfl rfl rfl rfl rfl ⟨rfl, rfl, rfl, rfl, rfl⟩ rfl rfl rfl rfl rfl (by kernel_rfl) Try.func5 (by kernel_rfl)
    (of_decide_eq_true (by kernel_rfl)) (by unfold Func.isWrapper; first | (rw [if_pos (by decide +kernel)]; kernel_rfl) | (rw [if_neg (by decide +kernel)]; exact ⟨rfl, rfl⟩))
    (fun os started H enc _ => jobParts_lifted os started H enc)

end Go.Proofs.Ytbieiehfohldjaa
