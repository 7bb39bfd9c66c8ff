/-
  Layer 11 (intent): what is shown is kept.
-/
import Derived.Test.YtijinkikmglpcaaQi
import Derived.Test.YtijinkikmglpcaamIw
namespace Go.Proofs.Ytijinkikmglpcaa
open Go Go.ChangeShapes Go.WideShapes Go.ChangeAt Go.RowKit
set_option linter.unusedVariables false
set_option linter.unusedSimpArgs false
set_option maxRecDepth 100000

theorem open_Sns {n : Nat} {xs : List V} (h : Ty Try.prog (n + 2) 30 xs) : ∃ x : Sns, xs = x.row ∧ x.wf := by
  have h := ty_struct (n := n + 1) Try.underlying30 h
  obtain ⟨p0, q0, rfl, h0, h⟩ := tyFs_cons h
  obtain ⟨p1, q1, rfl, h1, h⟩ := tyFs_cons h
  obtain ⟨p2, q2, rfl, h2, h⟩ := tyFs_cons h
  obtain rfl := tyFs_nil h
  obtain ⟨z0, rfl, l0, u0⟩ := ty_int (n := n + 0) Try.underlying3 h0
  obtain ⟨z1, rfl, l1, u1⟩ := ty_int (n := n + 0) Try.underlying3 h1
  obtain ⟨z2, rfl, l2, u2⟩ := ty_int (n := n + 0) Try.underlying3 h2
  exact ⟨⟨z0, z1, z2⟩, rfl, ⟨bnd_i64 l0 u0, bnd_i64 l1 u1, bnd_i64 l2 u2⟩⟩
theorem open_Dty {n : Nat} {xs : List V} (h : Ty Try.prog (n + 3) 53 xs) : ∃ x : Dty, xs = x.row ∧ x.wf := by
  have h := ty_struct (n := n + 2) Try.underlying53 h
  obtain ⟨p0, q0, rfl, h0, h⟩ := tyFs_cons h
  obtain ⟨p1, q1, rfl, h1, h⟩ := tyFs_cons h
  obtain rfl := tyFs_nil h
  obtain ⟨z0, rfl, l0, u0⟩ := ty_int (n := n + 1) Try.underlying3 h0
  obtain ⟨z1, rfl⟩ := open_blk (n := n + 0) Try.underlying50 Try.underlying5 h1
  exact ⟨⟨z0, z1⟩, rfl, bnd_i64 l0 u0⟩
theorem open_Cmd {n : Nat} {xs : List V} (h : Ty Try.prog (n + 2) 36 xs) : ∃ x : Cmd, xs = x.row ∧ x.wf := by
  have h := ty_struct (n := n + 1) Try.underlying36 h
  obtain ⟨p0, q0, rfl, h0, h⟩ := tyFs_cons h
  obtain ⟨p1, q1, rfl, h1, h⟩ := tyFs_cons h
  obtain ⟨p2, q2, rfl, h2, h⟩ := tyFs_cons h
  obtain ⟨p3, q3, rfl, h3, h⟩ := tyFs_cons h
  obtain ⟨p4, q4, rfl, h4, h⟩ := tyFs_cons h
  obtain rfl := tyFs_nil h
  obtain ⟨z0, rfl, l0, u0⟩ := ty_int (n := n + 0) Try.underlying3 h0
  obtain ⟨z1, rfl, l1, u1⟩ := ty_int (n := n + 0) Try.underlying34 h1
  obtain ⟨z2, rfl, l2, u2⟩ := ty_int (n := n + 0) Try.underlying3 h2
  obtain ⟨z3, rfl, l3, u3⟩ := ty_int (n := n + 0) Try.underlying3 h3
  obtain ⟨z4, rfl, l4, u4⟩ := ty_int (n := n + 0) Try.underlying3 h4
  exact ⟨⟨z0, z1, z2, z3, z4⟩, rfl, ⟨bnd_i64 l0 u0, bnd_u64 l1 u1, bnd_i64 l2 u2, bnd_i64 l3 u3, bnd_i64 l4 u4⟩⟩
theorem open_Med {n : Nat} {xs : List V} (h : Ty Try.prog (n + 5) 25 xs) : ∃ x : Med, xs = x.row ∧ x.wf := by
  have h := ty_struct (n := n + 4) Try.underlying25 h
  obtain ⟨p0, q0, rfl, h0, h⟩ := tyFs_cons h
  obtain ⟨p1, q1, rfl, h1, h⟩ := tyFs_cons h
  obtain rfl := tyFs_nil h
  obtain ⟨z0, rfl, w0⟩ := open_blks (n := n + 1) (by kernel_rfl) Try.underlying22 Try.underlying50 Try.underlying5 h0
  obtain ⟨z1, rfl, w1⟩ := open_list (n := n + 3) (sz := 65) (f := Dty.row) (wf := Dty.wf) (by kernel_rfl) Try.underlying23 (fun r h => open_Dty (n := n + 0) h) h1
  exact ⟨⟨z0, z1⟩, rfl, ⟨w0, w1⟩⟩
theorem open_Slt {n : Nat} {xs : List V} (h : Ty Try.prog (n + 6) 27 xs) : ∃ x : Slt, xs = x.row ∧ x.wf := by
  have h := ty_struct (n := n + 5) Try.underlying27 h
  obtain ⟨p0, q0, rfl, h0, h⟩ := tyFs_cons h
  obtain ⟨p1, q1, rfl, h1, h⟩ := tyFs_cons h
  obtain ⟨p2, q2, rfl, h2, h⟩ := tyFs_cons h
  obtain ⟨p3, q3, rfl, h3, h⟩ := tyFs_cons h
  obtain rfl := tyFs_nil h
  obtain ⟨z0, rfl, w0⟩ := open_Med (n := n + 0) h0
  obtain ⟨z1, rfl⟩ := ty_bool (n := n + 4) Try.underlying4 h1
  obtain ⟨z2, rfl⟩ := ty_bool (n := n + 4) Try.underlying4 h2
  obtain ⟨z3, rfl⟩ := ty_bool (n := n + 4) Try.underlying4 h3
  exact ⟨⟨z0, z1, z2, z3⟩, rfl, w0⟩
theorem open_Unt {n : Nat} {xs : List V} (h : Ty Try.prog (n + 7) 32 xs) : ∃ x : Unt, xs = x.row ∧ x.wf := by
  have h := ty_struct (n := n + 6) Try.underlying32 h
  obtain ⟨p0, q0, rfl, h0, h⟩ := tyFs_cons h
  obtain ⟨p1, q1, rfl, h1, h⟩ := tyFs_cons h
  obtain ⟨p2, q2, rfl, h2, h⟩ := tyFs_cons h
  obtain ⟨p3, q3, rfl, h3, h⟩ := tyFs_cons h
  obtain rfl := tyFs_nil h
  obtain ⟨z0, rfl, w0⟩ := open_Slt (n := n + 0) h0
  obtain ⟨z1, rfl⟩ := ty_bool (n := n + 5) Try.underlying4 h1
  obtain ⟨z2, rfl, w2⟩ := open_list (n := n + 5) (sz := 3) (f := Sns.row) (wf := Sns.wf) (by kernel_rfl) Try.underlying28 (fun r h => open_Sns (n := n + 3) h) h2
  obtain ⟨z3, rfl, w3⟩ := open_Sns (n := n + 4) h3
  exact ⟨⟨z0, z1, z2, z3⟩, rfl, ⟨w0, w2, w3⟩⟩

set_option maxRecDepth 100000 in
theorem intentShows_lifted (os : Os) (started : os.Started) (H : Type) (enc : TypeId × Value → H) :
    ReturnsInHanded {} Try.checked os 4 .any (Rows.intentShowsSpec.pre6 enc Try.prog Try.f4 Rows.intentShowsRow.domain false) (Rows.intentShowsSpec.post enc Try.prog Try.f4 false true false false) := by
  refine returnsInHanded_of_change (C := Try.checked) own started (by kernel_rfl) Try.func4
    (ChangeSpec.witness6 (enc := enc) (C := Try.checked) false ⟨#[], #[.agg #[.slice none 0 0, .slice none 0 0, .bool false, .bool false, .bool false, .bool false, .slice none 0 0, .int .i64 0, .int .i64 0, .int .i64 0], .agg #[.int .i64 0, .int .i64 0], .agg #[.int .i64 0, .int .u64 0, .int .i64 0, .int .i64 0, .int .i64 0]], []⟩ 12 (by kernel_rfl) (by kernel_rfl) (by kernel_rfl) (by kernel_rfl)) ?_
  intro W base args ds gs before hval hW _ _
  refine law_calls (tb := 4) rfl (fun ds h => by
    match ds, h with
    | [d0, d1, d2], _ => rfl) rfl Try.underlying4 (by kernel_rfl) (fun xs hx => ?_) hval hW
  have hx0 : TysV Try.prog [32, 33, 36] xs := hx
  obtain ⟨x0, ys0, rfl, t0, hx1⟩ := tysV_cons hx0
  obtain ⟨c0, rfl, b0⟩ := tyV_agg (by kernel_rfl) t0
  obtain ⟨z0, rfl, w0⟩ := open_Unt (n := 5) b0
  obtain ⟨x1, ys1, rfl, t1, hx2⟩ := tysV_cons hx1
  obtain ⟨c1, rfl, b1⟩ := tyV_agg (by kernel_rfl) t1
  have g1 : TyFs (Ty Try.prog 11) [3, 3] c1 := ty_arr (n := 11) Try.underlying33 b1
  obtain ⟨p0, q0, rfl, k0, g1⟩ := tyFs_cons g1
  obtain ⟨p1, q1, rfl, k1, g1⟩ := tyFs_cons g1
  obtain rfl := tyFs_nil g1
  obtain ⟨z1a0, rfl, l1a0, u1a0⟩ := ty_int (n := 10) Try.underlying3 k0
  obtain ⟨z1a1, rfl, l1a1, u1a1⟩ := ty_int (n := 10) Try.underlying3 k1
  obtain ⟨x2, ys2, rfl, t2, hx3⟩ := tysV_cons hx2
  obtain ⟨c2, rfl, b2⟩ := tyV_agg (by kernel_rfl) t2
  obtain ⟨z2, rfl, w2⟩ := open_Cmd (n := 10) b2
  obtain rfl := tysV_nil hx3
  exact c_intentShows z0 z1a0 z1a1 z2 w2.2.1 w2.2.2.1
theorem intentShows_holds : Rows.IntentShowsSaid :=
  OpenClaim.holds_of_wide 4 Try.f4 rfl rfl rfl rfl rfl rfl rfl ⟨rfl, rfl, rfl, rfl, rfl⟩ rfl rfl rfl rfl rfl (by kernel_rfl) Try.func4 (by kernel_rfl)
    (of_decide_eq_true (by kernel_rfl)) (by unfold Func.isWrapper; first | (rw [if_pos (by decide +kernel)]; kernel_rfl) | (rw [if_neg (by decide +kernel)]; exact ⟨rfl, rfl⟩))
    (fun os started H enc _ => intentShows_lifted os started H enc)



end Go.Proofs.Ytijinkikmglpcaa
