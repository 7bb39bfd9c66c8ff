/-
  The value-level machine: the evaluator, code.
-/
import Derived.Test.YtgaginflocpcfaaAbsT
namespace Go.Proofs.Ytgaginflocpcfaa
open Go
set_option linter.unusedVariables false
set_option linter.unusedSimpArgs false

def stOf (e : Tr) (H : GH) (nx : Nat) : St := ⟨e.get, H.hp, nx⟩

/-- a slot is written -/
def dstK (N : Nat) (e : Tr) (d : Option Nat) (v : V) (K : Tr → Prop) : Prop := match d with
  | none => K e
  | some d => chkK (Nat.blt d N) <| e.setK d v K
theorem dstK_sound {N : Nat} {e : Tr} {d : Option Nat} {v : V} {K : Tr → Prop} (h : dstK N e d v K) : ∃ e', e'.get = updO e.get d v ∧ (∀ t, d = some t → t < N) ∧ K e' := by
  cases d with
  | none => exact ⟨e, rfl, (fun t h => by cases h), h⟩
  | some d =>
    obtain ⟨hd, h⟩ := chkK_sound h
    obtain ⟨e', h1, h⟩ := Tr.setK_sound _ _ h
    exact ⟨e', h1, (fun t h => by cases h; exact Nat.le_of_ble_eq_true hd), h⟩

abbrev OKF := Tr → GH → Nat → List KK → (Tr → GH → Nat → Prop) → Prop
def opsNil (ops : Array Oper) (dr : Bool) : OKF := fun e H nx acc K => match dr with
    | true => drawQ ops acc.reverse = true ∧ K e H nx
    | false => K e H nx
def opsOn (P : Program) (T : TT) (CE : CET) (N : Nat) (o : Oper) (ih : OKF) (H : GH) (nx : Nat) (acc : List KK) (K : Tr → GH → Nat → Prop) (e : Tr) : Prop :=
  opE P T CE (ovOf e.get) H nx o.op fun eff v => fV v fun v => dstK N e o.dst v fun e' => upH eff H nx fun H' nx' => ih e' H' nx' (eff.kk nx :: acc) K
def opsOff (N : Nat) (o : Oper) (ih : OKF) (H : GH) (nx : Nat) (acc : List KK) (K : Tr → GH → Nat → Prop) (e : Tr) : Prop := dstK N e o.dst .undef fun e' => ih e' H nx (([], [], false) :: acc) K
def opsCons (P : Program) (T : TT) (CE : CET) (N : Nat) (ops : Array Oper) (o : Oper) (ih : OKF) : OKF := fun e H nx acc K => match o.guard with
    | none => opsOn P T CE N o ih H nx acc K e
    | some (j, want) => optK ((ops[j]?).bind (·.dst)) fun t => match e.get t with
      | .lit (.bool b) => match want with
        | true => condN b (e.setK t (.lit (.bool true)) (opsOn P T CE N o ih H nx acc K)) (e.setK t (.lit (.bool false)) (opsOff N o ih H nx acc K))
        | false => condN b (e.setK t (.lit (.bool true)) (opsOff N o ih H nx acc K)) (e.setK t (.lit (.bool false)) (opsOn P T CE N o ih H nx acc K))
      | .tup [] => opsOff N o ih H nx acc K e
      | _ => False
/-- operations -/
def opsE (P : Program) (T : TT) (CE : CET) (N : Nat) (ops : Array Oper) (dr : Bool) (l : List Oper) : OKF := List.rec (motive := fun _ => OKF) (opsNil ops dr) (fun o _ ih => opsCons P T CE N ops o ih) l

theorem stOf_get {e e' : Tr} {H : GH} {nx : Nat} (h : e.get = e'.get) : stOf e H nx = stOf e' H nx := by simp only [stOf, h]

theorem upH_sound {eff : Eff} {H : GH} {nx : Nat} {K : GH → Nat → Prop} {P : Program} {ov : Operand → V} {o : Oper} {v : V} (he : EOk P ov o nx H.hp v eff) (h : upH eff H nx K) :
    ∃ (r : OpR) (H' : GH) (nx' : Nat), r.v = v ∧ r.kk = eff.kk nx ∧ H'.hp = r.act H.hp ∧ nx ≤ nx' ∧ ((r.ins = none ∧ LOk P ov o r.rd r.pre r.post r.v ∧ Sub (hpo r.rd) H.hp ∧ Sub (hpo r.pre) H.hp ∧ (∀ k, k ∈ keysOf r.post → k ∉ keysOf r.pre → nx ≤ k) ∧ (∀ k, k ∈ keysOf r.post → k < nx')) ∨
      ∃ k kc y ents, r = ⟨[], [(k, mpO ents)], [(k, mpO (ents ++ [[.agg kc, y]]))], .undef, some (k, [.agg kc, y])⟩ ∧ H.hp k = some (mpO ents) ∧ k < nx' ∧ (∀ r ∈ ents, KeyAp kc r) ∧ InsOk P ov o k kc y) ∧ K H' nx' := by
  cases eff with
  | rd d => exact ⟨⟨d, [], [], v, none⟩, H, nx, rfl, rfl, rfl, Nat.le_refl _, .inl ⟨rfl, he.1, he.2, Sub.nil _, fun k h => by simp [keysOf] at h, fun k h => by simp [keysOf] at h⟩, h⟩
  | nw d sy ob => exact ⟨⟨d, [], [(nx, ob)], v, none⟩, _, nx + 1, rfl, rfl, rfl, Nat.le_succ _, .inl ⟨rfl, he.1, he.2, Sub.nil _, fun k h _ => by simp [keysOf] at h; omega, fun k h => by simp [keysOf] at h; omega⟩, h⟩
  | wr d k ob ob' =>
    obtain ⟨h1, h2, h3, h4⟩ := he
    obtain ⟨H', g1, g2⟩ := GH.putK_sound _ _ h
    exact ⟨⟨d, [(k, ob)], [(k, ob')], v, none⟩, H', nx, rfl, rfl, by rw [g1]; simp only [OpR.act, Hp.add, Hp.del, upd_upd], Nat.le_refl _, .inl ⟨rfl, h1, h2, Sub.one h3, fun j h h' => absurd h h', fun j h => by simp [keysOf] at h; subst h; exact h4⟩, g2⟩
  | mi k ents kc y =>
    obtain ⟨h1, h2, h3, h4, h5⟩ := he
    have h := fRs_sound (K := fun ents' => H.putK k (mpO ents') fun H => K H nx) _ h
    obtain ⟨H', g1, g2⟩ := GH.putK_sound _ _ h
    exact ⟨⟨[], [(k, mpO ents)], [(k, mpO (ents ++ [[.agg kc, y]]))], .undef, some (k, [.agg kc, y])⟩, H', nx, h1.symm, rfl, by rw [g1]; simp only [OpR.act, h2, mpAdd]; rfl, Nat.le_refl _, .inr ⟨k, kc, y, ents, rfl, h2, h3, h4, h5⟩, g2⟩
  | sw d k ob ob' =>
    obtain ⟨h1, h2, h3⟩ := he
    obtain ⟨H', g1, g2⟩ := GH.delK_sound _ _ h
    exact ⟨⟨d, [(k, ob)], [(nx, ob')], v, none⟩, _, nx + 1, rfl, rfl, by simp only [GH.hp, g1]; rfl, Nat.le_succ _, .inl ⟨rfl, h1, h2, Sub.one h3, fun j h _ => by simp [keysOf] at h; omega, fun j h => by simp [keysOf] at h; omega⟩, g2⟩
  | gn B B' nx' =>
    obtain ⟨h1, h2, h3, h4, h5⟩ := he
    obtain ⟨H', g1, g2⟩ := GH.delsK_sound _ _ h
    exact ⟨⟨[], B.hl, B'.hl, v, none⟩, B' ++ H', nx', rfl, rfl, by rw [GH.app_hp, g1]; rfl, h3, .inl ⟨rfl, h1, Sub.nil _, h2, h4, h5⟩, g2⟩
  | fz B =>
    obtain ⟨h1, h2, h3⟩ := he
    obtain ⟨H', g1, g2⟩ := GH.fzK_sound _ h
    have hk : keysOf (frozen B) = keysOf B := by simp [keysOf, frozen]
    refine ⟨⟨[], B, frozen B, v, none⟩, H', nx, rfl, by simp only [OpR.kk, OpR.wk, Eff.kk, hk]; rfl, ?_, Nat.le_refl _, .inl ⟨rfl, h1, Sub.nil _, h2, fun j h h' => absurd (hk ▸ h) h', fun j h => h3 j (hk ▸ h)⟩, g2⟩
    rw [g1]
    show H.hp.add (frozen B) = (H.hp.del B).add (frozen B)
    funext t
    rw [add_apply, add_apply, del_apply]
    cases hf : hpo (frozen B) t with
    | some o => rfl
    | none =>
      have : hpo B t = none := hpo_none (fun hm => mem_keys.2 (hk.symm ▸ hm) hf)
      rw [this]

section
variable {P : Program} {T : TT} {CE : CET} {N m : Nat}

theorem opsE_sound (hT : TOk P T) (hCE : CESound P CE) {ops : Array Oper} {dr : Bool} : ∀ (l : List Oper) (e : Tr) (H : GH) (nx : Nat) (acc : List KK) {K : Tr → GH → Nat → Prop} (accR : List OpR), opsE P T CE N ops dr l e H nx acc K → acc = (accR.map OpR.kk).reverse →
    AOps P N ops dr l (stOf e H nx) accR fun st => ∃ e H nx, st = stOf e H nx ∧ K e H nx
  | [], e, H, nx, acc, K, accR, h, hacc => by
    cases dr with
    | true =>
      refine aops_nil ?_ ⟨e, H, nx, rfl, h.2⟩
      have := h.1
      rw [hacc, List.reverse_reverse] at this
      simp [drawQ_sound this]
    | false => exact aops_nil rfl ⟨e, H, nx, rfl, h⟩
  | o :: l, e, H, nx, acc, K, accR, h, hacc => by
    have onS : ∀ (e : Tr) (g : gOn ops e.get o), (opE P T CE (ovOf e.get) H nx o.op fun eff v => fV v fun v => dstK N e o.dst v fun e' => upH eff H nx fun H' nx' => opsE P T CE N ops dr l e' H' nx' (eff.kk nx :: acc) K) →
        AOps P N ops dr (o :: l) (stOf e H nx) accR fun st => ∃ e H nx, st = stOf e H nx ∧ K e H nx := fun e g h => by
      obtain ⟨eff, v, he, h⟩ := opE_sound hT hCE h
      obtain ⟨e', he', hd, h⟩ := dstK_sound (fV_sound (K := fun v => dstK N e o.dst v fun e' => upH eff H nx fun H' nx' => opsE P T CE N ops dr l e' H' nx' (eff.kk nx :: acc) K) h)
      obtain ⟨r, H', nx', hv, hkk, hH, hn, hon, hK⟩ := upH_sound he h
      have ih := opsE_sound hT hCE l e' H' nx' _ (accR ++ [r]) hK (by simp [hacc, hkk])
      refine aops_cons (st1 := stOf e' H' nx') ⟨hv ▸ he', hH, hn, hd, ?_⟩ ih
      rcases hon with ⟨h0, h1, h2, h3, h4, h5⟩ | ⟨k, kc, y, ents, h1, h2⟩
      · exact .inl ⟨h0, g, h1, h2, h3, h4, h5⟩
      · exact .inr (.inr ⟨g, k, kc, y, ents, h1, h2⟩)
    have offS : ∀ (e : Tr) (g : gOff ops e.get o), (dstK N e o.dst .undef fun e' => opsE P T CE N ops dr l e' H nx (([], [], false) :: acc) K) →
        AOps P N ops dr (o :: l) (stOf e H nx) accR fun st => ∃ e H nx, st = stOf e H nx ∧ K e H nx := fun e g h => by
      obtain ⟨e', he', hd, h⟩ := dstK_sound h
      have ih := opsE_sound hT hCE l e' H nx _ (accR ++ [⟨[], [], [], .undef, none⟩]) h (by simp [hacc, OpR.kk, OpR.wk, keysOf])
      exact aops_cons (r := ⟨[], [], [], .undef, none⟩) (st1 := stOf e' H nx) ⟨he', rfl, Nat.le_refl _, hd, .inr (.inl ⟨g, rfl⟩)⟩ ih
    have h : opsCons P T CE N ops o (opsE P T CE N ops dr l) e H nx acc K := h
    simp only [opsCons] at h
    cases hg : o.guard with
    | none =>
      rw [hg] at h
      exact onS e (by simp [gOn, hg]) h
    | some jw =>
      obtain ⟨j, want⟩ := jw
      rw [hg] at h
      simp only at h
      obtain ⟨t, ht, h⟩ := optK_sound h
      split at h
      · rename_i b hb
        cases want with
        | true =>
          rcases condN_sound h with ⟨rfl, h⟩ | ⟨rfl, h⟩
          · obtain ⟨e1, h1, h⟩ := Tr.setK_sound _ _ h
            rw [upd_self hb] at h1
            rw [← stOf_get h1]
            exact onS e1 (by simp only [gOn, hg]; exact ⟨t, ht, by rw [h1]; exact hb⟩) h
          · obtain ⟨e1, h1, h⟩ := Tr.setK_sound _ _ h
            rw [upd_self hb] at h1
            rw [← stOf_get h1]
            exact offS e1 (by simp only [gOff, hg]; exact ⟨t, ht, .inl (by rw [h1]; exact hb)⟩) h
        | false =>
          rcases condN_sound h with ⟨rfl, h⟩ | ⟨rfl, h⟩
          · obtain ⟨e1, h1, h⟩ := Tr.setK_sound _ _ h
            rw [upd_self hb] at h1
            rw [← stOf_get h1]
            exact offS e1 (by simp only [gOff, hg]; exact ⟨t, ht, .inl (by rw [h1]; exact hb)⟩) h
          · obtain ⟨e1, h1, h⟩ := Tr.setK_sound _ _ h
            rw [upd_self hb] at h1
            rw [← stOf_get h1]
            exact onS e1 (by simp only [gOn, hg]; exact ⟨t, ht, by rw [h1]; exact hb⟩) h
      · rename_i hb
        exact offS e (by simp only [gOff, hg]; exact ⟨t, ht, .inr hb⟩) h
      · exact h.elim

/-- where code ends, in listed states -/
def QOf (Q : Exit → Tr → GH → Nat → Prop) : Exit → St → Prop := fun ex st => ∃ e H nx, st = stOf e H nx ∧ Q ex e H nx

abbrev QT := Exit → Tr → GH → Nat → Prop
def qSeq (y : QT → Tr → GH → Nat → Prop) (Q : QT) : QT := fun ex e H nx => match ex with
    | .normal => y Q e H nx
    | ex => Q ex e H nx
def qBlock (id : Nat) (Q : QT) : QT := fun ex e H nx => match ex with
    | .exit id' => match Nat.beq id' id with
      | true => Q .normal e H nx
      | false => Q (.exit id') e H nx
    | ex => Q ex e H nx
def cCond (c : Operand) (x y : QT → Tr → GH → Nat → Prop) (Q : QT) (e : Tr) (H : GH) (nx : Nat) : Prop := match ovOf e.get c with
    | .lit (.bool b) => condN b (x Q e H nx) (y Q e H nx)
    | _ => False
/-- it ends just so -/
def AWpD (P : Program) (N m : Nat) (c : Code) (ex : Exit) (e : Tr) (H : GH) (nx : Nat) (st : St) : Prop := AWp P N m c (fun ex1 st1 => ex1 = ex ∧ st1 = stOf e H nx) st
def LoopN (P : Program) (T : TT) (CE : CET) (dt : Bool) (N m : Nat) (c : Code) (Q : QT) (e : Tr) (H : GH) (nx : Nat) : Prop :=
  (dt = true → ∃ ex e' H' nx', Q ex e' H' nx' ∧ AWpD P N m (.loop c) ex e' H' nx' (stOf e H nx)) ∧ (dt = false → AWp P N m (.loop c) (QOf Q) (stOf e H nx))
/-- code -/
def vc (P : Program) (T : TT) (CE : CET) (dt : Bool) (N m : Nat) (c : Code) : QT → Tr → GH → Nat → Prop := Code.rec (motive := fun _ => QT → Tr → GH → Nat → Prop)
  (fun Q e H nx => Q .normal e H nx)
  (fun _ ops dr Q e H nx => opsE P T CE N ops dr ops.toList e H nx [] (Q .normal))
  (fun _ _ x y Q e H nx => x (qSeq y Q) e H nx)
  (fun c _ _ x y Q e H nx => cCond c x y Q e H nx)
  (fun id _ x Q e H nx => x (qBlock id Q) e H nx)
  (fun c _ Q e H nx => LoopN P T CE dt N m c Q e H nx)
  (fun _ _ _ _ _ _ _ _ _ _ => False)
  (fun id Q e H nx => Q (.exit id) e H nx)
  (fun _ _ _ _ _ _ => False)
  (fun _ _ _ _ _ => False)
  (fun _ _ _ _ _ => False)
  (fun Q e H nx => Q .ret e H nx)
  (fun _ _ _ _ _ => False) c

theorem vc_det (hT : TOk P T) (hCE : CESound P CE) (hm : P.follows .mixedOrders = true) : ∀ (c : Code) (Q : Exit → Tr → GH → Nat → Prop) (e : Tr) (H : GH) (nx : Nat), vc P T CE true N m c Q e H nx → ∃ ex e' H' nx', Q ex e' H' nx' ∧ AWpD P N m c ex e' H' nx' (stOf e H nx)
  | .skip, Q, e, H, nx, h => ⟨_, _, _, _, h, awp_skip ⟨rfl, rfl⟩⟩
  | .exit id, Q, e, H, nx, h => ⟨_, _, _, _, h, awp_exit ⟨rfl, rfl⟩⟩
  | .ret, Q, e, H, nx, h => ⟨_, _, _, _, h, awp_ret ⟨rfl, rfl⟩⟩
  | .seq x y, Q, e, H, nx, h => by
    obtain ⟨ex, e1, H1, nx1, hq, hx⟩ := vc_det hT hCE hm x (qSeq (vc P T CE true N m y) Q) e H nx h
    cases ex with
    | normal =>
      obtain ⟨ex, e2, H2, nx2, hq, hy⟩ := vc_det hT hCE hm y Q e1 H1 nx1 hq
      exact ⟨ex, e2, H2, nx2, hq, awp_seq (awp_mono hx fun ex' st' ⟨h1, h2⟩ => by subst h1; subst h2; exact hy)⟩
    | _ => exact ⟨_, e1, H1, nx1, hq, awp_seq (awp_mono hx fun ex' st' ⟨h1, h2⟩ => by subst h1; exact ⟨rfl, h2⟩)⟩
  | .cond c x y, Q, e, H, nx, h => by
    have h : cCond c (vc P T CE true N m x) (vc P T CE true N m y) Q e H nx := h
    unfold cCond at h
    split at h
    · rename_i b hb
      cases b with
      | true =>
        obtain ⟨ex, e1, H1, nx1, hq, hx⟩ := vc_det hT hCE hm x Q e H nx h
        exact ⟨ex, e1, H1, nx1, hq, awp_cond hb (fun _ => hx) (fun h => by cases h)⟩
      | false =>
        obtain ⟨ex, e1, H1, nx1, hq, hx⟩ := vc_det hT hCE hm y Q e H nx h
        exact ⟨ex, e1, H1, nx1, hq, awp_cond hb (fun h => by cases h) (fun _ => hx)⟩
    · exact h.elim
  | .block id c, Q, e, H, nx, h => by
    obtain ⟨ex, e1, H1, nx1, hq, hx⟩ := vc_det hT hCE hm c (qBlock id Q) e H nx h
    cases ex with
    | exit id' =>
      simp only [qBlock] at hq
      cases hb : Nat.beq id' id with
      | true =>
        rw [hb] at hq
        have := Nat.eq_of_beq_eq_true hb
        subst this
        exact ⟨.normal, e1, H1, nx1, hq, awp_block (awp_mono hx fun ex' st' ⟨h1, h2⟩ => by subst h1; simp only [aBlock, if_true]; exact ⟨trivial, h2⟩)⟩
      | false =>
        rw [hb] at hq
        have hne : id' ≠ id := fun e => by subst e; rw [Nat.beq_refl] at hb; cases hb
        exact ⟨.exit id', e1, H1, nx1, hq, awp_block (awp_mono hx fun ex' st' ⟨h1, h2⟩ => by subst h1; simp only [aBlock, hne, if_false]; exact ⟨trivial, h2⟩)⟩
    | _ => exact ⟨_, e1, H1, nx1, hq, awp_block (awp_mono hx fun ex' st' ⟨h1, h2⟩ => by subst h1; exact ⟨rfl, h2⟩)⟩
  | .region id ops dr, Q, e, H, nx, h => by
    obtain ⟨rs, st', h1, h2, e1, H1, nx1, rfl, hK⟩ := opsE_sound (P := P) (N := N) hT hCE ops.toList e H nx [] [] h rfl
    refine ⟨.normal, e1, H1, nx1, hK, ?_⟩
    cases dr with
    | true => exact awp_drawn hm ⟨rs, _, h1, h2, rfl, rfl⟩
    | false => exact awp_region ⟨rs, _, h1, h2, rfl, rfl⟩
  | .loop c, Q, e, H, nx, h => h.1 rfl
  | .rangeFunc _ _ _ _, _, _, _, _, h => h.elim
  | .scope _, _, _, _, _, h => h.elim
  | .label _, _, _, _, _, h => h.elim
  | .goto _, _, _, _, _, h => h.elim
  | .refuse _, _, _, _, _, h => h.elim
theorem vc_sound (hT : TOk P T) (hCE : CESound P CE) (hm : P.follows .mixedOrders = true) : ∀ (c : Code) (Q : Exit → Tr → GH → Nat → Prop) (e : Tr) (H : GH) (nx : Nat), vc P T CE false N m c Q e H nx → AWp P N m c (QOf Q) (stOf e H nx)
  | .skip, Q, e, H, nx, h => awp_skip ⟨e, H, nx, rfl, h⟩
  | .exit id, Q, e, H, nx, h => awp_exit ⟨e, H, nx, rfl, h⟩
  | .ret, Q, e, H, nx, h => awp_ret ⟨e, H, nx, rfl, h⟩
  | .seq x y, Q, e, H, nx, h => by
    refine awp_seq (awp_mono (vc_sound hT hCE hm x (qSeq (vc P T CE false N m y) Q) e H nx h) fun ex st hq => ?_)
    obtain ⟨e', H', nx', rfl, hq⟩ := hq
    cases ex with
    | normal => exact vc_sound hT hCE hm y Q e' H' nx' hq
    | _ => exact ⟨e', H', nx', rfl, hq⟩
  | .cond c x y, Q, e, H, nx, h => by
    have h : cCond c (vc P T CE false N m x) (vc P T CE false N m y) Q e H nx := h
    unfold cCond at h
    split at h
    · rename_i b hb
      refine awp_cond hb (fun ht => ?_) (fun hf => ?_)
      · subst ht; exact vc_sound hT hCE hm x Q e H nx h
      · subst hf; exact vc_sound hT hCE hm y Q e H nx h
    · exact h.elim
  | .block id c, Q, e, H, nx, h => by
    refine awp_block (awp_mono (vc_sound hT hCE hm c (qBlock id Q) e H nx h) fun ex st hq => ?_)
    obtain ⟨e', H', nx', rfl, hq⟩ := hq
    cases ex with
    | exit id' =>
      simp only [aBlock, qBlock] at hq ⊢
      cases hb : Nat.beq id' id with
      | true =>
        rw [hb] at hq
        rw [if_pos (Nat.eq_of_beq_eq_true hb)]
        exact ⟨e', H', nx', rfl, hq⟩
      | false =>
        rw [hb] at hq
        rw [if_neg (fun e => by subst e; rw [Nat.beq_refl] at hb; cases hb)]
        exact ⟨e', H', nx', rfl, hq⟩
    | _ => exact ⟨e', H', nx', rfl, hq⟩
  | .region id ops dr, Q, e, H, nx, h => by
    have := opsE_sound (P := P) (N := N) hT hCE ops.toList e H nx [] [] h rfl
    cases dr with
    | true => exact awp_drawn hm this
    | false => exact awp_region this
  | .loop c, Q, e, H, nx, h => h.2 rfl
  | .rangeFunc _ _ _ _, _, _, _, _, h => h.elim
  | .scope _, _, _, _, _, h => h.elim
  | .label _, _, _, _, _, h => h.elim
  | .goto _, _, _, _, _, h => h.elim
  | .refuse _, _, _, _, _, h => h.elim

end

/- A FUNCTION OF VALUES -/
def resOne (T : TT) (e : Tr) (H : GH) (r : ResultVar) (K' : V → Prop) : Prop := match r with
    | .tmp t => fV (e.get t) K'
    | .cell a ty => match e.get a with
      | .ptr k sz i off => tiK T ty fun ti => H.getK k fun sy ob => rowK sy ob i fun row => chkK (Nat.beq ob.sz sz && Nat.ble (off + ti.size) row.length) <| fV (ldV ti (row.drop off)) K'
      | _ => False
def resQ (T : TT) (e : Tr) (H : GH) (l : List ResultVar) : (List V → Prop) → Prop := List.rec (motive := fun _ => (List V → Prop) → Prop) (fun K => K []) (fun r _ ih K => resOne T e H r fun v => ih fun l => K (v :: l)) l
theorem resQ_sound {T : TT} {e : Tr} {H : GH} {nx : Nat} : ∀ (rs : List ResultVar) {K : List V → Prop}, resQ T e H rs K → ∃ xs, resL T (stOf e H nx) rs = some xs ∧ K xs
  | [], K, h => ⟨[], rfl, h⟩
  | r :: rs, K, h => by
    have h : resOne T e H r fun v => resQ T e H rs fun l => K (v :: l) := h
    have key : ∃ v, resV T (stOf e H nx) r = some v ∧ resQ T e H rs fun l => K (v :: l) := by
      cases r with
      | tmp t => exact ⟨e.get t, rfl, fV_sound (K := fun v => resQ T e H rs fun l => K (v :: l)) h⟩
      | cell a ty =>
        simp only [resOne] at h
        split at h
        · rename_i k sz i off ha
          obtain ⟨ti, ht, h⟩ := tiK_sound h
          obtain ⟨sy, ob, hk, h⟩ := GH.getK_sound _ _ h
          obtain ⟨row, hrow, h⟩ := rowK_sound h
          obtain ⟨hc, h⟩ := chkK_sound h
          rw [Bool.and_eq_true] at hc
          refine ⟨_, ?_, fV_sound (K := fun v => resQ T e H rs fun l => K (v :: l)) h⟩
          simp only [resV, stOf, ha, ht, hk, hrow]
          rw [if_pos ⟨Nat.eq_of_beq_eq_true hc.1, Nat.le_of_ble_eq_true hc.2⟩]
        · exact h.elim
    obtain ⟨v, hv, h⟩ := key
    obtain ⟨l, hl, h⟩ := resQ_sound (nx := nx) rs h
    exact ⟨v :: l, by simp only [resL, hv, hl], h⟩

/-- the answer as a contract tells it -/
def cvT (H : GH) (v : V) (K : V → Prop) : Prop := match v with
  | .tup cs => cvAs H cs fun cs _ => K (.tup cs)
  | v => cvA H v fun v _ => K v
def retQ (T : TT) (fn : Func) (r : V) : Exit → Tr → GH → Nat → Prop := fun ex e H nx => match ex with
  | .normal => resQ T e H fn.results.toList fun xs => cvT H (pack xs) fun v => v = r
  | .ret => resQ T e H fn.results.toList fun xs => cvT H (pack xs) fun v => v = r
  | _ => False
theorem cvT_sound {H : GH} {v : V} {K : V → Prop} (h : cvT H v K) : ∃ r, Wv H.hp noK r v ∧ K r := by
  unfold cvT at h
  split at h
  · obtain ⟨cs, B, h1, h⟩ := cvAs_sound _ h
    exact ⟨_, .tup h1.2.1 (h1.2.2 H.hp h1.1), h⟩
  · obtain ⟨c, B, h1, h⟩ := cvA_sound h
    exact ⟨_, h1.2 H.hp h1.1, h⟩
theorem retQ_sound {T : TT} {fn : Func} {r : V} {ex : Exit} {st : St} (h : QOf (retQ T fn r) ex st) : fnPost T fn [] r [] ex st := by
  obtain ⟨e, H, nx, rfl, h⟩ := h
  have key : ∀ ex, (ex = .normal ∨ ex = .ret) → (resQ T e H fn.results.toList fun xs => cvT H (pack xs) fun v => v = r) → fnPost T fn [] r [] ex (stOf e H nx) := fun ex hex h => by
    obtain ⟨xs, hx, h⟩ := resQ_sound (nx := nx) _ h
    obtain ⟨r', hw, rfl⟩ := cvT_sound h
    exact ⟨hex, xs, H.hp, noK, hx, fun _ _ h => h, hw, (fun k o h => by cases h), (fun k k' k0 h => by cases h), (fun k h => absurd rfl h), (fun k h => by simp [keysOf] at h)⟩
  cases ex with
  | normal => exact key _ (.inl rfl) h
  | ret => exact key _ (.inr rfl) h
  | _ => exact h.elim

/-- the slots at the beginning -/
def initK : List V → Nat → Tr → (Tr → Prop) → Prop
  | [], _, e, K => K e
  | v :: l, i, e, K => e.setK i v fun e => initK l (i + 1) e K
theorem initK_sound : ∀ (l : List V) (i : Nat) (e : Tr) {K : Tr → Prop}, initK l i e K → ∃ e' : Tr, (∀ t, e'.get t = if i ≤ t then (match l[t - i]? with | some v => v | none => e.get t) else e.get t) ∧ K e'
  | [], i, e, _, h => ⟨e, fun t => by simp, h⟩
  | v :: l, i, e, K, h => by
    obtain ⟨e1, h1, h⟩ := Tr.setK_sound _ _ h
    obtain ⟨e2, h2, h⟩ := initK_sound l (i + 1) e1 h
    refine ⟨e2, fun t => ?_, h⟩
    rw [h2, h1]
    simp only [upd]
    by_cases h0 : t = i
    · subst h0
      rw [if_neg (by omega), if_pos (Nat.le_refl _), Nat.sub_self, if_pos rfl]
      rfl
    · by_cases h3 : i + 1 ≤ t
      · rw [if_neg h0, if_pos h3, if_pos (show i ≤ t by omega), show t - i = (t - (i + 1)) + 1 by omega, List.getElem?_cons_succ]
      · rw [if_neg h3, if_neg h0, if_neg (by omega)]

/- CALLS TAKEN BY THE CALLEE's TEXT -/
def namesV (n : Nat) : V → List Nat := Nat.rec (motive := fun _ => V → List Nat) (fun _ => []) (fun _ ih v => match v with
  | .agg cs => cs.flatMap ih
  | .tup cs => cs.flatMap ih
  | .fn _ cs => cs.flatMap ih
  | .win k _ _ _ _ => [k]
  | .ptr k _ _ _ => [k]
  | _ => []) n
def rowNames (p : Nat × Bool × VObj) : List Nat := match p with
  | (_, true, _) => []
  | (_, false, o) => o.rows.flatMap fun r => r.flatMap (namesV 3)
def memN (l : List Nat) (k : Nat) : Bool := match l with
  | [] => false
  | j :: l => match Nat.beq k j with
    | true => true
    | false => memN l k
theorem memN_mem : ∀ {l : List Nat} {k : Nat}, memN l k = true → k ∈ l
  | [], k, h => by cases h
  | j :: l, k, h => by
    simp only [memN] at h
    split at h
    · rename_i hb; rw [Nat.eq_of_beq_eq_true hb]; simp
    · exact List.mem_cons_of_mem _ (memN_mem h)
/-- names more -/
def addN : List Nat → List Nat → (List Nat → Prop) → Prop
  | [], ks, K => K ks
  | n :: ns, ks, K => match memN ks n with
    | true => addN ns ks K
    | false => addN ns (n :: ks) K
def growK : GH → List Nat → (List Nat → Prop) → Prop
  | [], ks, K => K ks
  | (k, s, o) :: H, ks, K => match memN ks k with
    | true => addN (rowNames (k, s, o)) ks fun ks => growK H ks K
    | false => growK H ks K
def reachK (n : Nat) (H : GH) : List Nat → (List Nat → Prop) → Prop := Nat.rec (motive := fun _ => List Nat → (List Nat → Prop) → Prop) (fun ks K => K ks) (fun _ ih ks K => match ks with
  | [] => K []
  | k :: ks => growK H (k :: ks) fun ks => ih ks K) n
theorem addN_sound : ∀ (ns ks : List Nat) {K : List Nat → Prop}, addN ns ks K → ∃ ks, K ks
  | [], ks, K, h => ⟨ks, h⟩
  | n :: ns, ks, K, h => by
    simp only [addN] at h
    split at h
    · exact addN_sound ns ks h
    · exact addN_sound ns _ h
theorem growK_sound : ∀ (H : GH) (ks : List Nat) {K : List Nat → Prop}, growK H ks K → ∃ ks, K ks
  | [], ks, K, h => ⟨ks, h⟩
  | (k, s, o) :: H, ks, K, h => by
    simp only [growK] at h
    split at h
    · obtain ⟨ks', h⟩ := addN_sound _ _ h
      exact growK_sound H ks' h
    · exact growK_sound H ks h
theorem reachK_sound : ∀ (n : Nat) (H : GH) (ks : List Nat) {K : List Nat → Prop}, reachK n H ks K → ∃ ks, K ks
  | 0, H, ks, K, h => ⟨ks, h⟩
  | n + 1, H, [], K, h => ⟨[], h⟩
  | n + 1, H, k :: ks, K, h => by
    obtain ⟨ks', h⟩ := growK_sound H (k :: ks) (K := fun ks => reachK n H ks K) h
    exact reachK_sound n H ks' h
/-- what can be reached from values -/
def fromK (H : GH) (ns : List Nat) (K : List Nat → Prop) : Prop := addN ns [] fun ks => reachK 4 H ks K
theorem fromK_sound {H : GH} {ns : List Nat} {K : List Nat → Prop} (h : fromK H ns K) : ∃ ks, K ks := by
  obtain ⟨ks, h⟩ := addN_sound _ _ h
  exact reachK_sound _ _ _ h
def GH.selK (q : Nat → Bool) : GH → (GH → Prop) → Prop
  | [], K => K []
  | (k, s, o) :: l, K => match q k with
    | true => GH.selK q l fun l' => K ((k, s, o) :: l')
    | false => GH.selK q l K
theorem GH.selK_sound {q : Nat → Bool} : ∀ (H : GH) {K : GH → Prop}, H.selK q K → ∃ B, B.hp = (fun k => if q k = true then H.hp k else none) ∧ (∀ p ∈ B, p ∈ H) ∧ K B
  | [], K, h => ⟨[], by funext k; simp [GH.hp], fun p hp => hp, h⟩
  | (k, s, o) :: l, K, h => by
    simp only [GH.selK] at h
    cases hq : q k with
    | true =>
      rw [hq] at h
      obtain ⟨B, h1, h2, h3⟩ := GH.selK_sound l h
      refine ⟨_, ?_, fun p hp => ?_, h3⟩
      · simp only [GH.hp, h1]
        funext t
        simp only [upd]
        by_cases e : t = k
        · subst e; simp [hq]
        · simp [e]
      · rcases List.mem_cons.1 hp with rfl | hp
        · simp
        · simp [h2 p hp]
    | false =>
      rw [hq] at h
      obtain ⟨B, h1, h2, h3⟩ := GH.selK_sound l h
      refine ⟨B, ?_, fun p hp => by simp [h2 p hp], h3⟩
      rw [h1]
      funext t
      simp only [GH.hp, upd]
      by_cases e : t = k
      · subst e; simp [hq]
      · simp [e]
def packK : List V → (V → Prop) → Prop
  | [x], K => K x
  | l, K => K (.tup l)
theorem packK_eq (l : List V) (K : V → Prop) : packK l K = K (pack l) := by
  match l with
  | [] => rfl
  | [x] => rfl
  | x :: y :: l => rfl
/-- what the callee leaves -/
def retG (T : TT) (fn : Func) (B : GH) (nx : Nat) (K : V → GH → Nat → Prop) : QT := fun ex e H nx1 => match ex with
  | .normal => resQ T e H fn.results.toList fun xs => packK xs fun v => fV v fun v => fromK H (namesV 4 v) fun ks => H.selK (fun k => Nat.blt k nx || memN ks k) fun B' =>
      chkK (Nat.ble nx nx1 && B'.keys.all (fun k => Nat.blt k nx1 && (Nat.ble nx k || memN B.keys k)) && nmQ (memN B'.keys) 4 v) <| objsNm (memN B'.keys) B' <| K v B' nx1
  | .ret => resQ T e H fn.results.toList fun xs => packK xs fun v => fV v fun v => fromK H (namesV 4 v) fun ks => H.selK (fun k => Nat.blt k nx || memN ks k) fun B' =>
      chkK (Nat.ble nx nx1 && B'.keys.all (fun k => Nat.blt k nx1 && (Nat.ble nx k || memN B.keys k)) && nmQ (memN B'.keys) 4 v) <| objsNm (memN B'.keys) B' <| K v B' nx1
  | _ => False
structure RetOk (B B' : GH) (nx nx' : Nat) (v : V) : Prop where
  le : nx ≤ nx'
  lt : ∀ j, j ∈ B'.keys → j < nx'
  new : ∀ j, j ∈ B'.keys → j ∉ B.keys → nx ≤ j
  nv : Nm (· ∈ B'.keys) v
  nb : ∀ p ∈ B', RowsNm (· ∈ B'.keys) p.2.2.rows
theorem retG_sound {T : TT} {fn : Func} {B : GH} {nx : Nat} {K : V → GH → Nat → Prop} {ex : Exit} {e : Tr} {H : GH} {nx1 : Nat} (h : retG T fn B nx K ex e H nx1) :
    (ex = .normal ∨ ex = .ret) ∧ ∃ xs B', resL T (stOf e H nx1) fn.results.toList = some xs ∧ Sub B'.hp H.hp ∧ RetOk B B' nx nx1 (pack xs) ∧ K (pack xs) B' nx1 := by
  have key : (resQ T e H fn.results.toList fun xs => packK xs fun v => fV v fun v => fromK H (namesV 4 v) fun ks => H.selK (fun k => Nat.blt k nx || memN ks k) fun B' =>
      chkK (Nat.ble nx nx1 && B'.keys.all (fun k => Nat.blt k nx1 && (Nat.ble nx k || memN B.keys k)) && nmQ (memN B'.keys) 4 v) <| objsNm (memN B'.keys) B' <| K v B' nx1) →
      ∃ xs B', resL T (stOf e H nx1) fn.results.toList = some xs ∧ Sub B'.hp H.hp ∧ RetOk B B' nx nx1 (pack xs) ∧ K (pack xs) B' nx1 := fun h => by
    obtain ⟨xs, hx, h⟩ := resQ_sound (nx := nx1) _ h
    rw [packK_eq] at h
    have h := fV_sound (v := pack xs) h
    obtain ⟨ks, h⟩ := fromK_sound h
    obtain ⟨B', h1, h2, h⟩ := GH.selK_sound H h
    obtain ⟨hc, h⟩ := chkK_sound h
    obtain ⟨ho, h⟩ := objsNm_sound _ h
    simp only [Bool.and_eq_true] at hc
    obtain ⟨⟨c1, c2⟩, c3⟩ := hc
    rw [List.all_eq_true] at c2
    refine ⟨xs, B', hx, fun k o hk => ?_, ⟨Nat.le_of_ble_eq_true c1, fun j hj => ?_, fun j hj hn => ?_, ?_, fun p hp => ?_⟩, h⟩
    · rw [h1] at hk
      simp only at hk
      split at hk
      · exact hk
      · cases hk
    · have := c2 j hj
      rw [Bool.and_eq_true] at this
      exact Nat.le_of_ble_eq_true this.1
    · have := c2 j hj
      rw [Bool.and_eq_true, Bool.or_eq_true] at this
      rcases this.2 with h | h
      · exact Nat.le_of_ble_eq_true h
      · exact absurd (memN_mem h) hn
    · exact (nmQ_sound 4 _ c3).mono fun k hk => memN_mem hk
    · exact fun r hr x hx => (ho p hp r hr x hx).mono fun k hk => memN_mem hk
  cases ex with
  | normal => exact ⟨.inl rfl, key h⟩
  | ret => exact ⟨.inr rfl, key h⟩
  | _ => exact h.elim

theorem fnG_of {P : Program} {T : TT} (hT : TOk P T) {k N nx nx1 : Nat} {fn : Func} {c : Code} {args : List V} {B B' : GH} {ex : Exit} {e : Tr} {H : GH} {xs : List V} (hf : P.funcs[k]? = some fn) (hb : fn.body = some c) (hok : callOk P k = true) (hN : N = args.length + (fn.ntmps - args.length)) (hB : ∀ j ∈ B.keys, j < nx)
    (hex : ex = .normal ∨ ex = .ret) (hres : resL T (stOf e H nx1) fn.results.toList = some xs) (hsub : Sub B'.hp H.hp) (hr : RetOk B B' nx nx1 (pack xs)) (h : AWpD P N nx c ex e H nx1 ⟨argEnv args, B.hp, nx⟩) : FnG P k args B nx (pack xs) B' nx1 := by
  refine ⟨hok, hr.le, hr.lt, hr.new, fun S ρ w vs hl hrep hs hnew => ?_⟩
  refine calls_of_wp hf hb ?_
  have hst : SimSt N S ρ { tmps := vs ++ Array.replicate (fn.ntmps - vs.size) undef, defers := [] } w ⟨argEnv args, B.hp, nx⟩ :=
    ⟨hs, argEnv_rep hl hrep, by simp [hN, hl], rfl, hnew, fun k o hk => hB k (GH.hp_keys.1 (by simp only at hk; rw [hk]; simp))⟩
  refine h S ρ _ w hst _ fun ex1 st1 S' ρ' a' w' hq hs' he => ?_
  obtain ⟨rfl, rfl⟩ := hq
  obtain ⟨u, hu, hur⟩ := results_run hT hs' hres
  have hret : ∃ v S' ρ', Ending.returned u = .returned v ∧ Rep S' ρ' w' v (pack xs) ∧ Sim S' ρ' w' B'.hp ∧ Ext0 S ρ w B.hp S' ρ' w' B'.hp := by
    refine ⟨u, S', ρ', rfl, hur, hs'.sim.sub hsub, ?_⟩
    exact { os := he.os, tape := he.tape, output := he.output, size := he.size, block := he.block, keeps := he.keeps, more := he.more, only := he.only
            live := fun b hb => he.live b (hb.sub hsub), own := fun b hb => he.own b (hb.sub hsub)
            keys := fun k b h => by
              rcases Nat.lt_or_ge k nx with hk | hk
              · exact he.low k b hk h
              · rw [hnew k hk] at h; cases h }
  rcases hex with rfl | rfl
  · exact ⟨hs'.defers, u, hu, hret⟩
  · exact ⟨hs'.defers, u, hu, hret⟩

/-- the texts that are taken at a call -/
abbrev ITab := Nat → Option (Func × Code × Nat × Nat)
def IOk (P : Program) (I : ITab) : Prop := ∀ k fn c N d, I k = some (fn, c, N, d) → P.funcs[k]? = some fn ∧ fn.body = some c ∧ callOk P k = true
abbrev VCT := Nat → Nat → Code → QT → Tr → GH → Nat → Prop
/-- by the callee's text where the table has it, by a contract where it has not -/
def ceI (P : Program) (T : TT) (I : ITab) (W : VCT) : CET := fun kf as H nx K => match I kf with
  | none => ceC P kf as H nx K
  | some (fn, c, N, d) => chkK (Nat.beq N (as.length + (fn.ntmps - as.length))) <| fromK H (as.flatMap (namesV 4)) fun ks => H.selK (memN ks) fun B =>
      chkK (as.all (nmQ (fun k => Nat.blt k nx) 4) && B.keys.all (fun k => Nat.blt k nx)) <| objsNm (fun k => Nat.blt k nx) B <|
        initK as 0 (Tr.full d) fun e => W N nx c (retG T fn B nx fun v B' nx' => K (.gn B B' nx') v) e B nx
theorem init_st {args : List V} {d : Nat} {e : Tr} {B : GH} {nx : Nat} (he : ∀ t, e.get t = if 0 ≤ t then (match args[t - 0]? with | some v => v | none => (Tr.full d).get t) else (Tr.full d).get t) : (⟨argEnv args, B.hp, nx⟩ : St) = stOf e B nx := by
  simp only [stOf]
  congr 1
  funext t
  rw [he t]
  simp only [Nat.zero_le, if_true, Nat.sub_zero, argEnv, Tr.full_get, List.getD]
  cases args[t]? <;> rfl
theorem ceI_sound {P : Program} {T : TT} (hT : TOk P T) (hm : P.follows .mixedOrders = true) {I : ITab} (hI : IOk P I) {CE : CET} (hCE : CESound P CE) : CESound P (ceI P T I (vc P T CE true)) := by
  intro kf as H nx K h
  unfold ceI at h
  split at h
  · exact ceC_sound _ _ _ _ _ h
  · rename_i fn c N d hI'
    obtain ⟨hf, hb, hok⟩ := hI _ _ _ _ _ hI'
    obtain ⟨hN, h⟩ := chkK_sound h
    have hN := Nat.eq_of_beq_eq_true hN
    obtain ⟨ks, h⟩ := fromK_sound h
    obtain ⟨B, b1, b2, h⟩ := GH.selK_sound H h
    obtain ⟨hc, h⟩ := chkK_sound h
    obtain ⟨ho, h⟩ := objsNm_sound _ h
    obtain ⟨e, he, h⟩ := initK_sound _ _ _ h
    obtain ⟨ex, e1, H1, nx1, hq, hd⟩ := vc_det hT hCE hm c _ e B nx h
    obtain ⟨hex, xs, B', hres, hsub, hr, hK⟩ := retG_sound hq
    rw [Bool.and_eq_true] at hc
    have hB : ∀ j ∈ B.keys, j < nx := fun j hj => Nat.le_of_ble_eq_true (List.all_eq_true.1 hc.2 j hj)
    rw [← init_st he] at hd
    have hg := fnG_of hT hf hb hok hN hB hex hres hsub hr hd
    refine ⟨_, _, hK, fun ov o f xs' ts caps hop hf' ha => ?_⟩
    refine ⟨lok_callG hop hf' hg ha (fun x hx => (nmQ_sound 4 x (List.all_eq_true.1 hc.1 x hx)).mono fun k hk => Nat.le_of_ble_eq_true hk) (fun p hp r hr x hx => (ho p hp r hr x hx).mono fun k hk => Nat.le_of_ble_eq_true hk) hB hr.nv hr.nb, ?_, hr.le, ?_, ?_⟩
    · rw [GH.hp_hl, b1]
      intro k o hk
      simp only at hk
      split at hk
      · exact hk
      · cases hk
    · intro k h1 h2
      rw [GH.keys_hl] at h1 h2
      exact hr.new k h1 h2
    · intro k h1
      rw [GH.keys_hl] at h1
      exact hr.lt k h1
/-- texts within texts, so deep -/
def ceN (P : Program) (T : TT) (I : ITab) : Nat → CET
  | 0 => ceC P
  | n + 1 => ceI P T I (vc P T (ceN P T I n) true)
theorem ceN_sound {P : Program} {T : TT} (hT : TOk P T) (hm : P.follows .mixedOrders = true) {I : ITab} (hI : IOk P I) : ∀ n, CESound P (ceN P T I n)
  | 0 => ceC_sound
  | n + 1 => ceI_sound hT hm hI (ceN_sound hT hm hI n)
def noI : ITab := fun _ => none
theorem noI_ok {P : Program} : IOk P noI := fun k fn c N d h => by cases h

/-- A FUNCTION OF VALUES: what is to be shown of its body. -/
theorem fn_vcI {P : Program} {T : TT} (hT : TOk P T) (hm : P.follows .mixedOrders = true) {I : ITab} (hI : IOk P I) (n : Nat) {k N d : Nat} {fn : Func} {c : Code} {args : List V} {r : V} (hf : P.funcs[k]? = some fn) (hb : fn.body = some c) (hn : (fn.name == "runtime.NumGoroutine") = false) (hN : N = args.length + (fn.ntmps - args.length))
    (h : initK args 0 (Tr.full d) fun e => vc P T (ceN P T I n) false N 0 c (retQ T fn r) e [] 0) : FnC P k args [] r [] := by
  refine ⟨by simp [callOk, hf, hn, hb], ?_⟩
  obtain ⟨e, he, h⟩ := initK_sound _ _ _ h
  refine fn_intro (m := 0) hT hf hb hN (fun k h => by simp [keysOf] at h) ?_
  have hst : (⟨argEnv args, hpo [], 0⟩ : St) = stOf e [] 0 := init_st (B := []) he
  rw [hst]
  exact awp_mono (vc_sound hT (ceN_sound hT hm hI n) hm c _ e [] 0 h) fun ex st hq => retQ_sound hq
theorem fn_vc {P : Program} {T : TT} (hT : TOk P T) (hm : P.follows .mixedOrders = true) {k N d : Nat} {fn : Func} {c : Code} {args : List V} {r : V} (hf : P.funcs[k]? = some fn) (hb : fn.body = some c) (hn : (fn.name == "runtime.NumGoroutine") = false) (hN : N = args.length + (fn.ntmps - args.length))
    (h : initK args 0 (Tr.full d) fun e => vc P T (ceC P) false N 0 c (retQ T fn r) e [] 0) : FnC P k args [] r [] := fn_vcI hT hm noI_ok 0 hf hb hn hN h

attribute [irreducible] LoopN
end Go.Proofs.Ytgaginflocpcfaa
