/-
  The value-level machine: append onto an object, copy, len, min, max, texts and bytes.
-/
import Derived.Test.YtgaginflocpcfaaAbsI
namespace Go.Proofs.Ytgaginflocpcfaa
open Go
set_option linter.unusedVariables false
set_option linter.unusedSimpArgs false

theorem hpo_app (l l' : HL) (k : Nat) : hpo (l ++ l') k = match hpo l k with | some o => some o | none => hpo l' k := by
  induction l with
  | nil => rfl
  | cons p l ih =>
    obtain ⟨j, o⟩ := p
    simp only [List.cons_append, hpo, upd]
    split
    · rfl
    · exact ih
theorem sub_left (l l' : HL) : Sub (hpo l) (hpo (l ++ l')) := fun k o h => by rw [hpo_app, h]
/-- two parts of a heap that share no name -/
def Apart (l l' : HL) : Prop := ∀ k, hpo l' k ≠ none → hpo l k = none
theorem sub_right {l l' : HL} (h : Apart l l') : Sub (hpo l') (hpo (l ++ l')) := fun k o hk => by rw [hpo_app, h k (by rw [hk]; simp)]; exact hk

/-- an object's block gets another name -/
theorem rename_sim {S : Nat → Prop} {ρ : KM} {w : World} {k κ b : Nat} {ob ob' : VObj} {c c' : Array Value} {t : TypeId} (hs : Sim S ρ w (hpo [(k, ob)])) (hk : ρ k = some b) (hκ : ρ κ = none)
    (hw : w.heap[b]? = some (.cells c t (0, 0))) (hf : ob.frz = false) (hf' : ob'.frz = false) (hz : c'.size = c.size) (hr : RowsAt S ρ w ob'.sz ob'.rows c') :
    Sim S (upd ρ κ (some b)) (World.block w b (.cells c' t (0, 0))) (hpo [(κ, ob')]) ∧ Ext S ρ w (hpo [(k, ob)]) S (upd ρ κ (some b)) (World.block w b (.cells c' t (0, 0))) (hpo [(κ, ob')]) := by
  have hnS : ¬ S b := (hs.frz (hpo_one_self k ob) hk).2 hf
  have hkeys : ∀ j b', ρ j = some b' → upd ρ κ (some b) j = some b' := fun j b' h => by
    rw [upd_ne]; · exact h
    · rintro rfl; rw [hκ] at h; cases h
  have old : ∀ b', b' ≠ b → (World.block w b (.cells c' t (0, 0))).heap[b']? = w.heap[b']? := fun b' h => by rw [block_get hw, if_neg h]
  have kp : Keeps w (World.block w b (.cells c' t (0, 0))) := by
    refine ⟨fun b' x e fr h => ?_, fun b' es n h => ?_⟩
    · by_cases e' : b' = b
      · subst e'
        rw [hw] at h
        cases h
        exact ⟨c', _, by rw [block_get hw, if_pos rfl], hz⟩
      · exact ⟨x, fr, by rw [old b' e']; exact h, rfl⟩
    · by_cases e' : b' = b
      · subst e'
        rw [hw] at h
        cases h
      · exact ⟨es, n, by rw [old b' e']; exact h⟩
  have hrep : ∀ u x, Rep S ρ w u x → Rep S (upd ρ κ (some b)) (World.block w b (.cells c' t (0, 0))) u x := fun u x h =>
    h.mono (fun _ h => h) (fun b' hS => old b' (fun e => hnS (e ▸ hS))) hkeys kp
  refine ⟨⟨fun k' o h => ?_, fun k1 k2 o o' b' a1 a2 a3 a4 => ?_, fun b' h => ?_⟩, ?_⟩
  · obtain ⟨rfl, rfl⟩ := hpo_one_inv h
    exact .inl ⟨b, c', t, upd_same _ _ _, .inl (by rw [block_get hw, if_pos rfl]), hr.mono hrep, fun h => (by rw [hf'] at h; cases h), fun _ => hnS⟩
  · obtain ⟨rfl, _⟩ := hpo_one_inv a1
    obtain ⟨rfl, _⟩ := hpo_one_inv a2
    rfl
  · rw [block_size]; exact hs.bnd b' h
  · exact { os := rfl, tape := rfl, output := rfl, size := by rw [block_size]; exact Nat.le_refl _
            block := fun b' _ ho => old b' (fun e => ho (e ▸ ⟨k, ob, hpo_one_self _ _, hf, hk⟩))
            keeps := kp
            more := fun _ h => h
            only := fun _ h => .inl h
            live := fun b' ⟨k', o, a, r⟩ => by
              obtain ⟨rfl, _⟩ := hpo_one_inv a
              rw [upd_same] at r
              cases r
              exact .inr ⟨k, ob, hpo_one_self _ _, hk⟩
            own := fun b' ⟨k', o, a, _, r⟩ => by
              obtain ⟨rfl, _⟩ := hpo_one_inv a
              rw [upd_same] at r
              cases r
              exact .inr ⟨k, ob, hpo_one_self _ _, hf, hk⟩
            keys := hkeys
            dom := fun j b' h => by
              by_cases e : j = κ
              · subst e; exact .inr ⟨ob', hpo_one_self _ _⟩
              · rw [upd_ne _ _ e] at h; exact .inl h }

section
variable {P : Program} {T : TT} {ov : Operand → V} {o : Oper}

theorem cells_one {S : Nat → Prop} {ρ : KM} {w : World} {sz : Nat} {N : List (List V)} {cs : Array Value} (h : RowsAt S ρ w sz N cs) (hz : cs.size = N.length * sz) (h1 : ∀ r ∈ N, r.all V.one = true) : ∀ v ∈ cs.toList, v.oneCell' = true := by
  intro v hv
  obtain ⟨j, hj, rfl⟩ := List.getElem_of_mem hv
  have hj' : j < N.length * sz := by rw [← hz]; simpa using hj
  have hsz : 0 < sz := by
    rcases Nat.eq_zero_or_pos sz with h0 | h0
    · rw [h0] at hj'; simp at hj'
    · exact h0
  have hi : j / sz < N.length := (Nat.div_lt_iff_lt_mul hsz).2 hj'
  have hr : (N[j / sz]).length = sz := h.1 _ (List.getElem_mem hi)
  have hm : j % sz < (N[j / sz]).length := by rw [hr]; exact Nat.mod_lt _ hsz
  have e : j / sz * sz + j % sz = j := by rw [Nat.mul_comm]; exact Nat.div_add_mod j sz
  have := h.2.2 (j / sz) (j % sz) _ cs[j] _ (List.getElem?_eq_getElem hi) (List.getElem?_eq_getElem hm) (by rw [e]; simp)
  refine one_rep (by simpa using this) ?_
  have hh := h1 _ (List.getElem_mem hi)
  rw [List.all_eq_true] at hh
  exact hh _ (List.getElem_mem hm)

/-- an object without places -/
theorem none_sim {S : Nat → Prop} {ρ : KM} {w : World} {κ sz : Nat} (hb : ∀ b, S b → b < w.heap.size) (hκ : ρ κ = none) (pre : HL) :
    Sim S ρ w (hpo [(κ, ⟨sz, [], false⟩)]) ∧ Ext S ρ w (hpo pre) S ρ w (hpo [(κ, ⟨sz, [], false⟩)]) := by
  have none : ∀ k o b, hpo [(κ, (⟨sz, [], false⟩ : VObj))] k = some o → ρ k = some b → False := fun k o b h1 h2 => by
    obtain ⟨rfl, _⟩ := hpo_one_inv h1
    rw [hκ] at h2; cases h2
  refine ⟨⟨fun k o h => ?_, fun k k' o o' b a1 a2 a3 a4 => (none k o b a1 a3).elim, hb⟩, ?_⟩
  · obtain ⟨rfl, rfl⟩ := hpo_one_inv h
    exact .inr ⟨hκ, rfl⟩
  · exact { os := rfl, tape := rfl, output := rfl, size := Nat.le_refl _, block := fun _ _ _ => rfl, keeps := Keeps.refl w, more := fun _ h => h, only := fun _ h => .inl h
            live := fun b ⟨k, o, h1, h2⟩ => (none k o b h1 h2).elim
            own := fun b ⟨k, o, h1, _, h2⟩ => (none k o b h1 h2).elim
            keys := fun _ _ h => h, dom := fun _ _ h => .inl h }

/-- behind all that an object holds -/
theorem lok_appendW (hT : TOk P T) {t e t2 : Nat} {x y : Operand} {i ie i2 : TI} {rd : HL} {N : List (List V)} {k κ sz n cp : Nat} {ob : VObj} (ho : o.op = .call { callee := .builtin .append, args := #[x, y], argTypes := #[t, t2] }) (ht : T t = some i) (hd : i.d = .slice e) (he : T e = some ie) (hb : ie.bytes ≠ 0)
    (ht2 : T t2 = some i2) (hi2 : i2.d = .string ∨ ∃ e, i2.d = .slice e) (hx : ov x = .win k sz 0 n cp) (hz : ie.size = sz) (hzo : ob.sz = sz) (hn : n = ob.rows.length) (hf : ob.frz = false) (hsrc : Src P (ov y) ie.size N.length rd N) (hap : Apart rd [(k, ob)]) (hne : κ ≠ k)
    (h1 : ∀ r ∈ N, r.all V.one = true) (hg : (2 * (n + N.length) + 192) * ie.bytes ≤ 2 ^ 48) : LOk P ov o rd [(k, ob)] [(κ, ⟨sz, ob.rows ++ N, false⟩)] (.win κ sz 0 (n + N.length) (n + N.length)) := by
  intro S ρ w a hr hs hnew next Q hK
  have hr := arg_reps ho hr
  have e1 := hr x (by simp)
  have e2 := hr y (by simp)
  have hs1 := hs.sub (sub_left rd [(k, ob)])
  have hs2 := hs.sub (sub_right hap)
  obtain ⟨g1, _⟩ := hsrc S ρ w _ e2 hs1
  obtain ⟨cs, q1, q1', q2, q3⟩ := hsrc.drew e2 hs1 N.length (Nat.le_refl _)
  rw [List.take_length] at q2
  have hκ : ρ κ = none := hnew κ (by simp [hpo_one]) (by rw [hpo_one, if_neg hne])
  subst hz
  have hsrcx : Src P (ov x) ie.size n [(k, ob)] ob.rows := by
    rw [hx]
    have := src_win (P := P) (k := k) (lo := 0) (m := n) (cp := cp) hzo (by omega)
    rw [List.drop_zero, hn, List.take_length] at this
    rw [hn]
    exact this
  have hbase : ∃ (ad : Option Addr) (cap : Nat), a.eval x = .slice ad n cap ∧ n ≤ cap := by
    rw [hx] at e1
    generalize a.eval x = cx at e1
    cases e1 with
    | win hk hw hn' hc hf' ho' => exact ⟨_, _, rfl, by omega⟩
    | win0 => exact ⟨_, _, rfl, Nat.le_refl _⟩
  obtain ⟨ad, cap, hc, hcap⟩ := hbase
  rw [hc] at e1
  by_cases h00 : N.length = 0 ∧ cap = 0
  · obtain ⟨h01, h02⟩ := h00
    have hn0 : n = 0 := by omega
    have hr0 : ob.rows = [] := List.length_eq_zero_iff.1 (by omega)
    have hN0 : N = [] := List.length_eq_zero_iff.1 h01
    have hcs0 : cs.toList = [] := by
      have : cs.size = 0 := by rw [q3, h01, Nat.zero_mul]
      rw [Array.eq_empty_of_size_eq_zero this]
    have hrun := run_inplace (ty := o.type) hT ht hd he ht2 hi2 (base := ad) (n := n) (cap := cap) g1 (by omega) q1 (w' := w) (fun a ha => by rw [hcs0]; rfl) (fun h => rfl)
    have hex : (execOp a.eval o).run P w = .ok (.value (.slice ad (n + N.length) cap)) w := by
      simp [execOp, ho, resolve, invoke, builtin, hc, hrun]
    obtain ⟨p1, p2⟩ := none_sim (sz := ie.size) hs.bnd hκ [(k, ob)]
    simp only [Oper.wp, hex, Oper.upon]
    rw [hr0, hN0] at hK
    refine hK _ S ρ w ?_ p1 p2
    rw [hn0, h01, h02, List.length_nil]
    exact .win0
  by_cases hin : n + N.length ≤ cap
  · rw [hx] at e1
    generalize hv : Value.slice ad n cap = v at e1
    cases e1 with
    | win hk hw hn' hcp hfit hoff =>
      rename_i b off cap' c t' fr
      simp only [Value.slice.injEq] at hv
      obtain ⟨rfl, _, rfl⟩ := hv
      obtain ⟨c0, t0, hw0, hR, _⟩ := hs2.at (hpo_one_self k ob) hk hw
      rw [hw] at hw0
      cases hw0
      rw [hzo] at hR
      have hoff' : off = 0 := by
        rcases hoff with h | h
        · simpa using h
        · omega
      subst hoff'
      subst hn
      have hsz : (ob.rows.length + N.length) * ie.size ≤ c.size := by
        have := Nat.mul_le_mul_right ie.size hin
        omega
      have hone := cells_one q2 q3 h1
      have hst : (storeCells (Addr.add ⟨b, 0, none⟩ (ob.rows.length * ie.size)) cs.toList).run P w = .ok () (World.block w b (.cells (wr c (ob.rows.length * ie.size) cs.toList) t' (0, 0))) := by
        rw [add_at, Nat.zero_add]
        have := run_storeCells (P := P) cs.toList w c (ob.rows.length * ie.size) 0 hw hone (by simp [q3]; rw [← Nat.add_mul]; exact hsz)
        simpa using this
      have hrun := run_inplace (ty := o.type) hT ht hd he ht2 hi2 (base := some ⟨b, 0, none⟩) (n := ob.rows.length) (cap := cap) g1 hin q1 (fun a ha => by cases ha; exact hst) (fun h => by cases h)
      have hrows := rows_wr (pos := ob.rows.length) hR q2 q3 (Nat.le_refl _) hsz
      rw [List.take_length, List.drop_eq_nil_of_le (by omega), List.append_nil] at hrows
      obtain ⟨p1, p2⟩ := rename_sim (ob' := ⟨ie.size, ob.rows ++ N, false⟩) hs2 hk hκ hw hf rfl (wr_size _ _ _) hrows
      have hex : (execOp a.eval o).run P w = .ok (.value (.slice (some ⟨b, 0, none⟩) (ob.rows.length + N.length) cap)) (World.block w b (.cells (wr c (ob.rows.length * ie.size) cs.toList) t' (0, 0))) := by
        simp [execOp, ho, resolve, invoke, builtin, hc, hrun]
      simp only [Oper.wp, hex, Oper.upon]
      refine hK _ _ _ _ (.win (upd_same _ _ _) (c := wr c (ob.rows.length * ie.size) cs.toList) (t := t') (fr := (0, 0)) (by rw [block_get hw, if_pos rfl]) (Nat.le_refl _) hin ?_ (.inl (by simp))) p1 p2
      rw [wr_size]; exact hfit
    | win0 =>
      simp only [Value.slice.injEq] at hv
      omega
  · obtain ⟨old, p1, p1', p2, p3⟩ := hsrcx.drew e1 hs2 n (Nat.le_refl _)
    obtain ⟨c, rest, hcc, hrun, hrest⟩ := run_grow (ty := o.type) hT ht hd he hb ht2 hi2 g1 (by omega) (Nat.le_trans (Nat.mul_le_mul_right _ (nsc_le (by omega))) hg) p1 q1 p1' q1'
    subst hn
    rw [List.take_length] at p2
    have hex : (execOp a.eval o).run P w = .ok (.value (.slice (some ⟨w.heap.size, 0, none⟩) (ob.rows.length + N.length) c)) (w.drew.alloc (.cells (old ++ cs ++ rest) e)) := by
      simp [execOp, ho, resolve, invoke, builtin, hc, hrun]
    obtain ⟨r1, r2⟩ := new_sim (pre := [(k, ob)]) (w' := w.drew.alloc (.cells (old ++ cs ++ rest) e)) hs.bnd hκ (ob := ⟨ie.size, ob.rows ++ N, false⟩) rfl (rows_app p2 q2 p3 q3) rfl rfl rfl rfl
    simp only [Oper.wp, hex, Oper.upon]
    refine hK _ _ _ _ (.win (upd_same _ _ _) (show (w.drew.alloc _).heap[w.heap.size]? = _ from push_new rfl) (Nat.le_refl _) hcc ?_ (.inl (by simp))) r1 r2
    have hsz : c * ie.size = (ob.rows.length + N.length) * ie.size + (c - (ob.rows.length + N.length)) * ie.size := by rw [← Nat.add_mul]; congr 1; omega
    simp only [Array.size_append, p3, q3, hrest, Nat.zero_add]
    rw [hsz, Nat.add_mul]
    exact Nat.le_refl _

/-- behind what has no room, or is nil: an object of one's own, whatever is appended, unless it is nothing behind something -/
theorem lok_appendN (hT : TOk P T) {t e t2 : Nat} {x y : Operand} {i ie i2 : TI} {rd : HL} {N L : List (List V)} {κ : Nat} (ho : o.op = .call { callee := .builtin .append, args := #[x, y], argTypes := #[t, t2] }) (ht : T t = some i) (hd : i.d = .slice e) (he : T e = some ie) (hb : ie.bytes ≠ 0)
    (ht2 : T t2 = some i2) (hi2 : i2.d = .string ∨ ∃ e, i2.d = .slice e) (hx : (∃ sz nn, ov x = .sls sz L nn true ∧ (sz = ie.size ∨ L = [])) ∨ (ov x = .lit (.slice none 0 0) ∧ L = [])) (hsrc : Src P (ov y) ie.size N.length rd N) (hN : N = [] → L = [])
    (hg : (2 * (L.length + N.length) + 192) * ie.bytes ≤ 2 ^ 48) : LOk P ov o rd [] [(κ, ⟨ie.size, L ++ N, false⟩)] (.win κ ie.size 0 (L.length + N.length) (L.length + N.length)) := by
  by_cases hN0 : N = []
  · have hL0 := hN hN0
    subst hN0; subst hL0
    intro S ρ w a hr hs hnew next Q hK
    have hs := hs.of_pre
    have hr := arg_reps ho hr
    have e1 := hr x (by simp)
    have e2 := hr y (by simp)
    obtain ⟨g1, g2⟩ := hsrc S ρ w _ e2 hs
    obtain ⟨cs, q1, q2, q3⟩ := g2 0 (Nat.le_refl _)
    have hcs : cs = #[] := by apply Array.eq_empty_of_size_eq_zero; simpa using q3
    subst hcs
    have hκ : ρ κ = none := hnew κ (by simp [hpo_one]) rfl
    have hbase : ∃ ad, a.eval x = .slice ad 0 0 := by
      rcases hx with ⟨sz, nn, hx, hz⟩ | ⟨hx, _⟩
      · rw [hx] at e1
        generalize a.eval x = cx at e1
        cases e1 with
        | sls h hn hc =>
          have hc := hc rfl
          subst hc
          cases h with
          | sl0 => exact ⟨_, rfl⟩
          | sl h1 h2 h3 h4 h5 h6 => exact ⟨_, rfl⟩
      · rw [hx] at e1
        exact ⟨none, e1.lit_inv⟩
    obtain ⟨ad, hc⟩ := hbase
    have hrun := run_inplace (ty := o.type) hT ht hd he ht2 hi2 (w := w) (w' := w) (base := ad) (n := 0) (cap := 0) g1 (by simp) q1 (fun a _ => rfl) (fun _ => rfl)
    have hex : (execOp a.eval o).run P w = .ok (.value (.slice ad 0 0)) w := by
      have : (Builtin.append_ #[t, t2] o.type #[.slice ad 0 0, a.eval y]).run P w = .ok (.slice ad 0 0) w := hrun
      simp [execOp, ho, resolve, invoke, builtin, hc, this]
    obtain ⟨p1, p2⟩ := none_sim (sz := ie.size) hs.bnd hκ []
    simp only [Oper.wp, hex, Oper.upon]
    exact hK _ S ρ w .win0 p1 p2
  · have hp : 0 < N.length := List.length_pos_iff.2 hN0
    exact lok_appendX hT ho ht hd he hb ht2 hi2 hx hsrc hN0 (Nat.le_trans (Nat.mul_le_mul_right _ (nsc_le (by omega))) hg)

/-- rows of an object are written over, in place -/
theorem put_rows {S : Nat → Prop} {ρ : KM} {w : World} {k sz lo n cp pos : Nat} {ob : VObj} {N : List (List V)} {cs : Array Value} {u : Value} (hu : Rep S ρ w u (.win k sz lo n cp)) (hs : Sim S ρ w (hpo [(k, ob)])) (hz : ob.sz = sz) (hf : ob.frz = false) (hcs : RowsAt S ρ w sz N cs) (hl : cs.size = N.length * sz)
    (h1 : ∀ r ∈ N, r.all V.one = true) (hp : pos + N.length ≤ cp) (hr : lo + pos + N.length ≤ ob.rows.length) :
    ∃ (ad : Option Addr) (cap : Nat) (w' : World), u = .slice ad n cap ∧ cp ≤ cap ∧ (∀ a, ad = some a → (storeCells (a.add (pos * sz)) cs.toList).run P w = .ok () w') ∧ (ad = none → N = [] ∧ w' = w) ∧ Sim S ρ w' (hpo [(k, ⟨sz, ob.rows.take (lo + pos) ++ N ++ ob.rows.drop (lo + pos + N.length), false⟩)]) ∧
      Ext S ρ w (hpo [(k, ob)]) S ρ w' (hpo [(k, ⟨sz, ob.rows.take (lo + pos) ++ N ++ ob.rows.drop (lo + pos + N.length), false⟩)]) ∧ ∀ x, Rep S ρ w u x → Rep S ρ w' u x := by
  have hzero : N.length = 0 → ob.rows.take (lo + pos) ++ N ++ ob.rows.drop (lo + pos + N.length) = ob.rows := fun h => by
    have : N = [] := List.length_eq_zero_iff.1 h
    subst this
    simp
  by_cases hN0 : N.length = 0
  · have hcs0 : cs.toList = [] := by
      have : cs.size = 0 := by rw [hl, hN0, Nat.zero_mul]
      rw [Array.eq_empty_of_size_eq_zero this]
    rw [hzero hN0, hcs0]
    have hob : (⟨sz, ob.rows, false⟩ : VObj) = ob := by cases ob; simp_all
    rw [hob]
    cases hu with
    | win hk hw hn hc hf' ho => exact ⟨_, _, w, rfl, hc, (fun _ _ => rfl), (fun h => by cases h), hs, Ext.refl _ _ _ _, fun _ h => h⟩
    | win0 => exact ⟨_, _, w, rfl, Nat.le_refl _, (fun _ _ => rfl), (fun _ => ⟨List.length_eq_zero_iff.1 hN0, rfl⟩), hs, Ext.refl _ _ _ _, fun _ h => h⟩
  · cases hu with
    | win hk hw hn hc hfit ho =>
      rename_i b off cap c t fr
      obtain ⟨c0, t0, hw0, hR, _⟩ := hs.at (hpo_one_self k ob) hk hw
      rw [hw] at hw0
      cases hw0
      rw [hz] at hR
      have hoff : off = lo * sz := by
        rcases ho with h | h
        · exact h
        · omega
      subst hoff
      have hrl := hR.2.1
      have hq := Nat.mul_le_mul_right sz hr
      have hsz : (lo + pos) * sz + cs.size ≤ c.size := by
        rw [hl, ← Nat.add_mul]
        omega
      have hone := cells_one hcs hl h1
      have hst := run_storeCells (P := P) cs.toList w c ((lo + pos) * sz) 0 hw hone (by simp; exact hsz)
      have hrows := rows_wr (pos := lo + pos) hR hcs hl (by omega) (by rw [Nat.add_mul, ← hl]; exact hsz)
      obtain ⟨p1, p2⟩ := write_sim (ob' := ⟨sz, ob.rows.take (lo + pos) ++ N ++ ob.rows.drop (lo + pos + N.length), false⟩) hs hk hw hf rfl (wr_size _ _ _) hrows
      refine ⟨_, _, _, rfl, hc, (fun a ha => ?_), (fun h => by cases h), p1, p2, fun x h => p2.rep hs h⟩
      cases ha
      rw [add_at, ← Nat.add_mul]
      simpa using hst
    | win0 => omega

/-- within the room that there is -/
theorem lok_appendIn (hT : TOk P T) {t e t2 : Nat} {x y : Operand} {i ie i2 : TI} {rd : HL} {N : List (List V)} {k sz lo n cp : Nat} {ob : VObj} (ho : o.op = .call { callee := .builtin .append, args := #[x, y], argTypes := #[t, t2] }) (ht : T t = some i) (hd : i.d = .slice e) (he : T e = some ie)
    (ht2 : T t2 = some i2) (hi2 : i2.d = .string ∨ ∃ e, i2.d = .slice e) (hx : ov x = .win k sz lo n cp) (hz : ie.size = sz) (hzo : ob.sz = sz) (hf : ob.frz = false) (hsrc : Src P (ov y) ie.size N.length rd N) (hap : Apart rd [(k, ob)])
    (h1 : ∀ r ∈ N, r.all V.one = true) (hp : n + N.length ≤ cp) (hl : lo + n + N.length ≤ ob.rows.length) : LOk P ov o rd [(k, ob)] [(k, ⟨sz, ob.rows.take (lo + n) ++ N ++ ob.rows.drop (lo + n + N.length), false⟩)] (.win k sz lo (n + N.length) cp) := by
  intro S ρ w a hr hs hnew next Q hK
  have hr := arg_reps ho hr
  have e1 := hr x (by simp)
  have e2 := hr y (by simp)
  have hs1 := hs.sub (sub_left rd [(k, ob)])
  have hs2 := hs.sub (sub_right hap)
  obtain ⟨g1, g2⟩ := hsrc S ρ w _ e2 hs1
  obtain ⟨cs, q1, q2, q3⟩ := g2 N.length (Nat.le_refl _)
  rw [List.take_length] at q2
  subst hz
  rw [hx] at e1
  obtain ⟨ad, cap, w', hc, hcap, hst, hst0, p1, p2, p3⟩ := put_rows (P := P) e1 hs2 hzo hf q2 q3 h1 hp hl
  have hrun := run_inplace (ty := o.type) hT ht hd he ht2 hi2 (base := ad) (n := n) (cap := cap) g1 (by omega) q1 hst (fun h => (hst0 h).2)
  have hex : (execOp a.eval o).run P w = .ok (.value (.slice ad (n + N.length) cap)) w' := by
    simp [execOp, ho, resolve, invoke, builtin, hc, hrun]
  simp only [Oper.wp, hex, Oper.upon]
  refine hK _ _ _ _ ?_ p1 p2
  have := p3 _ e1
  rw [hc] at this
  generalize hv : Value.slice ad n cap = v at this
  cases this with
  | win hk hw hn hc hf' ho => cases hv; exact .win hk hw hp hc hf' ho
  | win0 =>
    cases hv
    have : N.length = 0 := by omega
    rw [this]
    exact .win0

theorem lok_copy (hT : TOk P T) {t e t2 : Nat} {x y : Operand} {i ie : TI} {rd : HL} {N : List (List V)} {k sz lo n cp m : Nat} {ob : VObj} (ho : o.op = .call { callee := .builtin .copy, args := #[x, y], argTypes := #[t, t2] }) (ht : T t = some i) (hd : i.d = .slice e) (he : T e = some ie)
    (hx : ov x = .win k sz lo n cp) (hz : ie.size = sz) (hzo : ob.sz = sz) (hf : ob.frz = false) (hsrc : Src P (ov y) ie.size N.length rd N) (hap : Apart rd [(k, ob)]) (hm : m = min N.length n)
    (h1 : ∀ r ∈ N, r.all V.one = true) (hp : n ≤ cp) (hl : lo + m ≤ ob.rows.length) : LOk P ov o rd [(k, ob)] [(k, ⟨sz, ob.rows.take lo ++ N.take m ++ ob.rows.drop (lo + m), false⟩)] (.lit (.int .i64 m)) := by
  intro S ρ w a hr hs hnew next Q hK
  have hr := arg_reps ho hr
  have e1 := hr x (by simp)
  have e2 := hr y (by simp)
  have hs1 := hs.sub (sub_left rd [(k, ob)])
  have hs2 := hs.sub (sub_right hap)
  obtain ⟨g1, g2⟩ := hsrc S ρ w _ e2 hs1
  have hmN : m ≤ N.length := by omega
  obtain ⟨cs, q1, q2, q3⟩ := g2 m hmN
  subst hz
  rw [hx] at e1
  have hlen : (N.take m).length = m := by simp; omega
  obtain ⟨ad, cap, w', hc, hcap, hst, hst0, p1, p2, p3⟩ := put_rows (P := P) (pos := 0) e1 hs2 hzo hf q2 (by rw [hlen]; exact q3) (fun r hr => h1 r (List.mem_of_mem_take hr)) (by rw [hlen]; omega) (by rw [hlen]; omega)
  rw [hlen, Nat.add_zero] at p1 p2
  have hu := (hT t i ht).d
  rw [hd] at hu
  have hs := (hT e ie he).run_sizeOf w
  simp only [Nat.zero_mul, Addr.add_zero'] at hst
  have hmm : Nat.min N.length n = m := hm.symm
  have hex : (execOp a.eval o).run P w = .ok (.value (.int .i64 m)) w' := by
    cases ad with
    | some ad => simp [execOp, ho, resolve, invoke, builtin, hc, Builtin.copy_, run_underlying hu, g1, hs, hmm, q1, hst ad rfl, goInt]
    | none =>
      obtain ⟨hN0, rfl⟩ := hst0 rfl
      simp [execOp, ho, resolve, invoke, builtin, hc, Builtin.copy_, run_underlying hu, g1, hs, hmm, q1, goInt]
  simp only [Oper.wp, hex, Oper.upon]
  exact hK _ _ _ _ (.lit rfl) p1 p2

end
end Go.Proofs.Ytgaginflocpcfaa
