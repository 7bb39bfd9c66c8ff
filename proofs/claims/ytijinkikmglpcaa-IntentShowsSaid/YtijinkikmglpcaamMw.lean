/-
  Media (plain laws): what is shown behind a write, behind a flush.
-/
import Derived.Test.YtijinkikmglpcaamIa
namespace Go.Proofs.Ytijinkikmglpcaa
open Go
set_option linter.unusedVariables false
set_option linter.unusedSimpArgs false
set_option maxRecDepth 100000

/-- the last write of a block -/
def lastW : List Dty → Nat → Option Blk
  | [], _ => none
  | d :: ds, j => match lastW ds j with
    | some x => some x
    | none => if d.pos.toNat = j then some d.data else none
theorem put_last : ∀ (ds : List Dty) (i : Nat) (bs : List Blk) (j : Nat), (putF q_every i ds bs)[j]? = if j < bs.length then some ((lastW ds j).getD (bs[j]?.getD Blk.dflt)) else none
  | [], i, bs, j => by
    simp only [putF, lastW, Option.getD_none]
    split
    · rename_i h; rw [List.getElem?_eq_getElem h]; rfl
    · rename_i h; exact List.getElem?_eq_none (by omega)
  | d :: ds, i, bs, j => by
    simp only [putF, q_every, if_true]
    rw [put_last ds (i + 1) _ j, List.length_set]
    split
    · rename_i h
      simp only [lastW]
      cases hl : lastW ds j with
      | some x => rfl
      | none =>
        simp only [Option.getD_none, List.getElem?_set]
        by_cases e : d.pos.toNat = j
        · subst e
          simp [h]
        · simp [e]
    · rfl
/-- what is done, of one block, and what stays of all others -/
theorem last_keep (p : Nat) : ∀ (ds : List Dty) (i : Nat) (j : Nat), lastW (keepF (fun _ d => decide (d.pos.toNat = p)) (fun _ _ => true) i ds) j = if j = p then none else lastW ds j
  | [], i, j => by simp [keepF, lastW]
  | d :: ds, i, j => by
    have ih := last_keep p ds (i + 1) j
    by_cases h : d.pos.toNat = p
    · simp only [keepF, h, decide_true, if_true]
      rw [ih]
      by_cases hj : j = p
      · rw [if_pos hj, if_pos hj]
      · rw [if_neg hj, if_neg hj]
        simp only [lastW]
        rw [if_neg (by omega)]
        cases lastW ds j <;> rfl
    · simp only [keepF, h, decide_false, Bool.false_eq_true, if_false, if_true, lastW]
      rw [ih]
      by_cases hj : j = p
      · rw [if_pos hj, if_pos hj, if_neg (by omega)]
      · rw [if_neg hj, if_neg hj]
theorem put_other (p : Nat) : ∀ (ds : List Dty) (i : Nat) (bs : List Blk) (j : Nat), j ≠ p → (putF (fun _ d => decide (d.pos.toNat = p)) i ds bs)[j]? = bs[j]?
  | [], i, bs, j, _ => rfl
  | d :: ds, i, bs, j, h => by
    simp only [putF]
    rw [put_other p ds (i + 1) _ j h]
    split
    · rename_i e
      simp only [decide_eq_true_eq] at e
      rw [List.getElem?_set_ne (by omega)]
    · rfl
theorem all_get (m : Med) (h : mRight m = true) (j : Nat) : (mdAll m)[j]? = if j < m.blocks.length then some ((lastW m.dirty j).getD (m.blocks[j]?.getD Blk.dflt)) else none := by
  unfold mdAll
  rw [if_pos h]
  exact put_last m.dirty 0 m.blocks j
theorem all_len (m : Med) (h : mRight m = true) : (mdAll m).length = m.blocks.length := by
  unfold mdAll
  rw [if_pos h, flush_len]
theorem keep_mem {q s : Nat → Dty → Bool} {d : Dty} : ∀ (l : List Dty) (i : Nat), d ∈ keepF q s i l → d ∈ l
  | [], i, h => by simp [keepF] at h
  | e :: l, i, h => by
    simp only [keepF] at h
    (repeat' split at h)
    · exact List.mem_cons_of_mem _ (keep_mem l _ h)
    · rcases List.mem_cons.1 h with rfl | h
      · exact List.mem_cons_self
      · exact List.mem_cons_of_mem _ (keep_mem l _ h)
    · exact List.mem_cons_of_mem _ (keep_mem l _ h)
/-- behind a write a block shows what was written, all others what they showed -/
theorem write_all (m : Med) (p : Int) (x : Blk) (t : Bool) (h : mRight m = true) (h0 : 0 ≤ p) (h1 : p < m.blocks.length) : mRight (mWrite m p x t).1 = true ∧ mdAll (mWrite m p x t).1 = (mdAll m).set p.toNat x := by
  have hr := (right_iff m).1 h
  obtain ⟨r1, r2, r3⟩ := hr
  cases t with
  | true =>
    have e : mWrite m p x true = (⟨(mFlush (q_wr m.dirty.length p true) m).blocks.set p.toNat x, (mFlush (q_wr m.dirty.length p true) m).dirty⟩, 0) := by
      unfold mWrite; rw [if_neg (by rw [h]; decide), if_neg (by omega), if_pos rfl]
    have hc : mFlush (q_wr m.dirty.length p true) m = mFlush (fun _ d => decide (d.pos.toNat = p.toNat)) m := flush_congr fun j d hd => by
      have := r3 d hd
      simp only [q_wr, Bool.true_and, Bool.not_true, Bool.false_and, Bool.or_false]
      rw [Bool.eq_iff_iff, beq_iff_eq, decide_eq_true_eq]
      omega
    rw [hc] at e
    rw [e]
    dsimp only
    have hl := flush_len (fun _ d => decide (d.pos.toNat = p.toNat)) m
    have hR : mRight ⟨(mFlush (fun _ d => decide (d.pos.toNat = p.toNat)) m).blocks.set p.toNat x, (mFlush (fun _ d => decide (d.pos.toNat = p.toNat)) m).dirty⟩ = true := by
      rw [right_iff]
      dsimp only
      rw [List.length_set, hl]
      refine ⟨r1, ?_, fun d hd => r3 d (keep_mem _ _ hd)⟩
      have := flush_dlen (fun _ d => decide (d.pos.toNat = p.toNat)) m
      omega
    refine ⟨hR, List.ext_getElem? fun j => ?_⟩
    rw [all_get _ hR, List.getElem?_set (l := mdAll m), all_get _ h, all_len _ h]
    dsimp only
    rw [List.length_set, hl]
    by_cases hj : j < m.blocks.length
    · rw [if_pos hj, if_pos hj]
      unfold mFlush mDone
      dsimp only
      rw [last_keep]
      by_cases hp : p.toNat = j
      · subst hp
        rw [if_pos rfl, if_pos rfl, if_pos hj, List.getElem?_set, if_pos rfl, if_pos (by rw [putF_len]; exact hj)]
        rfl
      · rw [if_neg (fun e => hp e.symm), if_neg hp, List.getElem?_set_ne hp, put_other _ _ _ _ _ (fun e => hp e.symm)]
    · rw [if_neg hj, if_neg hj]
      by_cases hp : p.toNat = j
      · rw [if_pos hp, if_neg (by omega)]
      · rw [if_neg hp]
  | false =>
    have e : mWrite m p x false = (⟨(mFlush (q_wr m.dirty.length p false) m).blocks, (mFlush (q_wr m.dirty.length p false) m).dirty ++ [⟨p, x⟩]⟩, 0) := by
      unfold mWrite; rw [if_neg (by rw [h]; decide), if_neg (by omega), if_neg (by decide)]
    have app : ∀ f : Med, mRight f = true → f.blocks.length = m.blocks.length → f.dirty.length < 64 → mdAll f = mdAll m → mRight ⟨f.blocks, f.dirty ++ [⟨p, x⟩]⟩ = true ∧ mdAll ⟨f.blocks, f.dirty ++ [⟨p, x⟩]⟩ = (mdAll m).set p.toNat x := fun f hf hb hd ha => by
      have hf2 := (right_iff f).1 hf
      have hR : mRight ⟨f.blocks, f.dirty ++ [⟨p, x⟩]⟩ = true := by
        rw [right_iff]
        dsimp only
        refine ⟨by omega, by rw [List.length_append]; simp; omega, fun d hd => ?_⟩
        rcases List.mem_append.1 hd with q | q
        · have := hf2.2.2 d q; omega
        · rw [List.mem_singleton] at q; subst q; dsimp only; omega
      refine ⟨hR, ?_⟩
      rw [← ha]
      have e1 : mdAll f = putF q_every 0 f.dirty f.blocks := by unfold mdAll; rw [if_pos hf]; rfl
      rw [e1]
      unfold mdAll
      rw [if_pos hR]
      show putF q_every 0 (f.dirty ++ [⟨p, x⟩]) f.blocks = _
      rw [putF_snoc, if_pos (show q_every _ _ = true from rfl)]
    rw [e]
    dsimp only
    by_cases hf : m.dirty.length = 64
    · rw [flush_congr (q' := fun _ _ => true) (fun j d _ => by simp [q_wr, hf])]
      have hE : ∀ (l : List Dty) (i : Nat), keepF (fun _ _ => true) (fun _ _ => true) i l = [] := fun l => by
        induction l with
        | nil => intro i; rfl
        | cons d l ih => intro i; simp only [keepF, if_true]; exact ih _
      have hd0 : (mFlush (fun _ _ => true) m).dirty = [] := hE m.dirty 0
      have hl := flush_len (fun _ _ => true) m
      have hfr : mRight (mFlush (fun _ _ => true) m) = true := by
        rw [right_iff, hd0, hl]
        exact ⟨r1, by simp, fun d hd => by simp at hd⟩
      refine app (mFlush (fun _ _ => true) m) hfr hl (by rw [hd0]; simp) ?_
      have e1 : ∀ f : Med, mRight f = true → mdAll f = putF q_every 0 f.dirty f.blocks := fun f hf => by unfold mdAll; rw [if_pos hf]; rfl
      rw [e1 _ hfr, hd0]
      unfold mdAll
      rw [if_pos h]
      rfl
    · rw [flush_few m p hf]
      exact app m h rfl (by omega) rfl

/-- behind a flush of some blocks, by their places -/
theorem put_by (Q : Int → Bool) : ∀ (ds : List Dty) (i : Nat) (bs : List Blk) (j : Nat), (∀ d ∈ ds, 0 ≤ d.pos) → (putF (fun _ d => Q d.pos) i ds bs)[j]? = if Q (j : Int) = true then (putF q_every i ds bs)[j]? else bs[j]?
  | [], i, bs, j, _ => by simp [putF]
  | d :: ds, i, bs, j, h => by
    have h0 := h d (List.mem_cons_self)
    have hr : ∀ e ∈ ds, 0 ≤ e.pos := fun e he => h e (List.mem_cons_of_mem _ he)
    simp only [putF, q_every, if_true]
    by_cases hq : Q d.pos = true
    · rw [if_pos hq, put_by Q ds (i + 1) _ j hr]
      by_cases hj : Q (j : Int) = true
      · rw [if_pos hj, if_pos hj]
      · rw [if_neg hj, if_neg hj, List.getElem?_set_ne]
        intro e
        apply hj
        rw [← e, Int.toNat_of_nonneg h0]
        exact hq
    · rw [if_neg hq, put_by Q ds (i + 1) _ j hr]
      by_cases hj : Q (j : Int) = true
      · rw [if_pos hj, if_pos hj, put_last, put_last, List.length_set, List.getElem?_set_ne]
        intro e
        apply hq
        rw [← Int.toNat_of_nonneg h0, e]
        exact hj
      · rw [if_neg hj, if_neg hj]
theorem last_by (Q : Int → Bool) : ∀ (ds : List Dty) (i : Nat) (j : Nat), (∀ d ∈ ds, 0 ≤ d.pos) → lastW (keepF (fun _ d => Q d.pos) (fun _ _ => true) i ds) j = if Q (j : Int) = true then none else lastW ds j
  | [], i, j, _ => by simp [keepF, lastW]
  | d :: ds, i, j, h => by
    have h0 := h d (List.mem_cons_self)
    have ih := last_by Q ds (i + 1) j (fun e he => h e (List.mem_cons_of_mem _ he))
    by_cases hq : Q d.pos = true
    · simp only [keepF, hq, if_true]
      rw [ih]
      by_cases hj : Q (j : Int) = true
      · rw [if_pos hj, if_pos hj]
      · rw [if_neg hj, if_neg hj]
        simp only [lastW]
        rw [if_neg (fun e => hj (by rw [← e, Int.toNat_of_nonneg h0]; exact hq))]
        cases lastW ds j <;> rfl
    · simp only [keepF, hq, Bool.false_eq_true, if_false, if_true, lastW]
      rw [ih]
      by_cases hj : Q (j : Int) = true
      · rw [if_pos hj, if_pos hj, if_neg (fun e => hq (by rw [← Int.toNat_of_nonneg h0, e]; exact hj))]
      · rw [if_neg hj, if_neg hj]
theorem flush_all (m : Med) (Q : Int → Bool) (h : mRight m = true) : mRight (mFlush (fun _ d => Q d.pos) m) = true ∧ mdAll (mFlush (fun _ d => Q d.pos) m) = mdAll m := by
  obtain ⟨r1, r2, r3⟩ := (right_iff m).1 h
  have hR : mRight (mFlush (fun _ d => Q d.pos) m) = true := by
    rw [right_iff, flush_len]
    have := flush_dlen (fun _ d => Q d.pos) m
    exact ⟨r1, by omega, fun d hd => r3 d (keep_mem _ _ hd)⟩
  refine ⟨hR, List.ext_getElem? fun j => ?_⟩
  have hp : ∀ d ∈ m.dirty, 0 ≤ d.pos := fun d hd => (r3 d hd).1
  rw [all_get _ hR, all_get _ h, flush_len]
  unfold mFlush mDone
  dsimp only
  rw [last_by Q m.dirty 0 j hp, put_by Q m.dirty 0 m.blocks j hp]
  by_cases hj : j < m.blocks.length
  · rw [if_pos hj, if_pos hj]
    by_cases hq : Q (j : Int) = true
    · rw [if_pos hq, if_pos hq, put_last, if_pos hj]
      rfl
    · rw [if_neg hq, if_neg hq]
  · rw [if_neg hj, if_neg hj]
theorem fl_all (m : Med) (a n : Int) (h : mRight m = true) (hok : (mFl m a n).2 = 0) : mRight (mFl m a n).1 = true ∧ mdAll (mFl m a n).1 = mdAll m := by
  unfold mFl at *
  rw [if_neg (by rw [h]; decide)] at *
  split at hok
  · cases hok
  · rename_i hc
    rw [if_neg hc]
    exact flush_all m (fun z => decide (a ≤ z) && decide (z - a < if n = 0 then (m.blocks.length : Int) else n)) h
theorem sync_all (s : Slt) (h : mRight s.med = true) : mRight (sSync s).med = true ∧ mdAll (sSync s).med = mdAll s.med := by
  have e : sSync s = ⟨(mFl s.med 0 0).1, s.present, s.prot, s.latch⟩ := by
    unfold sSync
    rw [if_pos h, fl_whole, if_pos h]
  rw [e]
  exact fl_all s.med 0 0 h (by rw [fl_whole, if_pos h])
end Go.Proofs.Ytijinkikmglpcaa
