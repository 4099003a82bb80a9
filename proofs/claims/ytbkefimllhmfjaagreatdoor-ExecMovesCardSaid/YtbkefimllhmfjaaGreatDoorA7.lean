/- A region that draws its order may be run in one order for all: the abstract machine is sound. -/
import Derived.Test.YtbkefimllhmfjaaGreatDoorA6
set_option linter.unusedVariables false
set_option linter.unusedSimpArgs false
set_option linter.unusedSectionVars false
namespace Go.Am

theorem allIdx_spec {α : Type} (f : Nat → α → Bool) : ∀ (l : List α) (k : Nat), allIdx f k l = true → ∀ (i : Nat) (x : α), l[i]? = some x → f (k + i) x = true
  | [], _, _, i, x, h => by simp at h
  | a :: l, k, h, i, x, hx => by
    simp only [allIdx, Bool.and_eq_true] at h
    cases i with
    | zero => simp at hx; subst hx; exact h.1
    | succ i =>
      have := allIdx_spec f l (k + 1) h.2 i x (by simpa using hx)
      rw [show k + (i + 1) = k + 1 + i by omega]; exact this

/-- a bit of 'before' comes from an edge. -/
theorem before_spec (ops : Array Oper) (i j : Nat) (h : ((Region.before ops).getD i 0).testBit j = true) :
    ∃ o, ops[i]? = some o ∧ ∃ e ∈ o.after, Region.binds .any e = true ∧ (e.on = j ∨ ((Region.before ops).getD e.on 0).testBit j = true) := by
  let g : Array Nat → Oper → Array Nat := fun acc o => acc.push (o.after.foldl (fun s e => if Region.binds .any e then s ||| 2 ^ e.on ||| acc.getD e.on 0 else s) 0)
  have hb : Region.before ops = ops.toList.foldl g #[] := by
    unfold Region.before
    rw [← Array.foldl_toList]
  have inner : ∀ (acc : Array Nat) (l : List Edge) (s0 : Nat) (j : Nat), (l.foldl (fun s e => if Region.binds .any e then s ||| 2 ^ e.on ||| acc.getD e.on 0 else s) s0).testBit j = true →
      s0.testBit j = true ∨ ∃ e ∈ l, Region.binds .any e = true ∧ (e.on = j ∨ (acc.getD e.on 0).testBit j = true) := by
    intro acc l
    induction l with
    | nil => intro s0 j h; exact .inl h
    | cons e l ih =>
      intro s0 j h
      rw [List.foldl_cons] at h
      rcases ih _ j h with h | ⟨e', he', r⟩
      · split at h
        · rename_i hbd
          simp only [Nat.testBit_or, Bool.or_eq_true, Nat.testBit_two_pow, decide_eq_true_eq] at h
          rcases h with (h | h) | h
          · exact .inl h
          · exact .inr ⟨e, by simp, hbd, .inl h⟩
          · exact .inr ⟨e, by simp, hbd, .inr h⟩
        · exact .inl h
      · exact .inr ⟨e', by simp [he'], r⟩
  have key : ∀ (l pre : List Oper) (acc : Array Nat), acc.size = pre.length →
      (∀ i j, (acc.getD i 0).testBit j = true → ∃ o, pre[i]? = some o ∧ ∃ e ∈ o.after, Region.binds .any e = true ∧ (e.on = j ∨ (acc.getD e.on 0).testBit j = true)) →
      ∀ i j, ((l.foldl g acc).getD i 0).testBit j = true → ∃ o, (pre ++ l)[i]? = some o ∧ ∃ e ∈ o.after, Region.binds .any e = true ∧ (e.on = j ∨ ((l.foldl g acc).getD e.on 0).testBit j = true) := by
    intro l
    induction l with
    | nil => intro pre acc _ hacc i j h; simpa using hacc i j h
    | cons o l ih =>
      intro pre acc hsz hacc i j h
      rw [List.foldl_cons] at h ⊢
      have := ih (pre ++ [o]) (g acc o) (by simp [g, hsz]) ?_ i j h
      · simpa using this
      · intro i j h
        have grow : ∀ m j, (acc.getD m 0).testBit j = true → ((g acc o).getD m 0).testBit j = true := by
          intro m j hm
          have hlt : m < acc.size := by
            rcases Nat.lt_or_ge m acc.size with q | q
            · exact q
            · simp [Array.getD_eq_getD_getElem?, Array.getElem?_eq_none q] at hm
          simp only [g, Array.getD_eq_getD_getElem?, Array.getElem?_push_lt hlt] at hm ⊢
          rw [Array.getElem?_eq_getElem hlt] at hm
          exact hm
        rcases Nat.lt_trichotomy i acc.size with hi | hi | hi
        · have h' : (acc.getD i 0).testBit j = true := by
            simp only [g, Array.getD_eq_getD_getElem?, Array.getElem?_push_lt hi] at h
            rw [Array.getD_eq_getD_getElem?, Array.getElem?_eq_getElem hi]
            exact h
          obtain ⟨o', ho', e, he, hbd, hr⟩ := hacc i j h'
          refine ⟨o', by rw [List.getElem?_append_left (by omega)]; exact ho', e, he, hbd, ?_⟩
          rcases hr with hr | hr
          · exact .inl hr
          · exact .inr (grow _ _ hr)
        · subst hi
          simp only [g, Array.getD_eq_getD_getElem?, Array.getElem?_push_size, Option.getD_some] at h
          have h2 : (o.after.toList.foldl (fun s e => if Region.binds .any e then s ||| 2 ^ e.on ||| acc.getD e.on 0 else s) 0).testBit j = true := by
            rw [Array.foldl_toList]
            simpa [Array.getD_eq_getD_getElem?] using h
          rcases inner acc _ 0 j h2 with h | ⟨e, he, hbd, hr⟩
          · simp at h
          · refine ⟨o, by rw [hsz]; simp, e, by simpa using he, hbd, ?_⟩
            rcases hr with hr | hr
            · exact .inl hr
            · exact .inr (grow _ _ hr)
        · exfalso
          have : (g acc o).getD i 0 = 0 := by
            simp only [g, Array.getD_eq_getD_getElem?]
            rw [Array.getElem?_eq_none (by simp; omega)]; rfl
          rw [this] at h
          simp at h
  have := key ops.toList [] #[] rfl (by intro i j h; simp [Array.getD_eq_getD_getElem?] at h) i j (by rw [← hb]; exact h)
  rw [← hb] at this
  simpa using this

section
variable {N : Type} {D : Dom N} {den : N → Int} {P : Program} {σ : Sub} {H : AH N} {w : World} {a : AAct N}

/-- a run over some of the blocks; the others stand by. -/
theorem frame_rel {K K1 M K' : AH N} {σ1 : Sub} {w1 : World} (h : HRel den σ K w) (hless : ∀ j, K1.blk j = .dead ∨ K1.blk j = K.blk j) (hnext : K1.next = K.next) (hx : Ext σ K1 w σ1 M w1) (hm : HRel den σ1 M w1)
    (hn' : K'.next = M.next) (hb' : ∀ j, K'.blk j = M.blk j ∨ (K'.blk j = K.blk j ∧ K1.blk j = .dead)) :
    HRel den σ1 K' w1 ∧ ∀ (σ0 : Sub) (H0 : AH N) (w0 : World), Ext σ0 H0 w0 σ K w → Ext σ0 H0 w0 σ1 K' w1 := by
  have hmap : ∀ j, (K.blk j).live = true → ∃ l, σ j = some l := by
    intro j hj
    have hb := h.blk j
    revert hb hj
    generalize K.blk j = b
    intro hj hb
    cases b with
    | dead => simp [ABlk.live] at hj
    | cells row ro => simp only [BRel] at hb; obtain ⟨l, _, _, _, hl, _⟩ := hb; exact ⟨l, hl⟩
    | map es c => simp only [BRel] at hb; obtain ⟨l, _, hl, _⟩ := hb; exact ⟨l, hl⟩
    | mapIter m x y z => simp only [BRel] at hb; obtain ⟨l, _, hl, _⟩ := hb; exact ⟨l, hl⟩
    | loop L => simp only [BRel] at hb; obtain ⟨l, _, hl, _⟩ := hb; exact ⟨l, hl⟩
    | deferred d =>
      match d with
      | none => simp only [BRel] at hb; obtain ⟨l, hl, _⟩ := hb; exact ⟨l, hl⟩
      | some [] => simp only [BRel] at hb; obtain ⟨l, hl, _⟩ := hb; exact ⟨l, hl⟩
      | some (_ :: _) => exact hb.elim
  have hsub1 : ∀ j, (K1.blk j).live = true → (K.blk j).live = true ∧ K1.blk j = K.blk j := by
    intro j hj
    rcases hless j with e | e
    · rw [e] at hj; simp [ABlk.live] at hj
    · exact ⟨by rw [← e]; exact hj, e⟩
  have hapart : ∀ i j li lj, (M.blk i).live = true → (K.blk j).live = true → K1.blk j = .dead → σ1 i = some li → σ1 j = some lj → li.r = lj.r → False := by
    intro i j li lj hi hj hd hli hlj e
    obtain ⟨l, hl⟩ := hmap j hj
    have : lj = l := by have := hx.sub _ _ hl; rw [hlj] at this; cases this; rfl
    subst this
    have hbnd := h.bnd _ _ hl
    obtain ⟨q, m, hq, hqm, e2, _⟩ := hx.range i li hi hli (by omega)
    obtain ⟨hq1, _⟩ := hsub1 q hq
    have : q = j := h.inj q j m lj hq1 hj hqm hl (by omega)
    subst this
    rw [hd] at hq
    simp [ABlk.live] at hq
  refine ⟨⟨fun j => ?_, fun i j li lj hi hj hli hlj e => ?_, ?_, hm.bnd, ?_⟩, fun σ0 H0 w0 hx0 => ?_⟩
  · rcases hb' j with e | ⟨e, hd⟩
    · rw [e]; exact hm.blk j
    · rw [e]
      refine (h.blk j).mono hx.sub fun l hl hlive => ?_
      refine hx.frame l.r (h.bnd _ _ hl) fun i li hi hli q => ?_
      obtain ⟨hi1, _⟩ := hsub1 i (ABlk.live_of_wr hi)
      have : i = j := h.inj i j li l hi1 hlive hli hl q
      subst this
      rw [hd] at hi
      simp [ABlk.wr] at hi
  · rcases hb' i with ei | ⟨ei, hdi⟩ <;> rcases hb' j with ej | ⟨ej, hdj⟩
    · rw [ei] at hi; rw [ej] at hj; exact hm.inj i j li lj hi hj hli hlj e
    · rw [ei] at hi; rw [ej] at hj; exact (hapart i j li lj hi hj hdj hli hlj e).elim
    · rw [ei] at hi; rw [ej] at hj; exact (hapart j i lj li hj hi hdi hlj hli e.symm).elim
    · rw [ei] at hi; rw [ej] at hj
      obtain ⟨l1, h1⟩ := hmap i hi
      obtain ⟨l2, h2⟩ := hmap j hj
      have e1 := hx.sub _ _ h1
      have e2 := hx.sub _ _ h2
      rw [hli] at e1; rw [hlj] at e2
      cases e1; cases e2
      exact h.inj i j li lj hi hj h1 h2 e
  · intro i l hl; rw [hn']; exact hm.dom i l hl
  · intro i hi
    rw [hn'] at hi
    rcases hb' i with e | ⟨e, _⟩
    · rw [e]; exact hm.fut i hi
    · rw [e]; exact h.fut i (by have := hx.next; omega)
  · refine ⟨hx0.sub.trans hx.sub, Nat.le_trans hx0.size hx.size, hx.os.trans hx0.os, hx.out.trans hx0.out, hx.tape.trans hx0.tape, ?_, ?_, ?_, ?_⟩
    · rw [hn']; have := hx0.next; have := hx.next; omega
    · intro r hr hn
      rw [hx.frame r (Nat.lt_of_lt_of_le hr hx0.size), hx0.frame r hr hn]
      intro i l hi hl e
      obtain ⟨hi1, e1⟩ := hsub1 i (ABlk.live_of_wr hi)
      obtain ⟨j, m, hj, hm, e2, hw⟩ := hx0.range i l hi1 hl (by omega)
      exact hn j m (hw (by rw [← e1]; exact hi)) hm (by omega)
    · intro i l hi hl hr
      rcases hb' i with e | ⟨e, hd⟩
      · rw [e] at hi ⊢
        obtain ⟨j, m, hj, hjm, e1, hw⟩ := hx.range i l hi hl (Nat.lt_of_lt_of_le hr hx0.size)
        obtain ⟨hj1, e2⟩ := hsub1 j hj
        obtain ⟨q, p, hq, hqp, e3, hw'⟩ := hx0.range j m hj1 hjm (by omega)
        exact ⟨q, p, hq, hqp, by omega, fun hh => hw' (by rw [← e2]; exact hw hh)⟩
      · rw [e] at hi ⊢
        obtain ⟨l', hl'⟩ := hmap i hi
        have := hx.sub _ _ hl'
        rw [hl] at this; cases this
        obtain ⟨q, p, hq, hqp, e3, hw'⟩ := hx0.range i l hi hl' hr
        exact ⟨q, p, hq, hqp, e3, hw'⟩
    · intro i hi hn
      exact hx.only i (by rw [hnext]; have := hx0.next; omega) (hx0.only i hi hn)

end
end Go.Am

namespace Go.Am
section
variable {N : Type} {D : Dom N} {den : N → Int} {P : Program} {rec : Task N → Option (List (Out N))} {r : Option Nat} {ops : Array Oper} {bef : Array Nat} {base em : Nat}

theorem regionOk_sole (h : regionOk P ops = true) {i : Nat} {o : Oper} (ho : ops[i]? = some o) : soleOk (Region.before ops) i o = true := by
  have := allIdx_spec _ _ 0 h i o (by simpa using ho)
  simp only [Nat.zero_add, Bool.and_eq_true] at this
  exact this.1

theorem regionOk_pair (h : regionOk P ops = true) {i j : Nat} {o u : Oper} (ho : ops[i]? = some o) (hu : ops[j]? = some u) (hij : i < j) : pairOk P (Region.before ops) i o j u = true := by
  have := allIdx_spec _ _ 0 h i o (by simpa using ho)
  simp only [Nat.zero_add, Bool.and_eq_true] at this
  have := allIdx_spec _ _ 0 this.2 j u (by simpa using hu)
  simp only [Nat.zero_add, Bool.or_eq_true, Nat.ble_eq] at this
  rcases this with h | h
  · omega
  · exact h

/-- operations of one place, in whichever order they stand. -/
theorem dst_apart (h : regionOk P ops = true) {i j : Nat} {o u : Oper} (ho : ops[i]? = some o) (hu : ops[j]? = some u) (hij : i ≠ j) {d : Tmp} (hd : o.dst = some d) : u.dst ≠ some d := by
  intro hud
  rcases Nat.lt_or_ge i j with hlt | hge
  · have := regionOk_pair h ho hu hlt
    simp [pairOk, hd, hud, nbeq] at this
  · have := regionOk_pair h hu ho (by omega : j < i)
    simp [pairOk, hd, hud, nbeq] at this

/-- who reads what another one writes stands behind it, or ahead of it. -/
theorem reads_order (h : regionOk P ops = true) {i j : Nat} {o u : Oper} (ho : ops[i]? = some o) (hu : ops[j]? = some u) {d : Tmp} (hd : o.dst = some d) (hr : d ∈ tmpsOf u) :
    ((Region.before ops).getD j 0).testBit i = true ∨ ((Region.before ops).getD i 0).testBit j = true := by
  rcases Nat.lt_trichotomy i j with hlt | heq | hgt
  · have := regionOk_pair h ho hu hlt
    simp only [pairOk, hd, Bool.and_eq_true] at this
    have h3 := this.1.2
    simp only [Bool.or_eq_true, Bool.not_eq_true', List.any_eq_false] at h3
    rcases h3 with h3 | h3
    · have := h3 d hr
      simp [nbeq] at this
    · exact .inl h3
  · subst heq
    rw [ho] at hu; cases hu
    have := regionOk_sole h ho
    simp only [soleOk, hd, Bool.and_eq_true, Bool.not_eq_true', List.any_eq_false] at this
    have := this.1.1 d hr
    simp [nbeq] at this
  · have := regionOk_pair h hu ho hgt
    simp only [pairOk, hd, Bool.and_eq_true] at this
    have h4 := this.2
    simp only [Bool.or_eq_true, Bool.not_eq_true', List.any_eq_false] at h4
    rcases h4 with h4 | h4
    · have := h4 d hr
      simp [nbeq] at this
    · exact .inr h4

theorem eff_order (h : regionOk P ops = true) {i j : Nat} {o u : Oper} (ho : ops[i]? = some o) (hu : ops[j]? = some u) (hij : i ≠ j) (h1 : kindO P o.op = .eff) (h2 : kindO P u.op = .eff) :
    ((Region.before ops).getD j 0).testBit i = true ∨ ((Region.before ops).getD i 0).testBit j = true := by
  rcases Nat.lt_or_ge i j with hlt | hge
  · have := regionOk_pair h ho hu hlt
    simp only [pairOk, h1, h2, Bool.and_eq_true] at this
    exact .inl this.1.1.1
  · have := regionOk_pair h hu ho (by omega : j < i)
    simp only [pairOk, h1, h2, Bool.and_eq_true] at this
    exact .inr this.1.1.1

theorem edge_down (h : regionOk P ops = true) {i : Nat} {o : Oper} (ho : ops[i]? = some o) {e : Edge} (he : e ∈ o.after) (hb : Region.binds .any e = true) : e.on < i := by
  have := regionOk_sole h ho
  simp only [soleOk, Bool.and_eq_true, List.all_eq_true] at this
  have := this.2 e (by simpa using he)
  simpa [hb] using this

theorem guard_before (h : regionOk P ops = true) {i j : Nat} {o : Oper} {b : Bool} (ho : ops[i]? = some o) (hg : o.guard = some (j, b)) : ((Region.before ops).getD i 0).testBit j = true := by
  have := regionOk_sole h ho
  simp only [soleOk, hg, Bool.and_eq_true] at this
  exact this.1.2.1

/-! The canonical run. -/
theorem runD_append : ∀ (p q : List Nat) (s : DSt N), runD P D rec r ops bef base em (p ++ q) s = (runD P D rec r ops bef base em p s).bind (runD P D rec r ops bef base em q)
  | [], q, s => rfl
  | i :: p, q, s => by
    simp only [List.cons_append, runD]
    cases stepD P D rec r ops bef base em i s with
    | none => rfl
    | some s' => exact runD_append p q s'

theorem aput_facts {a a' : AAct N} {dst : Option Tmp} {v : AV N} (e : aput a dst v = some a') : a'.n = a.n ∧ a'.d = a.d ∧ (∀ t, dst ≠ some t → a'.t.get t = a.t.get t) ∧ ∀ t, dst = some t → t < a.n ∧ a'.t.get t = some v := by
  rw [aput_eq] at e
  split at e
  · cases e; exact ⟨rfl, rfl, fun _ _ => rfl, fun _ h => by cases h⟩
  · rename_i d
    simp only [Bool.cond_eq_ite, Nat.blt_eq] at e
    split at e
    · rename_i hd
      cases e
      refine ⟨rfl, rfl, fun t ht => ?_, fun t ht => ?_⟩
      · rw [Tr.get_set, if_neg]
        rintro rfl; exact ht rfl
      · cases ht; exact ⟨hd, by simp⟩
    · cases e

theorem land_sub {x y : Nat} (h : x &&& y = x) {j : Nat} (hj : x.testBit j = true) : y.testBit j = true := by
  rw [← h, Nat.testBit_and, Bool.and_eq_true] at hj
  exact hj.2

/-- what a step of the canonical run is. -/
inductive StepK (P : Program) (D : Dom N) (rec : Task N → Option (List (Out N))) (r : Option Nat) (ops : Array Oper) (bef : Array Nat) (base em i : Nat) (o : Oper) (s s' : DSt N) : Prop where
  | skip (hk : kindO P o.op ≠ .eff) (hw : wantedA ops s.a o = some false) (ha : aput s.a o.dst undefA = some s'.a) (hH : s'.H = s.H) (hh : s'.hist = s.hist)
  | pure (hk : kindO P o.op = .pure) (hw : wantedA ops s.a o = some true) (v : AV N) (Hx : AH N) (ho : opA P D s.a s.H o = some (.val v Hx)) (ha : aput s.a o.dst v = some s'.a) (hH : s'.H = s.H) (hh : s'.hist = s.hist)
  | read (hk : kindO P o.op = .read) (hw : wantedA ops s.a o = some true) (v : AV N) (hc : checkReads P D s.a o v (bef.getD i 0 &&& em) s.hist = true) (ha : aput s.a o.dst v = some s'.a) (hH : s'.H = s.H) (hh : s'.hist = s.hist)
  | alloc (hk : kindO P o.op = .alloc) (hw : wantedA ops s.a o = some true) (v : AV N) (Hn : AH N) (ho : opA P D s.a { s.H with next := base + i } o = some (.val v Hn)) (ha : aput s.a o.dst v = some s'.a) (hH : s'.H = { Hn with next := s.H.next }) (hh : s'.hist = s.hist)
  | effSkip (hk : kindO P o.op = .eff) (hd : s.done = bef.getD i 0) (hw : wantedA ops s.a o = some false) (ha : aput s.a o.dst undefA = some s'.a) (hH : s'.H = s.H) (hh : s'.hist = s.hist ++ [(s'.done, s'.H)])
  | eff (hk : kindO P o.op = .eff) (hd : s.done = bef.getD i 0) (hw : wantedA ops s.a o = some true) (x : AV N × Option (ADef N) × AH N) (ho : oneB P D rec r s.a s.H o = some [x]) (ha : aput (pushD s.a x.2.1) o.dst x.1 = some s'.a) (hH : s'.H = x.2.2) (hh : s'.hist = s.hist ++ [(s'.done, s'.H)])

theorem stepD_inv {i : Nat} {s s' : DSt N} (h : stepD P D rec r ops bef base em i s = some s') : ∃ o, ops[i]? = some o ∧ s.done.testBit i = false ∧ (∀ j, (bef.getD i 0).testBit j = true → s.done.testBit j = true) ∧ s'.done = s.done ||| 2 ^ i ∧ StepK P D rec r ops bef base em i o s s' := by
  unfold stepD at h
  split at h
  · cases h
  rename_i o ho
  refine ⟨o, ho, ?_⟩
  cases hf : s.done.testBit i with
  | true => rw [hf] at h; cases h
  | false =>
    rw [hf, cond_false] at h
    refine ⟨rfl, ?_⟩
    split at h
    · rename_i hk
      simp only [nbeq, Bool.cond_decide] at h
      split at h
      · rename_i hd
        refine ⟨fun j hj => by rw [hd]; exact hj, ?_⟩
        split at h
        · cases h
        · rename_i hw
          obtain ⟨a', ha, rfl⟩ := Option.map_eq_some_iff.1 h
          exact ⟨rfl, .effSkip hk hd hw ha rfl rfl⟩
        · rename_i hw
          split at h
          · rename_i x hx
            obtain ⟨a', ha, rfl⟩ := Option.map_eq_some_iff.1 h
            exact ⟨rfl, .eff hk hd hw x hx ha rfl rfl⟩
          · cases h
      · cases h
    · rename_i hk
      simp only [nbeq, Bool.cond_decide] at h
      split at h
      · rename_i hd
        refine ⟨fun j hj => land_sub hd hj, ?_⟩
        split at h
        · cases h
        · rename_i hw
          obtain ⟨a', ha, rfl⟩ := Option.map_eq_some_iff.1 h
          exact ⟨rfl, .skip hk hw ha rfl rfl⟩
        · rename_i hw
          split at h
          · rename_i hk2
            split at h
            · rename_i v Hn hop
              obtain ⟨a', ha, rfl⟩ := Option.map_eq_some_iff.1 h
              exact ⟨rfl, .alloc hk2 hw v Hn hop ha rfl rfl⟩
            · cases h
          · rename_i hk2
            split at h
            · rename_i v Hx hop
              cases hc : checkReads P D s.a o v (bef.getD i 0 &&& em) s.hist with
              | false => rw [hc] at h; cases h
              | true =>
                rw [hc, cond_true] at h
                obtain ⟨a', ha, rfl⟩ := Option.map_eq_some_iff.1 h
                exact ⟨rfl, .read hk2 hw v hc ha rfl rfl⟩
            · cases h
          · rename_i hk2 hk3
            split at h
            · rename_i v Hx hop
              obtain ⟨a', ha, rfl⟩ := Option.map_eq_some_iff.1 h
              have hp : kindO P o.op = .pure := by
                cases hkk : kindO P o.op with
                | pure => rfl
                | read => exact (hk3 hkk).elim
                | alloc => exact (hk2 hkk).elim
                | eff => exact (hk hkk).elim
              exact ⟨rfl, .pure hp hw v Hx hop ha rfl rfl⟩
            · cases h
      · cases h

/-- what every step keeps. -/
theorem StepK.keeps {i : Nat} {o : Oper} {s s' : DSt N} (h : StepK P D rec r ops bef base em i o s s') : s'.a.n = s.a.n ∧ (∀ t, o.dst ≠ some t → s'.a.t.get t = s.a.t.get t) ∧ ∃ l, s'.hist = s.hist ++ l := by
  cases h with
  | skip hk hw ha hH hh => obtain ⟨h1, _, h3, _⟩ := aput_facts ha; exact ⟨h1, h3, [], by simp [hh]⟩
  | pure hk hw v Hx ho ha hH hh => obtain ⟨h1, _, h3, _⟩ := aput_facts ha; exact ⟨h1, h3, [], by simp [hh]⟩
  | read hk hw v hc ha hH hh => obtain ⟨h1, _, h3, _⟩ := aput_facts ha; exact ⟨h1, h3, [], by simp [hh]⟩
  | alloc hk hw v Hn ho ha hH hh => obtain ⟨h1, _, h3, _⟩ := aput_facts ha; exact ⟨h1, h3, [], by simp [hh]⟩
  | effSkip hk hd hw ha hH hh => obtain ⟨h1, _, h3, _⟩ := aput_facts ha; exact ⟨h1, h3, _, hh⟩
  | eff hk hd hw x ho ha hH hh =>
    obtain ⟨h1, _, h3, _⟩ := aput_facts ha
    refine ⟨?_, fun t ht => ?_, _, hh⟩
    · rw [h1]; cases x.2.1 <;> rfl
    · rw [h3 t ht]; cases x.2.1 <;> rfl

end
end Go.Am

namespace Go.Am
section
variable {N : Type} {D : Dom N} {den : N → Int} {P : Program} {rec : Task N → Option (List (Out N))} {r : Option Nat} {ops : Array Oper} {bef : Array Nat} {base em : Nat}

theorem testBit_add (x i j : Nat) : (x ||| 2 ^ i).testBit j = (x.testBit j || decide (j = i)) := by
  rw [Nat.testBit_or, Nat.testBit_two_pow]
  congr 1
  rw [Bool.eq_iff_iff]; simp [eq_comm]

/-- what a stretch of the canonical run keeps. -/
structure PathFacts (ops : Array Oper) (bef : Array Nat) (p : List Nat) (s c : DSt N) : Prop where
  done : ∀ j, c.done.testBit j = (s.done.testBit j || decide (j ∈ p))
  nodup : p.Nodup
  fresh : ∀ i ∈ p, s.done.testBit i = false
  closed : (∀ i j, s.done.testBit i = true → (bef.getD i 0).testBit j = true → s.done.testBit j = true) → ∀ i j, c.done.testBit i = true → (bef.getD i 0).testBit j = true → c.done.testBit j = true
  n : c.a.n = s.a.n
  t : ∀ t, (∀ i ∈ p, ∀ o, ops[i]? = some o → o.dst ≠ some t) → c.a.t.get t = s.a.t.get t
  hist : ∃ l, c.hist = s.hist ++ l
  ops : ∀ i ∈ p, ∃ o, ops[i]? = some o

theorem path_facts : ∀ (p : List Nat) (s c : DSt N), runD P D rec r ops bef base em p s = some c → PathFacts ops bef p s c
  | [], s, c, h => by
    simp only [runD, Option.some.injEq] at h
    subst h
    exact ⟨by simp, List.nodup_nil, by simp, fun h => h, rfl, fun _ _ => rfl, ⟨[], by simp⟩, by simp⟩
  | i :: p, s, c, h => by
    simp only [runD] at h
    split at h
    rotate_left
    · cases h
    rename_i s' hs
    obtain ⟨o, ho, hf, haft, hd, hk⟩ := stepD_inv hs
    obtain ⟨k1, k2, k3, hk3⟩ := hk.keeps
    have ih := path_facts p s' c h
    have hdone : ∀ j, c.done.testBit j = (s.done.testBit j || decide (j ∈ i :: p)) := by
      intro j
      rw [ih.done, hd, testBit_add]
      simp only [List.mem_cons]
      cases s.done.testBit j <;> by_cases h1 : j = i <;> by_cases h2 : j ∈ p <;> simp [h1, h2]
    refine ⟨hdone, ?_, ?_, ?_, ih.n.trans k1, ?_, ?_, ?_⟩
    · refine List.nodup_cons.2 ⟨fun hi => ?_, ih.nodup⟩
      have := ih.fresh i hi
      rw [hd, testBit_add] at this
      simp at this
    · intro j hj
      rcases List.mem_cons.1 hj with rfl | hj
      · exact hf
      · have := ih.fresh j hj
        rw [hd, testBit_add, Bool.or_eq_false_iff] at this
        exact this.1
    · intro hc
      refine ih.closed fun x y hx hy => ?_
      rw [hd, testBit_add, Bool.or_eq_true, decide_eq_true_eq] at hx ⊢
      rcases hx with hx | rfl
      · exact .inl (hc x y hx hy)
      · exact .inl (haft y hy)
    · intro t ht
      rw [ih.t t (fun j hj => ht j (by simp [hj])), k2 t (ht i (by simp) o ho)]
    · obtain ⟨l, hl⟩ := ih.hist
      exact ⟨k3 ++ l, by rw [hl, hk3, List.append_assoc]⟩
    · intro j hj
      rcases List.mem_cons.1 hj with rfl | hj
      · exact ⟨o, ho⟩
      · exact ih.ops j hj

/-- the temporaries behind a set of operations. -/
noncomputable def valS (ops : Array Oper) (a0 aF : AAct N) (S : Nat → Prop) (t : Tmp) : AV N :=
  open Classical in if ∃ i o, S i ∧ ops[i]? = some o ∧ o.dst = some t then (aF.t.get t).getD undefA else (a0.t.get t).getD undefA

theorem valS_congr {a0 aF : AAct N} {S S' : Nat → Prop} {t : Tmp} (h : ∀ i o, ops[i]? = some o → o.dst = some t → (S i ↔ S' i)) : valS ops a0 aF S t = valS ops a0 aF S' t := by
  unfold valS
  have : (∃ i o, S i ∧ ops[i]? = some o ∧ o.dst = some t) ↔ ∃ i o, S' i ∧ ops[i]? = some o ∧ o.dst = some t :=
    ⟨fun ⟨i, o, h1, h2, h3⟩ => ⟨i, o, (h i o h2 h3).1 h1, h2, h3⟩, fun ⟨i, o, h1, h2, h3⟩ => ⟨i, o, (h i o h2 h3).2 h1, h2, h3⟩⟩
  by_cases h1 : ∃ i o, S i ∧ ops[i]? = some o ∧ o.dst = some t
  · rw [if_pos h1, if_pos (this.1 h1)]
  · rw [if_neg h1, if_neg (fun q => h1 (this.2 q))]

/-- a canonical state's temporaries. -/
theorem canon_val (hok : regionOk P ops = true) {p q : List Nat} {s c f : DSt N} (h1 : runD P D rec r ops bef base em p s = some c) (h2 : runD P D rec r ops bef base em q c = some f) (hz : ∀ j, s.done.testBit j = false) (t : Tmp) :
    (c.a.t.get t).getD undefA = valS ops s.a f.a (fun i => i ∈ p) t := by
  have f1 := path_facts p s c h1
  have f2 := path_facts q c f h2
  unfold valS
  split
  · rename_i hex
    obtain ⟨i, o, hi, ho, hd⟩ := hex
    rw [f2.t t]
    intro j hj u hu
    refine dst_apart hok ho hu ?_ hd
    rintro rfl
    have := f2.fresh i hj
    rw [f1.done] at this
    simp [hi] at this
  · rename_i hne
    rw [f1.t t]
    intro j hj u hu hd
    exact hne ⟨j, u, hj, hu, hd⟩

end
end Go.Am

namespace Go.Am
section
variable {N : Type} {D : Dom N} {den : N → Int} {P : Program} {rec : Task N → Option (List (Out N))} {r : Option Nat} {ops : Array Oper} {bef : Array Nat} {base em : Nat}

/-- blocks that are put in at their reserved places. -/
noncomputable def putE (base : Nat) (B : Nat → ABlk N) : List Nat → AH N → AH N
  | [], H => H
  | k :: E, H => putE base B E (H.put (base + k) (B k))

theorem putE_next (B : Nat → ABlk N) : ∀ (E : List Nat) (H : AH N), (putE base B E H).next = H.next
  | [], H => rfl
  | k :: E, H => by rw [putE, putE_next B E]; rfl

theorem putE_in (B : Nat → ABlk N) : ∀ (E : List Nat) (H : AH N) (k : Nat), k ∈ E → (putE base B E H).blk (base + k) = B k
  | [], _, _, h => by cases h
  | x :: E, H, k, h => by
    rw [putE]
    by_cases hk : k ∈ E
    · exact putE_in B E _ k hk
    · have hkx : k = x := by
        rcases List.mem_cons.1 h with h | h
        · exact h
        · exact (hk h).elim
      subst hkx
      have key : ∀ (E : List Nat) (H : AH N), k ∉ E → (putE base B E H).blk (base + k) = H.blk (base + k) := by
        intro E
        induction E with
        | nil => intro H _; rfl
        | cons y E ih =>
          intro H hy
          simp only [List.mem_cons, not_or] at hy
          rw [putE, ih _ hy.2, AH.blk_put, if_neg (by omega)]
      rw [key E _ hk, AH.blk_put, if_pos rfl]

theorem putE_out (B : Nat → ABlk N) : ∀ (E : List Nat) (H : AH N) (j : Nat), (∀ k ∈ E, j ≠ base + k) → (putE base B E H).blk j = H.blk j
  | [], _, _, _ => rfl
  | x :: E, H, j, h => by
    rw [putE, putE_out B E _ j (fun k hk => h k (by simp [hk])), AH.blk_put, if_neg (h x (by simp))]

/-- the block that an allocation of the canonical run lays. -/
noncomputable def blkT (P : Program) (D : Dom N) (rec : Task N → Option (List (Out N))) (r : Option Nat) (ops : Array Oper) (bef : Array Nat) (base em : Nat) (ord : List Nat) (s0 : DSt N) (k : Nat) : ABlk N :=
  match runD P D rec r ops bef base em (ord.takeWhile (fun x => x != k) ++ [k]) s0 with
  | some c => c.H.blk (base + k)
  | none => .dead

theorem takeWhile_split {p q : List Nat} {k : Nat} (h : k ∉ p) : (p ++ k :: q).takeWhile (fun x => x != k) = p := by
  induction p with
  | nil => simp
  | cons x p ih =>
    simp only [List.mem_cons, not_or] at h
    have hx : (x != k) = true := by simpa using fun e => h.1 e.symm
    simp only [List.cons_append, List.takeWhile_cons, hx, if_true, ih h.2]

theorem blkT_at {ord p q : List Nat} {s0 c c' : DSt N} {k : Nat} (hord : ord = p ++ k :: q) (hk : k ∉ p) (h1 : runD P D rec r ops bef base em p s0 = some c) (h2 : stepD P D rec r ops bef base em k c = some c') :
    blkT P D rec r ops bef base em ord s0 k = c'.H.blk (base + k) := by
  unfold blkT
  rw [hord, takeWhile_split hk, runD_append, h1]
  simp only [Option.bind_some, runD, h2]

/-- is it an allocation that is wanted? -/
def IsA (P : Program) (D : Dom N) (rec : Task N → Option (List (Out N))) (r : Option Nat) (ops : Array Oper) (bef : Array Nat) (base em : Nat) (ord : List Nat) (s0 : DSt N) (k : Nat) : Prop :=
  ∃ o c, ops[k]? = some o ∧ kindO P o.op = .alloc ∧ runD P D rec r ops bef base em (ord.takeWhile (fun x => x != k)) s0 = some c ∧ wantedA ops c.a o = some true

end
end Go.Am

namespace Go.Am
section
variable {N : Type} {D : Dom N} {den : N → Int} {P : Program} {rec : Task N → Option (List (Out N))} {r : Option Nat} {ops : Array Oper} {bef : Array Nat} {base em : Nat}

/-- a stretch of quiet operations. -/
theorem quiet_heap (hD : DomOk D den) {ord : List Nat} {s0 : DSt N} (hnd : ord.Nodup) : ∀ (m p q : List Nat) (c c1 : DSt N), ord = p ++ (m ++ q) → runD P D rec r ops bef base em p s0 = some c → runD P D rec r ops bef base em m c = some c1 →
    (∀ k ∈ m, ∀ o, ops[k]? = some o → kindO P o.op ≠ .eff) →
    c1.H.next = c.H.next ∧ c1.a.d = c.a.d ∧ c1.hist = c.hist ∧ ∃ E : List Nat, (∀ k, k ∈ E ↔ k ∈ m ∧ IsA P D rec r ops bef base em ord s0 k) ∧ ∀ j, c1.H.blk j = (putE base (blkT P D rec r ops bef base em ord s0) E c.H).blk j
  | [], p, q, c, c1, hord, hp, hm, hq => by
    simp only [runD, Option.some.injEq] at hm
    subst hm
    exact ⟨rfl, rfl, rfl, [], by simp, fun j => rfl⟩
  | k :: m, p, q, c, c1, hord, hp, hm, hq => by
    simp only [runD] at hm
    split at hm
    rotate_left
    · cases hm
    rename_i c' hs
    obtain ⟨o, ho, hf, haft, hd, hk⟩ := stepD_inv hs
    have hkp : k ∉ p := by
      intro h
      rw [hord, List.nodup_append] at hnd
      exact hnd.2.2 k h k (by simp) rfl
    have hp' : runD P D rec r ops bef base em (p ++ [k]) s0 = some c' := by
      rw [runD_append, hp]
      simp only [Option.bind_some, runD, hs]
    obtain ⟨i1, i2, i3, E, hE, hblk⟩ := quiet_heap hD hnd m (p ++ [k]) q c' c1 (by rw [hord]; simp) hp' hm (fun x hx => hq x (by simp [hx]))
    have hB : blkT P D rec r ops bef base em ord s0 k = c'.H.blk (base + k) := blkT_at (q := m ++ q) (by rw [hord]; simp) hkp hp hs
    have hcAt : runD P D rec r ops bef base em (ord.takeWhile (fun x => x != k)) s0 = some c := by
      rw [hord, show p ++ (k :: m ++ q) = p ++ k :: (m ++ q) by simp, takeWhile_split hkp, hp]
    have hkm : k ∉ m := by
      intro h
      rw [hord, List.nodup_append] at hnd
      have := hnd.2.1
      simp only [List.cons_append, List.nodup_cons, List.mem_append, not_or] at this
      exact this.1.1 h
    have same : (¬ IsA P D rec r ops bef base em ord s0 k) → c'.H = c.H → c'.a.d = c.a.d → c'.hist = c.hist →
        c1.H.next = c.H.next ∧ c1.a.d = c.a.d ∧ c1.hist = c.hist ∧ ∃ E : List Nat, (∀ x, x ∈ E ↔ x ∈ k :: m ∧ IsA P D rec r ops bef base em ord s0 x) ∧ ∀ j, c1.H.blk j = (putE base (blkT P D rec r ops bef base em ord s0) E c.H).blk j := by
      intro hna h1 h2 h3
      refine ⟨by rw [i1, h1], by rw [i2, h2], by rw [i3, h3], E, fun x => ?_, fun j => by rw [hblk, h1]⟩
      rw [hE]
      constructor
      · rintro ⟨hx, ha⟩; exact ⟨by simp [hx], ha⟩
      · rintro ⟨hx, ha⟩
        rcases List.mem_cons.1 hx with rfl | hx
        · exact (hna ha).elim
        · exact ⟨hx, ha⟩
    have notA : ∀ (_ : kindO P o.op ≠ .alloc ∨ wantedA ops c.a o ≠ some true), ¬ IsA P D rec r ops bef base em ord s0 k := by
      rintro hno ⟨o', c2, ho', hk', hc2, hw'⟩
      rw [ho] at ho'; cases ho'
      rw [hcAt] at hc2; cases hc2
      rcases hno with h | h
      · exact h hk'
      · exact h hw'
    cases hk with
    | skip hk hw ha hH hh => exact same (notA (.inr (by rw [hw]; simp))) hH (aput_facts ha).2.1 hh
    | pure hk hw v Hx hop ha hH hh => exact same (notA (.inl (by rw [hk]; simp))) hH (aput_facts ha).2.1 hh
    | read hk hw v hc ha hH hh => exact same (notA (.inl (by rw [hk]; simp))) hH (aput_facts ha).2.1 hh
    | effSkip hk hdd hw ha hH hh => exact (hq k (by simp) o ho hk).elim
    | eff hk hdd hw x hop ha hH hh => exact (hq k (by simp) o ho hk).elim
    | alloc hk hw v Hn hop ha hH hh =>
      obtain ⟨v', b, hr, _⟩ := allocOp_sound hD hk hop
      simp only [ORes.val.injEq] at hr
      obtain ⟨rfl, rfl⟩ := hr
      have hblk' : ∀ j, c'.H.blk j = (c.H.put (base + k) (blkT P D rec r ops bef base em ord s0 k)).blk j := by
        have e : ∀ j, c'.H.blk j = if j = base + k then b else c.H.blk j := by
          intro j
          rw [hH]
          show (AH.new { c.H with next := base + k } b).2.blk j = _
          rw [AH.blk_new]
          rfl
        intro j
        rw [AH.blk_put, hB, e, e]
        split <;> simp
      have hA : IsA P D rec r ops bef base em ord s0 k := ⟨o, c, ho, hk, hcAt, hw⟩
      refine ⟨by rw [i1, hH], by rw [i2]; exact (aput_facts ha).2.1, by rw [i3, hh], k :: E, fun x => ?_, fun j => ?_⟩
      · simp only [List.mem_cons, hE]
        constructor
        · rintro (rfl | ⟨hx, hxa⟩)
          · exact ⟨.inl rfl, hA⟩
          · exact ⟨.inr hx, hxa⟩
        · rintro ⟨rfl | hx, hxa⟩
          · exact .inl rfl
          · exact .inr ⟨hx, hxa⟩
      · rw [hblk, putE]
        by_cases hj : ∃ x ∈ E, j = base + x
        · obtain ⟨x, hx, rfl⟩ := hj
          rw [putE_in _ _ _ _ hx, putE_in _ _ _ _ hx]
        · rw [putE_out _ _ _ _ (fun x hx e => hj ⟨x, hx, e⟩), putE_out _ _ _ _ (fun x hx e => hj ⟨x, hx, e⟩), hblk']

end
end Go.Am

namespace Go.Am
section
variable {N : Type} {D : Dom N} {den : N → Int} {P : Program} {rec : Task N → Option (List (Out N))} {r : Option Nat} {ops : Array Oper} {base em : Nat}

/-- a block more at a place that was kept for it. -/
theorem reserve_rel {σ : Sub} {K : AH N} {w w' : World} {q : Nat} (h : HRel den σ K w) (hq : q < K.next) (hn : σ q = none) {b : ABlk N} {l : Loc} (hr : l.r = w.heap.size)
    (hsz : w'.heap.size = w.heap.size + 1) (hold : ∀ x, x < w.heap.size → w'.heap[x]? = w.heap[x]?) (hos : w'.os = w.os) (hout : w'.output = w.output) (htape : w'.tape = w.tape)
    (hb : BRel den (σ.add q l) q w' b) {K' : AH N} (hK' : ∀ j, K'.blk j = (K.put q b).blk j) (hnx : K'.next = K.next) :
    HRel den (σ.add q l) K' w' ∧ ∀ (σ0 : Sub) (H0 : AH N) (w0 : World), H0.next ≤ q → Ext σ0 H0 w0 σ K w → Ext σ0 H0 w0 (σ.add q l) K' w' := by
  have hle := Sub.le_add (l := l) hn
  have hblk : ∀ j, K'.blk j = if j = q then b else K.blk j := fun j => by rw [hK', AH.blk_put]
  have hold' : ∀ j m, (σ.add q l) j = some m → j ≠ q → σ j = some m := by
    intro j m hm hj
    unfold Sub.add at hm
    rwa [if_neg hj] at hm
  have hnew : ∀ m, (σ.add q l) q = some m → m = l := by
    intro m hm
    simp [Sub.add] at hm
    exact hm.symm
  refine ⟨⟨fun j => ?_, fun i j li lj hi hj hli hlj e => ?_, fun i m hm => ?_, fun i m hm => ?_, fun i hi => ?_⟩, fun σ0 H0 w0 h0 hx => ?_⟩
  · rw [hblk]
    split
    · subst_vars; exact hb
    · exact (h.blk j).mono hle fun m hm _ => hold _ (h.bnd _ _ hm)
  · rw [hblk] at hi hj
    by_cases ei : i = q <;> by_cases ej : j = q
    · rw [ei, ej]
    · rw [if_neg ej] at hj
      subst ei
      have := hnew _ hli
      have h2 := h.bnd _ _ (hold' _ _ hlj ej)
      subst this
      omega
    · rw [if_neg ei] at hi
      subst ej
      have := hnew _ hlj
      have h2 := h.bnd _ _ (hold' _ _ hli ei)
      subst this
      omega
    · rw [if_neg ei] at hi; rw [if_neg ej] at hj
      exact h.inj i j li lj hi hj (hold' _ _ hli ei) (hold' _ _ hlj ej) e
  · rw [hnx]
    by_cases ei : i = q
    · omega
    · exact h.dom i m (hold' _ _ hm ei)
  · rw [hsz]
    by_cases ei : i = q
    · subst ei; have := hnew _ hm; subst this; omega
    · have := h.bnd i m (hold' _ _ hm ei); omega
  · rw [hnx] at hi
    rw [hblk, if_neg (by omega)]
    exact h.fut i hi
  · refine ⟨hx.sub.trans hle, by have := hx.size; omega, hos.trans hx.os, hout.trans hx.out, htape.trans hx.tape, by rw [hnx]; exact hx.next, fun x hxl hno => ?_, fun i m hi hm hml => ?_, fun i hi hni => ?_⟩
    · rw [hold x (Nat.lt_of_lt_of_le hxl hx.size), hx.frame x hxl hno]
    · rw [hblk] at hi ⊢
      by_cases ei : i = q
      · subst ei
        have := hnew _ hm
        subst this
        have := hx.size
        omega
      · rw [if_neg ei] at hi ⊢
        exact hx.range i m hi (hold' _ _ hm ei) hml
    · unfold Sub.add
      rw [if_neg (by omega)]
      exact hx.only i hi hni

theorem live_mapped {σ : Sub} {K : AH N} {w : World} (h : HRel den σ K w) {j : Nat} (hj : K.blk j ≠ .dead) : ∃ l, σ j = some l := by
  have hb := h.blk j
  revert hb hj
  generalize K.blk j = b
  intro hj hb
  cases b with
  | dead => exact (hj rfl).elim
  | cells row ro => simp only [BRel] at hb; obtain ⟨l, _, _, _, hl, _⟩ := hb; exact ⟨l, hl⟩
  | map es c => simp only [BRel] at hb; obtain ⟨l, _, hl, _⟩ := hb; exact ⟨l, hl⟩
  | mapIter m x y z => simp only [BRel] at hb; obtain ⟨l, _, hl, _⟩ := hb; exact ⟨l, hl⟩
  | loop L => simp only [BRel] at hb; obtain ⟨l, _, hl, _⟩ := hb; exact ⟨l, hl⟩
  | deferred d =>
    match d with
    | none => simp only [BRel] at hb; obtain ⟨l, hl, _⟩ := hb; exact ⟨l, hl⟩
    | some [] => simp only [BRel] at hb; obtain ⟨l, hl, _⟩ := hb; exact ⟨l, hl⟩
    | some (_ :: _) => exact hb.elim

/-- a guard's answer hangs on one temporary. -/
theorem wanted_at {σ : Sub} {a : AAct N} {o : Oper} {ra : Act} (hn : ra.tmps.size = a.n) (ha : ∀ j b d, o.guard = some (j, b) → (ops[j]?).bind (·.dst) = some d → d < a.n → VRel den σ ((a.t.get d).getD undefA) (ra.tmps.getD d undef)) {b : Bool} (e : wantedA ops a o = some b) :
    Region.wanted o (yielded ops ra.tmps) = b := by
  -- the temporaries that matter, the others as they lie
  unfold wantedA at e
  unfold Region.wanted
  cases hg : o.guard with
  | none => rw [hg] at e; cases e; rfl
  | some jw =>
    obtain ⟨j, want⟩ := jw
    rw [hg] at e
    simp only at e ⊢
    unfold yielded
    cases hd : (ops[j]?).bind (·.dst) with
    | none => rw [hd] at e; cases e; rfl
    | some d =>
      rw [hd] at e
      simp only [Bool.cond_eq_ite, Nat.blt_eq] at e
      simp only [Option.bind_some]
      split at e
      · rename_i hlt
        have hr := ha j want d hg hd hlt
        have hsz : d < ra.tmps.size := by rw [hn]; exact hlt
        have hget : ra.tmps[d]? = some (ra.tmps.getD d undef) := by simp [Array.getD_eq_getD_getElem?, hsz]
        rw [hget]
        split at e
        · rename_i b' hb
          rw [hb] at hr
          simp only [VRel] at hr
          rw [hr]
          cases e
          rfl
        · cases e
        · rename_i hnb hnj
          cases e
          have : ∀ b', ra.tmps.getD d undef ≠ .bool b' := by
            intro b' hb'
            rw [hb'] at hr
            generalize (a.t.get d).getD undefA = q at hr hnb hnj
            cases q <;> simp only [VRel] at hr <;> first | (cases hr; done) | (exact hnb _ rfl) | (exact hnj rfl) | (obtain ⟨_, hr⟩ := hr; first | (cases hr; done) | (obtain ⟨hr, _⟩ := hr; cases hr; done) | (obtain ⟨_, hr⟩ := hr; first | (cases hr; done) | (obtain ⟨hr, _⟩ := hr; cases hr; done) | (obtain ⟨_, hr, _⟩ := hr; cases hr))) | (obtain ⟨hr, _⟩ := hr; cases hr)
          revert this
          generalize ra.tmps.getD d undef = q
          intro this
          cases q <;> first | rfl | exact (this _ rfl).elim
      · rename_i hge
        cases e
        have : ra.tmps[d]? = none := by rw [Array.getElem?_eq_none]; rw [hn]; omega
        rw [this]
        rfl

end
end Go.Am

namespace Go.Am
section
variable {N : Type} {D : Dom N} {den : N → Int} {P : Program} {rec : Task N → Option (List (Out N))} {r : Option Nat} {ops : Array Oper} {base em : Nat}

/-- the whole canonical run of a region. -/
structure Canon (P : Program) (D : Dom N) (rec : Task N → Option (List (Out N))) (r : Option Nat) (ops : Array Oper) (base em : Nat) (ord : List Nat) (s0 sF : DSt N) : Prop where
  ok : regionOk P ops = true
  run : runD P D rec r ops (Region.before ops) base em ord s0 = some sF
  zero : ∀ j, s0.done.testBit j = false
  all : ∀ i, i < ops.size → i ∈ ord
  em : em = effMask P ops.toList 0

/-- a real run of the region, behind the operations of S. -/
structure Inv (den : N → Int) (P : Program) (D : Dom N) (rec : Task N → Option (List (Out N))) (r : Option Nat) (ops : Array Oper) (base em : Nat) (ord : List Nat) (s0 sF : DSt N) (σ0 : Sub) (H0 : AH N) (w0 : World)
    (S : Nat → Prop) (σ : Sub) (ra : Act) (w : World) (p q : List Nat) (c : DSt N) (E : List Nat) : Prop where
  split : ord = p ++ q
  run1 : runD P D rec r ops (Region.before ops) base em p s0 = some c
  run2 : runD P D rec r ops (Region.before ops) base em q c = some sF
  cur : (c.done, c.H) ∈ c.hist
  psub : ∀ i ∈ p, S i
  effs : ∀ i o, S i → ops[i]? = some o → kindO P o.op = .eff → i ∈ p
  early : ∀ k, k ∈ E ↔ (S k ∧ k ∉ p ∧ IsA P D rec r ops (Region.before ops) base em ord s0 k)
  heap : HRel den σ (putE base (blkT P D rec r ops (Region.before ops) base em ord s0) E c.H) w
  none : ∀ k, k < ops.size → ¬ (S k ∧ IsA P D rec r ops (Region.before ops) base em ord s0 k) → σ (base + k) = none
  dead : ∀ k, k < ops.size → k ∉ p → c.H.blk (base + k) = .dead
  nxt : base + ops.size ≤ c.H.next
  size : ra.tmps.size = s0.a.n
  tmps : ∀ t, t < s0.a.n → VRel den σ (valS ops s0.a sF.a S t) (ra.tmps.getD t undef)
  defs : DRels den σ c.a.d ra.defers
  ext : Ext σ0 H0 w0 σ (putE base (blkT P D rec r ops (Region.before ops) base em ord s0) E c.H) w
  closed : ∀ i j, S i → ((Region.before ops).getD i 0).testBit j = true → S j
  lt : ∀ i, S i → i < ops.size

end
end Go.Am

namespace Go.Am
section
variable {N : Type} {D : Dom N} {den : N → Int} {P : Program} {rec : Task N → Option (List (Out N))} {r : Option Nat} {ops : Array Oper} {base em : Nat} {ord : List Nat} {s0 sF : DSt N}

/-- writers of what an operation looks at: those of its canonical place, and those of a real one. -/
theorem writers_agree (hC : Canon P D rec r ops base em ord s0 sF) {S : Nat → Prop} (hclosed : ∀ i j, S i → ((Region.before ops).getD i 0).testBit j = true → S j)
    {pi : List Nat} {i : Nat} {ci : DSt N} {o : Oper} (ho : ops[i]? = some o) (hrun : runD P D rec r ops (Region.before ops) base em pi s0 = some ci) (hip : i ∉ pi) (hiS : ¬ S i)
    (hb1 : ∀ j, ((Region.before ops).getD i 0).testBit j = true → j ∈ pi) (hb2 : ∀ j, ((Region.before ops).getD i 0).testBit j = true → S j) {t : Tmp}
    (hr : ∀ j u, ops[j]? = some u → u.dst = some t → ((Region.before ops).getD i 0).testBit j = true ∨ ((Region.before ops).getD j 0).testBit i = true) :
    valS ops s0.a sF.a (fun j => j ∈ pi) t = valS ops s0.a sF.a S t := by
  refine valS_congr fun j u hu hd => ?_
  have pf := path_facts pi s0 ci hrun
  rcases hr j u hu hd with h | h
  · exact ⟨fun _ => hb2 j h, fun _ => hb1 j h⟩
  · constructor
    · intro hj
      exfalso
      have hcl := pf.closed (fun x y hx _ => by rw [hC.zero] at hx; cases hx) j i (by rw [pf.done, hC.zero]; simpa using hj) h
      rw [pf.done, hC.zero] at hcl
      simp at hcl
      exact hip hcl
    · intro hj
      exact (hiS (hclosed j i hj h)).elim

/-- the canonical act's operands stand for the real ones. -/
theorem env_at (hD : DomOk D den) (hC : Canon P D rec r ops base em ord s0 sF) {σ : Sub} (hG : GOk P σ) {S : Nat → Prop} (hclosed : ∀ i j, S i → ((Region.before ops).getD i 0).testBit j = true → S j)
    {ra : Act} (htmps : ∀ t, t < s0.a.n → VRel den σ (valS ops s0.a sF.a S t) (ra.tmps.getD t undef))
    {pi qi : List Nat} {i : Nat} {ci : DSt N} {o : Oper} (ho : ops[i]? = some o) (hord : ord = pi ++ i :: qi) (hrun : runD P D rec r ops (Region.before ops) base em pi s0 = some ci) (hrun2 : runD P D rec r ops (Region.before ops) base em (i :: qi) ci = some sF)
    (hip : i ∉ pi) (hiS : ¬ S i)
    (hb1 : ∀ j, ((Region.before ops).getD i 0).testBit j = true → j ∈ pi) (hb2 : ∀ j, ((Region.before ops).getD i 0).testBit j = true → S j) :
    EnvRel den P D σ ci.a ra.eval o.op.operands.toList ∧
    ∀ j b d, o.guard = some (j, b) → (ops[j]?).bind (·.dst) = some d → d < ci.a.n → VRel den σ ((ci.a.t.get d).getD undefA) (ra.tmps.getD d undef) := by
  have pf := path_facts pi s0 ci hrun
  have hval := fun t => canon_val hC.ok hrun hrun2 hC.zero t
  constructor
  · intro x hx u hu
    cases x with
    | tmp t =>
      simp only [aeval_tmp, Bool.cond_eq_ite, Nat.blt_eq] at hu
      split at hu
      · rename_i hlt
        cases hu
        rw [hval t, writers_agree hC hclosed ho hrun hip hiS hb1 hb2 (t := t) (fun j u hu hd => reads_order hC.ok hu ho hd (by
          simp only [tmpsOf, List.mem_filterMap]
          exact ⟨.tmp t, hx, rfl⟩))]
        exact htmps t (by rw [← pf.n]; exact hlt)
      · cases hu
    | const v => exact ofValue_sound hD 6 v u hu
    | global g =>
      simp only [aeval, Bool.cond_eq_ite, Nat.blt_eq] at hu
      split at hu
      · rename_i hg
        cases hu
        obtain ⟨l, hl, h1, h2⟩ := hG g (by omega)
        simp only [VRel]
        exact ⟨l, hl, by simp [Act.eval, h1, h2]⟩
      · cases hu
    | func f =>
      cases hu
      simp only [VRel]
      exact ⟨#[], #[], rfl, by simp [VRels], by simp [VRels]⟩
  · intro j b d hg hd hlt
    rw [hval d, writers_agree hC hclosed ho hrun hip hiS hb1 hb2 (t := d) (fun j' u hu hd' => by
      cases hj : ops[j]? with
      | none => rw [hj] at hd; simp at hd
      | some v =>
        rw [hj] at hd
        simp only [Option.bind_some] at hd
        have : j' = j := by
          by_cases e : j' = j
          · exact e
          · exact (dst_apart hC.ok hu hj e hd' hd).elim
        subst this
        exact .inl (guard_before hC.ok ho hg))]
    exact htmps d (by rw [← pf.n]; exact hlt)

end
end Go.Am

namespace Go.Am
section
variable {N : Type} {D : Dom N} {den : N → Int} {P : Program} {rec : Task N → Option (List (Out N))} {r : Option Nat} {ops : Array Oper} {base em : Nat} {ord : List Nat} {s0 sF : DSt N}
  {σ0 : Sub} {H0 : AH N} {w0 : World} {S : Nat → Prop} {σ : Sub} {ra : Act} {w : World} {p q : List Nat} {c : DSt N} {E : List Nat}

/-- where an operation that is not done yet stands in the canonical run. -/
theorem place (hC : Canon P D rec r ops base em ord s0 sF) (hI : Inv den P D rec r ops base em ord s0 sF σ0 H0 w0 S σ ra w p q c E) {i : Nat} (hi : i < ops.size) (hiS : ¬ S i) :
    ∃ m qi ci ci', q = m ++ i :: qi ∧ runD P D rec r ops (Region.before ops) base em m c = some ci ∧ runD P D rec r ops (Region.before ops) base em (p ++ m) s0 = some ci ∧ stepD P D rec r ops (Region.before ops) base em i ci = some ci' ∧
      runD P D rec r ops (Region.before ops) base em qi ci' = some sF ∧ i ∉ p ++ m := by
  have hio := hC.all i hi
  have hip : i ∉ p := fun h => hiS (hI.psub i h)
  rw [hI.split] at hio
  have hiq : i ∈ q := (List.mem_append.1 hio).resolve_left hip
  obtain ⟨m, qi, hq⟩ := List.append_of_mem hiq
  have h2 := hI.run2
  rw [hq, runD_append] at h2
  cases hci : runD P D rec r ops (Region.before ops) base em m c with
  | none => rw [hci] at h2; cases h2
  | some ci =>
    rw [hci, Option.bind_some, runD] at h2
    split at h2
    · rename_i ci' hs
      have hpm : runD P D rec r ops (Region.before ops) base em (p ++ m) s0 = some ci := by rw [runD_append, hI.run1, Option.bind_some, hci]
      refine ⟨m, qi, ci, ci', hq, hci, hpm, hs, h2, ?_⟩
      have hnd := (path_facts ord s0 sF hC.run).nodup
      rw [hI.split, hq, ← List.append_assoc, List.nodup_append] at hnd
      intro h
      exact hnd.2.2 i h i (by simp) rfl
    · cases h2

/-- the temporaries behind one operation more. -/
theorem tmps_put (hC : Canon P D rec r ops base em ord s0 sF) {i : Nat} {o : Oper} (ho : ops[i]? = some o) (hiS : ¬ S i) (hsz : ra.tmps.size = s0.a.n)
    (htmps : ∀ t, t < s0.a.n → VRel den σ (valS ops s0.a sF.a S t) (ra.tmps.getD t undef)) {σ' : Sub} (hle : σ.le σ') {v : AV N} {rv : Value} (hv : VRel den σ' v rv)
    (hF : ∀ d, o.dst = some d → (sF.a.t.get d).getD undefA = v) {rds : List Deferred} :
    (({ ra with defers := rds } : Act).put o.dst rv).tmps.size = s0.a.n ∧ ∀ t, t < s0.a.n → VRel den σ' (valS ops s0.a sF.a (fun j => S j ∨ j = i) t) ((({ ra with defers := rds } : Act).put o.dst rv).tmps.getD t undef) := by
  cases hd : o.dst with
  | none =>
    refine ⟨hsz, fun t ht => ?_⟩
    rw [show valS ops s0.a sF.a (fun j => S j ∨ j = i) t = valS ops s0.a sF.a S t from valS_congr fun j u hu hud => ⟨fun h => by
      rcases h with h | rfl
      · exact h
      · exact (by rw [ho] at hu; cases hu; rw [hd] at hud; cases hud), fun h => Or.inl h⟩]
    exact VRel.mono hle _ _ (htmps t ht)
  | some d =>
    refine ⟨by simp [Act.put, hsz], fun t ht => ?_⟩
    by_cases htd : t = d
    · subst htd
      have : valS ops s0.a sF.a (fun j => S j ∨ j = i) t = v := by
        unfold valS
        rw [if_pos ⟨i, o, .inr rfl, ho, hd⟩, hF t hd]
      rw [this]
      have hlt : t < ra.tmps.size := by rw [hsz]; exact ht
      simp only [Act.put, Array.getD_eq_getD_getElem?]
      simp [hlt]
      exact hv
    · rw [show valS ops s0.a sF.a (fun j => S j ∨ j = i) t = valS ops s0.a sF.a S t from valS_congr fun j u hu hud => ⟨fun h => by
        rcases h with h | rfl
        · exact h
        · exact (by rw [ho] at hu; cases hu; rw [hd] at hud; cases hud; exact (htd rfl).elim), fun h => Or.inl h⟩]
      have := VRel.mono hle _ _ (htmps t ht)
      simp only [Act.put, Array.getD_eq_getD_getElem?] at this ⊢
      rw [Array.getElem?_setIfInBounds_ne (by omega)]
      exact this

end
end Go.Am

namespace Go.Am
section
variable {N : Type} {D : Dom N} {den : N → Int} {P : Program} {rec : Task N → Option (List (Out N))} {r : Option Nat} {ops : Array Oper} {base em : Nat} {ord : List Nat} {s0 sF : DSt N}
  {σ0 : Sub} {H0 : AH N} {w0 : World} {S : Nat → Prop} {σ : Sub} {ra : Act} {w : World} {p q : List Nat} {c : DSt N} {E : List Nat}

/-- an operation that leaves memory as it is. -/
theorem inv_still (hC : Canon P D rec r ops base em ord s0 sF) (hI : Inv den P D rec r ops base em ord s0 sF σ0 H0 w0 S σ ra w p q c E) {i : Nat} {o : Oper} (ho : ops[i]? = some o) (hiS : ¬ S i)
    (hne : kindO P o.op ≠ .eff) (hnA : ¬ IsA P D rec r ops (Region.before ops) base em ord s0 i) (hb : ∀ j, ((Region.before ops).getD i 0).testBit j = true → S j) {v : AV N} {rv : Value} (hv : VRel den σ v rv)
    (hF : ∀ d, o.dst = some d → (sF.a.t.get d).getD undefA = v) :
    Inv den P D rec r ops base em ord s0 sF σ0 H0 w0 (fun j => S j ∨ j = i) σ (ra.put o.dst rv) w p q c E := by
  obtain ⟨h1, h2⟩ := tmps_put (rds := ra.defers) hC ho hiS hI.size hI.tmps (Sub.le.refl σ) hv hF
  have hi : i < ops.size := by
    rcases Nat.lt_or_ge i ops.size with h | h
    · exact h
    · rw [Array.getElem?_eq_none h] at ho; cases ho
  refine { hI with
    psub := fun j hj => .inl (hI.psub j hj)
    effs := fun j u hj hu hk => ?_
    early := fun k => ?_
    none := fun k hk hn => hI.none k hk (fun h => hn ⟨.inl h.1, h.2⟩)
    size := h1
    tmps := h2
    defs := ?_
    closed := fun x y hx hy => ?_
    lt := fun j hj => ?_ }
  · rcases hj with hj | rfl
    · exact hI.effs j u hj hu hk
    · rw [ho] at hu; cases hu; exact (hne hk).elim
  · rw [hI.early]
    constructor
    · rintro ⟨a, b, c⟩; exact ⟨.inl a, b, c⟩
    · rintro ⟨a | rfl, b, c⟩
      · exact ⟨a, b, c⟩
      · exact (hnA c).elim
  · have : (ra.put o.dst rv).defers = ra.defers := by cases o.dst <;> rfl
    rw [this]; exact hI.defs
  · rcases hx with hx | rfl
    · exact .inl (hI.closed x y hx hy)
    · exact .inl (hb y hy)
  · rcases hj with hj | rfl
    · exact hI.lt j hj
    · exact hi

/-- what an operation wrote stays. -/
theorem stays (hC : Canon P D rec r ops base em ord s0 sF) {pi qi : List Nat} {i : Nat} {ci' : DSt N} {o : Oper} (ho : ops[i]? = some o) (hord : ord = pi ++ i :: qi) (h2 : runD P D rec r ops (Region.before ops) base em qi ci' = some sF) {d : Tmp} (hd : o.dst = some d) :
    sF.a.t.get d = ci'.a.t.get d := by
  have pf := path_facts qi ci' sF h2
  have hnd := (path_facts ord s0 sF hC.run).nodup
  rw [hord, List.nodup_append] at hnd
  have hiq : i ∉ qi := (List.nodup_cons.1 hnd.2.1).1
  refine pf.t d fun j hj u hu => dst_apart hC.ok ho hu ?_ hd
  rintro rfl
  exact hiq hj

end
end Go.Am

namespace Go.Am
section
variable {N : Type} {D : Dom N} {den : N → Int} {P : Program} {rec : Task N → Option (List (Out N))} {r : Option Nat} {ops : Array Oper} {base em : Nat} {ord : List Nat} {s0 sF : DSt N}
  {σ0 : Sub} {H0 : AH N} {w0 : World} {S : Nat → Prop} {σ : Sub} {ra : Act} {w : World} {p q : List Nat} {c : DSt N} {E : List Nat}

/-- what an allocation lays is alive. -/
theorem alloc_live {a : AAct N} {H : AH N} {o : Oper} (hk : kindO P o.op = .alloc) {v : AV N} {H' : AH N} (e : opA P D a H o = some (.val v H')) : (H'.blk H.next).live = true := by
  have hc : ∀ (row : Row N) ro, (((H.new (.cells row ro)).2).blk H.next).live = true := fun row ro => by rw [AH.blk_new, if_pos rfl]; rfl
  have hm : ∀ es n, (((H.new (.map es n)).2).blk H.next).live = true := fun row ro => by rw [AH.blk_new, if_pos rfl]; rfl
  unfold opA at e
  cases hop : o.op <;> simp only [hop, kindO] at hk e <;> first | (cases hk; done) | skip
  case alloc t =>
    split at e
    · split at e
      · simp only [Bool.cond_eq_ite] at e
        split at e
        · obtain ⟨v, h1, h2⟩ := ow_inv e
          cases h2; exact hc _ _
        · cases e
      · cases e
    · cases e
  case box t x =>
    split at e
    · cases e
    · simp only [Bool.cond_eq_ite] at e
      split at e
      · obtain ⟨v, h1, h2⟩ := ow_inv e
        cases h2; exact hc _ _
      · cases e
    · cases e
  case buildSlice t len ps =>
    split at e
    · obtain ⟨v, H', h1, h2⟩ := ov_inv e
      cases h2
      unfold buildSliceA at h1
      split at h1
      · split at h1
        · simp only [Bool.cond_eq_ite] at h1
          split at h1
          · split at h1
            · simp only [Option.some.injEq, Prod.mk.injEq] at h1
              rw [← h1.2]; exact hc _ _
            · cases h1
          · cases h1
        · cases h1
      · cases h1
    · cases e
  case makeMap t r' =>
    split at e
    · obtain ⟨v, h1, h2⟩ := ow_inv e
      cases h2; exact hm _ _
    · split at e
      · obtain ⟨v, h1, h2⟩ := ow_inv e
        cases h2; exact hm _ _
      · cases e
  case makeSlice t l c =>
    split at e
    · obtain ⟨v, H', h1, h2⟩ := ov_inv e
      cases h2
      unfold makeSliceA at h1
      split at h1
      · split at h1
        · simp only [Bool.cond_eq_ite] at h1
          split at h1
          · simp only [Option.some.injEq, Prod.mk.injEq] at h1
            rw [← h1.2]; exact hc _ _
          · cases h1
        · cases h1
      · cases h1
    · cases e
  case convert s d x =>
    split at e
    · rename_i u hx
      obtain ⟨v, H', h1, h2⟩ := ov_inv e
      cases h2
      obtain ⟨e', hs, hd⟩ : ∃ e', P.underlying s = some .string ∧ P.underlying d = some (.slice e') := by
        cases hs : P.underlying s with
        | none => rw [hs] at hk; simp at hk
        | some ds =>
          cases hd : P.underlying d with
          | none => rw [hs, hd] at hk; cases ds <;> simp at hk
          | some dd => rw [hs, hd] at hk; cases ds <;> cases dd <;> simp at hk; exact ⟨_, rfl, rfl⟩
      have hstr : ∃ q, u = .str q ∧ ∃ row ro, H' = (H.new (.cells row ro)).2 := by
        unfold convA at h1
        rw [hs, hd] at h1
        split at h1
        · rename_i hq; cases hq
        · rename_i hq; cases hq
        · rename_i q _ _
          split at h1
          · simp only [Option.some.injEq, Prod.mk.injEq] at h1
            exact ⟨q, rfl, _, _, h1.2.symm⟩
          · cases h1
        · rename_i hq _; cases hq
        · cases h1
      obtain ⟨q, rfl, row, ro, rfl⟩ := hstr
      exact hc _ _
    · cases e
  case call c =>
    cases hcal : c.callee with
    | value f => rw [hcal] at hk; cases hk
    | invoke f n => rw [hcal] at hk; cases hk
    | builtin b => rw [hcal] at hk; cases b <;> cases hk

theorem effMask_spec : ∀ (l : List Oper) (k j : Nat), (effMask P l k).testBit j = true → k ≤ j ∧ ∃ o, l[j - k]? = some o ∧ kindO P o.op = .eff
  | [], k, j, h => by simp [effMask] at h
  | o :: l, k, j, h => by
    simp only [effMask, Nat.testBit_or, Bool.or_eq_true] at h
    rcases h with h | h
    · split at h
      · rename_i hk
        simp only [Nat.testBit_two_pow, decide_eq_true_eq] at h
        subst h
        exact ⟨Nat.le_refl _, o, by simp, hk⟩
      · simp at h
    · obtain ⟨h1, o', h2, h3⟩ := effMask_spec l (k + 1) j h
      refine ⟨by omega, o', ?_, h3⟩
      rw [show j - k = (j - (k + 1)) + 1 by omega]
      simpa using h2

theorem checkReads_mem {a : AAct N} {o : Oper} {v : AV N} {need : Nat} : ∀ {l : List (Nat × AH N)}, checkReads P D a o v need l = true → ∀ {m : Nat} {H : AH N}, (m, H) ∈ l → need &&& m = need → ∃ u H', opA P D a H o = some (.val u H') ∧ AV.beq D u v = true
  | [], _, _, _, h, _ => by cases h
  | (m', H') :: l, hc, m, H, h, hn => by
    simp only [checkReads, Bool.and_eq_true, nbeq, Bool.cond_decide] at hc
    rcases List.mem_cons.1 h with e | h
    · cases e
      have := hc.1
      rw [if_pos hn] at this
      split at this
      · rename_i u H2 ho
        exact ⟨u, H2, ho, this⟩
      · cases this
    · exact checkReads_mem hc.2 h hn

/-- an operation's place in the canonical run, and what it stands behind. -/
structure At (P : Program) (D : Dom N) (rec : Task N → Option (List (Out N))) (r : Option Nat) (ops : Array Oper) (base em : Nat) (ord : List Nat) (s0 sF : DSt N) (p : List Nat) (c : DSt N) (q : List Nat) (i : Nat) (o : Oper)
    (m qi : List Nat) (ci ci' : DSt N) : Prop where
  q : q = m ++ i :: qi
  mid : runD P D rec r ops (Region.before ops) base em m c = some ci
  pre : runD P D rec r ops (Region.before ops) base em (p ++ m) s0 = some ci
  step : stepD P D rec r ops (Region.before ops) base em i ci = some ci'
  post : runD P D rec r ops (Region.before ops) base em qi ci' = some sF
  out : i ∉ p ++ m
  op : ops[i]? = some o
  aft : ∀ j, ((Region.before ops).getD i 0).testBit j = true → j ∈ p ++ m
  kind : StepK P D rec r ops (Region.before ops) base em i o ci ci'
  ord : ord = (p ++ m) ++ i :: qi
  done : ∀ j, ci.done.testBit j = true ↔ j ∈ p ++ m
  done' : ci'.done = ci.done ||| 2 ^ i
  nodup : (p ++ m).Nodup

theorem at_of (hC : Canon P D rec r ops base em ord s0 sF) (hI : Inv den P D rec r ops base em ord s0 sF σ0 H0 w0 S σ ra w p q c E) {i : Nat} (hi : i < ops.size) (hiS : ¬ S i) :
    ∃ o m qi ci ci', At P D rec r ops base em ord s0 sF p c q i o m qi ci ci' := by
  obtain ⟨m, qi, ci, ci', hq, hm, hpm, hs, h2, hnp⟩ := place hC hI hi hiS
  obtain ⟨o, ho, hf, haft, hd, hk⟩ := stepD_inv hs
  have pf := path_facts (p ++ m) s0 ci hpm
  have hdone : ∀ j, ci.done.testBit j = true ↔ j ∈ p ++ m := fun j => by rw [pf.done, hC.zero]; simp
  exact ⟨o, m, qi, ci, ci', hq, hm, hpm, hs, h2, hnp, ho, fun j hj => (hdone j).1 (haft j hj), hk, by rw [hI.split, hq]; simp, hdone, hd, pf.nodup⟩

theorem At.isA {i : Nat} {o : Oper} {m qi : List Nat} {ci ci' : DSt N} (hA : At P D rec r ops base em ord s0 sF p c q i o m qi ci ci') : IsA P D rec r ops (Region.before ops) base em ord s0 i ↔ kindO P o.op = .alloc ∧ wantedA ops ci.a o = some true := by
  have ht : ord.takeWhile (fun x => x != i) = p ++ m := by rw [hA.ord, takeWhile_split hA.out]
  constructor
  · rintro ⟨o', c2, ho', hk', hc2, hw'⟩
    rw [hA.op] at ho'; cases ho'
    rw [ht, hA.pre] at hc2; cases hc2
    exact ⟨hk', hw'⟩
  · rintro ⟨h1, h2⟩
    exact ⟨o, ci, hA.op, h1, by rw [ht]; exact hA.pre, h2⟩

theorem At.get {i : Nat} {o : Oper} {m qi : List Nat} {ci ci' : DSt N} (hC : Canon P D rec r ops base em ord s0 sF) (hA : At P D rec r ops base em ord s0 sF p c q i o m qi ci ci') {a1 : AAct N} {v : AV N} (ha : aput a1 o.dst v = some ci'.a) : ∀ d, o.dst = some d → (sF.a.t.get d).getD undefA = v := by
  intro d hd
  rw [stays hC hA.op hA.ord hA.post hd, ((aput_facts ha).2.2.2 d hd).2]
  rfl

theorem At.blk {i : Nat} {o : Oper} {m qi : List Nat} {ci ci' : DSt N} (hA : At P D rec r ops base em ord s0 sF p c q i o m qi ci ci') : blkT P D rec r ops (Region.before ops) base em ord s0 i = ci'.H.blk (base + i) :=
  blkT_at hA.ord hA.out hA.pre hA.step

/-- a block that is laid ahead of its time is alive. -/
theorem isA_live (hC : Canon P D rec r ops base em ord s0 sF) (hD : DomOk D den) {k : Nat} (hk : k < ops.size) (h : IsA P D rec r ops (Region.before ops) base em ord s0 k) : (blkT P D rec r ops (Region.before ops) base em ord s0 k).live = true := by
  obtain ⟨p1, q1, hord⟩ := List.append_of_mem (hC.all k hk)
  have hnd := (path_facts ord s0 sF hC.run).nodup
  have hkp : k ∉ p1 := by
    intro h
    rw [hord, List.nodup_append] at hnd
    exact hnd.2.2 k h k (by simp) rfl
  obtain ⟨o, ck, ho, hka, hrun, hw⟩ := h
  rw [hord, takeWhile_split hkp] at hrun
  have h2 := hC.run
  rw [hord, runD_append, hrun, Option.bind_some, runD] at h2
  split at h2
  rotate_left
  · cases h2
  rename_i ck' hs
  rw [blkT_at hord hkp hrun hs]
  obtain ⟨o', ho', hf, haft, hd, hst⟩ := stepD_inv hs
  rw [ho] at ho'; cases ho'
  cases hst with
  | skip hk hw' ha hH hh => rw [hw] at hw'; cases hw'
  | pure hk hw' v Hx ho ha hH hh => rw [hk] at hka; cases hka
  | read hk hw' v hc ha hH hh => rw [hk] at hka; cases hka
  | effSkip hk hdd hw' ha hH hh => rw [hk] at hka; cases hka
  | eff hk hdd hw' x ho ha hH hh => rw [hk] at hka; cases hka
  | alloc hk hw' v Hn ho ha hH hh =>
    rw [hH]
    exact alloc_live hka ho

theorem Inv.late (hI : Inv den P D rec r ops base em ord s0 sF σ0 H0 w0 S σ ra w p q c E) : ∀ j, c.H.blk j = .dead ∨ c.H.blk j = (putE base (blkT P D rec r ops (Region.before ops) base em ord s0) E c.H).blk j := by
  intro j
  by_cases hj : ∃ k ∈ E, j = base + k
  · obtain ⟨k, hk, rfl⟩ := hj
    obtain ⟨h1, h2, h3⟩ := (hI.early k).1 hk
    exact .inl (hI.dead k (hI.lt k h1) h2)
  · exact .inr (putE_out _ _ _ _ (fun k hk e => hj ⟨k, hk, e⟩)).symm

theorem less_of {K1 K : AH N} (hn : K.next ≤ K1.next) (h : ∀ j, K1.blk j = .dead ∨ K1.blk j = K.blk j) (hr : HRel den σ K w) : HRel den σ K1 w := by
  refine hr.less ⟨hn, fun j => ?_⟩ fun j hj => ?_
  · rcases h j with e | e
    · exact .inl e
    · exact .inr (by rw [e]; exact ⟨rfl, rfl⟩)
  · rcases h j with e | e
    · exact (hj e).elim
    · rw [e]; exact hr.blk j

end
end Go.Am

namespace Go.Am
section
variable {N : Type} {D : Dom N} {den : N → Int} {P : Program} {rec : Task N → Option (List (Out N))} {r : Option Nat} {ops : Array Oper} {base em : Nat} {ord : List Nat} {s0 sF : DSt N}
  {σ0 : Sub} {H0 : AH N} {w0 : World} {S : Nat → Prop} {σ : Sub} {ra : Act} {w : World} {p q : List Nat} {c : DSt N} {E : List Nat}
  {i : Nat} {o : Oper} {m qi : List Nat} {ci ci' : DSt N}

/-- behind an allocation. -/
theorem inv_alloc (hD : DomOk D den) (hC : Canon P D rec r ops base em ord s0 sF) (hI : Inv den P D rec r ops base em ord s0 sF σ0 H0 w0 S σ ra w p q c E) (hA : At P D rec r ops base em ord s0 sF p c q i o m qi ci ci') (hi : i < ops.size) (hiS : ¬ S i)
    (hb : ∀ j, ((Region.before ops).getD i 0).testBit j = true → S j) (hbase : H0.next ≤ base) (hia : IsA P D rec r ops (Region.before ops) base em ord s0 i) {v : AV N} {b : ABlk N} {rv : Value} {w' : World} {l : Loc}
    (hr : l.r = w.heap.size) (hsz : w'.heap.size = w.heap.size + 1) (hold : ∀ r, r < w.heap.size → w'.heap[r]? = w.heap[r]?) (hos : w'.os = w.os) (hout : w'.output = w.output) (htape : w'.tape = w.tape)
    (hbr : BRel den (σ.add (base + i) l) (base + i) w' b) (hv : VRel den (σ.add (base + i) l) v rv) (hB : blkT P D rec r ops (Region.before ops) base em ord s0 i = b) (hF : ∀ d, o.dst = some d → (sF.a.t.get d).getD undefA = v) :
    Inv den P D rec r ops base em ord s0 sF σ0 H0 w0 (fun j => S j ∨ j = i) (σ.add (base + i) l) (ra.put o.dst rv) w' p q c (i :: E) := by
  have hn : σ (base + i) = none := hI.none i hi (fun h => hiS h.1)
  have hle := Sub.le_add (l := l) hn
  obtain ⟨t1, t2⟩ := tmps_put (rds := ra.defers) hC hA.op hiS hI.size hI.tmps hle hv hF
  have hip : i ∉ p := fun h => hA.out (by simp [h])
  have hiE : i ∉ E := fun h => hiS ((hI.early i).1 h).1
  have hK' : ∀ j, (putE base (blkT P D rec r ops (Region.before ops) base em ord s0) (i :: E) c.H).blk j = ((putE base (blkT P D rec r ops (Region.before ops) base em ord s0) E c.H).put (base + i) b).blk j := by
    intro j
    rw [putE, AH.blk_put]
    by_cases hj : j = base + i
    · rw [if_pos hj, hj, putE_out _ _ _ _ (fun k hk e => hiE (by rw [show i = k by omega]; exact hk)), AH.blk_put, if_pos rfl, hB]
    · rw [if_neg hj]
      by_cases hk : ∃ k ∈ E, j = base + k
      · obtain ⟨k, hk, rfl⟩ := hk
        rw [putE_in _ _ _ _ hk, putE_in _ _ _ _ hk]
      · rw [putE_out _ _ _ _ (fun k h e => hk ⟨k, h, e⟩), putE_out _ _ _ _ (fun k h e => hk ⟨k, h, e⟩), AH.blk_put, if_neg hj]
  have hKn : (putE base (blkT P D rec r ops (Region.before ops) base em ord s0) E c.H).next = c.H.next := putE_next _ _ _
  obtain ⟨g1, g2⟩ := reserve_rel hI.heap (q := base + i) (by rw [hKn]; have := hI.nxt; omega) hn hr hsz hold hos hout htape hbr hK' (by rw [putE_next, hKn])
  refine { hI with
    psub := fun j hj => .inl (hI.psub j hj)
    effs := fun j u hj hu hk => ?_
    early := fun k => ?_
    heap := g1
    none := fun k hk hn' => ?_
    size := t1
    tmps := t2
    defs := ?_
    ext := g2 _ _ _ (by omega) hI.ext
    closed := fun x y hx hy => ?_
    lt := fun j hj => ?_ }
  · rcases hj with hj | rfl
    · exact hI.effs j u hj hu hk
    · rw [hA.op] at hu; cases hu
      have := (hA.isA.1 hia).1
      rw [hk] at this; cases this
  · rw [List.mem_cons, hI.early]
    constructor
    · rintro (rfl | ⟨h1, h2, h3⟩)
      · exact ⟨.inr rfl, hip, hia⟩
      · exact ⟨.inl h1, h2, h3⟩
    · rintro ⟨h1 | rfl, h2, h3⟩
      · exact .inr ⟨h1, h2, h3⟩
      · exact .inl rfl
  · have hki : k ≠ i := by rintro rfl; exact hn' ⟨.inr rfl, hia⟩
    unfold Sub.add
    rw [if_neg (by omega)]
    exact hI.none k hk (fun h => hn' ⟨.inl h.1, h.2⟩)
  · have : (ra.put o.dst rv).defers = ra.defers := by cases o.dst <;> rfl
    rw [this]; exact hI.defs.mono hle
  · rcases hx with hx | rfl
    · exact .inl (hI.closed x y hx hy)
    · exact .inl (hb y hy)
  · rcases hj with hj | rfl
    · exact hI.lt j hj
    · exact hi

/-- how memory stands where an effect comes up. -/
structure EffAt (P : Program) (D : Dom N) (rec : Task N → Option (List (Out N))) (r : Option Nat) (ops : Array Oper) (base em : Nat) (ord : List Nat) (s0 : DSt N) (S : Nat → Prop) (c ci : DSt N) (p m : List Nat) (E : List Nat) : Prop where
  next : ci.H.next = c.H.next
  d : ci.a.d = c.a.d
  msub : ∀ k ∈ m, S k
  less : ∀ j, ci.H.blk j = .dead ∨ ci.H.blk j = (putE base (blkT P D rec r ops (Region.before ops) base em ord s0) E c.H).blk j
  dead : ∀ k, k < ops.size → k ∉ p → k ∉ m → ci.H.blk (base + k) = .dead

theorem eff_at (hD : DomOk D den) (hC : Canon P D rec r ops base em ord s0 sF) (hI : Inv den P D rec r ops base em ord s0 sF σ0 H0 w0 S σ ra w p q c E) (hA : At P D rec r ops base em ord s0 sF p c q i o m qi ci ci') (hi : i < ops.size)
    (hb : ∀ j, ((Region.before ops).getD i 0).testBit j = true → S j) (hd : ci.done = (Region.before ops).getD i 0) : EffAt P D rec r ops base em ord s0 S c ci p m E := by
  have hnd := (path_facts ord s0 sF hC.run).nodup
  have msub : ∀ k ∈ m, S k := fun k hk => hb k (by rw [← hd]; exact (hA.done k).2 (by simp [hk]))
  have mp : ∀ k ∈ m, k ∉ p := by
    intro k hk hp
    have := hA.nodup
    rw [List.nodup_append] at this
    exact this.2.2 k hp k hk rfl
  obtain ⟨h1, h2, h3, E1, hE1, hblk⟩ := quiet_heap hD hnd m p (i :: qi) c ci (by rw [hA.ord]; simp) hI.run1 hA.mid (fun k hk u hu he => mp k hk (hI.effs k u (msub k hk) hu he))
  refine ⟨h1, h2, msub, fun j => ?_, fun k hk hkp hkm => ?_⟩
  · rw [hblk]
    by_cases hj : ∃ k ∈ E1, j = base + k
    · obtain ⟨k, hk, rfl⟩ := hj
      obtain ⟨a1, a2⟩ := (hE1 k).1 hk
      rw [putE_in _ _ _ _ hk, putE_in _ _ _ _ ((hI.early k).2 ⟨msub k a1, mp k a1, a2⟩)]
      exact .inr rfl
    · rw [putE_out _ _ _ _ (fun k hk e => hj ⟨k, hk, e⟩)]
      exact hI.late j
  · rw [hblk, putE_out _ _ _ _ (fun x hx e => hkm (by rw [show k = x by omega]; exact ((hE1 x).1 hx).1))]
    exact hI.dead k hk hkp

/-- behind an effect. -/
theorem inv_eff (hD : DomOk D den) (hC : Canon P D rec r ops base em ord s0 sF) (hI : Inv den P D rec r ops base em ord s0 sF σ0 H0 w0 S σ ra w p q c E) (hA : At P D rec r ops base em ord s0 sF p c q i o m qi ci ci') (hi : i < ops.size) (hiS : ¬ S i)
    (hb : ∀ j, ((Region.before ops).getD i 0).testBit j = true → S j) (hne : kindO P o.op = .eff) (hE : EffAt P D rec r ops base em ord s0 S c ci p m E) (hcur : (ci'.done, ci'.H) ∈ ci'.hist)
    {σ' : Sub} {w' : World} (hx : Ext σ ci.H w σ' ci'.H w') (hh : HRel den σ' ci'.H w') {v : AV N} {rv : Value} (hv : VRel den σ' v rv) {rds : List Deferred} (hds : DRels den σ' ci'.a.d rds)
    (hF : ∀ d, o.dst = some d → (sF.a.t.get d).getD undefA = v) :
    Inv den P D rec r ops base em ord s0 sF σ0 H0 w0 (fun j => S j ∨ j = i) σ' (({ ra with defers := rds } : Act).put o.dst rv) w' (p ++ m ++ [i]) qi ci' (E.filter (fun k => !m.contains k)) := by
  obtain ⟨t1, t2⟩ := tmps_put (rds := rds) hC hA.op hiS hI.size hI.tmps hx.sub hv hF
  have hnA : ¬ IsA P D rec r ops (Region.before ops) base em ord s0 i := fun h => by have := (hA.isA.1 h).1; rw [hne] at this; cases this
  have hE' : ∀ k, k ∈ E.filter (fun k => !m.contains k) ↔ (k ∈ E ∧ k ∉ m) := by intro k; simp [List.mem_filter]
  have hEi : ∀ k, k ∈ E → k < ops.size ∧ k ∉ p ∧ S k := fun k hk => ⟨hI.lt k ((hI.early k).1 hk).1, ((hI.early k).1 hk).2.1, ((hI.early k).1 hk).1⟩
  have fr := frame_rel (K1 := ci.H) (M := ci'.H) (K' := putE base (blkT P D rec r ops (Region.before ops) base em ord s0) (E.filter (fun k => !m.contains k)) ci'.H) hI.heap hE.less (by rw [putE_next]; exact hE.next) hx hh (putE_next _ _ _) (fun j => by
    by_cases hj : ∃ k ∈ E.filter (fun k => !m.contains k), j = base + k
    · obtain ⟨k, hk, rfl⟩ := hj
      obtain ⟨k1, k2⟩ := (hE' k).1 hk
      obtain ⟨k3, k4, _⟩ := hEi k k1
      exact .inr ⟨by rw [putE_in _ _ _ _ hk, putE_in _ _ _ _ k1], hE.dead k k3 k4 k2⟩
    · exact .inl (putE_out _ _ _ _ (fun k hk e => hj ⟨k, hk, e⟩)))
  have hnone : ∀ k, k < ops.size → ¬ (S k ∧ IsA P D rec r ops (Region.before ops) base em ord s0 k) → σ' (base + k) = none := fun k hk h =>
    hx.only _ (by rw [hE.next]; have := hI.nxt; omega) (hI.none k hk h)
  refine {
    split := by rw [hA.ord]; simp
    run1 := by rw [runD_append, hA.pre, Option.bind_some, runD, hA.step]; rfl
    run2 := hA.post
    cur := hcur
    psub := fun j hj => ?_
    effs := fun j u hj hu hk => ?_
    early := fun k => ?_
    heap := fr.1
    none := fun k hk hn => hnone k hk (fun h => hn ⟨.inl h.1, h.2⟩)
    dead := fun k hk hkp => ?_
    nxt := by have := hx.next; have := hE.next; have := hI.nxt; omega
    size := t1
    tmps := t2
    defs := ?_
    ext := fr.2 _ _ _ hI.ext
    closed := fun x y hx hy => ?_
    lt := fun j hj => ?_ }
  · simp only [List.append_assoc, List.mem_append, List.mem_singleton] at hj
    rcases hj with hj | hj | hj
    · exact .inl (hI.psub j hj)
    · exact .inl (hE.msub j hj)
    · exact .inr hj
  · rcases hj with hj | rfl
    · simp [hI.effs j u hj hu hk]
    · simp
  · rw [hE', hI.early]
    simp only [List.append_assoc, List.mem_append, List.mem_singleton, not_or]
    constructor
    · rintro ⟨⟨h1, h2, h3⟩, h4⟩
      exact ⟨.inl h1, ⟨h2, h4, by rintro rfl; exact hiS h1⟩, h3⟩
    · rintro ⟨h1 | rfl, ⟨h2, h3, h4⟩, h5⟩
      · exact ⟨⟨h1, h2, h5⟩, h3⟩
      · exact (h4 rfl).elim
  · simp only [List.append_assoc, List.mem_append, List.mem_singleton, not_or] at hkp
    obtain ⟨k1, k2, k3⟩ := hkp
    apply Classical.byContradiction
    intro hlive
    obtain ⟨l, hl⟩ := live_mapped hh hlive
    have hkS : S k ∧ IsA P D rec r ops (Region.before ops) base em ord s0 k := by
      apply Classical.byContradiction
      intro h
      rw [hnone k hk h] at hl; cases hl
    have hkE : k ∈ E := (hI.early k).2 ⟨hkS.1, k1, hkS.2⟩
    have hKlive : ((putE base (blkT P D rec r ops (Region.before ops) base em ord s0) E c.H).blk (base + k)).live = true := by
      rw [putE_in _ _ _ _ hkE]; exact isA_live hC hD hk hkS.2
    obtain ⟨l0, hl0⟩ := live_mapped hI.heap (j := base + k) (fun e => by rw [e] at hKlive; simp [ABlk.live] at hKlive)
    have e0 := hx.sub _ _ hl0
    rw [hl] at e0; cases e0
    have hlv : (ci'.H.blk (base + k)).live = true := by
      cases hb' : (ci'.H.blk (base + k)).live with
      | true => rfl
      | false => exact (hlive (live_false hb')).elim
    obtain ⟨j, mm, hj, hjm, e1, _⟩ := hx.range _ _ hlv hl (hI.heap.bnd _ _ hl0)
    rcases hE.less j with e | e
    · rw [e] at hj; simp [ABlk.live] at hj
    · have := hI.heap.inj j (base + k) mm l (by rw [← e]; exact hj) hKlive hjm hl0 e1
      subst this
      rw [hE.dead k hk k1 k2] at hj
      simp [ABlk.live] at hj
  · have : (({ ra with defers := rds } : Act).put o.dst rv).defers = rds := by cases o.dst <;> rfl
    rw [this]; exact hds
  · rcases hx with hx | rfl
    · exact .inl (hI.closed x y hx hy)
    · exact .inl (hb y hy)
  · rcases hj with hj | rfl
    · exact hI.lt j hj
    · exact hi

end
end Go.Am

namespace Go.Am
section
variable {N : Type} {D : Dom N} {den : N → Int} {P : Program} {rec : Task N → Option (List (Out N))} {r : Option Nat} {ops : Array Oper} {base em : Nat} {ord : List Nat} {s0 sF : DSt N}
  {σ0 : Sub} {H0 : AH N} {w0 : World} {S : Nat → Prop} {σ : Sub} {ra : Act} {w : World} {p q : List Nat} {c : DSt N} {E : List Nat}

theorem need_sub (hC : Canon P D rec r ops base em ord s0 sF) (hI : Inv den P D rec r ops base em ord s0 sF σ0 H0 w0 S σ ra w p q c E) {i : Nat} (hb : ∀ j, ((Region.before ops).getD i 0).testBit j = true → S j) :
    ((Region.before ops).getD i 0 &&& em) &&& c.done = ((Region.before ops).getD i 0 &&& em) := by
  apply Nat.eq_of_testBit_eq
  intro j
  rw [Nat.testBit_and]
  cases h : ((Region.before ops).getD i 0 &&& em).testBit j with
  | false => rfl
  | true =>
    rw [Nat.testBit_and, Bool.and_eq_true] at h
    rw [hC.em] at h
    obtain ⟨_, o, ho, hk⟩ := effMask_spec _ _ _ h.2
    have pf := path_facts p s0 c hI.run1
    have : j ∈ p := hI.effs j o (hb j h.1) (by simpa using ho) hk
    rw [pf.done]
    simp [this]

theorem not_defer {o : Oper} (h : kindO P o.op ≠ .eff) : ∀ c, o.op ≠ .defer c := by
  intro c hc
  rw [hc] at h
  exact h rfl

theorem wp_value {F : Fence} (hf : ∀ f, F.fn f) {o : Oper} (hne : kindO P o.op ≠ .eff) {n : Nat} {ra : Act} {w w' : World} {K : Act → World → Prop} {Q : Exit → Act → World → Prop} {rv : Value}
    (hr : (execOp ra.eval o).run P w = .ok (.value rv) w') (hK : K (ra.put o.dst rv) w') : o.wpIn F n P ra w K Q := by
  refine ⟨fun f _ => hf f, ?_⟩
  rw [Oper.semAt_eq _ _ _ (not_defer hne), hr]
  exact hK

theorem step_ok (hD : DomOk D den) (hrec : RecOk den P rec) (hC : Canon P D rec r ops base em ord s0 sF) (hI : Inv den P D rec r ops base em ord s0 sF σ0 H0 w0 S σ ra w p q c E) {F : Fence} (hG : GOk P σ) (hF : FR σ r F)
    {i : Nat} (hi : i < ops.size) (hiS : ¬ S i) (hb : ∀ j, ((Region.before ops).getD i 0).testBit j = true → S j) (hbase : H0.next ≤ base) (k : Nat) {Q : Exit → Act → World → Prop} {K : Act → World → Prop}
    (HK : ∀ σ' ra' w' p' q' c' E', Inv den P D rec r ops base em ord s0 sF σ0 H0 w0 (fun j => S j ∨ j = i) σ' ra' w' p' q' c' E' → K ra' w') : wpOpIn F k P ops Q i K ra w := by
  obtain ⟨o, m, qi, ci, ci', hA⟩ := at_of hC hI hi hiS
  have pf := path_facts (p ++ m) s0 ci hA.pre
  obtain ⟨henv, hguard⟩ := env_at hD hC hG hI.closed hI.tmps hA.op hA.ord hA.pre (by simp only [runD, hA.step]; exact hA.post) hA.out hiS hA.aft hb
  have hsz : ra.tmps.size = ci.a.n := by rw [hI.size, pf.n]
  have hwant : ∀ {b}, wantedA ops ci.a o = some b → Region.wanted o (yielded ops ra.tmps) = b := fun h => wanted_at hsz hguard h
  unfold wpOpIn
  simp only [hA.op]
  have hAk := hA.kind
  cases hAk with
  | skip hk hw ha hH hh =>
    rw [hwant hw]
    simp only [Bool.false_eq_true, if_false]
    refine ⟨fun f _ => hF.fn f, HK _ _ _ _ _ _ _ (inv_still hC hI hA.op hiS hk (fun h => ?_) hb undef_rel (hA.get hC ha))⟩
    have := (hA.isA.1 h).2
    rw [hw] at this; cases this
  | pure hk hw v Hx hop ha hH hh =>
    rw [hwant hw, if_pos rfl]
    obtain ⟨v', hr, hrun⟩ := pureOp_sound hD hk hop
    cases hr
    obtain ⟨rv, hrun, hv⟩ := hrun σ ra.eval w henv
    refine wp_value hF.fn (by rw [hk]; simp) hrun (HK _ _ _ _ _ _ _ (inv_still hC hI hA.op hiS (by rw [hk]; simp) (fun h => ?_) hb hv (hA.get hC ha)))
    have := (hA.isA.1 h).1
    rw [hk] at this; cases this
  | read hk hw v hc ha hH hh =>
    rw [hwant hw, if_pos rfl]
    have hmem : (c.done, c.H) ∈ ci.hist := by
      obtain ⟨l, hl⟩ := (path_facts m c ci hA.mid).hist
      rw [hl]; simp [hI.cur]
    obtain ⟨u, H', hop, hbeq⟩ := checkReads_mem hc hmem (need_sub hC hI hb)
    obtain ⟨v', hr, hrun⟩ := readOp_sound hD hk hop
    cases hr
    obtain ⟨rv, hrun, hv⟩ := hrun σ ra.eval w (less_of (by rw [putE_next]; exact Nat.le_refl _) hI.late hI.heap) henv
    refine wp_value hF.fn (by rw [hk]; simp) hrun (HK _ _ _ _ _ _ _ (inv_still hC hI hA.op hiS (by rw [hk]; simp) (fun h => ?_) hb ((beq_sound hD _ _ hbeq _).1 hv) (hA.get hC ha)))
    have := (hA.isA.1 h).1
    rw [hk] at this; cases this
  | alloc hk hw v Hn hop ha hH hh =>
    rw [hwant hw, if_pos rfl]
    obtain ⟨v', b, hr, hrun⟩ := allocOp_sound hD hk hop
    simp only [ORes.val.injEq] at hr
    obtain ⟨rfl, rfl⟩ := hr
    have hia := hA.isA.2 ⟨hk, hw⟩
    obtain ⟨rv, w', l, hrun, h1, h2, h3, h4, h5, h6, h7, h8⟩ := hrun σ ra.eval w (hI.none i hi (fun h => hiS h.1)) henv
    have hB : blkT P D rec r ops (Region.before ops) base em ord s0 i = b := by
      rw [hA.blk, hH]
      show (AH.new { ci.H with next := base + i } b).2.blk (base + i) = b
      rw [AH.blk_new]
      exact if_pos rfl
    exact wp_value hF.fn (by rw [hk]; simp) hrun (HK _ _ _ _ _ _ _ (inv_alloc hD hC hI hA hi hiS hb hbase hia h1 h2 h3 h4 h5 h6 h7 h8 hB (hA.get hC ha)))
  | effSkip hk hd hw ha hH hh =>
    rw [hwant hw]
    simp only [Bool.false_eq_true, if_false]
    have hE := eff_at hD hC hI hA hi hb hd
    have hrel := less_of (by rw [putE_next, hE.next]; exact Nat.le_refl _) hE.less hI.heap
    refine ⟨fun f _ => hF.fn f, HK _ _ _ _ _ _ _ (inv_eff (rds := ra.defers) hD hC hI hA hi hiS hb hk hE (by rw [hh]; simp) (σ' := σ) (w' := w) (by rw [hH]; exact Ext.refl _ _ _) (by rw [hH]; exact hrel) undef_rel (by rw [(aput_facts ha).2.1, hE.d]; exact hI.defs) (hA.get hC ha))⟩
  | eff hk hd hw x hop ha hH hh =>
    rw [hwant hw, if_pos rfl]
    have hE := eff_at hD hC hI hA hi hb hd
    have hrel := less_of (by rw [putE_next, hE.next]; exact Nat.le_refl _) hE.less hI.heap
    refine oneB_sound hD hrec hF hop hG hrel henv k fun y hy σ' w' rv rds hx hr hv hds => ?_
    rw [List.mem_singleton] at hy
    subst hy
    refine HK _ _ _ _ _ _ _ (inv_eff hD hC hI hA hi hiS hb hk hE (by rw [hh]; simp) (by rw [hH]; exact hx) (by rw [hH]; exact hr) hv ?_ (hA.get hC ha))
    rw [(aput_facts ha).2.1]
    cases hxd : y.2.1 with
    | none =>
      rw [hxd] at hds
      simp only at hds
      subst hds
      show DRels den σ' ci.a.d _
      rw [hE.d]
      exact hI.defs.mono hx.sub
    | some d =>
      rw [hxd] at hds
      obtain ⟨rd, hd1, rfl⟩ := hds
      show DRels den σ' (d :: ci.a.d) _
      simp only [DRels]
      refine ⟨rd, ra.defers, rfl, hd1, ?_⟩
      rw [hE.d]
      exact hI.defs.mono hx.sub

/-- behind all operations. -/
theorem inv_end (hD : DomOk D den) (hC : Canon P D rec r ops base em ord s0 sF) (hI : Inv den P D rec r ops base em ord s0 sF σ0 H0 w0 S σ ra w p q c E) (hall : ∀ i, i < ops.size → S i) :
    ARel den σ sF.a ra ∧ HRel den σ sF.H w ∧ Ext σ0 H0 w0 σ sF.H w := by
  have hnd := (path_facts ord s0 sF hC.run).nodup
  have pf := path_facts ord s0 sF hC.run
  have hlt : ∀ k ∈ ord, k < ops.size := by
    intro k hk
    obtain ⟨o, ho⟩ := pf.ops k hk
    exact (Array.getElem?_eq_some_iff.1 ho).1
  have qp : ∀ k ∈ q, k ∉ p := by
    intro k hk hp
    rw [hI.split, List.nodup_append] at hnd
    exact hnd.2.2 k hp k hk rfl
  obtain ⟨h1, h2, h3, E1, hE1, hblk⟩ := quiet_heap hD hnd q p [] c sF (by rw [hI.split]; simp) hI.run1 hI.run2 (fun k hk u hu he => qp k hk (hI.effs k u (hall k (hlt k (by rw [hI.split]; simp [hk]))) hu he))
  have hmem : ∀ k, k ∈ E1 ↔ k ∈ E := by
    intro k
    rw [hE1, hI.early]
    constructor
    · rintro ⟨a, b⟩; exact ⟨hall k (hlt k (by rw [hI.split]; simp [a])), qp k a, b⟩
    · rintro ⟨a, b, d⟩
      have := hC.all k (hI.lt k a)
      rw [hI.split, List.mem_append] at this
      exact ⟨this.resolve_left b, d⟩
  have hb : ∀ j, sF.H.blk j = (putE base (blkT P D rec r ops (Region.before ops) base em ord s0) E c.H).blk j := by
    intro j
    rw [hblk]
    by_cases hj : ∃ k ∈ E, j = base + k
    · obtain ⟨k, hk, rfl⟩ := hj
      rw [putE_in _ _ _ _ hk, putE_in _ _ _ _ ((hmem k).2 hk)]
    · rw [putE_out _ _ _ _ (fun k hk e => hj ⟨k, hk, e⟩), putE_out _ _ _ _ (fun k hk e => hj ⟨k, (hmem k).1 hk, e⟩)]
  refine ⟨⟨⟨by rw [hI.size, pf.n], fun t ht => ?_⟩, by rw [h2]; exact hI.defs⟩, less_of (by rw [putE_next, h1]; exact Nat.le_refl _) (fun j => .inr (hb j)) hI.heap, hI.ext.less ⟨by rw [putE_next, h1]; exact Nat.le_refl _, fun j => .inr (by rw [hb]; exact ⟨rfl, rfl⟩)⟩⟩
  rw [pf.n] at ht
  have := hI.tmps t ht
  rw [canon_val hC.ok hC.run (q := []) rfl hC.zero t]
  rw [show valS ops s0.a sF.a (fun i => i ∈ ord) t = valS ops s0.a sF.a S t from valS_congr fun j u hu _ => ⟨fun _ => hall j (Array.getElem?_eq_some_iff.1 hu).1, fun _ => hC.all j (Array.getElem?_eq_some_iff.1 hu).1⟩]
  exact this

theorem count_lt {α : Type} {f g : α → Bool} : ∀ {l : List α}, (∀ x ∈ l, g x = true → f x = true) → (∃ x ∈ l, f x = true ∧ g x = false) → l.countP g < l.countP f
  | [], _, ⟨x, hx, _⟩ => by cases hx
  | a :: l, hs, ⟨x, hx, h1, h2⟩ => by
    have hle : l.countP g ≤ l.countP f := List.countP_mono_left fun y hy => hs y (by simp [hy])
    simp only [List.countP_cons]
    rcases List.mem_cons.1 hx with rfl | hx
    · simp [h1, h2]; omega
    · have := count_lt (l := l) (fun y hy => hs y (by simp [hy])) ⟨x, hx, h1, h2⟩
      have ha := hs a (by simp)
      cases hg : g a <;> cases hf : f a <;> simp_all <;> omega

/-- whatever comes up next. -/
theorem any_ok (hD : DomOk D den) (hrec : RecOk den P rec) (hC : Canon P D rec r ops base em ord s0 sF) {F : Fence} (hG : GOk P σ0) (hF : FR σ0 r F) (hbase : H0.next ≤ base) (k : Nat) {Q : Exit → Act → World → Prop}
    (HQ : ∀ σ ra w, ARel den σ sF.a ra → HRel den σ sF.H w → Ext σ0 H0 w0 σ sF.H w → Q .normal ra w) :
    ∀ (fuel : Nat) (listed : Array Bool) (σ : Sub) (ra : Act) (w : World) (p q : List Nat) (c : DSt N) (E : List Nat), listed.size = ops.size → (List.range ops.size).countP (fun i => !listed.getD i false) ≤ fuel →
      Inv den P D rec r ops base em ord s0 sF σ0 H0 w0 (fun j => listed.getD j false = true) σ ra w p q c E → wpAnyIn F k P .any ops Q fuel listed ra w := by
  have hdone : ∀ (listed : Array Bool) (σ : Sub) (ra : Act) (w : World) (p q : List Nat) (c : DSt N) (E : List Nat), listed.size = ops.size → Region.ready .any ops listed = [] →
      Inv den P D rec r ops base em ord s0 sF σ0 H0 w0 (fun j => listed.getD j false = true) σ ra w p q c E → Q .normal ra w := by
    intro listed σ ra w p q c E hsz hr hI
    have hall : ∀ n i, i < n → i < ops.size → listed.getD i false = true := by
      intro n
      induction n with
      | zero => intro i h; omega
      | succ n ih =>
        intro i hin hi
        cases hl : listed.getD i false with
        | true => rfl
        | false =>
          exfalso
          have : i ∈ Region.ready .any ops listed := by
            rw [mem_ready]
            refine ⟨?_, ops[i], by simp [hi], fun e he hb => ?_⟩
            · rw [Array.getD_eq_getD_getElem?] at hl ⊢
              rw [Array.getElem?_eq_getElem (by omega)] at hl ⊢
              exact hl
            · have := edge_down hC.ok (i := i) (o := ops[i]) (by simp [hi]) he hb
              exact ih e.on (by omega) (by omega)
          rw [hr] at this
          cases this
    obtain ⟨a1, a2, a3⟩ := inv_end hD hC hI (fun i hi => hall (i + 1) i (by omega) hi)
    exact HQ σ ra w a1 a2 a3
  have hstep : ∀ (fuel : Nat) (ih : ∀ (listed : Array Bool) (σ : Sub) (ra : Act) (w : World) (p q : List Nat) (c : DSt N) (E : List Nat), listed.size = ops.size → (List.range ops.size).countP (fun i => !listed.getD i false) ≤ fuel →
      Inv den P D rec r ops base em ord s0 sF σ0 H0 w0 (fun j => listed.getD j false = true) σ ra w p q c E → wpAnyIn F k P .any ops Q fuel listed ra w)
      (listed : Array Bool) (σ : Sub) (ra : Act) (w : World) (p q : List Nat) (c : DSt N) (E : List Nat), listed.size = ops.size → (List.range ops.size).countP (fun i => !listed.getD i false) ≤ fuel + 1 →
      Inv den P D rec r ops base em ord s0 sF σ0 H0 w0 (fun j => listed.getD j false = true) σ ra w p q c E → ∀ i ∈ Region.ready .any ops listed, wpOpIn F k P ops Q i (wpAnyIn F k P .any ops Q fuel (listed.setIfInBounds i true)) ra w := by
    intro fuel ih listed σ ra w p q c E hsz hcnt hI i hi
    obtain ⟨h1, o, ho, h2⟩ := mem_ready.1 hi
    have hlt : i < ops.size := (Array.getElem?_eq_some_iff.1 ho).1
    have h1' : listed.getD i false = false := by
      rw [Array.getD_eq_getD_getElem?] at h1 ⊢
      rw [Array.getElem?_eq_getElem (by omega)] at h1 ⊢
      exact h1
    have hset : (fun j => (listed.setIfInBounds i true).getD j false = true) = fun j => listed.getD j false = true ∨ j = i := by
      funext j
      apply propext
      by_cases hj : j = i
      · subst hj
        simp [Array.getD_eq_getD_getElem?, hsz, hlt]
      · rw [getD_set_ne false (fun e => hj e.symm)]
        simp [hj]
    refine step_ok hD hrec hC hI (hG.mono hI.ext.sub) (hF.mono hI.ext.sub) hlt (by rw [h1']; simp) ?_ hbase k fun σ' ra' w' p' q' c' E' hI' => ?_
    · intro j hj
      obtain ⟨o', ho', e, he, hb, hr⟩ := before_spec ops i j hj
      rw [ho] at ho'; cases ho'
      have := h2 e he hb
      rcases hr with rfl | hr
      · exact this
      · exact hI.closed e.on j this hr
    · refine ih _ σ' ra' w' p' q' c' E' (by simp [hsz]) ?_ (by rw [hset]; exact hI')
      have := count_lt (f := fun i => !listed.getD i false) (g := fun j => !(listed.setIfInBounds i true).getD j false) (l := List.range ops.size) (fun x _ hx => ?_) ⟨i, by simp [hlt], by simp [h1'], ?_⟩
      · omega
      · simp only [Bool.not_eq_true'] at hx ⊢
        cases hl : listed.getD x false with
        | false => rfl
        | true => rw [getD_set_true hl] at hx; cases hx
      · have := congrFun hset i
        simp only [or_true, eq_iff_iff, iff_true] at this
        rw [this]; rfl
  intro fuel
  induction fuel with
  | zero =>
    intro listed σ ra w p q c E hsz hcnt hI
    have hready : Region.ready .any ops listed = [] := by
      cases hr : Region.ready .any ops listed with
      | nil => rfl
      | cons i rest =>
        exfalso
        have hi : i ∈ Region.ready .any ops listed := by rw [hr]; simp
        obtain ⟨h1, o, ho, _⟩ := mem_ready.1 hi
        have hlt : i < ops.size := (Array.getElem?_eq_some_iff.1 ho).1
        have : 0 < (List.range ops.size).countP (fun i => !listed.getD i false) := by
          rw [List.countP_pos_iff]
          refine ⟨i, by simp [hlt], ?_⟩
          rw [Array.getD_eq_getD_getElem?] at h1 ⊢
          rw [Array.getElem?_eq_getElem (by omega)] at h1 ⊢
          simp at h1 ⊢
          exact h1
        omega
    exact ⟨hready, hdone listed σ ra w p q c E hsz hready hI⟩
  | succ fuel ih =>
    intro listed σ ra w p q c E hsz hcnt hI
    exact ⟨fun hr => hdone listed σ ra w p q c E hsz hr hI, hstep fuel ih listed σ ra w p q c E hsz hcnt hI⟩

/-- a region that draws its order. -/
theorem draw_ok (hD : DomOk D den) (hm : P.follows .mixedOrders = true) : DrawOk den P D := by
  intro rec hrec r ops a H outs id e σ w ra F h ha hG hF k
  unfold drawA at e
  cases hok : regionOk P ops with
  | false => rw [hok] at e; cases e
  | true =>
    rw [hok, cond_true] at e
    simp only at e
    split at e
    rotate_left
    · cases e
    rename_i sF hrun
    simp only [nbeq, Bool.cond_decide] at e
    split at e
    rotate_left
    · cases e
    rename_i hfull
    cases e
    have hz : ∀ j, (0 : Nat).testBit j = false := by simp
    have pf := path_facts _ _ _ hrun
    have hC : Canon P D rec r ops H.next (effMask P ops.toList 0) (orderD P ops.toList (Region.before ops) ops.toList 0 0) { done := 0, a := a, H := { H with next := H.next + ops.size }, hist := [(0, { H with next := H.next + ops.size })] } sF := by
      refine ⟨hok, hrun, hz, fun i hi => ?_, rfl⟩
      have := pf.done i
      rw [hfull, Nat.testBit_two_pow_sub_one] at this
      simpa [hi] using this
    have hinit : Inv den P D rec r ops H.next (effMask P ops.toList 0) (orderD P ops.toList (Region.before ops) ops.toList 0 0) { done := 0, a := a, H := { H with next := H.next + ops.size }, hist := [(0, { H with next := H.next + ops.size })] } sF σ H { w with drawn := w.drawn + 1 }
        (fun j => (Array.replicate ops.size false).getD j false = true) σ ra { w with drawn := w.drawn + 1 } [] (orderD P ops.toList (Region.before ops) ops.toList 0 0) { done := 0, a := a, H := { H with next := H.next + ops.size }, hist := [(0, { H with next := H.next + ops.size })] } [] := by
      have hS : ∀ j, ¬ ((Array.replicate ops.size false).getD j false = true) := by
        intro j
        rw [Array.getD_eq_getD_getElem?, Array.getElem?_replicate]
        split <;> simp
      refine {
        split := rfl
        run1 := rfl
        run2 := hrun
        cur := by simp
        psub := by simp
        effs := fun i o hi => (hS i hi).elim
        early := fun k => by simp [hS]
        heap := ⟨h.blk, h.inj, fun i l hl => Nat.lt_of_lt_of_le (h.dom i l hl) (Nat.le_add_right _ _), h.bnd, fun i hi => h.fut i (Nat.le_trans (Nat.le_add_right _ _) hi)⟩
        none := fun k hk _ => ?_
        dead := fun k hk _ => h.fut _ (Nat.le_add_right _ _)
        nxt := Nat.le_refl _
        size := ha.tmps.1
        tmps := fun t ht => ?_
        defs := ha.defers
        ext := ⟨Sub.le.refl σ, Nat.le_refl _, rfl, rfl, rfl, Nat.le_add_right _ _, fun _ _ _ => rfl, fun i l hi hl _ => ⟨i, l, hi, hl, rfl, fun h => h⟩, fun _ _ h => h⟩
        closed := fun i j hi => (hS i hi).elim
        lt := fun i hi => (hS i hi).elim }
      · cases e : σ (H.next + k) with
        | none => rfl
        | some l => have := h.dom _ _ e; omega
      · rw [show valS ops _ sF.a (fun j => (Array.replicate ops.size false).getD j false = true) t = (a.t.get t).getD undefA from ?_]
        · exact ha.tmps.2 t ht
        · unfold valS
          rw [if_neg]
          rintro ⟨i, o, hi, _⟩
          exact hS i hi
    refine wpIn_region_any hm (any_ok (σ0 := σ) (H0 := H) (w0 := { w with drawn := w.drawn + 1 }) hD hrec hC hG hF (Nat.le_refl _) k (fun σ' ra' w' h1 h2 h3 => ?_) ops.size _ σ ra _ [] _ _ [] (by simp) (by
      have := List.countP_le_length (p := fun i => !(Array.replicate ops.size false).getD i false) (l := List.range ops.size)
      simpa using this) hinit)
    · refine ⟨{ ex := .normal, a := sF.a, H := sF.H }, by simp, σ', trivial, h1, h2, ?_⟩
      exact ⟨h3.sub, h3.size, h3.os, h3.out, h3.tape, h3.next, h3.frame, h3.range, h3.only⟩

end
end Go.Am
