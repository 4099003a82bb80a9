/- How the abstract memory stands for a world's; the first of its operations are sound. -/
import Derived.Test.YtbkefimllhmfjaaGreatDoorA1
import Derived.Laws.Sem
import Derived.Laws.World
import Derived.Laws.Cells
import Derived.Laws.Entries
import Derived.ChangeKeysEq
import Derived.Laws.StructEq
set_option linter.unusedVariables false
set_option linter.unusedSimpArgs false
set_option linter.unusedSectionVars false
namespace Go.Am

theorem nbeq (a b : Nat) : Nat.beq a b = decide (a = b) := by
  by_cases h : a = b
  · subst h; simp
  · rw [decide_eq_false h]
    cases e : Nat.beq a b with
    | false => rfl
    | true => exact absurd (Nat.eq_of_beq_eq_true e) h

/-! Tries. -/
namespace Tr
variable {α : Type}

theorem get_node (l r : Tr α) (v : Option α) (i : Nat) : (Tr.node l v r).get i = if i = 0 then v else if i % 2 = 1 then l.get (i / 2) else r.get (i / 2 - 1) := by
  simp only [get_node', nbeq, Bool.cond_decide]

theorem setF_nil (f : Nat) (i : Nat) (x : α) : setF (f + 1) .nil i x = setF (f + 1) (.node .nil none .nil) i x := by
  simp only [setF_nil', setF_node, nbeq, Bool.cond_decide]

theorem get_nil_node (j : Nat) : (Tr.node .nil none .nil : Tr α).get j = none := by
  rw [get_node]; simp [get_nil]

theorem get_setF (x : α) : ∀ (f : Nat) (t : Tr α) (i j : Nat), i + 1 < 2 ^ f → (setF f t i x).get j = if j = i then some x else t.get j := by
  intro f
  induction f with
  | zero => intro t i j h; simp at h
  | succ f ih =>
    have key : ∀ (l r : Tr α) (v : Option α) (i j : Nat), i + 1 < 2 ^ (f + 1) → (setF (f + 1) (.node l v r) i x).get j = if j = i then some x else (Tr.node l v r).get j := by
      intro l r v i j h
      have hp : 2 ^ (f + 1) = 2 * 2 ^ f := by rw [Nat.pow_succ]; omega
      rw [hp] at h
      simp only [setF_node, nbeq, Bool.cond_decide]
      by_cases hi0 : i = 0
      · simp only [hi0, if_true]
        simp only [get_node]
        by_cases hj : j = 0 <;> simp [hj]
      · simp only [hi0, if_false]
        by_cases h2 : i % 2 = 1
        · simp only [h2, if_true, get_node]
          by_cases hj : j = 0
          · rw [if_pos hj, if_neg (by omega), if_pos hj]
          · rw [if_neg hj, if_neg hj]
            by_cases hj2 : j % 2 = 1
            · rw [if_pos hj2, if_pos hj2, ih l (i / 2) (j / 2) (by omega)]
              by_cases e : j = i
              · simp [e]
              · rw [if_neg (by omega), if_neg e]
            · rw [if_neg hj2, if_neg hj2, if_neg (by omega)]
        · simp only [h2, if_false, get_node]
          by_cases hj : j = 0
          · rw [if_pos hj, if_neg (by omega), if_pos hj]
          · rw [if_neg hj, if_neg hj]
            by_cases hj2 : j % 2 = 1
            · rw [if_pos hj2, if_pos hj2, if_neg (by omega)]
            · rw [if_neg hj2, if_neg hj2, ih r (i / 2 - 1) (j / 2 - 1) (by omega)]
              by_cases e : j = i
              · simp [e]
              · rw [if_neg (by omega), if_neg e]
    intro t i j h
    cases t with
    | nil =>
      rw [setF_nil, key .nil .nil none i j h, get_nil_node]
      simp [get_nil]
    | node l v r => exact key l r v i j h

theorem get_set (t : Tr α) (i : Nat) (x : α) (j : Nat) : (t.set i x).get j = if j = i then some x else t.get j := by
  unfold set
  exact get_setF x _ t i j (Nat.lt_log2_self)

@[simp] theorem get_set_self (t : Tr α) (i : Nat) (x : α) : (t.set i x).get i = some x := by rw [get_set]; simp
theorem get_set_ne (t : Tr α) {i j : Nat} (x : α) (h : j ≠ i) : (t.set i x).get j = t.get j := by rw [get_set]; simp [h]
end Tr

structure Loc where
  r : Nat
  base : Nat
  size : Nat

abbrev Sub := Nat → Option Loc

section
variable {N : Type} (den : N → Int)

mutual
def VRel (σ : Sub) : AV N → Value → Prop
  | .junk, _ => True
  | .bool b, v => v = .bool b
  | .int k n, v => v = .int k (den n)
  | .str s, v => v = .string ⟨(s.map UInt8.ofNat).toArray⟩ ∧ ∀ b ∈ s, b < 256
  | .ptr i o, v => ∃ l, σ i = some l ∧ v = .pointer (some ⟨l.r, l.base + o, none⟩)
  | .nilp, v => v = .pointer none
  | .slice i o n c ex es, v => ∃ l c', σ i = some l ∧ v = .slice (some ⟨l.r, l.base + o, none⟩) n c' ∧ c ≤ c' ∧ (ex = true → c' = c) ∧ (ex = false → l.base + o + c' * es = l.size)
  | .void, v => ∃ a c', v = .slice (some a) 0 c'
  | .nils, v => v = .slice none 0 0
  | .map i, v => ∃ l, σ i = some l ∧ v = .map (some l.r)
  | .nilm, v => v = .map none
  | .func fn f c, v => ∃ f' c', v = .func fn f' c' ∧ VRels σ f f'.toList ∧ VRels σ c c'.toList
  | .yield i, v => ∃ l, σ i = some l ∧ v = .func (.yield l.r) #[] #[]
  | .nilf, v => v = .nilFunc
  | .iface t x, v => ∃ x', v = .iface t x' ∧ VRel σ x x'
  | .nili, v => v = .nilIface
  | .agg cs, v => ∃ cs', v = .agg cs' ∧ VRels σ cs cs'.toList
  | .tuple cs, v => ∃ cs', v = .tuple cs' ∧ VRels σ cs cs'.toList
def VRels (σ : Sub) : List (AV N) → List Value → Prop
  | [], l => l = []
  | a :: as, l => ∃ v vs, l = v :: vs ∧ VRel σ a v ∧ VRels σ as vs
end

def Sub.le (σ σ' : Sub) : Prop := ∀ i l, σ i = some l → σ' i = some l

theorem Sub.le.refl (σ : Sub) : σ.le σ := fun _ _ h => h
theorem Sub.le.trans {σ σ' σ'' : Sub} (h : σ.le σ') (h' : σ'.le σ'') : σ.le σ'' := fun _ _ e => h' _ _ (h _ _ e)

variable {den}
mutual
theorem VRel.mono {σ σ' : Sub} (h : σ.le σ') : ∀ (a : AV N) (v : Value), VRel den σ a v → VRel den σ' a v
  | .junk, _, _ => by simp [VRel]
  | .bool _, _, e => by simpa [VRel] using e
  | .int _ _, _, e => by simpa [VRel] using e
  | .str _, _, e => by simpa [VRel] using e
  | .ptr _ _, _, e => by
    simp only [VRel] at e ⊢
    obtain ⟨l, hl, rfl⟩ := e
    exact ⟨l, h _ _ hl, rfl⟩
  | .nilp, _, e => by simpa [VRel] using e
  | .slice .., _, e => by
    simp only [VRel] at e ⊢
    obtain ⟨l, c', hl, r⟩ := e
    exact ⟨l, c', h _ _ hl, r⟩
  | .void, _, e => by simpa [VRel] using e
  | .nils, _, e => by simpa [VRel] using e
  | .map _, _, e => by
    simp only [VRel] at e ⊢
    obtain ⟨l, hl, rfl⟩ := e
    exact ⟨l, h _ _ hl, rfl⟩
  | .nilm, _, e => by simpa [VRel] using e
  | .func _ f c, _, e => by
    simp only [VRel] at e ⊢
    obtain ⟨f', c', rfl, hf, hc⟩ := e
    exact ⟨f', c', rfl, VRels.mono h f _ hf, VRels.mono h c _ hc⟩
  | .yield _, _, e => by
    simp only [VRel] at e ⊢
    obtain ⟨l, hl, rfl⟩ := e
    exact ⟨l, h _ _ hl, rfl⟩
  | .nilf, _, e => by simpa [VRel] using e
  | .iface _ x, _, e => by
    simp only [VRel] at e ⊢
    obtain ⟨x', rfl, hx⟩ := e
    exact ⟨x', rfl, VRel.mono h x _ hx⟩
  | .nili, _, e => by simpa [VRel] using e
  | .agg cs, _, e => by
    simp only [VRel] at e ⊢
    obtain ⟨f', rfl, hf⟩ := e
    exact ⟨f', rfl, VRels.mono h cs _ hf⟩
  | .tuple cs, _, e => by
    simp only [VRel] at e ⊢
    obtain ⟨f', rfl, hf⟩ := e
    exact ⟨f', rfl, VRels.mono h cs _ hf⟩
theorem VRels.mono {σ σ' : Sub} (h : σ.le σ') : ∀ (a : List (AV N)) (v : List Value), VRels den σ a v → VRels den σ' a v
  | [], _, e => by simpa [VRels] using e
  | a :: as, _, e => by
    simp only [VRels] at e ⊢
    obtain ⟨v, vs, rfl, hv, hvs⟩ := e
    exact ⟨v, vs, rfl, VRel.mono h a v hv, VRels.mono h as vs hvs⟩
end

variable (den)
def BRelMI (σ : Sub) : Option Nat → Option Nat → Prop
  | none, none => True
  | some a, some b => ∃ l, σ a = some l ∧ l.r = b
  | _, _ => False

def ERels (σ : Sub) : List (AEnt N) → List MapEntry → Prop
  | [], l => l = []
  | e :: es, l => ∃ x xs, l = x :: xs ∧ VRel den σ e.key x.key ∧ VRel den σ e.val x.val ∧ x.born = e.born ∧ ERels σ es xs

def TRel (σ : Sub) (n : Nat) (t : Tr (AV N)) (tmps : Array Value) : Prop :=
  tmps.size = n ∧ ∀ i, i < n → VRel den σ ((t.get i).getD undefA) (tmps.getD i undef)

def LRel (σ : Sub) (L : ALoop N) (L' : Loop) : Prop :=
  L'.state = L.state ∧ L'.pending = L.pending ∧ L'.params = L.params ∧ L'.assign = L.assign ∧ L'.body = L.body ∧ TRel den σ L.n L.t L'.tmps ∧ ∃ l, σ L.defers = some l ∧ l.r = L'.defers

def BRel (σ : Sub) (i : Nat) (w : World) : ABlk N → Prop
  | .dead => True
  | .cells row ro => ∃ l cs e fr, σ i = some l ∧ w.heap[l.r]? = some (.cells cs e fr) ∧ cs.size = l.size ∧ l.base + row.sz ≤ cs.size ∧
      (∀ j, j < row.sz → ∃ v, cs[l.base + j]? = some v ∧ VRel den σ (row.get j) v) ∧ (ro = false → ∀ j, j < cs.size → ¬ (fr.1 ≤ j ∧ j < fr.2))
  | .map es clock => ∃ l es', σ i = some l ∧ w.heap[l.r]? = some (.map es' clock) ∧ ERels den σ es es'.toList
  | .mapIter m since seen stepped => ∃ l m', σ i = some l ∧ l.base = 0 ∧ w.heap[l.r]? = some (.mapIter m' since seen.toArray stepped) ∧ BRelMI σ m m'
  | .loop L => ∃ l L', σ i = some l ∧ w.heap[l.r]? = some (.loop L') ∧ LRel den σ L L'
  | .deferred none => ∃ l, σ i = some l ∧ w.heap[l.r]? = some (.deferred none)
  | .deferred (some []) => ∃ l, σ i = some l ∧ w.heap[l.r]? = some (.deferred (some []))
  | .deferred (some (_ :: _)) => False

def ABlk.live : ABlk N → Bool
  | .dead => false
  | _ => true
def ABlk.wr : ABlk N → Bool
  | .dead => false
  | .cells _ true => false
  | _ => true

theorem ABlk.live_of_wr {b : ABlk N} (h : b.wr = true) : b.live = true := by
  cases b <;> simp_all [ABlk.wr, ABlk.live]

structure HRel (σ : Sub) (H : AH N) (w : World) : Prop where
  blk : ∀ i, BRel den σ i w (H.blk i)
  inj : ∀ i j li lj, (H.blk i).live = true → (H.blk j).live = true → σ i = some li → σ j = some lj → li.r = lj.r → i = j
  dom : ∀ i l, σ i = some l → i < H.next
  bnd : ∀ i l, σ i = some l → l.r < w.heap.size
  fut : ∀ i, H.next ≤ i → H.blk i = .dead

structure Ext (σ : Sub) (H : AH N) (w : World) (σ' : Sub) (H' : AH N) (w' : World) : Prop where
  sub : σ.le σ'
  size : w.heap.size ≤ w'.heap.size
  os : w'.os = w.os
  out : w'.output = w.output
  tape : w'.tape = w.tape
  next : H.next ≤ H'.next
  frame : ∀ r, r < w.heap.size → (∀ i l, (H.blk i).wr = true → σ i = some l → l.r ≠ r) → w'.heap[r]? = w.heap[r]?
  range : ∀ i l, (H'.blk i).live = true → σ' i = some l → l.r < w.heap.size → ∃ j m, (H.blk j).live = true ∧ σ j = some m ∧ m.r = l.r ∧ ((H'.blk i).wr = true → (H.blk j).wr = true)
  only : ∀ i, i < H.next → σ i = none → σ' i = none

variable {den}
theorem Ext.refl (σ : Sub) (H : AH N) (w : World) : Ext σ H w σ H w where
  sub := Sub.le.refl σ
  size := Nat.le_refl _
  os := rfl
  out := rfl
  tape := rfl
  next := Nat.le_refl _
  frame := fun _ _ _ => rfl
  range := fun i l hi hl _ => ⟨i, l, hi, hl, rfl, id⟩
  only := fun _ _ h => h

theorem Ext.trans {σ σ' σ'' : Sub} {H H' H'' : AH N} {w w' w'' : World} (h : Ext σ H w σ' H' w') (h' : Ext σ' H' w' σ'' H'' w'') : Ext σ H w σ'' H'' w'' where
  sub := h.sub.trans h'.sub
  size := Nat.le_trans h.size h'.size
  os := h'.os.trans h.os
  out := h'.out.trans h.out
  tape := h'.tape.trans h.tape
  next := Nat.le_trans h.next h'.next
  frame := fun r hr hn => by
    rw [h'.frame r (Nat.lt_of_lt_of_le hr h.size), h.frame r hr hn]
    intro i l hi hl e
    subst e
    obtain ⟨j, m, _, hm, e, hw⟩ := h.range i l (ABlk.live_of_wr hi) hl hr
    exact hn j m (hw hi) hm e
  range := fun i l hi hl hr => by
    obtain ⟨j, m, hj, hm, e, hw⟩ := h'.range i l hi hl (Nat.lt_of_lt_of_le hr h.size)
    obtain ⟨k, p, hk, hp, e', hw'⟩ := h.range j m hj hm (by rw [e]; exact hr)
    exact ⟨k, p, hk, hp, e'.trans e, fun x => hw' (hw x)⟩
  only := fun i hi hn => h'.only i (Nat.lt_of_lt_of_le hi h.next) (h.only i hi hn)

theorem ERels.mono {σ σ' : Sub} (h : σ.le σ') : ∀ (a : List (AEnt N)) (v : List MapEntry), ERels den σ a v → ERels den σ' a v
  | [], _, e => by simpa [ERels] using e
  | a :: as, _, e => by
    simp only [ERels] at e ⊢
    obtain ⟨x, xs, rfl, hk, hv, hb, hr⟩ := e
    exact ⟨x, xs, rfl, VRel.mono h _ _ hk, VRel.mono h _ _ hv, hb, ERels.mono h as xs hr⟩

theorem TRel.mono {σ σ' : Sub} (h : σ.le σ') {n : Nat} {t : Tr (AV N)} {tmps : Array Value} (e : TRel den σ n t tmps) : TRel den σ' n t tmps :=
  ⟨e.1, fun i hi => VRel.mono h _ _ (e.2 i hi)⟩

theorem LRel.mono {σ σ' : Sub} (h : σ.le σ') {L : ALoop N} {L' : Loop} (e : LRel den σ L L') : LRel den σ' L L' := by
  obtain ⟨a, b, c, d, f, g, l, hl, hr⟩ := e
  exact ⟨a, b, c, d, f, g.mono h, l, h _ _ hl, hr⟩

/-- a block whose real counterpart lies as it lay -/
theorem BRel.mono {σ σ' : Sub} (h : σ.le σ') {i : Nat} {w w' : World} {b : ABlk N} (hw : ∀ l, σ i = some l → b.live = true → w'.heap[l.r]? = w.heap[l.r]?) (e : BRel den σ i w b) : BRel den σ' i w' b := by
  cases b with
  | dead => trivial
  | cells row ro =>
    simp only [BRel] at e ⊢
    obtain ⟨l, cs, t, fr, hl, hh, hs, hb, hc, hf⟩ := e
    exact ⟨l, cs, t, fr, h _ _ hl, (hw l hl rfl).trans hh, hs, hb, fun j hj => let ⟨v, a, b⟩ := hc j hj; ⟨v, a, VRel.mono h _ _ b⟩, hf⟩
  | map es c =>
    simp only [BRel] at e ⊢
    obtain ⟨l, es', hl, hh, he⟩ := e
    exact ⟨l, es', h _ _ hl, (hw l hl rfl).trans hh, ERels.mono h _ _ he⟩
  | mapIter m a b c =>
    simp only [BRel] at e ⊢
    obtain ⟨l, m', hl, h0, hh, he⟩ := e
    refine ⟨l, m', h _ _ hl, h0, (hw l hl rfl).trans hh, ?_⟩
    cases m <;> cases m' <;> simp_all [BRelMI]
    obtain ⟨l, a, b⟩ := he
    exact ⟨l, h _ _ a, b⟩
  | loop L =>
    simp only [BRel] at e ⊢
    obtain ⟨l, L', hl, hh, he⟩ := e
    exact ⟨l, L', h _ _ hl, (hw l hl rfl).trans hh, he.mono h⟩
  | deferred d =>
    match d with
    | none =>
      simp only [BRel] at e ⊢
      obtain ⟨l, hl, hh⟩ := e
      exact ⟨l, h _ _ hl, (hw l hl rfl).trans hh⟩
    | some [] =>
      simp only [BRel] at e ⊢
      obtain ⟨l, hl, hh⟩ := e
      exact ⟨l, h _ _ hl, (hw l hl rfl).trans hh⟩
    | some (_ :: _) => exact e.elim

theorem AH.blk_put (H : AH N) (i j : Nat) (b : ABlk N) : (H.put i b).blk j = if j = i then b else H.blk j := by
  unfold AH.put AH.blk
  simp only [Tr.get_set]
  split <;> simp
theorem AH.next_put (H : AH N) (i : Nat) (b : ABlk N) : (H.put i b).next = H.next := rfl
theorem AH.blk_new (H : AH N) (j : Nat) (b : ABlk N) : (H.new b).2.blk j = if j = H.next then b else H.blk j := by
  unfold AH.new AH.blk
  simp only [Tr.get_set]
  split <;> simp
theorem AH.next_new (H : AH N) (b : ABlk N) : (H.new b).2.next = H.next + 1 := rfl
theorem AH.id_new (H : AH N) (b : ABlk N) : (H.new b).1 = H.next := rfl

/-- a block more, of an object that is laid behind all others -/
def Sub.add (σ : Sub) (i : Nat) (l : Loc) : Sub := fun j => if j = i then some l else σ j

theorem Sub.le_add {σ : Sub} {i : Nat} {l : Loc} (h : σ i = none) : σ.le (σ.add i l) := by
  intro j m hj
  unfold Sub.add
  by_cases e : j = i
  · subst e; rw [h] at hj; cases hj
  · simp [e, hj]

theorem World.heap_push_lt (w : World) (o : Obj) {r : Nat} (h : r < w.heap.size) : (w.alloc o).heap[r]? = w.heap[r]? := by
  simp only [World.alloc, Array.getElem?_push]
  have : r ≠ w.heap.size := by omega
  simp [this]
theorem World.heap_push_self (w : World) (o : Obj) : (w.alloc o).heap[w.heap.size]? = some o := by
  simp only [World.alloc, Array.getElem?_push, if_true]

/-- the general step: one block is laid anew; all others stand. -/
theorem new_rel' {σ : Sub} {H : AH N} {w w' : World} (h : HRel den σ H w) (b : ABlk N) (l : Loc) (hr : l.r = w.heap.size)
    (hsz : w'.heap.size = w.heap.size + 1) (hold : ∀ r, r < w.heap.size → w'.heap[r]? = w.heap[r]?) (hos : w'.os = w.os) (hout : w'.output = w.output) (htape : w'.tape = w.tape)
    (hb : BRel den (σ.add H.next l) H.next w' b) :
    HRel den (σ.add H.next l) (H.new b).2 w' ∧ Ext σ H w (σ.add H.next l) (H.new b).2 w' := by
  have hnone : σ H.next = none := by
    cases e : σ H.next with
    | none => rfl
    | some m => exact absurd (h.dom _ _ e) (Nat.lt_irrefl _)
  have hle := Sub.le_add (l := l) hnone
  refine ⟨⟨?_, ?_, ?_, ?_, ?_⟩, ⟨hle, by omega, hos, hout, htape, Nat.le_succ _, ?_, ?_, fun i hi hn => by unfold Sub.add; rw [if_neg (by omega)]; exact hn⟩⟩
  · intro i
    rw [AH.blk_new]
    split
    · subst_vars; exact hb
    · exact (h.blk i).mono hle fun m hm _ => hold _ (h.bnd _ _ hm)
  · intro i j li lj hi hj hli hlj e
    rw [AH.blk_new] at hi hj
    unfold Sub.add at hli hlj
    by_cases ei : i = H.next <;> by_cases ej : j = H.next
    · rw [ei, ej]
    · simp [ei] at hli; simp [ej] at hlj
      subst hli
      have := h.bnd _ _ hlj
      omega
    · simp [ei] at hli; simp [ej] at hlj
      subst hlj
      have := h.bnd _ _ hli
      omega
    · simp [ei] at hli hi; simp [ej] at hlj hj
      exact h.inj i j li lj hi hj hli hlj e
  · intro i m hm
    rw [AH.next_new]
    unfold Sub.add at hm
    by_cases ei : i = H.next
    · omega
    · simp [ei] at hm
      have := h.dom _ _ hm
      omega
  · intro i m hm
    rw [hsz]
    unfold Sub.add at hm
    by_cases ei : i = H.next
    · simp [ei] at hm; subst hm; omega
    · simp [ei] at hm
      have := h.bnd _ _ hm
      omega
  · intro i hi
    rw [AH.next_new] at hi
    rw [AH.blk_new, if_neg (by omega)]
    exact h.fut i (by omega)
  · intro r hr' _
    exact hold r hr'
  · intro i m hi hm hr'
    rw [AH.blk_new] at hi ⊢
    unfold Sub.add at hm
    by_cases ei : i = H.next
    · simp [ei] at hm; subst hm; omega
    · rw [if_neg ei] at hm hi ⊢
      exact ⟨i, m, hi, hm, rfl, id⟩

theorem new_rel {σ : Sub} {H : AH N} {w : World} (h : HRel den σ H w) (o : Obj) (b : ABlk N) (l : Loc) (hr : l.r = w.heap.size)
    (hb : BRel den (σ.add H.next l) H.next (w.alloc o) b) :
    HRel den (σ.add H.next l) (H.new b).2 (w.alloc o) ∧ Ext σ H w (σ.add H.next l) (H.new b).2 (w.alloc o) :=
  new_rel' h b l hr (by simp) (fun _ hr' => World.heap_push_lt w o hr') rfl rfl rfl hb

/-- a block is forgotten; another one takes its place, over the same row of cells. -/
theorem rebase_rel {σ : Sub} {H : AH N} {w w' : World} {i : Nat} {l : Loc} (h : HRel den σ H w) (hl : σ i = some l) (hw : (H.blk i).wr = true) (b : ABlk N) (l' : Loc) (hr : l'.r = l.r)
    (hsz : w'.heap.size = w.heap.size) (hos : w'.os = w.os) (hout : w'.output = w.output) (htape : w'.tape = w.tape)
    (hoth : ∀ r, r ≠ l.r → w'.heap[r]? = w.heap[r]?) (hb : BRel den (σ.add H.next l') H.next w' b) :
    HRel den (σ.add H.next l') ((H.put i .dead).new b).2 w' ∧ Ext σ H w (σ.add H.next l') ((H.put i .dead).new b).2 w' := by
  have hnone : σ H.next = none := by
    cases e : σ H.next with
    | none => rfl
    | some m => exact absurd (h.dom _ _ e) (Nat.lt_irrefl _)
  have hle := Sub.le_add (l := l') hnone
  have hi := h.dom _ _ hl
  have hblk : ∀ j, ((H.put i .dead).new b).2.blk j = if j = H.next then b else if j = i then .dead else H.blk j := by
    intro j
    rw [AH.blk_new, AH.next_put, AH.blk_put]
  refine ⟨⟨?_, ?_, ?_, ?_, ?_⟩, ⟨hle, by omega, hos, hout, htape, Nat.le_succ _, ?_, ?_, fun i hi hn => by unfold Sub.add; rw [if_neg (by omega)]; exact hn⟩⟩
  · intro j
    rw [hblk]
    split
    · subst_vars; exact hb
    · split
      · trivial
      · rename_i hne
        refine (h.blk j).mono hle fun m hm hlive => hoth _ fun e => hne ?_
        exact h.inj j i m l hlive (ABlk.live_of_wr hw) hm hl e
  · intro p q lp lq hp hq hlp hlq e
    rw [hblk] at hp hq
    unfold Sub.add at hlp hlq
    by_cases ep : p = H.next <;> by_cases eq : q = H.next
    · rw [ep, eq]
    · exfalso
      rw [if_neg eq] at hq
      simp [ep] at hlp; simp [eq] at hlq
      subst hlp
      by_cases eqi : q = i
      · simp [eqi, ABlk.live] at hq
      · rw [if_neg eqi] at hq
        exact eqi (h.inj q i lq l hq (ABlk.live_of_wr hw) hlq hl (by omega))
    · exfalso
      rw [if_neg ep] at hp
      simp [eq] at hlq; simp [ep] at hlp
      subst hlq
      by_cases epi : p = i
      · simp [epi, ABlk.live] at hp
      · rw [if_neg epi] at hp
        exact epi (h.inj p i lp l hp (ABlk.live_of_wr hw) hlp hl (by omega))
    · rw [if_neg ep] at hp; rw [if_neg eq] at hq
      simp [ep] at hlp; simp [eq] at hlq
      by_cases epi : p = i
      · simp [epi, ABlk.live] at hp
      · by_cases eqi : q = i
        · simp [eqi, ABlk.live] at hq
        · rw [if_neg epi] at hp; rw [if_neg eqi] at hq
          exact h.inj p q lp lq hp hq hlp hlq e
  · intro p m hm
    rw [AH.next_new, AH.next_put]
    unfold Sub.add at hm
    by_cases ep : p = H.next
    · omega
    · simp [ep] at hm
      have := h.dom _ _ hm
      omega
  · intro p m hm
    rw [hsz]
    unfold Sub.add at hm
    by_cases ep : p = H.next
    · simp [ep] at hm; subst hm; rw [hr]; exact h.bnd _ _ hl
    · simp [ep] at hm
      exact h.bnd _ _ hm
  · intro p hp
    rw [AH.next_new, AH.next_put] at hp
    rw [hblk, if_neg (by omega), if_neg (by omega)]
    exact h.fut p (by omega)
  · intro r _ hn
    exact hoth r fun e => hn i l hw hl e.symm
  · intro p m hp hm hr'
    rw [hblk] at hp ⊢
    unfold Sub.add at hm
    by_cases ep : p = H.next
    · simp [ep] at hm; subst hm
      exact ⟨i, l, ABlk.live_of_wr hw, hl, hr.symm, fun _ => hw⟩
    · rw [if_neg ep] at hp ⊢
      simp [ep] at hm
      by_cases epi : p = i
      · simp [epi, ABlk.live] at hp
      · rw [if_neg epi] at hp ⊢
        exact ⟨p, m, hp, hm, rfl, id⟩

/-- one block is written, in its place; all others stand. -/
theorem put_rel {σ : Sub} {H : AH N} {w w' : World} {i : Nat} {b : ABlk N} {l : Loc} (h : HRel den σ H w) (hl : σ i = some l) (hw : (H.blk i).wr = true)
    (hsz : w'.heap.size = w.heap.size) (hos : w'.os = w.os) (hout : w'.output = w.output) (htape : w'.tape = w.tape)
    (hoth : ∀ r, r ≠ l.r → w'.heap[r]? = w.heap[r]?) (hb : BRel den σ i w' b) :
    HRel den σ (H.put i b) w' ∧ Ext σ H w σ (H.put i b) w' := by
  refine ⟨⟨?_, ?_, ?_, ?_, ?_⟩, ⟨Sub.le.refl σ, by omega, hos, hout, htape, Nat.le_refl _, ?_, ?_, fun _ _ h => h⟩⟩
  · intro j
    rw [AH.blk_put]
    split
    · subst_vars; exact hb
    · rename_i hne
      refine (h.blk j).mono (Sub.le.refl σ) fun m hm hlive => hoth _ fun e => hne ?_
      exact h.inj j i m l hlive (ABlk.live_of_wr hw) hm hl e
  · intro p q lp lq hp hq hlp hlq e
    rw [AH.blk_put] at hp hq
    refine h.inj p q lp lq ?_ ?_ hlp hlq e
    · by_cases ep : p = i
      · rw [ep]; exact ABlk.live_of_wr hw
      · simpa [ep] using hp
    · by_cases eq : q = i
      · rw [eq]; exact ABlk.live_of_wr hw
      · simpa [eq] using hq
  · exact h.dom
  · intro p m hm; rw [hsz]; exact h.bnd _ _ hm
  · intro p hp
    rw [AH.blk_put]
    split
    · subst_vars
      have := h.dom _ _ hl
      rw [AH.next_put] at hp
      omega
    · exact h.fut p hp
  · intro r _ hn
    exact hoth r fun e => hn i l hw hl e.symm
  · intro p m hp hm hr
    rw [AH.blk_put] at hp ⊢
    by_cases ep : p = i
    · subst ep
      rw [hl] at hm; cases hm
      exact ⟨p, l, ABlk.live_of_wr hw, hl, rfl, fun _ => hw⟩
    · rw [if_neg ep] at hp ⊢
      exact ⟨p, m, hp, hm, rfl, id⟩

/-- a block is forgotten. -/
theorem kill_rel {σ : Sub} {H : AH N} {w : World} (i : Nat) (h : HRel den σ H w) (hi : i < H.next) :
    HRel den σ (H.put i .dead) w ∧ Ext σ H w σ (H.put i .dead) w := by
  refine ⟨⟨?_, ?_, h.dom, h.bnd, ?_⟩, ⟨Sub.le.refl σ, Nat.le_refl _, rfl, rfl, rfl, Nat.le_refl _, fun _ _ _ => rfl, ?_, fun _ _ h => h⟩⟩
  · intro j
    rw [AH.blk_put]
    split
    · trivial
    · exact h.blk j
  · intro p q lp lq hp hq hlp hlq e
    rw [AH.blk_put] at hp hq
    by_cases ep : p = i
    · simp [ep, ABlk.live] at hp
    · by_cases eq : q = i
      · simp [eq, ABlk.live] at hq
      · simp [ep] at hp; simp [eq] at hq
        exact h.inj p q lp lq hp hq hlp hlq e
  · intro p hp
    rw [AH.blk_put]
    split
    · rfl
    · exact h.fut p hp
  · intro p m hp hm hr
    rw [AH.blk_put] at hp ⊢
    by_cases ep : p = i
    · simp [ep, ABlk.live] at hp
    · rw [if_neg ep] at hp ⊢
      exact ⟨p, m, hp, hm, rfl, id⟩

theorem HRel.live_lt {σ : Sub} {H : AH N} {w : World} (h : HRel den σ H w) {i : Nat} (hi : (H.blk i).live = true) : i < H.next := by
  rcases Nat.lt_or_ge i H.next with e | e
  · exact e
  · rw [h.fut i e] at hi; simp [ABlk.live] at hi

theorem HRel.none_next {σ : Sub} {H : AH N} {w : World} (h : HRel den σ H w) : σ H.next = none := by
  cases e : σ H.next with
  | none => rfl
  | some m => exact absurd (h.dom _ _ e) (Nat.lt_irrefl _)

/-- an operation that lays one block behind all others, and looks at no other block. -/
def AllocRun (den : N → Int) (P : Program) (σ : Sub) (q : Nat) (w : World) (s : Sem Value) (v : AV N) (b : ABlk N) : Prop :=
  ∃ rv w' l, s.run P w = .ok rv w' ∧ l.r = w.heap.size ∧ w'.heap.size = w.heap.size + 1 ∧ (∀ r, r < w.heap.size → w'.heap[r]? = w.heap[r]?) ∧ w'.os = w.os ∧ w'.output = w.output ∧ w'.tape = w.tape ∧
    BRel den (σ.add q l) q w' b ∧ VRel den (σ.add q l) v rv

/-- what an operation that may write or make memory comes to. -/
def VRun (den : N → Int) (P : Program) (σ : Sub) (H : AH N) (w : World) (s : Sem Value) (v : AV N) (H' : AH N) : Prop :=
  ∃ rv w' σ', s.run P w = .ok rv w' ∧ Ext σ H w σ' H' w' ∧ HRel den σ' H' w' ∧ VRel den σ' v rv

theorem AllocRun.vrun {P : Program} {σ : Sub} {H : AH N} {w : World} {s : Sem Value} {v : AV N} {b : ABlk N} (h : HRel den σ H w) (ha : AllocRun den P σ H.next w s v b) : VRun den P σ H w s v (H.new b).2 := by
  obtain ⟨rv, w', l, hr, hl, hsz, hold, ho, hout, ht, hb, hv⟩ := ha
  obtain ⟨g1, g2⟩ := new_rel' h b l hl hsz hold ho hout ht hb
  exact ⟨rv, w', _, hr, g2, g1, hv⟩

end
end Go.Am

namespace Go.Am
section
variable {N : Type} {den : N → Int} {P : Program} {σ : Sub} {H : AH N} {w : World}

theorem add_loc (r b k j : Nat) : (⟨r, b + k, none⟩ : Addr).add j = ⟨r, b + (k + j), none⟩ := by
  unfold Addr.add
  split
  · subst_vars; rfl
  · simp [Nat.add_assoc]

theorem run_info {t : TypeId} {i : TypeInfo} (h : P.info? t = some i) (w : World) : (typeInfo t).run P w = .ok i w := by
  simp [typeInfo, h]

theorem run_sizeT {t : TypeId} {n : Nat} (h : sizeT P t = some n) (w : World) : (sizeOf t).run P w = .ok n w := by
  unfold sizeT at h
  cases e : P.info? t with
  | none => simp [e] at h
  | some i => simp [e] at h; simp [sizeOf, run_info e, h]

theorem run_isAggT {t : TypeId} {b : Bool} (h : isAggT P t = some b) (w : World) : (isAgg t).run P w = .ok b w := by
  unfold isAggT at h
  cases e : P.underlying t with
  | none => simp [e] at h
  | some d =>
    simp only [isAgg, Sem.run_bind, run_underlying e, Result.andThen_ok]
    rw [e] at h
    cases d <;> simp at h <;> subst h <;> rfl

theorem VRels.length : ∀ {a : List (AV N)} {v : List Value}, VRels den σ a v → a.length = v.length
  | [], _, e => by simp only [VRels] at e; subst e; rfl
  | _ :: as, _, e => by
    simp only [VRels] at e
    obtain ⟨v, vs, rfl, _, hr⟩ := e
    simp [VRels.length hr]

theorem VRels.get : ∀ {a : List (AV N)} {v : List Value} (_ : VRels den σ a v) (j : Nat) (x : AV N), a[j]? = some x → ∃ y, v[j]? = some y ∧ VRel den σ x y
  | [], _, _, j, x, h => by simp at h
  | a :: as, _, e, 0, x, h => by
    simp only [VRels] at e
    obtain ⟨v, vs, rfl, hv, hr⟩ := e
    simp at h; subst h
    exact ⟨v, by simp, hv⟩
  | a :: as, _, e, j + 1, x, h => by
    simp only [VRels] at e
    obtain ⟨v, vs, rfl, hv, hr⟩ := e
    simp at h
    obtain ⟨y, hy, hxy⟩ := VRels.get hr j x h
    exact ⟨y, by simpa using hy, hxy⟩

theorem VRels.append : ∀ {a b : List (AV N)} {u v : List Value}, VRels den σ a u → VRels den σ b v → VRels den σ (a ++ b) (u ++ v)
  | [], _, _, _, e, h => by simp only [VRels] at e; subst e; simpa using h
  | x :: as, _, _, _, e, h => by
    simp only [VRels] at e
    obtain ⟨y, ys, rfl, hy, hr⟩ := e
    simp only [List.cons_append, VRels]
    exact ⟨y, _, rfl, hy, VRels.append hr h⟩

theorem VRels.drop : ∀ {a : List (AV N)} {u : List Value} (n : Nat), VRels den σ a u → VRels den σ (a.drop n) (u.drop n)
  | _, _, 0, e => by simpa using e
  | [], _, n + 1, e => by simp only [VRels] at e; subst e; simp [VRels]
  | x :: as, _, n + 1, e => by
    simp only [VRels] at e
    obtain ⟨y, ys, rfl, hy, hr⟩ := e
    simpa using VRels.drop n hr

theorem VRels.take : ∀ {a : List (AV N)} {u : List Value} (n : Nat), VRels den σ a u → VRels den σ (a.take n) (u.take n)
  | _, _, 0, e => by simp [VRels]
  | [], _, n + 1, e => by simp only [VRels] at e; subst e; simp [VRels]
  | x :: as, _, n + 1, e => by
    simp only [VRels] at e
    obtain ⟨y, ys, rfl, hy, hr⟩ := e
    simp only [List.take_succ_cons, VRels]
    exact ⟨y, _, rfl, hy, VRels.take n hr⟩

theorem VRels.set : ∀ {a : List (AV N)} {u : List Value} (n : Nat) {x : AV N} {y : Value}, VRels den σ a u → VRel den σ x y → VRels den σ (a.set n x) (u.set n y)
  | [], _, _, _, _, e, _ => by simp only [VRels] at e; subst e; simp [VRels]
  | a :: as, _, 0, x, y, e, h => by
    simp only [VRels] at e
    obtain ⟨y, ys, rfl, hy, hr⟩ := e
    simp only [List.set_cons_zero, VRels]
    exact ⟨_, _, rfl, h, hr⟩
  | a :: as, _, n + 1, x, y, e, h => by
    simp only [VRels] at e
    obtain ⟨y, ys, rfl, hy, hr⟩ := e
    simp only [List.set_cons_succ, VRels]
    exact ⟨_, _, rfl, hy, VRels.set n hr h⟩

theorem VRels.of_get {a : List (AV N)} {v : List Value} (hl : a.length = v.length) (h : ∀ (j : Nat) (x : AV N), a[j]? = some x → ∃ y, v[j]? = some y ∧ VRel den σ x y) : VRels den σ a v := by
  induction a generalizing v with
  | nil => cases v with
    | nil => simp [VRels]
    | cons => simp at hl
  | cons x as ih => cases v with
    | nil => simp at hl
    | cons y ys =>
      simp only [VRels]
      refine ⟨y, ys, rfl, ?_, ih (by simpa using hl) fun j u hu => ?_⟩
      · obtain ⟨z, hz, hv⟩ := h 0 x (by simp)
        simp at hz; subst hz; exact hv
      · simpa using h (j + 1) u (by simpa using hu)

theorem cell_of_heap {r k : Nat} {cs : Array Value} {e : TypeId} {fr : Nat × Nat} (h : w.heap[r]? = some (.cells cs e fr)) : w.cell? ⟨r, k, none⟩ = cs[k]? := by
  simp [World.cell?, h]

/-- reading cells. -/
theorem loadCells_sound (h : HRel den σ H w) {i off n : Nat} {l : Loc} (hl : σ i = some l) {vs : List (AV N)} (e : loadCellsA H i off n = some vs) :
    ∃ arr : Array Value, (loadCells ⟨l.r, l.base + off, none⟩ n).run P w = .ok arr w ∧ VRels den σ vs arr.toList ∧ arr.size = n := by
  unfold loadCellsA at e
  have hb := h.blk i
  cases hc : H.blk i with
  | cells row ro =>
    rw [hc] at e hb
    simp only [Bool.cond_eq_ite, Nat.ble_eq] at e
    split at e
    · rename_i hle
      simp only [Option.some.injEq] at e
      subst e
      simp only [BRel] at hb
      obtain ⟨l', cs, te, fr, hl', hh, _, hsz, hcell, _⟩ := hb
      rw [hl] at hl'; cases hl'
      have hf : ∀ j, j < n → w.cell? ((⟨l.r, l.base + off, none⟩ : Addr).add j) = some (cs.getD (l.base + (off + j)) undef) := by
        intro j hj
        rw [add_loc, cell_of_heap hh]
        obtain ⟨v, hv, _⟩ := hcell (off + j) (by omega)
        simp [Array.getD_eq_getD_getElem?, hv]
      refine ⟨_, run_loadCells w _ n _ hf, ?_, by simp⟩
      refine VRels.of_get (by simp) fun j x hx => ?_
      simp only [List.getElem?_map, Option.map_eq_some_iff] at hx
      obtain ⟨k, hk, rfl⟩ := hx
      have hjn : j < n := by
        rcases Nat.lt_or_ge j n with q | q
        · exact q
        · simp [List.getElem?_eq_none, q] at hk
      simp [List.getElem?_range hjn] at hk
      subst hk
      obtain ⟨v, hv, hr⟩ := hcell (off + j) (by omega)
      refine ⟨v, ?_, hr⟩
      simp [hjn, Array.getD_eq_getD_getElem?, hv]
    · cases e
  | _ => simp [hc] at e

theorem cells_rel {a : AV N} {v : Value} (h : VRel den σ a v) (hj : ∀ _ : a = .junk, False) : VRels den σ a.cells v.cells.toList := by
  cases a <;> simp only [VRel] at h
  case junk => exact (hj rfl).elim
  case agg cs => obtain ⟨cs', rfl, hc⟩ := h; exact hc
  case bool => subst h; simp [AV.cells, Value.cells, VRels, VRel]
  case int => subst h; simp [AV.cells, Value.cells, VRels, VRel]
  case str => obtain ⟨rfl, hs⟩ := h; simp only [AV.cells, Value.cells, VRels, VRel]; exact ⟨_, _, rfl, ⟨rfl, hs⟩, rfl⟩
  case nilp => subst h; simp [AV.cells, Value.cells, VRels, VRel]
  case nils => subst h; simp [AV.cells, Value.cells, VRels, VRel]
  case nilm => subst h; simp [AV.cells, Value.cells, VRels, VRel]
  case nilf => subst h; simp [AV.cells, Value.cells, VRels, VRel]
  case nili => subst h; simp [AV.cells, Value.cells, VRels, VRel]
  case ptr => obtain ⟨l, hl, rfl⟩ := h; simp only [AV.cells, Value.cells, VRels, VRel]; exact ⟨_, _, rfl, ⟨l, hl, rfl⟩, rfl⟩
  case map => obtain ⟨l, hl, rfl⟩ := h; simp only [AV.cells, Value.cells, VRels, VRel]; exact ⟨_, _, rfl, ⟨l, hl, rfl⟩, rfl⟩
  case yield => obtain ⟨l, hl, rfl⟩ := h; simp only [AV.cells, Value.cells, VRels, VRel]; exact ⟨_, _, rfl, ⟨l, hl, rfl⟩, rfl⟩
  case slice => obtain ⟨l, c', hl, rfl, r⟩ := h; simp only [AV.cells, Value.cells, VRels, VRel]; exact ⟨_, _, rfl, ⟨l, c', hl, rfl, r⟩, rfl⟩
  case void => obtain ⟨l, c', rfl⟩ := h; simp only [AV.cells, Value.cells, VRels, VRel]; exact ⟨_, _, rfl, ⟨l, c', rfl⟩, rfl⟩
  case func => obtain ⟨l, c', rfl, r⟩ := h; simp only [AV.cells, Value.cells, VRels, VRel]; exact ⟨_, _, rfl, ⟨l, c', rfl, r⟩, rfl⟩
  case iface => obtain ⟨x, rfl, r⟩ := h; simp only [AV.cells, Value.cells, VRels, VRel]; exact ⟨_, _, rfl, ⟨x, rfl, r⟩, rfl⟩
  case tuple => obtain ⟨x, rfl, r⟩ := h; simp only [AV.cells, Value.cells, VRels, VRel]; exact ⟨_, _, rfl, ⟨x, rfl, r⟩, rfl⟩

theorem oneCell_rel {a : AV N} {v : Value} (h : VRel den σ a v) (hc : a.isCell = true) : v.oneCell' = true := by
  cases a <;> simp only [VRel] at h <;> simp only [AV.isCell, Bool.false_eq_true] at hc
  case bool => subst h; rfl
  case int => subst h; rfl
  case str => obtain ⟨rfl, _⟩ := h; rfl
  case nilp => subst h; rfl
  case nils => subst h; rfl
  case nilm => subst h; rfl
  case nilf => subst h; rfl
  case nili => subst h; rfl
  case ptr => obtain ⟨l, hl, rfl⟩ := h; rfl
  case map => obtain ⟨l, hl, rfl⟩ := h; rfl
  case yield => obtain ⟨l, hl, rfl⟩ := h; rfl
  case slice => obtain ⟨l, c', hl, rfl, r⟩ := h; rfl
  case void => obtain ⟨l, c', rfl⟩ := h; rfl
  case func => obtain ⟨l, c', rfl, r⟩ := h; rfl
  case iface => obtain ⟨x, rfl, r⟩ := h; rfl

theorem oneCells_rel : ∀ {a : List (AV N)} {v : List Value}, VRels den σ a v → a.all AV.isCell = true → ∀ x ∈ v, x.oneCell' = true
  | [], _, e, _, x, hx => by simp only [VRels] at e; subst e; simp at hx
  | a :: as, _, e, h, x, hx => by
    simp only [VRels] at e
    obtain ⟨v, vs, rfl, hv, hr⟩ := e
    simp only [List.all_cons, Bool.and_eq_true] at h
    rcases List.mem_cons.1 hx with rfl | hx
    · exact oneCell_rel hv h.1
    · exact oneCells_rel hr h.2 x hx

def setArr (cs : Array Value) (off : Nat) : List Value → Array Value
  | [] => cs
  | v :: vs => setArr (cs.setIfInBounds off v) (off + 1) vs

theorem size_setArr : ∀ (vs : List Value) (off : Nat) (cs : Array Value), (setArr cs off vs).size = cs.size
  | [], _, _ => rfl
  | v :: vs, off, cs => by rw [setArr, size_setArr vs]; simp

theorem get_setArr : ∀ (vs : List Value) (off : Nat) (cs : Array Value) (j : Nat), off + vs.length ≤ cs.size →
    (setArr cs off vs)[j]? = if off ≤ j ∧ j < off + vs.length then vs[j - off]? else cs[j]?
  | [], off, cs, j, _ => by
    rw [setArr, if_neg]
    simp
  | v :: vs, off, cs, j, h => by
    simp only [List.length_cons] at h ⊢
    rw [setArr, get_setArr vs (off + 1) _ j (by simp; omega)]
    by_cases h1 : off + 1 ≤ j ∧ j < off + 1 + vs.length
    · rw [if_pos h1, if_pos (by omega)]
      rw [show j - off = (j - (off + 1)) + 1 by omega]
      simp
    · rw [if_neg h1]
      by_cases h2 : j = off
      · subst h2
        rw [if_pos (by omega)]
        simp [Array.getElem?_setIfInBounds]
        omega
      · rw [if_neg (by omega)]
        rw [Array.getElem?_setIfInBounds_ne (by omega)]

theorem storeCells_run (r k : Nat) : ∀ (vs : List Value) (i : Nat) (w : World) (cs : Array Value) (e : TypeId) (fr : Nat × Nat), w.heap[r]? = some (.cells cs e fr) →
    (∀ v ∈ vs, v.oneCell' = true) → k + i + vs.length ≤ cs.size → (∀ j, j < cs.size → ¬ (fr.1 ≤ j ∧ j < fr.2)) →
    ∃ w', (storeCells ⟨r, k, none⟩ vs i).run P w = .ok () w' ∧ w'.heap[r]? = some (.cells (setArr cs (k + i) vs) e fr) ∧ w'.heap.size = w.heap.size ∧ w'.os = w.os ∧ w'.output = w.output ∧ w'.tape = w.tape ∧
      ∀ q, q ≠ r → w'.heap[q]? = w.heap[q]?
  | [], i, w, cs, e, fr, h, _, _, _ => ⟨w, rfl, h, rfl, rfl, rfl, rfl, fun _ _ => rfl⟩
  | v :: vs, i, w, cs, e, fr, h, h1, hb, hf => by
    simp only [List.length_cons] at hb
    have hadd : (⟨r, k, none⟩ : Addr).add i = ⟨r, k + i, none⟩ := by have := add_loc r k 0 i; simpa using this
    have hcell : w.cell? ⟨r, k + i, none⟩ = some (cs[k + i]'(by omega)) := by
      rw [cell_of_heap h]; exact Array.getElem?_eq_getElem (by omega)
    have hfr : w.frozen? ⟨r, k + i, none⟩ = false := by
      have := hf (k + i) (by omega)
      simp only [World.frozen?, h]
      simpa using this
    have hst : (store ((⟨r, k, none⟩ : Addr).add i) v).run P w = .ok () (w.setCell ⟨r, k + i, none⟩ v) := by
      rw [hadd, run_store P w _ v _ (h1 v (by simp))]
      simp [hcell, hfr]
    have hheap : (w.setCell ⟨r, k + i, none⟩ v).heap[r]? = some (.cells (cs.setIfInBounds (k + i) v) e fr) := by
      simp [World.setCell, Array.getElem?_modify, h]
    obtain ⟨w', hr, hh, hsz, ho, hout, ht, hoth⟩ := storeCells_run r k vs (i + 1) (w.setCell ⟨r, k + i, none⟩ v) _ e fr hheap (fun x hx => h1 x (by simp [hx])) (by simp; omega) (fun j hj => hf j (by simpa using hj))
    refine ⟨w', ?_, hh, by simpa using hsz, ho, hout, ht, fun q hq => ?_⟩
    · simp only [storeCells, Sem.run_bind, hst, Result.andThen_ok, hr]
    · rw [hoth q hq]
      simp only [World.setCell, Array.getElem?_modify]
      rw [if_neg (by omega)]

theorem Row.get_set (row : Row N) (i : Nat) (v : AV N) (j : Nat) : (row.set i v).get j = if j = i then v else row.get j := by
  unfold Row.set Row.get
  simp only [Tr.get_set]
  by_cases h : j = i <;> simp [h]

theorem sz_setCells : ∀ (vs : List (AV N)) (off : Nat) (row : Row N), (setCells row off vs).sz = row.sz
  | [], _, _ => rfl
  | v :: vs, off, row => by rw [setCells, sz_setCells vs]; rfl

theorem get_setCells : ∀ (vs : List (AV N)) (off : Nat) (row : Row N) (j : Nat),
    (setCells row off vs).get j = if off ≤ j ∧ j < off + vs.length then vs.getD (j - off) .junk else row.get j
  | [], off, row, j => by rw [setCells, if_neg]; simp
  | v :: vs, off, row, j => by
    rw [setCells, get_setCells vs (off + 1), Row.get_set]
    simp only [List.length_cons]
    by_cases h1 : off + 1 ≤ j ∧ j < off + 1 + vs.length
    · rw [if_pos h1, if_pos (by omega), show j - off = (j - (off + 1)) + 1 by omega]
      simp
    · rw [if_neg h1]
      by_cases h2 : j = off
      · subst h2; rw [if_pos rfl, if_pos (by omega)]; simp
      · rw [if_neg h2, if_neg (by omega)]

/-- writing cells. -/
theorem storeCells_sound (h : HRel den σ H w) {i off : Nat} {l : Loc} (hl : σ i = some l) {vs : List (AV N)} {rvs : List Value} {H' : AH N} (hv : VRels den σ vs rvs)
    (e : storeCellsA H i off vs = some H') :
    ∃ w', (storeCells ⟨l.r, l.base + off, none⟩ rvs).run P w = .ok () w' ∧ HRel den σ H' w' ∧ Ext σ H w σ H' w' := by
  unfold storeCellsA at e
  have hb := h.blk i
  cases hc : H.blk i with
  | cells row ro =>
    cases ro with
    | true => simp [hc] at e
    | false =>
      rw [hc] at e hb
      simp only [Bool.cond_eq_ite, Bool.and_eq_true, Nat.ble_eq] at e
      split at e
      · rename_i hle
        simp only [Option.some.injEq] at e
        subst e
        simp only [BRel] at hb
        obtain ⟨l', cs, te, fr, hl', hh, hls, hsz, hcell, hfr⟩ := hb
        rw [hl] at hl'; cases hl'
        have hlen := hv.length
        obtain ⟨w', hr, hh', hsz', ho, hout, ht, hoth⟩ := storeCells_run (P := P) l.r (l.base + off) rvs 0 w cs te fr hh (oneCells_rel hv hle.2) (by omega) (hfr (by simp))
        refine ⟨w', hr, ?_⟩
        refine put_rel h hl (by rw [hc]; rfl) hsz' ho hout ht hoth ?_
        simp only [BRel]
        refine ⟨l, _, te, fr, hl, hh', by rw [size_setArr]; exact hls, by rw [size_setArr, sz_setCells]; exact hsz, ?_, fun _ j hj => hfr (by simp) j (by rwa [size_setArr] at hj)⟩
        intro j hj
        rw [sz_setCells] at hj
        rw [get_setCells, Nat.add_zero, get_setArr _ _ _ _ (by omega)]
        by_cases hin : off ≤ j ∧ j < off + vs.length
        · rw [if_pos hin, if_pos (by omega)]
          have hx : vs[j - off]? = some (vs.getD (j - off) .junk) := by
            simp only [List.getD_eq_getElem?_getD]
            rw [List.getElem?_eq_getElem (by omega)]; simp
          obtain ⟨y, hy, hxy⟩ := hv.get _ _ hx
          exact ⟨y, by rw [show l.base + j - (l.base + off) = j - off by omega]; exact hy, hxy⟩
        · rw [if_neg hin, if_neg (by omega)]
          exact hcell j hj
      · cases e
  | _ => simp [hc] at e

theorem loadA_sound (h : HRel den σ H w) {t : TypeId} {i off : Nat} {l : Loc} (hl : σ i = some l) {v : AV N} (e : loadA P H t i off = some v) :
    ∃ rv, (loadVar t ⟨l.r, l.base + off, none⟩).run P w = .ok rv w ∧ VRel den σ v rv := by
  unfold loadA at e
  cases ha : isAggT P t with
  | none => simp [ha] at e
  | some b =>
    rw [ha] at e
    cases b with
    | true =>
      cases hs : sizeT P t with
      | none => simp [hs] at e
      | some n =>
        simp only [hs, Option.map_eq_some_iff] at e
        obtain ⟨vs, hvs, rfl⟩ := e
        obtain ⟨arr, hr, hv, _⟩ := loadCells_sound (P := P) h hl hvs
        refine ⟨.agg arr, ?_, ?_⟩
        · simp [loadVar, run_isAggT ha, run_sizeT hs, hr]
        · simp only [VRel]; exact ⟨arr, rfl, hv⟩
    | false =>
      simp only at e
      cases hc : loadCellsA H i off 1 with
      | none => simp [hc] at e
      | some vs =>
        rw [hc] at e
        obtain ⟨arr, hr, hv, hsz⟩ := loadCells_sound (P := P) h hl hc
        match vs, e, hv with
        | [u], e, hv =>
          simp only [Option.some.injEq] at e
          subst e
          simp only [VRels] at hv
          obtain ⟨rv, rs, hrs, hv, rfl⟩ := hv
          refine ⟨rv, ?_, hv⟩
          have hone : (load (⟨l.r, l.base + off, none⟩ : Addr)).run P w = .ok rv w := by
            have hcell := hr
            simp only [loadCells, loadCellsFrom, Sem.run_bind] at hcell
            have ha0 : (⟨l.r, l.base + off, none⟩ : Addr).add 0 = ⟨l.r, l.base + off, none⟩ := rfl
            rw [ha0] at hcell
            cases hq : (load (⟨l.r, l.base + off, none⟩ : Addr)).run P w with
            | ok x w1 =>
              rw [hq] at hcell
              simp at hcell
              obtain ⟨h1, h2⟩ := hcell
              subst h2
              rw [← h1] at hrs
              simp at hrs
              rw [hrs]
            | halt x w1 => rw [hq] at hcell; simp at hcell
          simp only [loadVar, Sem.run_bind, run_isAggT ha, Result.andThen_ok, Bool.false_eq_true, if_false, hone]

theorem storeA_sound (h : HRel den σ H w) {t : TypeId} {i off : Nat} {l : Loc} (hl : σ i = some l) {v : AV N} {rv : Value} (hv : VRel den σ v rv) {H' : AH N} (e : storeA P H t i off v = some H') :
    ∃ w', (storeVar t ⟨l.r, l.base + off, none⟩ rv).run P w = .ok () w' ∧ HRel den σ H' w' ∧ Ext σ H w σ H' w' := by
  unfold storeA at e
  have hj : ∀ _ : v = .junk, False := by rintro rfl; simp at e
  have e' : (match sizeT P t with | some n => bif Nat.beq v.cells.length n then storeCellsA H i off v.cells else none | none => none) = some H' := by
    cases v <;> first | exact e | exact (hj rfl).elim
  cases hs : sizeT P t with
  | none => simp [hs] at e'
  | some n =>
    simp only [hs, nbeq, Bool.cond_decide] at e'
    split at e'
    · rename_i hn
      have hc := cells_rel hv hj
      obtain ⟨w', hr, hh, hx⟩ := storeCells_sound (P := P) h hl hc e'
      refine ⟨w', ?_, hh, hx⟩
      have hsz : rv.cells.size = n := by have := hc.length; simp at this; omega
      simp [storeVar, run_sizeT hs, hsz, hr]
    · cases e'

theorem Row.get_ofList (l : List (AV N)) (j : Nat) (h : j < l.length) : (Row.ofList l).get j = l.getD j .junk := by
  unfold Row.ofList Row.get
  simp only [Tr.get, Nat.mod_eq_of_lt h, List.getD_eq_getElem?_getD]
  cases l[j]? <;> rfl

/-- a new row of cells. -/
theorem newRow_brel {q : Nat} (hnone : σ q = none) {row : Row N} {arr : Array Value} (elem : TypeId) (hsz : row.sz ≤ arr.size)
    (hc : ∀ j, j < row.sz → ∃ v, arr[j]? = some v ∧ VRel den σ (row.get j) v) :
    BRel den (σ.add q ⟨w.heap.size, 0, arr.size⟩) q (w.alloc (.cells arr elem)) (.cells row false) := by
  have hself : (σ.add q ⟨w.heap.size, 0, arr.size⟩) q = some ⟨w.heap.size, 0, arr.size⟩ := by simp [Sub.add]
  simp only [BRel]
  refine ⟨_, arr, elem, (0, 0), hself, World.heap_push_self w _, rfl, by simpa using hsz, ?_, fun _ j _ => by simp⟩
  intro j hj
  obtain ⟨v, hv, hr⟩ := hc j hj
  exact ⟨v, by simpa using hv, VRel.mono (Sub.le_add hnone) _ _ hr⟩

theorem newList_brel {q : Nat} (hnone : σ q = none) {cs : List (AV N)} {arr : Array Value} (elem : TypeId) (hc : VRels den σ cs arr.toList) :
    BRel den (σ.add q ⟨w.heap.size, 0, arr.size⟩) q (w.alloc (.cells arr elem)) (.cells (Row.ofList cs) false) := by
  have hlen := hc.length
  simp at hlen
  refine newRow_brel hnone elem (by simp [Row.ofList, hlen]) fun j hj => ?_
  have hj' : j < cs.length := hj
  rw [Row.get_ofList cs j hj']
  have hx : cs[j]? = some (cs.getD j .junk) := by simp [List.getD_eq_getElem?_getD, List.getElem?_eq_getElem hj']
  obtain ⟨y, hy, hr⟩ := hc.get _ _ hx
  exact ⟨y, by simpa using hy, hr⟩

theorem newRow_sound (h : HRel den σ H w) {row : Row N} {arr : Array Value} (elem : TypeId) (hsz : row.sz ≤ arr.size)
    (hc : ∀ j, j < row.sz → ∃ v, arr[j]? = some v ∧ VRel den σ (row.get j) v) :
    let l : Loc := ⟨w.heap.size, 0, arr.size⟩
    HRel den (σ.add H.next l) (H.new (.cells row false)).2 (w.alloc (.cells arr elem)) ∧ Ext σ H w (σ.add H.next l) (H.new (.cells row false)).2 (w.alloc (.cells arr elem)) ∧ (σ.add H.next l) H.next = some l := by
  intro l
  have := new_rel h (.cells arr elem) (.cells row false) l rfl (newRow_brel h.none_next elem hsz hc)
  exact ⟨this.1, this.2, by simp [Sub.add]⟩

theorem newList_sound (h : HRel den σ H w) {cs : List (AV N)} {arr : Array Value} (elem : TypeId) (hc : VRels den σ cs arr.toList) :
    let l : Loc := ⟨w.heap.size, 0, arr.size⟩
    HRel den (σ.add H.next l) (H.new (.cells (Row.ofList cs) false)).2 (w.alloc (.cells arr elem)) ∧ Ext σ H w (σ.add H.next l) (H.new (.cells (Row.ofList cs) false)).2 (w.alloc (.cells arr elem)) ∧ (σ.add H.next l) H.next = some l := by
  intro l
  have := new_rel h (.cells arr elem) (.cells (Row.ofList cs) false) l rfl (newList_brel h.none_next elem hc)
  exact ⟨this.1, this.2, by simp [Sub.add]⟩

end
end Go.Am

namespace Go.Am
section
variable {N : Type}

structure DomOk (D : Dom N) (den : N → Int) : Prop where
  lit : ∀ n, den (D.lit n) = n
  toLit : ∀ a n, D.toLit a = some n → den a = n
  beq : ∀ a b, D.beq a b = true → den a = den b
  bin : ∀ op k a k' b c, D.bin op k a b = some c → (op = .shl ∨ op = .shr ∨ k = k') → ∀ (P : Program) (w : World) (t : TypeId), (Go.binOp op t (.int k (den a)) (.int k' (den b))).run P w = .ok (.int k (den c)) w
  cmp : ∀ op a b r, D.cmp op a b = some r → ∀ (k : IntKind) (P : Program) (w : World) (t : TypeId), (Go.binOp op t (.int k (den a)) (.int k (den b))).run P w = .ok (.bool r) w
  cmpEq : ∀ a b r, D.cmp .eql a b = some r → (r = true ↔ den a = den b)
  cmpLt : ∀ a b r, D.cmp .lss a b = some r → (r = true ↔ den a < den b)
  cmpGt : ∀ a b r, D.cmp .gtr a b = some r → (r = true ↔ den a > den b)
  conv : ∀ k a c, D.conv k a = some c → den c = k.wrap (den a)
  add64 : ∀ x y c s k, D.add64 x y c = some (s, k) → (den c).toNat ≤ 1 ∧ den s = Int.ofNat (((den x).toNat + (den y).toNat + (den c).toNat) % 2 ^ 64) ∧ den k = Int.ofNat (((den x).toNat + (den y).toNat + (den c).toNat) / 2 ^ 64)
  sub64 : ∀ x y c s k, D.sub64 x y c = some (s, k) → (den c).toNat ≤ 1 ∧ den s = Int.ofNat (((den x).toNat + 2 ^ 64 - (den y).toNat - (den c).toNat) % 2 ^ 64) ∧ den k = if (den x).toNat < (den y).toNat + (den c).toNat then 1 else 0
  eqs : ∀ l b, D.eqs l = some b → (b = true ↔ ∀ p ∈ l, den p.1 = den p.2)
  lex : ∀ a b n, D.lex a b = some n → (∀ x ∈ a ++ b, 0 ≤ den x ∧ den x < 256) ∧ lexI (a.map den) (b.map den) = n

variable {D : Dom N} {den : N → Int} {P : Program} {σ : Sub} {H : AH N} {w : World}

theorem mapM_rel {α : Type} {f : α → Option (AV N)} {g : α → Value} (hf : ∀ x a, f x = some a → VRel den σ a (g x)) : ∀ (l : List α) (as : List (AV N)), l.mapM f = some as → VRels den σ as (l.map g)
  | [], as, h => by simp at h; subst h; simp [VRels]
  | x :: l, as, h => by
    rw [List.mapM_cons] at h
    simp only [bind, Option.bind_eq_some_iff, pure, Option.some.injEq] at h
    obtain ⟨a, ha, bs, hb, rfl⟩ := h
    simp only [List.map_cons, VRels]
    exact ⟨_, _, rfl, hf x a ha, mapM_rel hf l bs hb⟩

theorem ofValue_sound (hD : DomOk D den) : ∀ (f : Nat) (v : Value) (a : AV N), ofValue D f v = some a → VRel den σ a v := by
  intro f
  induction f with
  | zero => intro v a h; simp [ofValue] at h
  | succ f ih =>
    have ihl : ∀ (l : List Value) (as : List (AV N)), l.mapM (ofValue D f) = some as → VRels den σ as l := by
      intro l as h
      have := mapM_rel (g := id) (fun x a => ih x a) l as h
      simpa using this
    intro v a h
    unfold ofValue at h
    split at h
    · cases h; simp [VRel]
    · cases h; simp [VRel, hD.lit]
    · rename_i s
      cases h
      simp only [VRel, List.map_map]
      refine ⟨?_, ?_⟩
      · congr 1
        have : (s.data.toList.map (UInt8.ofNat ∘ UInt8.toNat)) = s.data.toList := by
          conv => rhs; rw [← List.map_id s.data.toList]
          apply List.map_congr_left
          intro x _
          simp
        rw [this]
      · intro b hb
        obtain ⟨x, _, rfl⟩ := List.mem_map.1 hb
        exact x.toNat_lt
    · cases h; simp [VRel]
    · cases h; simp [VRel]
    · cases h; simp [VRel]
    · cases h
    · split at h
      · rename_i fn a b a' b' ha hb
        cases h
        simp only [VRel]
        exact ⟨_, _, rfl, ihl _ _ ha, ihl _ _ hb⟩
      · cases h
    · cases h; simp [VRel]
    · simp only [Option.map_eq_some_iff] at h
      obtain ⟨x, hx, rfl⟩ := h
      simp only [VRel]
      exact ⟨_, rfl, ih _ _ hx⟩
    · cases h; simp [VRel]
    · simp only [Option.map_eq_some_iff] at h
      obtain ⟨x, hx, rfl⟩ := h
      simp only [VRel]
      exact ⟨_, rfl, ihl _ _ hx⟩
    · simp only [Option.map_eq_some_iff] at h
      obtain ⟨x, hx, rfl⟩ := h
      simp only [VRel]
      exact ⟨_, rfl, ihl _ _ hx⟩
    · cases h

theorem zeroV_sound (hD : DomOk D den) {t : TypeId} {z : AV N} (h : zeroV P D t = some z) (w : World) : ∃ rz, (zeroValue t).run P w = .ok rz w ∧ VRel den σ z rz := by
  unfold zeroV at h
  cases e : P.info? t with
  | none => simp [e] at h
  | some i =>
    simp only [e, Option.bind_some] at h
    cases ez : i.zero with
    | none => simp [ez] at h
    | some v =>
      simp only [ez, Option.bind_some] at h
      exact ⟨v, by simp [zeroValue, run_info e, ez], ofValue_sound hD _ _ _ h⟩

theorem rep_length (n : Nat) (z : List (AV N)) : (rep n z).length = n * z.length := by
  induction n with
  | zero => simp [rep]
  | succ n ih => simp [rep, ih, Nat.succ_mul, Nat.add_comm]

theorem partA_sound {t : TypeId} {cs : List (AV N)} {arr : Array Value} {off : Nat} {v : AV N} (hc : VRels den σ cs arr.toList) (e : partA P t cs off = some v) (w : World) :
    ∃ rv, (part t arr off).run P w = .ok rv w ∧ VRel den σ v rv := by
  unfold partA at e
  cases ha : isAggT P t with
  | none => simp [ha] at e
  | some b =>
    rw [ha] at e
    cases b with
    | true =>
      simp only [Option.map_eq_some_iff] at e
      obtain ⟨n, hn, rfl⟩ := e
      refine ⟨.agg (arr.extract off (off + n)), ?_, ?_⟩
      · simp only [part, Sem.run_bind, run_isAggT ha, Result.andThen_ok, if_true, run_sizeT hn, Sem.run_pure]
      · simp only [VRel]
        refine ⟨_, rfl, ?_⟩
        have := (hc.drop off).take n
        rw [Array.toList_extract]
        simpa [List.take_drop, Nat.add_comm] using this
    | false =>
      simp only at e
      obtain ⟨y, hy, hr⟩ := hc.get _ _ e
      refine ⟨y, ?_, hr⟩
      have : arr[off]? = some y := by simpa using hy
      simp only [part, Sem.run_bind, run_isAggT ha, Result.andThen_ok, Bool.false_eq_true, if_false, this, Sem.run_pure]

def allEq (den : N → Int) (l : List (N × N)) : Bool := l.all fun p => decide (den p.1 = den p.2)

theorem allEq_append (l m : List (N × N)) : allEq den (l ++ m) = (allEq den l && allEq den m) := by simp [allEq]

theorem natsBeq_iff : ∀ (a b : List Nat), natsBeq a b = true ↔ a = b
  | [], [] => by simp [natsBeq]
  | [], _ :: _ => by simp [natsBeq]
  | _ :: _, [] => by simp [natsBeq]
  | a :: x, b :: y => by simp [natsBeq, natsBeq_iff x y, nbeq]

theorem foldl_none {α β : Type} (f : Option β → α → Option β) (hf : ∀ x, f none x = none) : ∀ l : List α, l.foldl f none = none
  | [] => rfl
  | x :: l => by rw [List.foldl_cons, hf]; exact foldl_none f hf l

theorem mkStr_inj {s t : List Nat} (hs : ∀ b ∈ s, b < 256) (ht : ∀ b ∈ t, b < 256) : (s.map UInt8.ofNat == t.map UInt8.ofNat) = (s == t) := by
  rw [Bool.eq_iff_iff]
  simp only [beq_iff_eq]
  constructor
  · intro h
    induction s generalizing t with
    | nil => cases t <;> simp_all
    | cons a s ih =>
      cases t with
      | nil => simp at h
      | cons b t =>
        simp only [List.map_cons, List.cons.injEq] at h
        have ha := hs a (by simp)
        have hb := ht b (by simp)
        have e : a = b := by
          have := congrArg UInt8.toNat h.1
          simp only [UInt8.toNat_ofNat'] at this
          omega
        rw [e, ih (fun x hx => hs x (by simp [hx])) (fun x hx => ht x (by simp [hx])) h.2]
  · rintro rfl; rfl

set_option maxHeartbeats 4000000 in
theorem eqA_sound : ∀ (n : Nat) (t : TypeId) (x y : AV N) (b : Bool) (l : List (N × N)), eqA P n t x y = some (b, l) →
    ∀ (rx ry : Value), VRel den σ x rx → VRel den σ y ry → ∀ (m : Nat), n ≤ m → (Op.equalIn m t rx ry).run P w = .ok (b && allEq den l) w := by
  intro n
  induction n with
  | zero => intro t x y b l h; simp [eqA] at h
  | succ d ih =>
    intro t x y b l e rx ry hx hy m hm
    obtain ⟨m, rfl⟩ : ∃ k, m = k + 1 := ⟨m - 1, by omega⟩
    have hdm : d ≤ m := by omega
    unfold eqA at e
    split at e
    · rename_i hu
      cases e; simp only [VRel] at hx hy; subst hx; subst hy
      simp [Op.equalIn, run_underlying hu, allEq]
    · rename_i hu
      simp only [Bool.cond_eq_ite] at e
      split at e
      · rename_i hk
        cases e; simp only [VRel] at hx hy; subst hx; subst hy
        have hk := eq_of_beq hk
        subst hk
        simp [Op.equalIn, run_underlying hu, allEq]
        rw [Bool.eq_iff_iff]; simp
      · cases e
    · rename_i hu
      cases e; simp only [VRel] at hx hy
      obtain ⟨rfl, hs⟩ := hx; obtain ⟨rfl, ht⟩ := hy
      simp only [Op.equalIn, Sem.run_bind, run_underlying hu, Result.andThen_ok, Sem.run_pure, allEq, List.all_nil, Bool.and_true]
      congr 1
      rw [beq_toListBytes, ByteArray.toList_eq, ByteArray.toList_eq]
      exact mkStr_inj hs ht
    · rename_i hu
      cases e; simp only [VRel] at hx hy; subst hx; subst hy
      simp [Op.equalIn, run_underlying hu, allEq]
    · rename_i hu
      cases e; simp only [VRel] at hx hy; subst hx; obtain ⟨l, _, rfl⟩ := hy
      simp [Op.equalIn, run_underlying hu, allEq]
    · rename_i hu
      cases e; simp only [VRel] at hx hy; subst hy; obtain ⟨l, _, rfl⟩ := hx
      simp [Op.equalIn, run_underlying hu, allEq]
    · rename_i hu
      rename_i el i o j p
      split at e
      · rename_i k hk
        simp only [nbeq, Bool.cond_decide] at e
        split at e
        · rename_i hij
          subst hij
          cases e
          simp only [VRel] at hx hy
          obtain ⟨l, hl, rfl⟩ := hx
          obtain ⟨l', hl', rfl⟩ := hy
          rw [hl] at hl'; cases hl'
          simp only [Op.equalIn, Sem.run_bind, run_underlying hu, Result.andThen_ok, run_sizeT hk]
          simp [allEq, sameAddr]
          rw [Bool.eq_iff_iff]; simp
        · cases e
      · cases e
    · rename_i hu
      cases e; simp only [VRel] at hx hy; subst hx; subst hy
      simp [Op.equalIn, run_underlying hu, allEq]
    · rename_i hu
      cases e; simp only [VRel] at hx hy; subst hx; obtain ⟨_, rfl, _⟩ := hy
      simp [Op.equalIn, run_underlying hu, allEq]
    · rename_i hu
      cases e; simp only [VRel] at hx hy; subst hy; obtain ⟨_, rfl, _⟩ := hx
      simp [Op.equalIn, run_underlying hu, allEq]
    · rename_i hu
      rename_i tx vx ty vy
      simp only [VRel] at hx hy
      obtain ⟨vx', rfl, hvx⟩ := hx
      obtain ⟨vy', rfl, hvy⟩ := hy
      simp only [nbeq, Bool.cond_decide] at e
      split at e
      · rename_i htt
        subst htt
        split at e
        · rename_i i hi
          simp only [Bool.cond_eq_ite] at e
          split at e
          · rename_i hcomp
            have := ih tx vx vy b l e vx' vy' hvx hvy m hdm
            simp only [Op.equalIn, Sem.run_bind, run_underlying hu, Result.andThen_ok, ne_eq, not_true_eq_false, if_false, run_info hi, hcomp, Bool.not_true, Bool.false_eq_true]
            simpa using this
          · cases e
        · cases e
      · rename_i htt
        cases e
        simp [Op.equalIn, run_underlying hu, allEq, htt]
    · rename_i hu
      rename_i fields xs ys
      simp only [Bool.cond_eq_ite] at e
      split at e
      · cases e
      · rename_i hst
        simp only [VRel] at hx hy
        obtain ⟨xs', rfl, hxs⟩ := hx
        obtain ⟨ys', rfl, hys⟩ := hy
        have hfo : P.fieldsOf t = fields := by simp [Program.fieldsOf, hu]
        rw [run_equalIn_struct w m t xs' ys' (by rw [hfo]; exact hu) (by simpa using hst), hfo]
        have key : ∀ (fs : List Field) (b0 : Bool) (l0 : List (N × N)), fs.foldl (fun acc f => match acc with
          | none => none
          | some (b, l) => bif f.name == "_" then some (b, l) else match partA P f.type xs f.offset, partA P f.type ys f.offset with
            | some u, some v => match eqA P d f.type u v with
              | some (b', l') => some (b && b', l ++ l')
              | none => none
            | _, _ => none) (some (b0, l0)) = some (b, l) →
            ∃ c, (Op.eqFields m xs' ys' fs).run P w = .ok c w ∧ (b && allEq den l) = ((b0 && allEq den l0) && c) := by
          intro fs
          induction fs with
          | nil =>
            intro b0 l0 h
            simp at h
            obtain ⟨rfl, rfl⟩ := h
            exact ⟨true, by simp [Op.eqFields], by simp⟩
          | cons f fs ihf =>
            intro b0 l0 h
            rw [List.foldl_cons] at h
            simp only [Bool.cond_eq_ite] at h
            by_cases hn : f.name = "_"
            · have hnb : (f.name == "_") = true := by simp [hn]
              rw [hnb] at h
              simp only [if_true] at h
              obtain ⟨c, hc, hb⟩ := ihf b0 l0 (by simpa [Bool.cond_eq_ite] using h)
              exact ⟨c, by simp only [Op.eqFields, hn, ne_eq, not_true_eq_false, if_false]; exact hc, hb⟩
            · have hnb : (f.name == "_") = false := by simp [hn]
              rw [hnb] at h
              simp only [Bool.false_eq_true, if_false] at h
              cases h1 : partA P f.type xs f.offset with
              | none => rw [h1] at h; rw [foldl_none _ (by intro x; rfl)] at h; cases h
              | some u =>
                cases h2 : partA P f.type ys f.offset with
                | none => rw [h1, h2] at h; rw [foldl_none _ (by intro x; rfl)] at h; cases h
                | some v =>
                  rw [h1, h2] at h
                  simp only at h
                  cases h3 : eqA P d f.type u v with
                  | none => rw [h3] at h; rw [foldl_none _ (by intro x; rfl)] at h; cases h
                  | some bl =>
                    obtain ⟨b', l'⟩ := bl
                    rw [h3] at h
                    simp only at h
                    obtain ⟨ru, hru, hu'⟩ := partA_sound (P := P) hxs h1 w
                    obtain ⟨rv, hrv, hv'⟩ := partA_sound (P := P) hys h2 w
                    have heq := ih f.type u v b' l' h3 ru rv hu' hv' m hdm
                    obtain ⟨c, hc, hb⟩ := ihf _ _ (by simpa [Bool.cond_eq_ite] using h)
                    have hrun : (Op.eqFields m xs' ys' (f :: fs)).run P w = .ok ((b' && allEq den l') && c) w := by
                      simp only [Op.eqFields, ne_eq, hn, not_false_eq_true, if_true, Sem.run_bind, hru, hrv, heq, Result.andThen_ok]
                      cases hbl : (b' && allEq den l')
                      · simp
                      · simp [hc]
                    refine ⟨_, hrun, ?_⟩
                    rw [hb, allEq_append]
                    cases b0 <;> cases allEq den l0 <;> cases b' <;> cases allEq den l' <;> simp
        obtain ⟨c, hc, hb⟩ := key fields.toList true [] (by simp only [Bool.cond_eq_ite]; exact e)
        rw [hc, hb]
        simp [allEq]
    · rename_i hu
      rename_i len elem xs ys
      split at e
      · rename_i sz hsz
        simp only [VRel] at hx hy
        obtain ⟨xs', rfl, hxs⟩ := hx
        obtain ⟨ys', rfl, hys⟩ := hy
        obtain ⟨i, hi⟩ : ∃ i, P.info? elem = some i := by
          unfold sizeT at hsz
          cases hq : P.info? elem with
          | none => simp [hq] at hsz
          | some i => exact ⟨i, rfl⟩
        have hco : P.cellsOf elem = sz := by
          unfold sizeT at hsz
          simp [Program.cellsOf, hsz]
        rw [run_equalIn_array w m xs' ys' hu hi, hco]
        have key : ∀ (is : List Nat) (b0 : Bool) (l0 : List (N × N)), is.foldl (fun acc i => match acc with
          | none => none
          | some (b, l) => match partA P elem xs (i * sz), partA P elem ys (i * sz) with
            | some u, some v => match eqA P d elem u v with
              | some (b', l') => some (b && b', l ++ l')
              | none => none
            | _, _ => none) (some (b0, l0)) = some (b, l) →
            ∃ c, (Op.eqItems m elem sz xs' ys' is).run P w = .ok c w ∧ (b && allEq den l) = ((b0 && allEq den l0) && c) := by
          intro is
          induction is with
          | nil =>
            intro b0 l0 h
            simp at h
            obtain ⟨rfl, rfl⟩ := h
            exact ⟨true, by simp [Op.eqItems], by simp⟩
          | cons f fs ihf =>
            intro b0 l0 h
            rw [List.foldl_cons] at h
            simp only at h
            cases h1 : partA P elem xs (f * sz) with
            | none => rw [h1] at h; rw [foldl_none _ (by intro x; rfl)] at h; cases h
            | some u =>
              cases h2 : partA P elem ys (f * sz) with
              | none => rw [h1, h2] at h; rw [foldl_none _ (by intro x; rfl)] at h; cases h
              | some v =>
                rw [h1, h2] at h
                simp only at h
                cases h3 : eqA P d elem u v with
                | none => rw [h3] at h; rw [foldl_none _ (by intro x; rfl)] at h; cases h
                | some bl =>
                  obtain ⟨b', l'⟩ := bl
                  rw [h3] at h
                  simp only at h
                  obtain ⟨ru, hru, hu'⟩ := partA_sound (P := P) hxs h1 w
                  obtain ⟨rv, hrv, hv'⟩ := partA_sound (P := P) hys h2 w
                  have heq := ih elem u v b' l' h3 ru rv hu' hv' m hdm
                  obtain ⟨c, hc, hb⟩ := ihf _ _ h
                  have hrun : (Op.eqItems m elem sz xs' ys' (f :: fs)).run P w = .ok ((b' && allEq den l') && c) w := by
                    simp only [Op.eqItems, Sem.run_bind, hru, hrv, heq, Result.andThen_ok]
                    cases hbl : (b' && allEq den l')
                    · simp
                    · simp [hc]
                  refine ⟨_, hrun, ?_⟩
                  rw [hb, allEq_append]
                  cases b0 <;> cases allEq den l0 <;> cases b' <;> cases allEq den l' <;> simp
        obtain ⟨c, hc, hb⟩ := key _ _ _ e
        rw [hc, hb]
        simp [allEq]
      · cases e
    all_goals (try (rename_i hu; cases e; simp only [VRel] at hx hy))
    · subst hx; subst hy; simp [Op.equalIn, run_underlying hu, allEq]
    · subst hx; obtain ⟨_, _, _, rfl, _⟩ := hy; simp [Op.equalIn, run_underlying hu, allEq]
    · subst hx; obtain ⟨_, _, rfl⟩ := hy; simp [Op.equalIn, run_underlying hu, allEq]
    · subst hy; obtain ⟨_, _, _, rfl, _⟩ := hx; simp [Op.equalIn, run_underlying hu, allEq]
    · subst hy; obtain ⟨_, _, rfl⟩ := hx; simp [Op.equalIn, run_underlying hu, allEq]
    · subst hx; subst hy; simp [Op.equalIn, run_underlying hu, allEq]
    · subst hx; obtain ⟨_, _, rfl⟩ := hy; simp [Op.equalIn, run_underlying hu, allEq]
    · subst hy; obtain ⟨_, _, rfl⟩ := hx; simp [Op.equalIn, run_underlying hu, allEq]
    · subst hx; subst hy; simp [Op.equalIn, run_underlying hu, allEq]
    · subst hx; obtain ⟨_, _, rfl, _⟩ := hy; simp [Op.equalIn, run_underlying hu, allEq]
    · subst hy; obtain ⟨_, _, rfl, _⟩ := hx; simp [Op.equalIn, run_underlying hu, allEq]
    · subst hx; obtain ⟨_, _, rfl⟩ := hy; simp [Op.equalIn, run_underlying hu, allEq]
    · subst hy; obtain ⟨_, _, rfl⟩ := hx; simp [Op.equalIn, run_underlying hu, allEq]
    · cases e

theorem eqV_sound (hD : DomOk D den) {t : TypeId} {x y : AV N} {b : Bool} (e : eqV P D t x y = some b) {rx ry : Value} (hx : VRel den σ x rx) (hy : VRel den σ y ry) :
    (Op.equal t rx ry).run P w = .ok b w := by
  unfold eqV at e
  split at e
  · rename_i l hl
    have := eqA_sound (den := den) (σ := σ) (w := w) 12 t x y true l hl rx ry hx hy Op.maxDepth (by decide)
    rw [Op.equal, this]
    congr 1
    have := hD.eqs l b e
    rw [Bool.eq_iff_iff, this]
    simp [allEq]
  · rename_i l hl
    cases e
    have := eqA_sound (den := den) (σ := σ) (w := w) 12 t x y false l hl rx ry hx hy Op.maxDepth (by decide)
    rw [Op.equal, this]
    simp
  · cases e

end
end Go.Am
