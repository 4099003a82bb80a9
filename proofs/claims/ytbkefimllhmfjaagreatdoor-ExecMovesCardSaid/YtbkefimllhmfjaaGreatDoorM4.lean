/- Whatever the two addresses and the numbers are: one of the ways is theirs. -/
import Derived.Test.YtbkefimllhmfjaaGreatDoorM3
set_option linter.unusedVariables false
set_option linter.unusedSimpArgs false
set_option linter.unusedSectionVars false
namespace Go.Am
open Go.Proofs
section Mv

/-- the world ahead: package errors' variable holds the type 'error'. -/
def Ready (W : World) : Prop := 8 ≤ W.heap.size ∧ ∃ cs t fr, W.heap[0]? = some (.cells cs t fr) ∧ cs[0]? = some (.iface 161 (.agg #[.pointer (some ⟨7, 36, none⟩)]))

def Done (W : World) (e : Ending) (w' : World) : Prop := e = .returned (.bool true) ∧ RowKit.Below W.heap.size W w'

theorem start_rel {ρ : Nat → Int} {W : World} (h : Ready W) : ∃ σ, HRel (LF.den ρ) σ HG W ∧ GOk Tryz.prog σ := by
  obtain ⟨hsz, cs, t, fr, h0, hc⟩ := h
  have hblk : ∀ i, HG.blk i = if i = 0 then .cells (Row.ofList [GV]) true else .dead := by
    intro i
    simp only [HG, AH.blk, Tr.get_set]
    split
    · rfl
    · simp [Tr.get_nil]
  have hnext : HG.next = 8 := rfl
  refine ⟨fun i => if i < 8 then some ⟨i, 0, cs.size⟩ else none, ⟨fun i => ?_, fun i j li lj hi hj _ _ _ => ?_, fun i l hl => ?_, fun i l hl => ?_, fun i hi => ?_⟩, fun g hg => ?_⟩
  · rw [hblk]
    split
    · rename_i e
      subst e
      have hlt : 0 < cs.size := by
        rcases Nat.eq_zero_or_pos cs.size with q | q
        · rw [Array.getElem?_eq_none (by omega)] at hc; cases hc
        · exact q
      simp only [BRel]
      refine ⟨⟨0, 0, cs.size⟩, cs, t, fr, rfl, h0, rfl, by show 0 + 1 ≤ cs.size; omega, fun j hj => ?_, fun h => by cases h⟩
      have hj0 : j = 0 := by
        have : (Row.ofList [GV]).sz = 1 := rfl
        omega
      subst hj0
      refine ⟨_, by simpa using hc, ?_⟩
      show VRel (LF.den ρ) _ GV _
      simp only [GV, VRel, VRels]
      exact ⟨_, rfl, _, rfl, _, _, rfl, ⟨⟨7, 0, cs.size⟩, rfl, by simp⟩, rfl⟩
    · trivial
  · rw [hblk] at hi hj
    by_cases e : i = 0
    · by_cases e' : j = 0
      · rw [e, e']
      · rw [if_neg e'] at hj; simp [ABlk.live] at hj
    · rw [if_neg e] at hi; simp [ABlk.live] at hi
  · rw [hnext]
    have hl' : (if i < 8 then some (Loc.mk i 0 cs.size) else none) = some l := hl
    split at hl'
    · assumption
    · cases hl'
  · have hl' : (if i < 8 then some (Loc.mk i 0 cs.size) else none) = some l := hl
    split at hl'
    · cases hl'; simp only; omega
    · cases hl'
  · rw [hblk, if_neg (by omega)]
  · have := globals_lt
    exact ⟨⟨g, 0, cs.size⟩, if_pos (by omega), rfl, rfl⟩

theorem run_calls {rec : Go.Am.Task LF → Option (List (Out LF))} {ρ : Nat → Int} (hrec : RecOk (LF.den ρ) Tryz.prog rec) {f : FuncId} {args : List (AV LF)} {o : Out LF} (ho : rec (.call f args HG) = some [o]) (hex : o.ex = .val (.bool true)) {W : World} (hW : Ready W)
    {ra : Array Value} (ha : ∀ σ, VRels (LF.den ρ) σ args ra.toList) : Calls Tryz.prog f ra W (Done W) := by
  obtain ⟨σ, hrel, hG⟩ := start_rel (ρ := ρ) hW
  refine callsIn_wide.1 ((hrec.call ho hrel hG (ha σ) 0).mono ?_)
  intro e w' hq
  cases e with
  | returned v =>
    obtain ⟨x, hx, va, σ', hxe, hv, hh, hxt⟩ := hq
    rw [List.mem_singleton] at hx
    subst hx
    rw [hex] at hxe
    cases hxe
    refine ⟨by rw [show v = .bool true by simpa [VRel] using hv], hxt.os, hxt.tape, hxt.out, hxt.size, fun r hr => hxt.frame r hr fun i l hi _ => ?_⟩
    simp only [HG, AH.blk, Tr.get_set] at hi
    split at hi
    · simp [ABlk.wr] at hi
    · simp [Tr.get_nil, ABlk.wr] at hi
  | panicked ch => exact hq.elim
  | outgrown => exact hq.elim

theorem leaf_run {L : Leaf} (hok : leafOk L = true) {ρ : Nat → Int} (hf : L.fs.holds ρ) : ∃ rec o, RecOk (LF.den ρ) Tryz.prog rec ∧ rec (.call 3 [.agg (u8L L.a), .agg (u8L L.b), .int .u64 L.bl, .int .u64 L.vl, .int .u64 L.g, .int .i64 L.e] HG) = some [o] ∧ o.ex = .val (.bool true) := by
  unfold leafOk at hok
  generalize 3000 = n at hok
  obtain ⟨o, ho, hex⟩ := okB_inv hok
  exact ⟨_, o, interpS_ok (domL_ok hf) follows (tblM_ok hf) n, ho, hex⟩

theorem leaf_calls {L : Leaf} (hok : leafOk L = true) {ρ : Nat → Int} (hf : L.fs.holds ρ) {W : World} (hW : Ready W) :
    Calls Tryz.prog 3 #[.agg ((L.a.map (LF.den ρ)).map (.int .u8)).toArray, .agg ((L.b.map (LF.den ρ)).map (.int .u8)).toArray, .int .u64 (L.bl.den ρ), .int .u64 (L.vl.den ρ), .int .u64 (L.g.den ρ), .int .i64 (L.e.den ρ)] W (Done W) := by
  obtain ⟨rec, o, hrec, ho, hex⟩ := leaf_run hok hf
  refine run_calls hrec ho hex hW fun σ => ?_
  simp only [VRels, VRel]
  exact ⟨_, _, rfl, ⟨_, rfl, (u8L_rel _ _).2 rfl⟩, _, _, rfl, ⟨_, rfl, (u8L_rel _ _).2 rfl⟩, _, _, rfl, rfl, _, _, rfl, rfl, _, _, rfl, rfl, _, _, rfl, rfl, rfl⟩

/-- all ways are as they should be. -/
structure AllOk : Prop where
  e0 : leafOk leafE0 = true
  e1 : leafOk leafE1 = true
  e2 : leafOk leafE2 = true
  e3 : leafOk leafE3 = true
  g0 : ∀ e : Int, e = 1 ∨ e = 2 → leafOk (leafG0 e) = true
  g1 : ∀ e : Int, e = 1 ∨ e = 2 → leafOk (leafG1 e) = true
  f0 : ∀ e : Int, e = 1 ∨ e = 2 → leafOk (leafF0 e) = true
  f1 : ∀ e : Int, e = 1 ∨ e = 2 → leafOk (leafF1 e) = true
  m : ∀ p, p = pat0 ∨ p = pat1 ∨ p = pat2 ∨ p = pat3 ∨ p = pat4 ∨ p = pat5 → ∀ e : Int, e = 1 ∨ e = 2 → leafOk (leafM0 p e) = true ∧ leafOk (leafM1 p e) = true ∧ leafOk (leafM2 p e) = true ∧ leafOk (leafM3 p e) = true

def rho5 (X Y : List Int) (b v g e : Int) : Nat → Int := fun i => if i < 20 then X.getD i 0 else if i < 40 then Y.getD (i - 20) 0 else if i = 40 then b else if i = 41 then v else if i = 42 then g else e

variable {X Y : List Int} {b v g e : Int}

theorem den5_Fr (h : X.length = 20) : Fr.map (LF.den (rho5 X Y b v g e)) = X := by
  have : Fr = (List.range 20).map vL := rfl
  rw [this, List.map_map]
  conv => rhs; rw [← map_getD X 20 h]
  apply List.map_congr_left
  intro i hi
  simp only [Function.comp, den_vL, rho5, if_pos (List.mem_range.1 hi)]

theorem den5_To (h : Y.length = 20) : To.map (LF.den (rho5 X Y b v g e)) = Y := by
  have : To = (List.range 20).map fun i => vL (20 + i) := rfl
  rw [this, List.map_map]
  conv => rhs; rw [← map_getD Y 20 h]
  apply List.map_congr_left
  intro i hi
  have := List.mem_range.1 hi
  simp only [Function.comp, den_vL, rho5, if_neg (show ¬ (20 + i < 20) by omega), if_pos (show 20 + i < 40 by omega), Nat.add_sub_cancel_left]

def Zs : List Int := List.replicate 20 0
theorem den_Ze {ρ : Nat → Int} : Ze.map (LF.den ρ) = Zs := by
  have : ∀ l : List LF, (∀ x ∈ l, x = cL 0) → l.map (LF.den ρ) = List.replicate l.length 0 := by
    intro l
    induction l with
    | nil => intro _; rfl
    | cons a l ih =>
      intro h
      rw [List.map_cons, ih (fun x hx => h x (by simp [hx])), h a (by simp)]
      simp [LF.den, cL, evT, List.replicate_succ]
  rw [this Ze (by intro x hx; simpa [Ze] using hx)]
  rfl

theorem den_cL {ρ : Nat → Int} (n : Int) : (cL n).den ρ = n := by simp [LF.den, cL, evT]

theorem lex_flip : ∀ (X Y : List Int), X.length = Y.length → lexI Y X = - lexI X Y
  | [], [], _ => rfl
  | [], _ :: _, h => by simp at h
  | _ :: _, [], h => by simp at h
  | a :: X, c :: Y, h => by
    simp only [lexI]
    by_cases e : a = c
    · subst e
      simp only [if_true]
      exact lex_flip X Y (by simpa using h)
    · rw [if_neg e, if_neg (fun q => e q.symm)]
      by_cases hl : a < c
      · rw [if_pos hl, if_neg (by omega)]; rfl
      · rw [if_neg hl, if_pos (by omega)]

theorem lex_zero : ∀ (X : List Int) (n : Nat), X.length = n → (∀ x ∈ X, 0 ≤ x) → X ≠ List.replicate n 0 → lexI X (List.replicate n 0) = 1
  | [], 0, _, _, h => (h rfl).elim
  | [], _ + 1, h, _, _ => by simp at h
  | _ :: _, 0, h, _, _ => by simp at h
  | a :: X, n + 1, h, hb, hne => by
    simp only [List.replicate_succ, lexI]
    by_cases e : a = 0
    · subst e
      rw [if_pos rfl]
      refine lex_zero X n (by simpa using h) (fun x hx => hb x (by simp [hx])) (fun q => hne ?_)
      rw [q, List.replicate_succ]
    · have := hb a (by simp)
      rw [if_neg e, if_neg (by omega)]

theorem lex_ne (X Y : List Int) (h : X.length = Y.length) (hne : X ≠ Y) : lexI X Y = -1 ∨ lexI X Y = 1 := by
  rcases part_at X Y h with ⟨q, _⟩ | ⟨_, _, _, _, _, _, h4⟩
  · exact (hne q).elim
  · rcases h4 with h4 | h4
    · exact .inl h4.2
    · exact .inr h4.2

theorem bytes5 (hX : X.length = 20) (hY : Y.length = 20) (bX : ∀ x ∈ X, 0 ≤ x ∧ x < 256) (bY : ∀ x ∈ Y, 0 ≤ x ∧ x < 256) : ∀ i, i < 40 → 0 ≤ rho5 X Y b v g e i ∧ rho5 X Y b v g e i ≤ 255 := by
  intro i hi
  unfold rho5
  split
  · have := bX (X.getD i 0) (by rw [List.getD_eq_getElem?_getD, List.getElem?_eq_getElem (by omega)]; simp)
    omega
  · have := bY (Y.getD (i - 20) 0) (by rw [List.getD_eq_getElem?_getD, List.getElem?_eq_getElem (by omega)]; simp)
    omega

theorem fact_FT (hX : X.length = 20) (hY : Y.length = 20) {s : Int} (h : lexI X Y = s) (hne : X ≠ Y) : Fr.map (LF.den (rho5 X Y b v g e)) ≠ To.map (LF.den (rho5 X Y b v g e)) ∧ lexI (Fr.map (LF.den (rho5 X Y b v g e))) (To.map (LF.den (rho5 X Y b v g e))) = s ∧ lexI (To.map (LF.den (rho5 X Y b v g e))) (Fr.map (LF.den (rho5 X Y b v g e))) = -s := by
  rw [den5_Fr hX, den5_To hY]
  exact ⟨hne, h, by rw [lex_flip X Y (by omega), h]⟩

theorem fact_FZ (hX : X.length = 20) (bX : ∀ x ∈ X, 0 ≤ x ∧ x < 256) (hne : X ≠ Zs) : Fr.map (LF.den (rho5 X Y b v g e)) ≠ Ze.map (LF.den (rho5 X Y b v g e)) ∧ lexI (Fr.map (LF.den (rho5 X Y b v g e))) (Ze.map (LF.den (rho5 X Y b v g e))) = 1 ∧ lexI (Ze.map (LF.den (rho5 X Y b v g e))) (Fr.map (LF.den (rho5 X Y b v g e))) = -1 := by
  rw [den5_Fr hX, den_Ze]
  have := lex_zero X 20 hX (fun x hx => (bX x hx).1) hne
  exact ⟨hne, this, by rw [lex_flip X Zs (by rw [hX]; rfl), show lexI X Zs = 1 from this]⟩

theorem fact_TZ (hY : Y.length = 20) (bY : ∀ x ∈ Y, 0 ≤ x ∧ x < 256) (hne : Y ≠ Zs) : To.map (LF.den (rho5 X Y b v g e)) ≠ Ze.map (LF.den (rho5 X Y b v g e)) ∧ lexI (To.map (LF.den (rho5 X Y b v g e))) (Ze.map (LF.den (rho5 X Y b v g e))) = 1 ∧ lexI (Ze.map (LF.den (rho5 X Y b v g e))) (To.map (LF.den (rho5 X Y b v g e))) = -1 := by
  rw [den5_To hY, den_Ze]
  have := lex_zero Y 20 hY (fun x hx => (bY x hx).1) hne
  exact ⟨hne, this, by rw [lex_flip Y Zs (by rw [hY]; rfl), show lexI Y Zs = 1 from this]⟩

/-- one of the ways in which two addresses stand is theirs. -/
theorem pat_of (hX : X.length = 20) (hY : Y.length = 20) (bX : ∀ x ∈ X, 0 ≤ x ∧ x < 256) (bY : ∀ x ∈ Y, 0 ≤ x ∧ x < 256) : ∃ p, (p = pat0 ∨ p = pat1 ∨ p = pat2 ∨ p = pat3 ∨ p = pat4 ∨ p = pat5) ∧ p.a.map (LF.den (rho5 X Y b v g e)) = X ∧ p.b.map (LF.den (rho5 X Y b v g e)) = Y ∧
    ∀ q ∈ p.ne, q.1.map (LF.den (rho5 X Y b v g e)) ≠ q.2.1.map (LF.den (rho5 X Y b v g e)) ∧ lexI (q.1.map (LF.den (rho5 X Y b v g e))) (q.2.1.map (LF.den (rho5 X Y b v g e))) = q.2.2 ∧ lexI (q.2.1.map (LF.den (rho5 X Y b v g e))) (q.1.map (LF.den (rho5 X Y b v g e))) = -q.2.2 := by
  by_cases hXZ : X = Zs
  · by_cases hYZ : Y = Zs
    · exact ⟨pat0, by simp, by rw [hXZ]; exact den_Ze, by rw [hYZ]; exact den_Ze, by simp [pat0]⟩
    · refine ⟨pat2, by simp, ?_, den5_To hY, ?_⟩
      · exact den_Ze.trans hXZ.symm
      · intro q hq
        simp only [pat2, List.mem_singleton] at hq
        subst hq
        exact fact_TZ hY bY hYZ
  · by_cases hYZ : Y = Zs
    · refine ⟨pat3, by simp, den5_Fr hX, ?_, ?_⟩
      · exact den_Ze.trans hYZ.symm
      · intro q hq
        simp only [pat3, List.mem_singleton] at hq
        subst hq
        exact fact_FZ hX bX hXZ
    · by_cases hXY : X = Y
      · refine ⟨pat1, by simp, den5_Fr hX, ?_, ?_⟩
        · exact (den5_Fr hX).trans hXY
        · intro q hq
          simp only [pat1, List.mem_singleton] at hq
          subst hq
          exact fact_FZ hX bX hXZ
      · rcases lex_ne X Y (by omega) hXY with hl | hl
        · refine ⟨pat4, by simp, den5_Fr hX, den5_To hY, ?_⟩
          intro q hq
          simp only [pat4, List.mem_cons, List.not_mem_nil, or_false] at hq
          rcases hq with rfl | rfl | rfl
          · exact fact_FT hX hY hl hXY
          · exact fact_FZ hX bX hXZ
          · exact fact_TZ hY bY hYZ
        · refine ⟨pat5, by simp, den5_Fr hX, den5_To hY, ?_⟩
          intro q hq
          simp only [pat5, List.mem_cons, List.not_mem_nil, or_false] at hq
          rcases hq with rfl | rfl | rfl
          · exact fact_FT hX hY hl hXY
          · exact fact_FZ hX bX hXZ
          · exact fact_TZ hY bY hYZ

theorem r40 : rho5 X Y b v g e 40 = b := rfl
theorem r41 : rho5 X Y b v g e 41 = v := rfl
theorem r42 : rho5 X Y b v g e 42 = g := rfl
theorem r43 : rho5 X Y b v g e 43 = e := rfl

/-- whatever is handed in: true is handed back, and what was there is as it was. -/
theorem moves (hall : AllOk) (hX : X.length = 20) (hY : Y.length = 20) (bX : ∀ x ∈ X, 0 ≤ x ∧ x < 256) (bY : ∀ x ∈ Y, 0 ≤ x ∧ x < 256)
    (hb : 0 ≤ b ∧ b ≤ 18446744073709551615) (hv : 0 ≤ v ∧ v ≤ 18446744073709551615) (hg : 0 ≤ g ∧ g ≤ 18446744073709551615) (he : -9223372036854775808 ≤ e ∧ e ≤ 9223372036854775807) {W : World} (hW : Ready W) :
    Calls Tryz.prog 3 #[.agg (X.map (.int .u8)).toArray, .agg (Y.map (.int .u8)).toArray, .int .u64 b, .int .u64 v, .int .u64 g, .int .i64 e] W (Done W) := by
  have hby := fun i hi => bytes5 (b := b) (v := v) (g := g) (e := e) hX hY bX bY i hi
  have hf : Fr.map (LF.den (rho5 X Y b v g e)) = X := den5_Fr hX
  have ht : To.map (LF.den (rho5 X Y b v g e)) = Y := den5_To hY
  have use : ∀ (L : Leaf), leafOk L = true → L.fs.holds (rho5 X Y b v g e) → L.a.map (LF.den (rho5 X Y b v g e)) = X → L.b.map (LF.den (rho5 X Y b v g e)) = Y → L.bl.den (rho5 X Y b v g e) = b → L.vl.den (rho5 X Y b v g e) = v →
      L.g.den (rho5 X Y b v g e) = g → L.e.den (rho5 X Y b v g e) = e →
      Calls Tryz.prog 3 #[.agg (X.map (.int .u8)).toArray, .agg (Y.map (.int .u8)).toArray, .int .u64 b, .int .u64 v, .int .u64 g, .int .i64 e] W (Done W) := by
    intro L h1 h2 h3 h4 h5 h6 h7 h8
    have := leaf_calls h1 h2 hW
    rw [h3, h4, h5, h6, h7, h8] at this
    exact this
  have v40 : (vL 40).den (rho5 X Y b v g e) = b := den_vL 40
  have v41 : (vL 41).den (rho5 X Y b v g e) = v := den_vL 41
  have v42 : (vL 42).den (rho5 X Y b v g e) = g := den_vL 42
  have v43 : (vL 43).den (rho5 X Y b v g e) = e := den_vL 43
  by_cases hbe : e ≤ 0 ∨ 3 ≤ e
  · by_cases hb0 : b = 0
    · rcases hbe with h | h
      · refine use leafE0 hall.e0 ⟨hby, ?_, by simp [leafE0]⟩ hf ht (by rw [hb0]; exact den_cL 0) v41 v42 v43
        simp only [leafE0, vall, gall, eneg, List.cons_append, List.nil_append, List.forall_mem_cons, List.not_mem_nil, false_implies, implies_true, and_true, evT, r41, r42, r43]
        omega
      · refine use leafE1 hall.e1 ⟨hby, ?_, by simp [leafE1]⟩ hf ht (by rw [hb0]; exact den_cL 0) v41 v42 v43
        simp only [leafE1, vall, gall, ebig, List.cons_append, List.nil_append, List.forall_mem_cons, List.not_mem_nil, false_implies, implies_true, and_true, evT, r41, r42, r43]
        omega
    · rcases hbe with h | h
      · refine use leafE2 hall.e2 ⟨hby, ?_, by simp [leafE2]⟩ hf ht v40 v41 v42 v43
        simp only [leafE2, vall, gall, eneg, bpos, List.cons_append, List.nil_append, List.forall_mem_cons, List.not_mem_nil, false_implies, implies_true, and_true, evT, r40, r41, r42, r43]
        omega
      · refine use leafE3 hall.e3 ⟨hby, ?_, by simp [leafE3]⟩ hf ht v40 v41 v42 v43
        simp only [leafE3, vall, gall, ebig, bpos, List.cons_append, List.nil_append, List.forall_mem_cons, List.not_mem_nil, false_implies, implies_true, and_true, evT, r40, r41, r42, r43]
        omega
  · have hee : e = 1 ∨ e = 2 := by omega
    have he' : (cL e).den (rho5 X Y b v g e) = e := den_cL e
    by_cases hgb : 4294967296 ≤ g
    · by_cases hb0 : b = 0
      · refine use (leafG0 e) (hall.g0 e hee) ⟨hby, ?_, by simp [leafG0]⟩ hf ht (by rw [hb0]; exact den_cL 0) v41 v42 he'
        simp only [leafG0, vall, gbad, List.cons_append, List.nil_append, List.forall_mem_cons, List.not_mem_nil, false_implies, implies_true, and_true, evT, r41, r42]
        omega
      · refine use (leafG1 e) (hall.g1 e hee) ⟨hby, ?_, by simp [leafG1]⟩ hf ht v40 v41 v42 he'
        simp only [leafG1, vall, gbad, bpos, List.cons_append, List.nil_append, List.forall_mem_cons, List.not_mem_nil, false_implies, implies_true, and_true, evT, r40, r41, r42]
        omega
    · by_cases hvb : b < v
      · by_cases hb0 : b = 0
        · refine use (leafF0 e) (hall.f0 e hee) ⟨hby, ?_, by simp [leafF0]⟩ hf ht (by rw [hb0]; exact den_cL 0) v41 v42 he'
          simp only [leafF0, vpos, gok, List.cons_append, List.nil_append, List.forall_mem_cons, List.not_mem_nil, false_implies, implies_true, and_true, evT, r41, r42]
          omega
        · refine use (leafF1 e) (hall.f1 e hee) ⟨hby, ?_, by simp [leafF1]⟩ hf ht v40 v41 v42 he'
          simp only [leafF1, vpos, gok, bpos, List.cons_append, List.nil_append, List.forall_mem_cons, List.not_mem_nil, false_implies, implies_true, and_true, evT, r40, r41, r42]
          omega
      · obtain ⟨p, hp, ha, hbb, hne⟩ := pat_of (b := b) (v := v) (g := g) (e := e) hX hY bX bY
        obtain ⟨m0, m1, m2, m3⟩ := hall.m p hp e hee
        by_cases hb0 : b = 0
        · have hv0 : v = 0 := by omega
          refine use (leafM0 p e) m0 ⟨hby, ?_, hne⟩ ha hbb (by rw [hb0]; exact den_cL 0) (by rw [hv0]; exact den_cL 0) v42 he'
          simp only [leafM0, gok, List.forall_mem_cons, List.not_mem_nil, false_implies, implies_true, and_true, evT, r42]
          omega
        · by_cases hv0 : v = 0
          · refine use (leafM1 p e) m1 ⟨hby, ?_, hne⟩ ha hbb v40 (by rw [hv0]; exact den_cL 0) v42 he'
            simp only [leafM1, gok, bpos, List.cons_append, List.nil_append, List.forall_mem_cons, List.not_mem_nil, false_implies, implies_true, and_true, evT, r40, r42]
            omega
          · by_cases hvb' : v = b
            · refine use (leafM2 p e) m2 ⟨hby, ?_, hne⟩ ha hbb v40 (v40.trans hvb'.symm) v42 he'
              simp only [leafM2, gok, bpos, List.cons_append, List.nil_append, List.forall_mem_cons, List.not_mem_nil, false_implies, implies_true, and_true, evT, r40, r42]
              omega
            · refine use (leafM3 p e) m3 ⟨hby, ?_, hne⟩ ha hbb v40 v41 v42 he'
              simp only [leafM3, gok, bpos, vpos, List.cons_append, List.nil_append, List.forall_mem_cons, List.not_mem_nil, false_implies, implies_true, and_true, evT, r40, r41, r42]
              omega

end Mv
end Go.Am
