/- The calls whose answers are taken as known are as they are taken. -/
import Derived.Test.YtbkefimllhmfjaaGreatDoorM2
set_option linter.unusedVariables false
set_option linter.unusedSimpArgs false
set_option linter.unusedSectionVars false
namespace Go.Am
open Go.Proofs
section Mv
variable {ρ : Nat → Int}

theorem follows : Tryz.prog.follows .mixedOrders = true := by rfl

theorem okV_inv {b : Bool} {r : Option (List (Out LF))} (h : okV b r = true) : ∃ o, r = some [o] ∧ o.ex = .val (.bool b) := by
  unfold okV at h
  split at h
  · rename_i o
    split at h
    · rename_i c hc
      have : b = c := by simpa using h
      exact ⟨o, rfl, by rw [hc, this]⟩
    · cases h
  · cases h

theorem okB_inv {r : Option (List (Out LF))} (h : okB r = true) : ∃ o, r = some [o] ∧ o.ex = .val (.bool true) := by
  unfold okB at h
  split at h
  · rename_i o
    split at h
    · rename_i hc
      exact ⟨o, rfl, hc⟩
    · cases h
  · cases h

theorem F0_holds : F0.holds ρ := ⟨fun v h => by simp [F0] at h, fun p h => by simp [F0] at h, fun p h => by simp [F0] at h⟩

theorem globals_lt : Tryz.prog.globals.size < 8 := by decide

theorem looks_of {H : AH LF} (h : looksG H = true) : Looks (LF.den ρ) HG H := by
  unfold looksG at h
  simp only [Bool.and_eq_true, Nat.ble_eq] at h
  obtain ⟨h1, h2⟩ := h
  have hblk : ∀ i, HG.blk i = if i = 0 then .cells (Row.ofList [GV]) true else .dead := by
    intro i
    simp only [HG, AH.blk, Tr.get_set]
    split
    · rfl
    · simp [Tr.get_nil]
  refine ⟨h1, fun i hi => ?_, fun i => ?_⟩
  · rw [hblk, if_neg]
    have : HG.next = 8 := rfl
    omega
  · rw [hblk]
    by_cases e : i = 0
    · subst e
      rw [if_pos rfl]
      split at h2
      · rename_i row ro hr
        simp only [Bool.and_eq_true, Nat.ble_eq] at h2
        refine .inr ⟨_, row, ro, rfl, hr, h2.1, fun j hj => ?_⟩
        have hj0 : j = 0 := by
          have : (Row.ofList [GV]).sz = 1 := rfl
          omega
        subst hj0
        refine ⟨rfl, fun σ v hv => ?_⟩
        have hb := beq_sound (σ := σ) (domL_ok (F0_holds (ρ := ρ))) _ _ h2.2 v
        exact hb.1 hv
      · cases h2
    · rw [if_neg e]; exact .inl rfl

theorem u8L_rel {σ : Sub} : ∀ (l : List LF) (rs : List Value), VRels (LF.den ρ) σ (u8L l) rs ↔ rs = (l.map (LF.den ρ)).map (.int .u8)
  | [], rs => by simp [u8L, VRels]
  | a :: l, rs => by
    simp only [u8L, VRels, List.map_cons]
    constructor
    · rintro ⟨v, vs, rfl, hv, hvs⟩
      simp only [VRel] at hv
      rw [hv, (u8L_rel l vs).1 hvs]
    · rintro rfl
      exact ⟨_, _, rfl, by simp [VRel], (u8L_rel l _).2 rfl⟩

theorem u8s_u8L : ∀ (l : List (AV LF)) (x : List LF), u8s l = some x → l = u8L x
  | [], x, h => by simp [u8s] at h; subst h; rfl
  | a :: l, x, h => by
    unfold u8s at h
    split at h
    · rename_i h0; cases h0
    · rename_i n r h0
      cases h0
      split at h
      · rename_i y hy
        cases h
        rw [u8s_u8L l y hy]
        rfl
      · cases h
    · cases h

/-- two rows of bytes that are the same, or part at a place. -/
theorem part_at : ∀ (X Y : List Int), X.length = Y.length → (X = Y ∧ lexI X Y = 0) ∨ ∃ p a b, X[p]? = some a ∧ Y[p]? = some b ∧ X.take p = Y.take p ∧ ((a < b ∧ lexI X Y = -1) ∨ (b < a ∧ lexI X Y = 1))
  | [], [], _ => .inl ⟨rfl, rfl⟩
  | [], _ :: _, h => by simp at h
  | _ :: _, [], h => by simp at h
  | a :: X, b :: Y, h => by
    simp only [List.length_cons, Nat.add_right_cancel_iff] at h
    by_cases e : a = b
    · subst e
      simp only [lexI, if_true]
      rcases part_at X Y h with ⟨rfl, h2⟩ | ⟨p, c, d, h1, h2, h3, h4⟩
      · exact .inl ⟨rfl, h2⟩
      · exact .inr ⟨p + 1, c, d, by simpa using h1, by simpa using h2, by simp [h3], h4⟩
    · refine .inr ⟨0, a, b, rfl, rfl, rfl, ?_⟩
      simp only [lexI, if_neg e]
      by_cases hlt : a < b
      · exact .inl ⟨hlt, by rw [if_pos hlt]⟩
      · exact .inr ⟨by omega, by rw [if_neg hlt]⟩

def rho (X Y : List Int) : Nat → Int := fun i => if i < 20 then X.getD i 0 else Y.getD (i - 20) 0

theorem den_vL (i : Nat) : (vL i).den ρ = ρ i := by simp [LF.den, vL, evT]

theorem map_getD (X : List Int) (n : Nat) (h : X.length = n) : (List.range n).map (fun i => X.getD i 0) = X := by
  apply List.ext_getElem
  · simp [h]
  · intro i h1 h2
    simp [List.getD_eq_getElem?_getD, h2]

theorem den_Fr (X Y : List Int) (h : X.length = 20) : Fr.map (LF.den (rho X Y)) = X := by
  have : Fr = (List.range 20).map vL := rfl
  rw [this, List.map_map]
  conv => rhs; rw [← map_getD X 20 h]
  apply List.map_congr_left
  intro i hi
  simp only [Function.comp, den_vL, rho, if_pos (List.mem_range.1 hi)]

theorem den_To (X Y : List Int) (h : Y.length = 20) : To.map (LF.den (rho X Y)) = Y := by
  have : To = (List.range 20).map fun i => vL (20 + i) := rfl
  rw [this, List.map_map]
  conv => rhs; rw [← map_getD Y 20 h]
  apply List.map_congr_left
  intro i hi
  simp only [Function.comp, den_vL, rho, if_neg (show ¬ (20 + i < 20) by omega), Nat.add_sub_cancel_left]

theorem mixL_map (g : LF → Int) : ∀ (n : Nat) (x y : List LF), x.length = y.length → n ≤ x.length → (x.map g).take n = (y.map g).take n → (mixL n x y).map g = y.map g
  | 0, _, _, _, _, _ => rfl
  | n + 1, [], _, _, h, _ => by simp at h
  | n + 1, _ :: _, [], h, _, _ => by simp at h
  | n + 1, a :: x, b :: y, h, hn, ht => by
    simp only [List.map_cons, List.take_succ_cons, List.cons.injEq] at ht
    simp only [mixL, List.map_cons]
    rw [mixL_map g n x y (by simpa using h) (by simpa using hn) ht.2, ht.1]

theorem upto_mem {n i : Nat} (h : i < n) : i ∈ upto n := by
  induction n with
  | zero => omega
  | succ n ih =>
    simp only [upto, List.mem_cons]
    by_cases e : i = n
    · exact .inl e
    · exact .inr (ih (by omega))

/-- the order of two rows of bytes. -/
theorem ahead_quiet {σ : Sub} {H : AH LF} {w : World} (h : HRel (LF.den ρ) σ H w) (hG : GOk Tryz.prog σ) {X Y : List Int} (hX : X.length = 20) (hY : Y.length = 20) (bX : ∀ x ∈ X, 0 ≤ x ∧ x < 256) (bY : ∀ x ∈ Y, 0 ≤ x ∧ x < 256) (hn : 8 ≤ H.next) :
    Quiet (LF.den ρ) Tryz.prog σ H w 9 #[.agg (X.map (.int .u8)).toArray, .agg (Y.map (.int .u8)).toArray] (.bool (iblt (lexI X Y) 0)) := by
  have hbytes : ∀ v, v < 40 → 0 ≤ rho X Y v ∧ rho X Y v ≤ 255 := by
    intro v hv
    unfold rho
    split
    · rename_i hlt
      have := bX (X.getD v 0) (by rw [List.getD_eq_getElem?_getD, List.getElem?_eq_getElem (by omega)]; simp)
      omega
    · have := bY (Y.getD (v - 20) 0) (by rw [List.getD_eq_getElem?_getD, List.getElem?_eq_getElem (by omega)]; simp)
      omega
  have hlook : Looks (LF.den (rho X Y)) HE { next := H.next, m := .nil } := ⟨hn, fun i _ => rfl, fun i => .inl rfl⟩
  have go : ∀ (fs : Facts) (T : List LF) (b : Bool), fs.holds (rho X Y) → okV b (interp Tryz.prog (domL fs) 3000 (.call 9 [.agg (u8L Fr), .agg (u8L T)] HE)) = true → T.map (LF.den (rho X Y)) = Y → (AV.unders 8 [.agg (u8L Fr), .agg (u8L T)] : Bool) = true →
      Quiet (LF.den ρ) Tryz.prog σ H w 9 #[.agg (X.map (.int .u8)).toArray, .agg (Y.map (.int .u8)).toArray] (.bool b) := by
    intro fs T b hf hok hT hu
    obtain ⟨o, ho, hex⟩ := okV_inv hok
    refine Quiet.other (den' := LF.den (rho X Y)) ?_ h
    refine quiet_of_run (interp_ok (domL_ok hf) (draw_ok (domL_ok hf) follows) 3000) ho hex hlook globals_lt hu (blank_rel h) hG ?_
    simp only [VRels, VRel]
    refine ⟨_, _, rfl, ⟨_, rfl, (u8L_rel _ _).2 (by rw [den_Fr X Y hX])⟩, _, _, rfl, ⟨_, rfl, (u8L_rel _ _).2 (by rw [hT])⟩, rfl⟩
  have under : ∀ l : List LF, AV.unders 8 (u8L l) = true := by
    intro l
    induction l with
    | nil => rfl
    | cons a l ih => simp [u8L, AV.unders, AV.under, ih]
  rcases part_at X Y (by omega) with ⟨e, hl⟩ | ⟨p, a, b, h1, h2, h3, h4⟩
  · rw [hl]
    have := go ⟨40, [], []⟩ Fr false ⟨hbytes, by simp, by simp⟩ ahead_eq (by rw [den_Fr X Y hX, e]) (by simp [AV.unders, AV.under, under])
    exact this
  · have hp : p < 20 := by
      rcases Nat.lt_or_ge p 20 with q | q
      · exact q
      · rw [List.getElem?_eq_none (by omega)] at h1; cases h1
    have hpx : rho X Y p = a := by
      unfold rho
      rw [if_pos hp, List.getD_eq_getElem?_getD, h1]; rfl
    have hpy : rho X Y (20 + p) = b := by
      unfold rho
      rw [if_neg (by omega), List.getD_eq_getElem?_getD, show 20 + p - 20 = p by omega, h2]; rfl
    have hmix : (mixL p Fr To).map (LF.den (rho X Y)) = Y := by
      rw [mixL_map _ p Fr To rfl (by show p ≤ 20; omega) (by rw [den_Fr X Y hX, den_To X Y hY]; exact h3), den_To X Y hY]
    have hr := List.all_eq_true.1 ahead_runs p (upto_mem hp)
    simp only [Bool.and_eq_true] at hr
    rcases h4 with ⟨hlt, hl⟩ | ⟨hlt, hl⟩
    · rw [hl]
      have := go ⟨40, [([(p, -1), (20 + p, 1)], 1)], []⟩ (mixL p Fr To) true ⟨hbytes, by
        intro q hq
        rw [List.mem_singleton] at hq
        subst hq
        simp only [evT, hpx, hpy]
        omega, by simp⟩ hr.1 hmix (by simp [AV.unders, AV.under, under])
      exact this
    · rw [hl]
      have := go ⟨40, [([(p, 1), (20 + p, -1)], 1)], []⟩ (mixL p Fr To) false ⟨hbytes, by
        intro q hq
        rw [List.mem_singleton] at hq
        subst hq
        simp only [evT, hpx, hpy]
        omega, by simp⟩ hr.2 hmix (by simp [AV.unders, AV.under, under])
      exact this

theorem tblM_ok {fs : Facts} (hf : fs.holds ρ) : TblOk (LF.den ρ) Tryz.prog (tblM (domL fs)) := by
  intro f args H v e σ w ra h hG ha
  unfold tblM at e
  simp only [nbeq, Bool.cond_eq_ite, decide_eq_true_eq] at e
  split at e
  · rename_i hf7
    subst hf7
    split at e
    · split at e
      · rename_i hlook
        cases e
        obtain ⟨o, ho, hex⟩ := okB_inv awake_run
        exact quiet_of_run (interp_ok (domL_ok F0_holds) (draw_ok (domL_ok F0_holds) follows) 3000) ho hex (looks_of hlook) globals_lt rfl h hG ha
      · cases e
    · cases e
  · split at e
    · rename_i hf9
      subst hf9
      split at e
      · rename_i a b
        split at e
        · rename_i x y hx hy
          split at e
          · rename_i hlen
            simp only [Bool.and_eq_true, decide_eq_true_eq] at hlen
            obtain ⟨n, hn, rfl⟩ := Option.map_eq_some_iff.1 e
            obtain ⟨hb, hl⟩ := lexL_sound hf hn
            have ea := u8s_u8L _ _ hx
            have eb := u8s_u8L _ _ hy
            subst ea eb
            simp only [VRels, VRel] at ha
            obtain ⟨v1, vs1, e1, ⟨c1, rfl, h1⟩, v2, vs2, rfl, ⟨c2, rfl, h2⟩, rfl⟩ := ha
            rw [u8L_rel] at h1 h2
            have hra : ra = #[.agg ((x.map (LF.den ρ)).map (.int .u8)).toArray, .agg ((y.map (LF.den ρ)).map (.int .u8)).toArray] := by
              apply Array.toList_inj.1
              rw [e1]
              rw [← h1, ← h2]
            subst hra
            rw [← hl]
            have h8 : 8 ≤ H.next := by
              obtain ⟨l, hl', _⟩ := hG 7 (by decide)
              exact h.dom 7 l hl'
            exact ahead_quiet h hG (by simp [hlen.1]) (by simp [hlen.2]) (fun z hz => by
              obtain ⟨q, hq, rfl⟩ := List.mem_map.1 hz
              exact hb q (by simp [hq])) (fun z hz => by
              obtain ⟨q, hq, rfl⟩ := List.mem_map.1 hz
              exact hb q (by simp [hq])) h8
          · cases e
        · cases e
      · cases e
    · cases e

end Mv
end Go.Am
