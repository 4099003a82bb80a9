/- For every two addresses, balance, value, gas and engine the law vouchlaw15.ExecMoves returns true: between accounts without code a value moves whole or not at all, and no step is made. Conditions: those of the given row (the listed package-level variables read as the program's own text lays them, which the card ties to that text); no other. -/
import Derived.Test.YtbkefimllhmfjaaGreatDoorM4
import Derived.Test.YtbkefimllhmfjaaGreatDoorR
import Derived.Test.YtbkefimllhmfjaaGreatDoorP0
import Derived.Test.YtbkefimllhmfjaaGreatDoorP1
import Derived.Test.YtbkefimllhmfjaaGreatDoorP2
import Derived.Test.YtbkefimllhmfjaaGreatDoorP3
import Derived.Test.YtbkefimllhmfjaaGreatDoorP4
import Derived.Test.YtbkefimllhmfjaaGreatDoorP5
import Derived.Test.YtbkefimllhmfjaaGreatDoorCards
import Derived.Test.YtbkefimllhmfjaaGreatDoorT2
import Derived.Test.YtbkefimllhmfjaaGreatDoorF2
import Derived.ChangeSame
import Derived.OpenShut
import Derived.LaidHandle
import Derived.LaidLaws
import Derived.RowKit
import Derived.RowKitTokens
import Derived.JoinedOf
import Derived.SevenTiedAt
import Derived.Deep.DeepHandedRow
import Derived.Below
import GoSem.ClaimGoes
set_option linter.unusedVariables false
set_option linter.unusedSimpArgs false
set_option linter.unusedSectionVars false
namespace Go.Proofs.YtbkefimllhmfjaaGreatDoor
open Go.ChangeShapes Go.WideShapes Go.ChangeAt Go.RowKit Go.Am

theorem all_ok : AllOk where
  e0 := okE0
  e1 := okE1
  e2 := okE2
  e3 := okE3
  g0 := by
    rintro e (rfl | rfl)
    · exact okG0_1
    · exact okG0_2
  g1 := by
    rintro e (rfl | rfl)
    · exact okG1_1
    · exact okG1_2
  f0 := by
    rintro e (rfl | rfl)
    · exact okF0_1
    · exact okF0_2
  f1 := by
    rintro e (rfl | rfl)
    · exact okF1_1
    · exact okF1_2
  m := by
    rintro p (rfl | rfl | rfl | rfl | rfl | rfl) e (rfl | rfl)
    · exact ⟨okM0_0_1, okM1_0_1, okM2_0_1, okM3_0_1⟩
    · exact ⟨okM0_0_2, okM1_0_2, okM2_0_2, okM3_0_2⟩
    · exact ⟨okM0_1_1, okM1_1_1, okM2_1_1, okM3_1_1⟩
    · exact ⟨okM0_1_2, okM1_1_2, okM2_1_2, okM3_1_2⟩
    · exact ⟨okM0_2_1, okM1_2_1, okM2_2_1, okM3_2_1⟩
    · exact ⟨okM0_2_2, okM1_2_2, okM2_2_2, okM3_2_2⟩
    · exact ⟨okM0_3_1, okM1_3_1, okM2_3_1, okM3_3_1⟩
    · exact ⟨okM0_3_2, okM1_3_2, okM2_3_2, okM3_3_2⟩
    · exact ⟨okM0_4_1, okM1_4_1, okM2_4_1, okM3_4_1⟩
    · exact ⟨okM0_4_2, okM1_4_2, okM2_4_2, okM3_4_2⟩
    · exact ⟨okM0_5_1, okM1_5_1, okM2_5_1, okM3_5_1⟩
    · exact ⟨okM0_5_2, okM1_5_2, okM2_5_2, okM3_5_2⟩

theorem own : ownKnob Tryz.prog.godebug = none := by kernel_rfl
theorem et : Tryz.prog.globalNamed "errors.errorType" = some 0 := by kernel_rfl
theorem rt : (Tryz.prog.cutTypes.find? (·.1 == "internal/reflectlite.rtype")).map (·.2) = some 161 := by kernel_rfl
theorem oneRow : ((List.range 600).filter fun t => Tryz.prog.rowNamed t [101, 114, 114, 111, 114]) = [36] := by kernel_rfl
theorem size : Tryz.prog.types.size = 600 := by kernel_rfl
theorem handles : (Rows.execMovesRow.laid.filter fun x => x.2.handleName?.isSome) = [("errors.errorType", Rows.laid_errors_errorType)] := by kernel_rfl

set_option maxRecDepth 100000 in
/-- what the row's list gives: package errors' variable. -/
theorem handle_of_laid {W : World} (h : laidMetH Tryz.prog Rows.execMovesRow.laid W) : W.cell? ⟨0, 0, none⟩ = some (.iface 161 (.agg #[.pointer (some ⟨7, 36, none⟩)])) := by
  have h' : handlesMet Tryz.prog [("errors.errorType", Rows.laid_errors_errorType)] W := by
    unfold laidMetH at h
    rw [handles] at h
    exact h.2
  obtain ⟨name, u, ty, e1, e2, e3, e4, e5⟩ := h' _ (List.mem_singleton.2 rfl)
  have en : name = [101, 114, 114, 111, 114] := (Option.some.inj e1).symm
  subst en
  obtain rfl := Option.some.inj (rt.symm.trans e2)
  have hm : ty ∈ (List.range 600).filter fun t => Tryz.prog.rowNamed t [101, 114, 114, 111, 114] := List.mem_filter.2 ⟨List.mem_range.2 (by rw [← size]; exact e3), e4⟩
  rw [oneRow] at hm
  obtain rfl := List.mem_singleton.1 hm
  have hh : typeHandle Tryz.prog 36 = .pointer (some ⟨7, 36, none⟩) := by kernel_rfl
  rw [hh] at e5
  simpa using World.var?_cell et e5 0

theorem low : 7 < (begin Tryz.prog (fun _ _ => 0) default).world.heap.size := of_decide_eq_true (by kernel_rfl)
theorem gsize : Tryz.prog.globals.size = 7 := by kernel_rfl

theorem ready {W : World} (h : laidMetH Tryz.prog Rows.execMovesRow.laid W) (hs : W.ShapedOpen Tryz.prog) : Ready W := by
  constructor
  · obtain ⟨o, _, ho, _⟩ := hs.2 7 (by rw [gsize]; exact Nat.le_refl _) low
    rcases Nat.lt_or_ge 7 W.heap.size with q | q
    · exact q
    · rw [Array.getElem?_eq_none q] at ho; cases ho
  · have hc := handle_of_laid h
    unfold World.cell? at hc
    split at hc
    · rename_i cs t fr h0
      exact ⟨cs, t, fr, h0, by simpa using hc⟩
    · cases hc

section
variable {H : Type} {enc : TypeId × Value → H} {w : World} {base : Nat} {spare : Nat → Bool} {held : Bool}

theorem cells23 : Tryz.prog.cellsOf 23 = 20 := by kernel_rfl
theorem cells5 : Tryz.prog.cellsOf 5 = 1 := by kernel_rfl

set_option maxRecDepth 100000 in
theorem trod_byte {m : Nat} {c : Value} {x : DataW H × List MemPlace} (h : DataW.trod enc Tryz.prog w base spare held m 5 [c] = some x) : ∃ n, c = .int .u8 n ∧ (Lit.int .u8 n).wf = true ∧ x = (.lit (.int .u8 n), []) := by
  cases m with
  | zero => simp [DataW.trod] at h
  | succ m =>
    unfold DataW.trod at h
    rw [Tryz.underlying5] at h
    cases c <;> simp at h
    rename_i k n
    obtain ⟨⟨hk, hw⟩, hx⟩ := h
    subst hk
    exact ⟨n, rfl, hw, hx.symm⟩

set_option maxRecDepth 100000 in
theorem trod_byte_mk {m : Nat} {n : Int} (h : (Lit.int .u8 n).wf = true) : DataW.trod enc Tryz.prog w base spare held (m + 1) 5 [.int .u8 n] = some ((.lit (.int .u8 n) : DataW H), []) := by
  unfold DataW.trod
  rw [Tryz.underlying5]
  simp [h]

set_option maxRecDepth 100000 in
theorem bytes_of {m : Nat} : ∀ (cs : List Value) (xs : List (DataW H × List MemPlace)), cs.length = xs.length → (∀ (i : Nat) (c : Value), cs[i]? = some c → DataW.trod enc Tryz.prog w base spare held m 5 [c] = xs[i]?) →
    ∃ X : List Int, cs = X.map (.int .u8) ∧ xs = X.map (fun n => (.lit (.int .u8 n), [])) ∧ ∀ n ∈ X, (Lit.int .u8 n).wf = true
  | [], [], _, _ => ⟨[], rfl, rfl, by simp⟩
  | [], _ :: _, h, _ => by simp at h
  | _ :: _, [], h, _ => by simp at h
  | c :: cs, x :: xs, h, hi => by
    obtain ⟨n, rfl, hw, rfl⟩ := trod_byte (by simpa using hi 0 c rfl)
    obtain ⟨X, rfl, rfl, hX⟩ := bytes_of cs xs (by simpa using h) (fun i c hc => by simpa using hi (i + 1) c (by simpa using hc))
    refine ⟨n :: X, rfl, rfl, fun z hz => ?_⟩
    rcases List.mem_cons.1 hz with rfl | hz
    · exact hw
    · exact hX z hz

set_option maxRecDepth 100000 in
/-- a row of twenty bytes, opened. -/
theorem open_row {r : Reach} {b0 : Nat} {v : Value} {d : DataW H} {ps : List MemPlace} (hval : Value.okWide Tryz.prog w r b0 23 v) (hd : DataW.Trod enc Tryz.prog w base spare held 23 v d ps) :
    ∃ X : List Int, X.length = 20 ∧ v = .agg (X.map (.int .u8)).toArray ∧ d = .agg (X.map fun n => .lit (.int .u8 n)) ∧ ps = [] ∧ ∀ n ∈ X, (Lit.int .u8 n).wf = true := by
  unfold Value.okWide at hval
  rw [Tryz.underlying23] at hval
  obtain ⟨cs, rfl, hsz, _⟩ := hval
  obtain ⟨fuel, hd⟩ := hd
  obtain ⟨xs, m, rfl, hx, hl, hn, hi⟩ := DataW.trod_array Tryz.underlying23 hd
  rw [cells23] at hsz
  have hc : (Value.agg cs).cells.toList = cs.toList := rfl
  rw [hc] at hi
  simp only [cells5, Nat.mul_one] at hi
  obtain ⟨X, h1, h2, h3⟩ := bytes_of (m := m) (enc := enc) (w := w) (base := base) (spare := spare) (held := held) cs.toList xs (by simp [hsz, hn]) (fun i c hc => by
    have hlt : i < 20 := by
      have := (List.getElem?_eq_some_iff.1 hc).1
      simp [hsz] at this
      exact this
    rw [← hi i hlt]
    congr 1
    obtain ⟨hlt', he⟩ := List.getElem?_eq_some_iff.1 hc
    rw [List.drop_eq_getElem_cons hlt', he]
    rfl)
  have hX : X.length = 20 := by
    have := congrArg List.length h1
    simp [hsz] at this
    omega
  refine ⟨X, hX, ?_, ?_, ?_, h3⟩
  · rw [← h1]
  · have := (Prod.mk.inj hx).1
    rw [this, h2, List.map_map]
    rfl
  · have := (Prod.mk.inj hx).2
    rw [this, h2]
    simp [List.flatMap_map]

theorem mapM_mk {α β : Type} {f : α → Option β} {g : α → β} : ∀ {l : List α}, (∀ x ∈ l, f x = some (g x)) → l.mapM f = some (l.map g)
  | [], _ => rfl
  | a :: l, h => by
    rw [List.mapM_cons, h a (by simp), mapM_mk (fun x hx => h x (by simp [hx]))]
    rfl

set_option maxRecDepth 100000 in
theorem shut_row {X : List Int} (hl : X.length = 20) (hw : ∀ n ∈ X, (Lit.int .u8 n).wf = true) : DataW.Trod enc Tryz.prog w base spare held 23 (.agg (X.map (.int .u8)).toArray) (.agg (X.map fun n => .lit (.int .u8 n))) [] := by
  refine ⟨2, ?_⟩
  unfold DataW.trod
  rw [Tryz.underlying23]
  have hc : (Value.agg (X.map (.int .u8)).toArray).cells.toList = X.map (.int .u8) := rfl
  rw [hc]
  simp only [cells23, cells5, Nat.mul_one, List.length_map, hl]
  have : ∀ i ∈ List.range 20, DataW.trod enc Tryz.prog w base spare held 1 5 (((X.map (.int .u8)).drop i).take 1) = some ((.lit (.int .u8 (X.getD i 0)) : DataW H), []) := by
    intro i hi
    have hi := List.mem_range.1 hi
    have hlt : i < X.length := by omega
    have e : ((X.map (Value.int .u8)).drop i).take 1 = [.int .u8 (X.getD i 0)] := by
      rw [List.drop_eq_getElem_cons (by simpa using hlt)]
      simp [List.getD_eq_getElem?_getD, hlt]
    rw [e]
    refine trod_byte_mk (hw _ ?_)
    rw [List.getD_eq_getElem?_getD, List.getElem?_eq_getElem hlt]
    simp
  rw [mapM_mk this]
  have hg := map_getD X 20 hl
  simp only [if_true, Option.map_some, List.map_map, Option.some.injEq, Prod.mk.injEq]
  constructor
  · congr 1
    conv => rhs; rw [← hg]
    rw [List.map_map]
    rfl
  · simp [List.flatMap_map]
end

section
variable {H : Type} {enc : TypeId × Value → H} {P : Program}
/-- what was there is as it was: so the row's promise stands. -/
theorem post_below {f : Func} {s : ChangeSpec} {apart fresh handsOn again : Bool} {W W' : World} {args : Array Value} {v : Value} {ds gs : List (DataW H)} {before pa pv : List MemPlace}
    (hW : DataW.Whole enc P f.params.toList s.vars apart W args.toList ds gs before)
    (hres : ∀ (b : Nat) (sp : Nat → Bool) (hd : Bool), DataW.TrodAll enc P W' b sp hd f.resultTypes.toList (v.resultList f.resultTypes.size) (s.fn H (ds ++ gs)).results [])
    (hargs : ∀ sp : Nat → Bool, (∀ p ∈ before, sp p.block = true) → DataW.TrodAll enc P W' 0 sp true f.params.toList args.toList (s.fn H (ds ++ gs)).args pa)
    (hvars : ∀ sp : Nat → Bool, (∀ p ∈ before, sp p.block = true) → DataW.TrodVars enc P W' sp s.vars (s.fn H (ds ++ gs)).vars pv)
    (hps : before = pa ++ pv) (hb : Below W.heap.size W W')
    (hok : ∀ (j : Nat) (t : TypeId) (r : Value), f.resultTypes[j]? = some t → (v.resultList f.resultTypes.size)[j]? = some r → Value.okWide P W' .any 0 t r) :
    s.post enc P f apart fresh handsOn again W args v W' := by
  have hlt : ∀ p ∈ before, p.block < W.heap.size := fun p hp => hW.lt p hp
  have hin : ∀ p ∈ before, (fun b => decide (b < W.heap.size)) p.block = true := fun p hp => by simpa using hlt p hp
  refine ⟨ds, gs, before, [], pa, pv, hW, hres _ _ _, hargs _ hin, hvars _ hin, World.keptBut_mono (fun p hp => ⟨hp, ?_⟩) (hb.frame (· ∈ before)), fun _ => ?_⟩
  · rw [hps, List.mem_append] at hp
    exact .inr hp
  · obtain ⟨_, _, _, _, _, hz, hn⟩ := hW
    refine ⟨hok, _, _, ([] ++ pa) ++ pv, ⟨[] ++ pa, pv, trodAll_append (hargs _ (fun _ _ => rfl)) (hres _ _ _), hvars _ (fun _ _ => rfl), rfl, ?_, ?_⟩, ?_⟩
    · intro b off hp
      have hm : MemPlace.cell b off ∈ before := by rw [hps]; simpa using hp
      rw [hb.frozen (hlt _ hm)]
      exact hz b off hm
    · intro ha
      have := hn ha
      rw [hps] at this
      simpa using this
    · intro p hp _
      rw [hps]
      simpa using hp
end

theorem bd8 {X : List Int} (h : ∀ n ∈ X, (Lit.int .u8 n).wf = true) : ∀ x ∈ X, 0 ≤ x ∧ x < 256 := fun x hx => by
  have := bounds_u8 (h x hx)
  omega

set_option maxRecDepth 100000 in
/-- what the walk gives, for every argument and every world that holds the variable. -/
theorem contract (H : Type) (enc : TypeId × Value → H) (W : World) (base : Nat) (args : Array Value) (ds gs : List (DataW H)) (before : List MemPlace)
    (hval : ∀ (j : Nat) t v, Tryz.f3.params[j]? = some t → args[j]? = some v → Value.okWide Tryz.prog W .any base t v)
    (hW : DataW.Whole enc Tryz.prog Tryz.f3.params.toList Rows.execMovesSpec.vars false W args.toList ds gs before) (hL : laidMetH Tryz.prog Rows.execMovesRow.laid W) (hS : W.ShapedOpen Tryz.prog) :
    Calls Tryz.prog 3 args W fun e W' => ∃ v, e = .returned v ∧ Rows.execMovesSpec.post enc Tryz.prog Tryz.f3 false true false false W args v W' := by
  have hW' := hW
  obtain ⟨p, q, hA0, hV, rfl, hfz, hnd⟩ := hW
  have hA : DataW.TrodAll enc Tryz.prog W 0 (fun _ => true) true Tryz.f3.params.toList args.toList ds p := hA0
  rw [Tryz.params3] at hA hval
  obtain ⟨v0, vs0, d0, ds0, p0, q0, hargs, rfl, rfl, h0, r0⟩ := trodAll_cons hA
  obtain ⟨v1, vs1, d1, ds1, p1, q1, rfl, rfl, rfl, h1, r1⟩ := trodAll_cons r0
  obtain ⟨v2, vs2, d2, ds2, p2, q2, rfl, rfl, rfl, h2, r2⟩ := trodAll_cons r1
  obtain ⟨v3, vs3, d3, ds3, p3, q3, rfl, rfl, rfl, h3, r3⟩ := trodAll_cons r2
  obtain ⟨v4, vs4, d4, ds4, p4, q4, rfl, rfl, rfl, h4, r4⟩ := trodAll_cons r3
  obtain ⟨v5, vs5, d5, ds5, p5, q5, rfl, rfl, rfl, h5, r5⟩ := trodAll_cons r4
  obtain ⟨rfl, rfl, rfl⟩ := trodAll_nil r5
  obtain rfl : args = #[v0, v1, v2, v3, v4, v5] := by cases args; simp_all
  obtain ⟨rfl, rfl⟩ := trodVars_none hV
  obtain ⟨X, hX, rfl, rfl, rfl, wX⟩ := open_row (hval 0 23 v0 rfl rfl) h0
  obtain ⟨Y, hY, rfl, rfl, rfl, wY⟩ := open_row (hval 1 23 v1 rfl rfl) h1
  obtain ⟨a2, rfl, rfl, rfl, w2⟩ := open_int Tryz.underlying24 (hval 2 24 v2 rfl rfl) h2
  obtain ⟨a3, rfl, rfl, rfl, w3⟩ := open_int Tryz.underlying24 (hval 3 24 v3 rfl rfl) h3
  obtain ⟨a4, rfl, rfl, rfl, w4⟩ := open_int Tryz.underlying24 (hval 4 24 v4 rfl rfl) h4
  obtain ⟨a5, rfl, rfl, rfl, w5⟩ := open_int Tryz.underlying3 (hval 5 3 v5 rfl rfl) h5
  clear hA0
  simp only [List.append_nil] at hW'
  refine (moves all_ok hX hY (bd8 wX) (bd8 wY) (bounds_u64 w2) (bounds_u64 w3) (bounds_u64 w4) (bounds_i64 w5) (ready hL hS)).mono fun e W' ⟨he, hb⟩ => ?_
  subst he
  refine ⟨_, rfl, post_below (pa := []) (pv := []) hW' (fun _ _ _ => trodAll_cons_mk (shut_bool Tryz.underlying4 _) trodAll_mk0) (fun _ _ => ?_) (fun _ _ => rfl) rfl hb (ok_one (by kernel_rfl) rfl (okWide_bool_mk Tryz.underlying4 _))⟩
  exact trodAll_cons_mk (shut_row hX wX) (trodAll_cons_mk (shut_row hY wY) (trodAll_cons_mk (shut_int Tryz.underlying24 w2) (trodAll_cons_mk (shut_int Tryz.underlying24 w3) (trodAll_cons_mk (shut_int Tryz.underlying24 w4) (trodAll_cons_mk (shut_int Tryz.underlying3 w5) trodAll_mk0)))))

/-- a world for the witness: the settled one, the listed variables as their initialisers lay them. -/
def lay (cs : Array Value) : Obj → Obj
  | .cells _ t frozen => .cells cs t frozen
  | o => o
def ints (k : IntKind) (l : List Int) : Array Value := (l.map (.int k)).toArray
def litsOf {H : Type} : DataW H → List Int
  | .agg l => l.map fun | .lit (.int _ n) => n | _ => 0
  | _ => []
noncomputable def laidWorld (os : Os) : World :=
  { World.holding Tryz.prog os ⟨#[], #[], []⟩ with heap := (((((((World.holding Tryz.prog os ⟨#[], #[], []⟩).heap.modify 0 (lay #[.iface 161 (.agg #[.pointer (some ⟨7, 36, none⟩)])])).modify 2 (lay (ints .u64 (litsOf (Rows.laid_vouch_sponge_marks (H := Unit)))))).modify 3 (lay (ints .i64 (litsOf (Rows.laid_vouch_sponge_turns (H := Unit)))))).modify 4 (lay (ints .u64 (litsOf (Rows.laid_internal_strconv_uint64pow10 (H := Unit)))))).modify 5 (lay (ints .u8 (litsOf (Rows.laid_math_bits_deBruijn32tab (H := Unit)))))).modify 6 (lay (ints .u8 (litsOf (Rows.laid_math_bits_deBruijn64tab (H := Unit)))))) }
def zeros : Value := .agg #[.int .u8 0, .int .u8 0, .int .u8 0, .int .u8 0, .int .u8 0, .int .u8 0, .int .u8 0, .int .u8 0, .int .u8 0, .int .u8 0, .int .u8 0, .int .u8 0, .int .u8 0, .int .u8 0, .int .u8 0, .int .u8 0, .int .u8 0, .int .u8 0, .int .u8 0, .int .u8 0]
def args0 : Array Value := #[zeros, zeros, .int .u64 0, .int .u64 0, .int .u64 0, .int .i64 0]
theorem laid_met (os : Os) : laidMetH Tryz.prog Rows.execMovesRow.laid ((laidWorld os).forCall (fun _ _ => 0) ⟨#[], args0, []⟩).memory :=
  laidMetH_of_parts (laidMet_of_run' 8 (by kernel_rfl) (by kernel_rfl)) (by kernel_rfl)
def zd {H : Type} : DataW H := .agg (List.replicate 20 (.lit (.int .u8 0)))
set_option maxRecDepth 100000 in
theorem reads (os : Os) {H : Type} (enc : TypeId × Value → H) : ∃ places, DataW.whole enc Tryz.prog ((laidWorld os).forCall (fun _ _ => 0) ⟨#[], args0, []⟩).memory Tryz.f3.params.toList Rows.execMovesSpec.vars false args0.toList 8 = some ([zd, zd, .lit (.int .u64 0), .lit (.int .u64 0), .lit (.int .u64 0), .lit (.int .i64 0)], [], places) :=
  ⟨[], by kernel_rfl⟩

set_option maxRecDepth 100000 in
theorem lifted (os : Os) (started : os.Started) (H : Type) (enc : TypeId × Value → H) (F : Stop.Interp) :
    ReturnsInHanded {} Tryz.checked os 3 .any ((OpenSpec.ofChange Rows.execMovesSpec).preRow enc Tryz.prog Tryz.f3 Rows.execMovesRow.domain false Rows.execMovesRow.laid) (((OpenSpec.ofChange Rows.execMovesSpec).at F).post enc Tryz.prog Tryz.f3 false true false false) := by
  obtain ⟨places, hx⟩ := reads os enc
  refine returnsInHanded_of_row (C := Tryz.checked) (s := OpenSpec.ofChange Rows.execMovesSpec) own started (by kernel_rfl) Tryz.func3
    (witness_row_at (enc := enc) (C := Tryz.checked) false (laidWorld os) args0 rfl (by kernel_rfl) (by kernel_rfl) (by kernel_rfl)
      (OpenSpec.preRow_of_cond 8 hx (by kernel_rfl) (fun k hk => by cases hk) (by kernel_rfl) (laid_met os))) ?_
  intro W base args ds gs before hval hW _ _ _ hL hS _
  exact contract H enc W base args ds gs before hval hW hL hS

theorem named3 : Tryz.pinned.checked.prog.funcNamed Rows.execMovesRow.func = some 3 := by kernel_rfl
theorem inst3 : Tryz.f3.isInstance Tryz.pinned.checked.prog Rows.execMovesRow.origin Rows.execMovesRow.targs := of_decide_eq_true (by kernel_rfl)
set_option maxRecDepth 100000 in
theorem wrap3 : Tryz.f3.isWrapper Tryz.pinned.checked.prog Rows.execMovesRow.wrapper Rows.execMovesRow.mainSum := by
  unfold Func.isWrapper; first | (rw [if_pos (by decide +kernel)]; kernel_rfl) | (rw [if_neg (by decide +kernel)]; exact ⟨rfl, rfl⟩)
set_option maxRecDepth 100000 in
theorem said : Rows.ExecMovesSaid :=
  OpenClaim.holds_of_cond 3 Tryz.f3 rfl rfl rfl rfl rfl rfl rfl ⟨rfl, rfl, rfl, rfl, rfl⟩ rfl rfl rfl rfl rfl named3 Tryz.func3 joined inst3 wrap3
    (fun os started H enc _ F => by rw [OpenClaim.pre_eq_preRow]; exact lifted os started H enc F)

theorem looks3 : true = Tryz.pinned.checked.prog.looks [] := by kernel_rfl
theorem wf3 : Rows.execMovesRow.wfByText (OpenSpec.ofChange Rows.execMovesSpec) = true := by kernel_rfl
theorem main3 : Tryz.pinned.checked.prog.mainIs = some (true, "b6cd57c6ee6c7970030d5cafa0bd2935bbfa9bb216d76cc911f63701f0eed415".toList) := by kernel_rfl
theorem nogo : Tryz.prog.funcs.toList.any Func.goes = false := by kernel_rfl
theorem start3 : Rows.execMovesRow.start = .entering := rfl
theorem goes_none (P : Program) (c : OpenClaim) (h : P.funcs.toList.any Func.goes = false) (hs : c.start = .entering) : false = c.goesBy P := by
  have hg : ∀ g : FuncId, (P.funcs[g]?).any Func.goes = false := by
    intro g
    cases hg : P.funcs[g]? with
    | none => rfl
    | some fn =>
      have := List.any_eq_false.1 h fn (by simpa using Array.mem_of_getElem? hg)
      simpa using this
  have hP : ∀ f, P.goes f = false := by
    intro f
    unfold Program.goes
    have h1 : ((P.closure f).any fun (g : FuncId) => (P.funcs[g]?).any Func.goes) = false := List.any_eq_false.2 fun g _ => by rw [hg g]; simp
    have h2 : P.funcs.any Func.goes = false := by rw [← Array.any_toList]; exact h
    rw [h1, h2]
    simp
  unfold OpenClaim.goesBy Program.goesAt Program.goesFrom
  rw [hs]
  cases P.funcNamed c.func with
  | none => rfl
  | some f => simp [hP f]
theorem goes3 : false = Rows.execMovesRow.goesBy Tryz.pinned.checked.prog := goes_none Tryz.prog _ nogo start3

set_option maxRecDepth 100000 in
/-- no parameter wants a stand-in. -/
theorem plain (f : FuncId) (fn : Func) (hf : Tryz.pinned.checked.prog.funcNamed "vouch/vouchlaw15.ExecMoves" = some f) (hfn : Tryz.pinned.checked.prog.funcs[f]? = some fn) :
    true = Tryz.pinned.checked.prog.looks [] ∧ ∀ (j : Nat) t, fn.params[j]? = some t → Tryz.pinned.checked.prog.wantsStandIn t = false := by
  obtain rfl : f = 3 := Option.some.inj ((show Tryz.prog.funcNamed "vouch/vouchlaw15.ExecMoves" = some 3 by kernel_rfl).symm.trans hf) |>.symm
  obtain rfl : fn = Tryz.f3 := (Option.some.inj (Tryz.func3.symm.trans hfn)).symm
  refine ⟨looks3, fun j t ht => ?_⟩
  rw [Tryz.params3] at ht
  have hm := Array.mem_of_getElem? ht
  simp only [List.mem_toArray, List.mem_cons, List.not_mem_nil, or_false] at hm
  rcases hm with rfl | rfl | rfl | rfl | rfl | rfl
  · exact (show Tryz.prog.wantsStandIn 23 = false by kernel_rfl)
  · exact (show Tryz.prog.wantsStandIn 23 = false by kernel_rfl)
  · exact (show Tryz.prog.wantsStandIn 24 = false by kernel_rfl)
  · exact (show Tryz.prog.wantsStandIn 24 = false by kernel_rfl)
  · exact (show Tryz.prog.wantsStandIn 24 = false by kernel_rfl)
  · exact (show Tryz.prog.wantsStandIn 3 = false by kernel_rfl)

/-- the card. -/
theorem moves_card : Rows.ExecMovesCardSaid :=
  Claim7.holds_tied_plain_at .later [] _ _ _ _ said (fun _ h => by cases h) wf3 (fun _ h => by cases h) own_row_tie rfl ⟨rfl, rfl⟩ main3 rfl plain goes3
#print axioms moves_card
end Go.Proofs.YtbkefimllhmfjaaGreatDoor
