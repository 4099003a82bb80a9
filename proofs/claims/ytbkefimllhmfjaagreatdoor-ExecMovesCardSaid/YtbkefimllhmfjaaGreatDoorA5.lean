/- Every operation of the abstract machine is sound. -/
import Derived.Test.YtbkefimllhmfjaaGreatDoorA4
set_option linter.unusedVariables false
set_option linter.unusedSimpArgs false
set_option linter.unusedSectionVars false
namespace Go.Am
section
variable {N : Type} {D : Dom N} {den : N → Int} {P : Program} {σ : Sub} {H : AH N} {w : World} {a : AAct N} {ρ : Operand → Value}

/-- the operands' values stand for the abstract ones. -/
def EnvRel (den : N → Int) (P : Program) (D : Dom N) (σ : Sub) (a : AAct N) (ρ : Operand → Value) (l : List Operand) : Prop :=
  ∀ x ∈ l, ∀ u, aeval P D a x = some u → VRel den σ u (ρ x)

theorem evals_rel : ∀ (l : List Operand) (us : List (AV N)), l.mapM (aeval P D a) = some us → EnvRel den P D σ a ρ l → VRels den σ us (l.map ρ)
  | [], us, h, _ => by simp at h; subst h; simp [VRels]
  | x :: l, us, h, he => by
    rw [List.mapM_cons] at h
    simp only [bind, Option.bind_eq_some_iff, pure, Option.some.injEq] at h
    obtain ⟨u, hu, vs, hvs, rfl⟩ := h
    simp only [List.map_cons, VRels]
    exact ⟨_, _, rfl, he x (by simp) u hu, evals_rel l vs hvs (fun y hy => he y (by simp [hy]))⟩

theorem parts_rel : ∀ (l : List (Nat × Operand)) (us : List (Nat × AV N)), l.mapM (fun p => (aeval P D a p.2).map fun v => (p.1, v)) = some us → EnvRel den P D σ a ρ (l.map (·.2)) →
    PRels den σ us (l.map fun p => (p.1, ρ p.2))
  | [], us, h, _ => by simp at h; subst h; exact ⟨rfl, by simp⟩
  | x :: l, us, h, he => by
    rw [List.mapM_cons] at h
    simp only [bind, Option.bind_eq_some_iff, pure, Option.some.injEq, Option.map_eq_some_iff] at h
    obtain ⟨p, ⟨u, hu, rfl⟩, vs, hvs, rfl⟩ := h
    obtain ⟨h1, h2⟩ := parts_rel l vs hvs (fun y hy => he y (by simp at hy ⊢; exact .inr hy))
    refine ⟨by simp [h1], fun j p hp => ?_⟩
    cases j with
    | zero =>
      simp at hp
      subst hp
      exact ⟨(x.1, ρ x.2), by simp, rfl, he x.2 (by simp) u hu⟩
    | succ j => simpa using h2 j p (by simpa using hp)

theorem opt_rel {x : Option Operand} {u : Option (AV N)} (h : x.mapM (aeval P D a) = some u) (he : EnvRel den P D σ a ρ x.toList) : ORelV den σ u (x.map ρ) := by
  cases x with
  | none => simp at h; subst h; trivial
  | some y =>
    cases hy : aeval P D a y with
    | none => simp [hy] at h
    | some v => simp [hy] at h; subst h; exact he y (by simp) v hy

def kindV : Value → Nat
  | .nilIface => 1
  | .agg _ => 2
  | _ => 0
def AV.kind : AV N → Nat
  | .nili => 1
  | .agg _ => 2
  | _ => 0

theorem kind_rel {u : AV N} {ru : Value} (h : VRel den σ u ru) (hj : u = .junk → False) : kindV ru = u.kind := by
  cases u <;> simp only [VRel] at h
  case junk => exact (hj rfl).elim
  case str => obtain ⟨rfl, _⟩ := h; rfl
  case ptr => obtain ⟨_, _, rfl⟩ := h; rfl
  case slice => obtain ⟨_, _, _, rfl, _⟩ := h; rfl
  case void => obtain ⟨_, _, rfl⟩ := h; rfl
  case map => obtain ⟨_, _, rfl⟩ := h; rfl
  case func => obtain ⟨_, _, rfl, _⟩ := h; rfl
  case yield => obtain ⟨_, _, rfl⟩ := h; rfl
  case iface => obtain ⟨_, rfl, _⟩ := h; rfl
  case agg => obtain ⟨_, rfl, _⟩ := h; rfl
  case tuple => obtain ⟨_, rfl, _⟩ := h; rfl
  all_goals (subst h; rfl)

theorem run_eqGuard_else {op : BinOp} {t : TypeId} {x y : Operand} {ru rv : Value} (h1 : kindV ru = 1 → kindV rv = 1 → False) (h2 : kindV ru = 2 → kindV rv = 2 → False) (w : World) :
    (eqGuard op t x y ru rv).run P w = .ok () w := by
  unfold eqGuard
  cases op <;> first | rfl | skip
  all_goals (cases ru <;> cases rv <;> first | rfl | exact (h1 rfl rfl).elim | exact (h2 rfl rfl).elim)

def eqGuardB (P : Program) (t : TypeId) (x y : Operand) (a b : AV N) : Bool :=
  match a, b with
  | .nili, .nili => isConstO x || isConstO y
  | .agg _, .agg _ => !P.eqGuardType P.depth t
  | .junk, _ => false
  | _, .junk => false
  | _, _ => true

def isEqOp (op : BinOp) : Bool := op matches .eql | .neq

theorem eqGuardA_eq (op : BinOp) (t : TypeId) (x y : Operand) (a b : AV N) : eqGuardA P op t x y a b = bif !(isEqOp op) then true else eqGuardB P t x y a b := rfl

theorem eqGuardA_sound {op : BinOp} {t : TypeId} {x y : Operand} {u v : AV N} (e : eqGuardA P op t x y u v = true) {ru rv : Value} (hu : VRel den σ u ru) (hv : VRel den σ v rv) (w : World) :
    (eqGuard op t x y ru rv).run P w = .ok () w := by
  rw [eqGuardA_eq] at e
  cases hop : isEqOp op with
  | false =>
    unfold eqGuard
    cases op <;> first | rfl | (cases hop)
  | true =>
    rw [hop] at e
    simp only [Bool.not_true, cond_false] at e
    unfold eqGuardB at e
    split at e
    · simp only [VRel] at hu hv
      subst hu; subst hv
      simp only [Bool.or_eq_true] at e
      rcases e with e | e
      · obtain ⟨c, rfl⟩ : ∃ c, x = .const c := by cases x <;> first | exact ⟨_, rfl⟩ | cases e
        rw [eqGuard_nil_constL]; rfl
      · obtain ⟨c, rfl⟩ : ∃ c, y = .const c := by cases y <;> first | exact ⟨_, rfl⟩ | cases e
        rw [eqGuard_nil_constR]; rfl
    · simp only [VRel] at hu hv
      obtain ⟨a, rfl, _⟩ := hu
      obtain ⟨b, rfl, _⟩ := hv
      have e2 : P.eqGuardType P.depth t = false := by simpa using e
      unfold eqGuard
      cases op <;> first | rfl | simp [e2]
    · cases e
    · cases e
    · rename_i n3 n4 n1 n2
      have k1 := kind_rel hu (fun h => n3 h)
      have k2 := kind_rel hv (fun h => n4 h)
      refine run_eqGuard_else ?_ ?_ w
      · rw [k1, k2]
        intro h1 h2
        cases u <;> cases v <;> first | (cases h1; done) | (cases h2; done) | exact n1 rfl rfl
      · rw [k1, k2]
        intro h1 h2
        cases u <;> cases v <;> first | (cases h1; done) | (cases h2; done) | exact n2 _ _ rfl rfl


theorem capA_sound (hD : DomOk D den) {ats : Array TypeId} {x v : AV N} (e : capA P D ats x = some v) {rx : Value} (hx : VRel den σ x rx) (ty : TypeId) (w : World) :
    ∃ rv, (Builtin.cap_ ats ty #[rx]).run P w = .ok rv w ∧ VRel den σ v rv := by
  have hi : ∀ n : Nat, VRel den σ (.int .i64 (D.lit (Int.ofNat n)) : AV N) (goInt n) := fun n => by simp [VRel, goInt, hD.lit]
  unfold capA at e
  split at e
  rotate_left
  · cases e
  rename_i t ha0
  split at e
  · rename_i c es hu; cases e; simp only [VRel] at hx; obtain ⟨l, c', hl, rfl, _, hex, _⟩ := hx
    have := hex (by simp)
    subst this
    exact ⟨_, by simp only [Builtin.cap_, ha0, List.getElem?_toArray, List.getElem?_cons_zero, Sem.run_bind, run_underlying hu, Result.andThen_ok, Sem.run_pure], hi _⟩
  · rename_i hu; cases e; simp only [VRel] at hx; subst hx
    exact ⟨goInt 0, by simp only [Builtin.cap_, ha0, List.getElem?_toArray, List.getElem?_cons_zero, Sem.run_bind, run_underlying hu, Result.andThen_ok, Sem.run_pure]; rfl, hi 0⟩
  · cases e

/-- an operation that looks at its operands alone. -/
theorem pureOp_sound (hD : DomOk D den) {o : Oper} (hk : kindO P o.op = .pure) {r : ORes N} (e : opA P D a H o = some r) :
    ∃ v, r = .val v H ∧ ∀ (σ : Sub) (ρ : Operand → Value) (w : World), EnvRel den P D σ a ρ o.op.operands.toList → ∃ rv, (execOp ρ o).run P w = .ok (.value rv) w ∧ VRel den σ v rv := by
  have owv : ∀ {x : Option (AV N)}, ow H x = some r → ∃ v, x = some v ∧ r = .val v H := by
    intro x h
    unfold ow at h
    obtain ⟨v, h1, h2⟩ := Option.map_eq_some_iff.1 h
    exact ⟨v, h1, h2.symm⟩
  have vrun : ∀ {ρ : Operand → Value} {w : World} {s : Sem Value} {rv : Value}, s.run P w = .ok rv w → (do pure (Next.value (← s)) : Sem Next).run P w = .ok (.value rv) w := by
    intro ρ w s rv h
    simp [h]
  unfold opA at e
  cases hop : o.op <;> simp only [hop, kindO] at hk e <;> first | (cases hk; done) | skip
  case move x =>
    split at e
    · rename_i v hv
      obtain ⟨v', h1, rfl⟩ := owv e
      cases h1
      refine ⟨_, rfl, fun σ ρ w he => ⟨ρ x, by simp only [execOp, hop]; rfl, ?_⟩⟩
      exact he x (by simp [hop, Op.operands]) _ hv
    · cases e
  case assign x =>
    split at e
    · rename_i v hv
      obtain ⟨v', h1, rfl⟩ := owv e
      cases h1
      refine ⟨_, rfl, fun σ ρ w he => ⟨ρ x, by simp only [execOp, hop]; rfl, ?_⟩⟩
      exact he x (by simp [hop, Op.operands]) _ hv
    · cases e
  case pick c x y =>
    split at e
    · rename_i b u v hc hx hy
      obtain ⟨v', h1, rfl⟩ := owv e
      cases h1
      refine ⟨_, rfl, fun σ ρ w he => ?_⟩
      have h1 := he c (by simp [hop, Op.operands]) _ hc
      have h2 := he x (by simp [hop, Op.operands]) _ hx
      have h3 := he y (by simp [hop, Op.operands]) _ hy
      simp only [VRel] at h1
      refine ⟨if b then ρ x else ρ y, by simp only [execOp, hop, h1]; simp [asBool], ?_⟩
      cases b <;> simpa
    · cases e
  case nilCheck x =>
    refine ?_
    split at e
    all_goals first | (cases e; done) | skip
    all_goals
      rename_i hv
      obtain ⟨v', h1, rfl⟩ := owv e
      cases h1
      refine ⟨_, rfl, fun σ ρ w he => ?_⟩
      have h1 := he x (by simp [hop, Op.operands]) _ hv
      refine ⟨ρ x, ?_, h1⟩
      simp only [VRel] at h1
    · obtain ⟨l, _, h1⟩ := h1; simp only [execOp, hop, h1]; rfl
    · obtain ⟨l, h1, _⟩ := h1; simp only [execOp, hop, h1]; rfl
    · obtain ⟨p, q, h1, _⟩ := h1; simp only [execOp, hop, h1]; rfl
    · obtain ⟨l, _, h1⟩ := h1; simp only [execOp, hop, h1]; rfl
  case binOp op t x y _ =>
    split at e
    · rename_i u v hx hy
      simp only [Bool.cond_eq_ite] at e
      split at e
      · rename_i hg
        obtain ⟨v', h1, rfl⟩ := owv e
        refine ⟨_, rfl, fun σ ρ w he => ?_⟩
        have hx' := he x (by simp [hop, Op.operands]) _ hx
        have hy' := he y (by simp [hop, Op.operands]) _ hy
        obtain ⟨rv, hr, hv⟩ := binA_sound (P := P) (w := w) hD h1 hx' hy'
        refine ⟨rv, ?_, hv⟩
        simp only [execOp, hop]
        simp only [Sem.run_bind, eqGuardA_sound hg hx' hy', Result.andThen_ok, hr, Sem.run_pure]
      · cases e
    · cases e
  case unOp op t x =>
    split at e
    · rename_i v hx
      obtain ⟨v', h1, rfl⟩ := owv e
      refine ⟨_, rfl, fun σ ρ w he => ?_⟩
      obtain ⟨rv, hr, hv⟩ := unA_sound (P := P) hD h1 (he x (by simp [hop, Op.operands]) _ hx) w
      exact ⟨rv, by simp only [execOp, hop]; exact vrun (ρ := ρ) hr, hv⟩
    · cases e
  case fieldAddr s x f =>
    split at e
    · rename_i v hx
      obtain ⟨v', h1, rfl⟩ := owv e
      refine ⟨_, rfl, fun σ ρ w he => ?_⟩
      obtain ⟨rv, hr, hv⟩ := fieldAddrA_sound (P := P) h1 (he x (by simp [hop, Op.operands]) _ hx) w
      exact ⟨rv, by simp only [execOp, hop]; exact vrun (ρ := ρ) hr, hv⟩
    · cases e
  case field s x f =>
    split at e
    · rename_i v hx
      obtain ⟨v', h1, rfl⟩ := owv e
      refine ⟨_, rfl, fun σ ρ w he => ?_⟩
      obtain ⟨rv, hr, hv⟩ := fieldA_sound (P := P) h1 (he x (by simp [hop, Op.operands]) _ hx) w
      exact ⟨rv, by simp only [execOp, hop]; exact vrun (ρ := ρ) hr, hv⟩
    · cases e
  case indexAddr t x i =>
    split at e
    · rename_i v u hx hi
      obtain ⟨v', h1, rfl⟩ := owv e
      refine ⟨_, rfl, fun σ ρ w he => ?_⟩
      obtain ⟨rv, hr, hv⟩ := indexAddrA_sound (P := P) hD h1 (he x (by simp [hop, Op.operands]) _ hx) (he i (by simp [hop, Op.operands]) _ hi) w
      exact ⟨rv, by simp only [execOp, hop]; exact vrun (ρ := ρ) hr, hv⟩
    · cases e
  case index t x i =>
    split at e
    · rename_i v u hx hi
      obtain ⟨v', h1, rfl⟩ := owv e
      refine ⟨_, rfl, fun σ ρ w he => ?_⟩
      obtain ⟨rv, hr, hv⟩ := indexA_sound (P := P) hD h1 (he x (by simp [hop, Op.operands]) _ hx) (he i (by simp [hop, Op.operands]) _ hi) w
      exact ⟨rv, by simp only [execOp, hop]; exact vrun (ρ := ρ) hr, hv⟩
    · cases e
  case extract x i =>
    split at e
    · rename_i vs hx
      obtain ⟨v', h1, rfl⟩ := owv e
      refine ⟨_, rfl, fun σ ρ w he => ?_⟩
      have h2 := he x (by simp [hop, Op.operands]) _ hx
      rw [VRel] at h2
      obtain ⟨cs, hcs, hr⟩ := h2
      obtain ⟨y, hy, hv⟩ := hr.get _ _ h1
      refine ⟨y, ?_, hv⟩
      simp only [Array.getElem?_toList] at hy
      simp only [execOp, hop, hcs, Instr.extract, hy]
      rfl
    · cases e
  case build t ps =>
    split at e
    · rename_i l hl
      obtain ⟨v', h1, rfl⟩ := owv e
      refine ⟨_, rfl, fun σ ρ w he => ?_⟩
      have hp := parts_rel (ρ := ρ) (σ := σ) (den := den) _ _ hl (fun x hx => he x (by simpa [hop, Op.operands] using hx))
      obtain ⟨rv, hr, hv⟩ := buildA_sound (P := P) hD h1 (rps := ps.map fun (i, x) => (i, ρ x)) (by rw [Array.toList_map]; exact hp) w
      exact ⟨rv, by simp only [execOp, hop]; exact vrun (ρ := ρ) hr, hv⟩
    · cases e
  case slice t x lo hi mx =>
    split at e
    · rename_i u l h m hx hl hh hm
      obtain ⟨v', h1, rfl⟩ := owv e
      refine ⟨_, rfl, fun σ ρ w he => ?_⟩
      have hsub : ∀ y, y ∈ lo.toList ∨ y ∈ hi.toList ∨ y ∈ mx.toList → y ∈ (Op.slice t x lo hi mx).operands.toList := by
        intro y hy
        simp only [Op.operands, Array.toList_append, Option.toList_toArray]
        simp only [List.mem_append]
        rcases hy with hy | hy | hy <;> simp [hy]
      have e1 := opt_rel (ρ := ρ) (σ := σ) (den := den) hl (fun y hy => he y (hsub y (.inl hy)))
      have e2 := opt_rel (ρ := ρ) (σ := σ) (den := den) hh (fun y hy => he y (hsub y (.inr (.inl hy))))
      have e3 := opt_rel (ρ := ρ) (σ := σ) (den := den) hm (fun y hy => he y (hsub y (.inr (.inr hy))))
      obtain ⟨rv, hr, hv⟩ := sliceA_sound (P := P) hD h1 (he x (by simp [hop, Op.operands]) _ hx) e1 e2 e3 w
      exact ⟨rv, by simp only [execOp, hop]; exact vrun (ρ := ρ) hr, hv⟩
    · cases e
  case makeInterface t x =>
    split at e
    · cases e
    · rename_i d u hd hn hx
      obtain ⟨v', h1, rfl⟩ := owv e
      cases h1
      refine ⟨_, rfl, fun σ ρ w he => ?_⟩
      have h2 := he x (by simp [hop, Op.operands]) _ hx
      refine ⟨.iface t (ρ x), ?_, by simp only [VRel]; exact ⟨_, rfl, h2⟩⟩
      simp only [execOp, hop, Instr.makeInterface, Sem.run_bind, run_underlying hn, Result.andThen_ok]
      cases d <;> first | rfl | exact (hd _ rfl).elim
    · cases e
  case makeFunc fn first cap =>
    split at e
    · cases e
    · rename_i x y hn hx hy
      obtain ⟨v', h1, rfl⟩ := owv e
      cases h1
      refine ⟨_, rfl, fun σ ρ w he => ?_⟩
      have e1 := evals_rel (ρ := ρ) (σ := σ) (den := den) _ _ hx (fun z hz => he z (by simp [hop, Op.operands]; exact .inl (by simpa using hz)))
      have e2 := evals_rel (ρ := ρ) (σ := σ) (den := den) _ _ hy (fun z hz => he z (by simp [hop, Op.operands]; exact .inr (by simpa using hz)))
      have key : ∀ f, o.op = .makeFunc f first cap → ∃ rv, (execOp ρ o).run P w = .ok (.value rv) w ∧ VRel den σ (.func f x y : AV N) rv := by
        intro f hop'
        refine ⟨.func f (first.map ρ) (cap.map ρ), ?_, ?_⟩
        · simp only [execOp, hop', Instr.makeFunc]
          rfl
        · simp only [VRel]
          exact ⟨_, _, rfl, by rw [Array.toList_map]; exact e1, by rw [Array.toList_map]; exact e2⟩
      exact key _ hop
    · cases e
  case typeAssert x xt t ok =>
    split at e
    · rename_i u hx
      obtain ⟨v', h1, rfl⟩ := owv e
      refine ⟨_, rfl, fun σ ρ w he => ?_⟩
      obtain ⟨rv, hr, hv⟩ := typeAssertA_sound (P := P) hD h1 (he x (by simp [hop, Op.operands]) _ hx) xt w
      exact ⟨rv, by simp only [execOp, hop]; exact vrun (ρ := ρ) hr, hv⟩
    · cases e
  case sliceToArrayPointer arr x =>
    split at e
    · rename_i i o' n _ _ es m el hx hu
      have hc : Nat.ble m n = true ∧ ow H (some (.ptr i o')) = some r := by
        cases hm : Nat.ble m n with
        | false => simp only [hm, Bool.false_and, cond_false] at e; cases e
        | true =>
          simp only [hm, Bool.true_and] at e
          cases hz : sizeT P el with
          | none => simp only [hz] at e; cases e
          | some z =>
            simp only [hz] at e
            cases hq : Nat.beq z es with
            | false => rw [hq] at e; cases e
            | true => rw [hq] at e; exact ⟨rfl, e⟩
      obtain ⟨hc, e⟩ := hc
      simp only [Nat.ble_eq] at hc
      obtain ⟨v', h1, rfl⟩ := owv e
      cases h1
      refine ⟨_, rfl, fun σ ρ w he => ?_⟩
      have h2 := he x (by simp [Op.operands]) _ hx
      simp only [VRel] at h2
      obtain ⟨l, c', hl, hρ, _⟩ := h2
      refine ⟨.pointer (some ⟨l.r, l.base + o', none⟩), ?_, by simp only [VRel]; exact ⟨l, hl, rfl⟩⟩
      have hlt : ¬ n < m := by omega
      simp only [execOp, hop, hρ, Instr.arrayAt, Sem.run_bind, run_underlying hu, Result.andThen_ok, hlt, if_false, Sem.run_pure]
    · cases e
  case convert s d x =>
    split at e
    · rename_i u hx
      unfold ov at e
      obtain ⟨⟨v', H'⟩, h1, rfl⟩ := Option.map_eq_some_iff.1 e
      have key : H' = H ∧ ∀ (σ : Sub) (w : World) (rx : Value), VRel den σ u rx → ∃ rv, (Go.convert s d rx).run P w = .ok rv w ∧ VRel den σ v' rv := by
        unfold convA at h1
        split at h1
        · rename_i k q n hs hd
          obtain ⟨m, hm, he⟩ := Option.map_eq_some_iff.1 h1
          cases he
          refine ⟨rfl, fun σ w rx hx => ?_⟩
          simp only [VRel] at hx
          subst hx
          refine ⟨.int k (k.wrap (den n)), ?_, by simp [VRel, hD.conv _ _ _ hm]⟩
          simp only [Go.convert, Sem.run_bind, run_underlying hs, run_underlying hd, Result.andThen_ok, Conv.intToInt, Sem.run_pure]
        · rename_i str hs hd
          cases h1
          refine ⟨rfl, fun σ w rx hx => ?_⟩
          have hx' := hx
          simp only [VRel] at hx
          obtain ⟨rfl, hb⟩ := hx
          refine ⟨_, ?_, hx'⟩
          simp only [Go.convert, Sem.run_bind, run_underlying hs, run_underlying hd, Result.andThen_ok, Sem.run_pure]
        · rename_i e' str hs hd
          rw [hs, hd] at hk
          simp at hk
        · rename_i e' hs hd hnstr
          rw [hs, hd] at hk
          simp at hk
        · cases h1
      obtain ⟨rfl, key⟩ := key
      refine ⟨_, rfl, fun σ ρ w he => ?_⟩
      obtain ⟨rv, hr, hv⟩ := key σ w (ρ x) (he x (by simp [Op.operands]) _ hx)
      exact ⟨rv, by simp only [execOp, hop]; exact vrun (ρ := ρ) hr, hv⟩
    · cases e
  case call c =>
    split at e
    · cases e
    rename_i us hus
    have hargs : ∀ (σ : Sub) (ρ : Operand → Value), EnvRel den P D σ a ρ (Op.call c).operands.toList → VRels den σ us (c.args.toList.map ρ) := by
      intro σ ρ he
      exact evals_rel _ _ hus (fun z hz => he z (by simp only [Op.operands, Call.operands, Array.toList_append, List.mem_append]; exact .inr hz))
    cases hcal : c.callee with
    | value f => rw [hcal] at hk; cases hk
    | invoke f n => rw [hcal] at hk; cases hk
    | builtin b =>
      rw [hcal] at hk e
      have hex : ∀ (ρ : Operand → Value) (w : World), (execOp ρ o).run P w = (builtin b c.argTypes o.type (c.args.map fun | .const _ => true | _ => false) (c.args.map ρ)).run P w := by
        intro ρ w
        simp only [execOp, hop, resolve, hcal, Sem.run_bind, Sem.run_pure, Result.andThen_ok, invoke]
        rfl
      simp only at e
      cases b <;> simp only [reduceCtorEq] at hk
      case cap =>
        unfold builtinA at e
        split at e <;> first | (cases e; done) | skip
        all_goals first | (rename_i heq; cases heq; done) | skip
        rename_i x _
        obtain ⟨v', h1, rfl⟩ := owv e
        refine ⟨_, rfl, fun σ ρ w he => ?_⟩
        obtain ⟨rx, hra, hx⟩ := args1 (ra := c.args.map ρ) (by rw [Array.toList_map]; exact hargs σ ρ he)
        obtain ⟨rv, hr, hv⟩ := capA_sound (P := P) hD h1 hx o.type w
        exact ⟨rv, by rw [hex, hra]; exact vrun (ρ := ρ) hr, hv⟩
      case min =>
        unfold builtinA at e
        split at e <;> first | (cases e; done) | skip
        all_goals first | (rename_i heq; cases heq; done) | skip
        rename_i x rest _
        obtain ⟨v', h1, rfl⟩ := owv e
        refine ⟨_, rfl, fun σ ρ w he => ?_⟩
        have ha := hargs σ ρ he
        simp only [VRels] at ha
        obtain ⟨rx, rr, hl, hx, hrr⟩ := ha
        obtain ⟨rv, hr, hv⟩ := foldMM_sound (P := P) hD true Builtin.min2 rfl rest x _ h1 rx rr hx hrr w
        refine ⟨rv, ?_, hv⟩
        rw [hex]
        refine vrun (ρ := ρ) (s := Builtin.min_ c.argTypes o.type (c.args.map ρ)) ?_
        unfold Builtin.min_
        rw [Array.toList_map, hl]
        exact hr
      case max =>
        unfold builtinA at e
        split at e <;> first | (cases e; done) | skip
        all_goals first | (rename_i heq; cases heq; done) | skip
        rename_i x rest _
        obtain ⟨v', h1, rfl⟩ := owv e
        refine ⟨_, rfl, fun σ ρ w he => ?_⟩
        have ha := hargs σ ρ he
        simp only [VRels] at ha
        obtain ⟨rx, rr, hl, hx, hrr⟩ := ha
        obtain ⟨rv, hr, hv⟩ := foldMM_sound (P := P) hD false Builtin.max2 rfl rest x _ h1 rx rr hx hrr w
        refine ⟨rv, ?_, hv⟩
        rw [hex]
        refine vrun (ρ := ρ) (s := Builtin.max_ c.argTypes o.type (c.args.map ρ)) ?_
        unfold Builtin.max_
        rw [Array.toList_map, hl]
        exact hr

end
end Go.Am

namespace Go.Am
section
variable {N : Type} {D : Dom N} {den : N → Int} {P : Program} {σ : Sub} {H : AH N} {w : World} {a : AAct N} {ρ : Operand → Value}

theorem ow_inv {x : Option (AV N)} {r : ORes N} (h : ow H x = some r) : ∃ v, x = some v ∧ r = .val v H := by
  unfold ow at h
  obtain ⟨v, h1, h2⟩ := Option.map_eq_some_iff.1 h
  exact ⟨v, h1, h2.symm⟩
theorem ov_inv {x : Option (AV N × AH N)} {r : ORes N} (h : ov x = some r) : ∃ v H', x = some (v, H') ∧ r = .val v H' := by
  unfold ov at h
  obtain ⟨⟨v, H'⟩, h1, h2⟩ := Option.map_eq_some_iff.1 h
  exact ⟨v, H', h1, h2.symm⟩
theorem ou_inv {x : Option (AH N)} {r : ORes N} (h : ou x = some r) : ∃ H', x = some H' ∧ r = .val undefA H' := by
  unfold ou at h
  obtain ⟨H', h1, h2⟩ := Option.map_eq_some_iff.1 h
  exact ⟨H', h1, h2.symm⟩
theorem run_value {s : Sem Value} {rv : Value} {w' : World} (h : s.run P w = .ok rv w') : (do pure (Next.value (← s)) : Sem Next).run P w = .ok (.value rv) w' := by
  simp [h]
theorem run_skip {s : Sem Unit} {w' : World} (h : s.run P w = .ok () w') : (do s; pure Next.skip : Sem Next).run P w = .ok .skip w' := by
  simp [h]

theorem callArgs_rel {c : Call} {us : List (AV N)} (h : c.args.toList.mapM (aeval P D a) = some us) (he : EnvRel den P D σ a ρ (Op.call c).operands.toList) : VRels den σ us (c.args.map ρ).toList := by
  rw [Array.toList_map]
  exact evals_rel _ _ h (fun z hz => he z (by simp only [Op.operands, Call.operands, Array.toList_append, List.mem_append]; exact .inr hz))

theorem exec_builtin {o : Oper} {c : Call} {b : Builtin} (hop : o.op = .call c) (hcal : c.callee = .builtin b) (ρ : Operand → Value) (w : World) :
    (execOp ρ o).run P w = (builtin b c.argTypes o.type (c.args.map fun | .const _ => true | _ => false) (c.args.map ρ)).run P w := by
  simp only [execOp, hop, resolve, hcal, Sem.run_bind, Sem.run_pure, Result.andThen_ok, invoke]
  rfl

theorem convA_same (hD : DomOk D den) (h : HRel den σ H w) {src dst : TypeId} {x v : AV N} {H' : AH N} (e : convA P D H src dst x = some (v, H')) (hna : ∀ e', P.underlying src = some .string → P.underlying dst = some (.slice e') → False) {rx : Value} (hx : VRel den σ x rx) :
    H' = H ∧ ∃ rv, (Go.convert src dst rx).run P w = .ok rv w ∧ VRel den σ v rv := by
  unfold convA at e
  split at e
  · rename_i k q n hs hd
    simp only [VRel] at hx
    subst hx
    obtain ⟨m, hm, he⟩ := Option.map_eq_some_iff.1 e
    cases he
    refine ⟨rfl, .int k (k.wrap (den n)), ?_, by simp [VRel, hD.conv _ _ _ hm]⟩
    simp only [Go.convert, Sem.run_bind, run_underlying hs, run_underlying hd, Result.andThen_ok, Conv.intToInt, Sem.run_pure]
  · rename_i s hs hd
    cases e
    simp only [VRel] at hx
    obtain ⟨rfl, hb⟩ := hx
    refine ⟨rfl, .string ⟨(s.map UInt8.ofNat).toArray⟩, ?_, by simp only [VRel, true_and]; exact hb⟩
    simp only [Go.convert, Sem.run_bind, run_underlying hs, run_underlying hd, Result.andThen_ok, Sem.run_pure]
  · rename_i e' s hs hd
    exact (hna _ hs hd).elim
  · rename_i e' hs hd hnstr
    split at e
    · rename_i he
      have conv : ∀ a l c, (Go.convert src dst (.slice a l c)).run P w = (Conv.bytesToString (.slice a l c)).run P w := fun a l c => run_convert_bytes_string w src dst e' a l c hs he hd
      split at e
      · cases e
        simp only [VRel] at hx
        subst hx
        refine ⟨rfl, .string .empty, ?_, by simp only [VRel]; exact ⟨rfl, by simp⟩⟩
        rw [conv]
        simp [Conv.bytesToString]
      · cases e
        simp only [VRel] at hx
        obtain ⟨a, c, rfl⟩ := hx
        refine ⟨rfl, .string .empty, ?_, by simp only [VRel]; exact ⟨rfl, by simp⟩⟩
        rw [conv]
        simp [Conv.bytesToString, loadCells, loadCellsFrom]
      · rename_i i o n c ex es
        simp only [nbeq, Bool.cond_decide] at e
        split at e
        · split at e
          · rename_i cs hcs
            obtain ⟨s, hs', he'⟩ := Option.map_eq_some_iff.1 e
            cases he'
            simp only [VRel] at hx
            obtain ⟨l, c', hl, rfl, _⟩ := hx
            obtain ⟨arr, hr, hv, hsz⟩ := loadCells_sound (P := P) h hl hcs
            obtain ⟨ns, hns, rfl, hb⟩ := bytesLit_sound hD cs s arr.toList hs' hv
            have harr : arr = (ns.map (Value.int .u8)).toArray := by rw [← hns]
            rw [harr] at hr
            refine ⟨rfl, _, by rw [conv]; exact run_bytesToString w _ n c' ns hr, ?_⟩
            simp only [VRel]
            refine ⟨?_, hb⟩
            rw [foldl_push_bytes]
            congr 1
            apply ByteArray.ext
            simp only [List.map_map]
            show ByteArray.empty.data ++ _ = _
            have : (ByteArray.empty.data : Array UInt8) = #[] := rfl
            rw [this]
            simp
          · cases e
        · cases e
      · cases e
    · cases e
  · cases e

/-- an operation that looks at memory, and changes none. -/
theorem readOp_sound (hD : DomOk D den) {o : Oper} (hk : kindO P o.op = .read) {r : ORes N} (e : opA P D a H o = some r) :
    ∃ v, r = .val v H ∧ ∀ (σ : Sub) (ρ : Operand → Value) (w : World), HRel den σ H w → EnvRel den P D σ a ρ o.op.operands.toList → ∃ rv, (execOp ρ o).run P w = .ok (.value rv) w ∧ VRel den σ v rv := by
  unfold opA at e
  cases hop : o.op <;> simp only [hop, kindO] at hk e <;> first | (cases hk; done) | skip
  case load t x =>
    split at e
    · rename_i i o' hx
      obtain ⟨v, h1, rfl⟩ := ow_inv e
      refine ⟨_, rfl, fun σ ρ w h he => ?_⟩
      have h2 := he x (by simp [Op.operands]) _ hx
      simp only [VRel] at h2
      obtain ⟨l, hl, hρ⟩ := h2
      obtain ⟨rv, hr, hv⟩ := loadA_sound (P := P) h hl h1
      refine ⟨rv, ?_, hv⟩
      simp only [execOp, hop, hρ]
      exact run_value (by simp only [Instr.loadAt, Instr.sureAddr, Sem.run_bind, Sem.run_pure, Result.andThen_ok, hr])
    · cases e
  case lookup t x k ok =>
    split at e
    · rename_i u v' hx hkk
      obtain ⟨v, h1, rfl⟩ := ow_inv e
      refine ⟨_, rfl, fun σ ρ w h he => ?_⟩
      obtain ⟨rv, hr, hv⟩ := lookupA_sound (P := P) hD h h1 (he x (by simp [Op.operands]) _ hx) (he k (by simp [Op.operands]) _ hkk)
      exact ⟨rv, by simp only [execOp, hop]; exact run_value hr, hv⟩
    · cases e
  case entry x =>
    split at e
    · rename_i u hx
      obtain ⟨v, h1, rfl⟩ := ow_inv e
      refine ⟨_, rfl, fun σ ρ w h he => ?_⟩
      obtain ⟨rv, hr, hv⟩ := entryA_sound (P := P) h h1 (he x (by simp [Op.operands]) _ hx)
      exact ⟨rv, by simp only [execOp, hop]; exact run_value hr, hv⟩
    · cases e
  case convert s d x =>
    split at e
    · rename_i u hx
      obtain ⟨v, H', h1, rfl⟩ := ov_inv e
      have hna : ∀ e', P.underlying s = some .string → P.underlying d = some (.slice e') → False := by
        intro e' hs hd
        rw [hs, hd] at hk
        simp at hk
      have key : H' = H := by
        unfold convA at h1
        split at h1
        · obtain ⟨m, hm, he⟩ := Option.map_eq_some_iff.1 h1; cases he; rfl
        · cases h1; rfl
        · rename_i hs hd
          exact (hna _ hs hd).elim
        · split at h1
          · split at h1
            · cases h1; rfl
            · cases h1; rfl
            · simp only [nbeq, Bool.cond_decide] at h1
              split at h1
              · split at h1
                · obtain ⟨m, hm, he⟩ := Option.map_eq_some_iff.1 h1; cases he; rfl
                · cases h1
              · cases h1
            · cases h1
          · cases h1
        · cases h1
      subst key
      refine ⟨_, rfl, fun σ ρ w h he => ?_⟩
      obtain ⟨_, rv, hr, hv⟩ := convA_same (P := P) hD h h1 hna (he x (by simp [Op.operands]) _ hx)
      exact ⟨rv, by simp only [execOp, hop]; exact run_value hr, hv⟩
    · cases e
  case call c =>
    split at e
    · cases e
    rename_i us hus
    cases hcal : c.callee with
    | value f => rw [hcal] at hk; cases hk
    | invoke f n => rw [hcal] at hk; cases hk
    | builtin b =>
      rw [hcal] at hk e
      simp only at e
      cases b <;> simp only [reduceCtorEq] at hk
      case len =>
        unfold builtinA at e
        split at e <;> first | (cases e; done) | skip
        all_goals first | (rename_i heq; cases heq; done) | skip
        rename_i x _
        obtain ⟨v', h1, rfl⟩ := ow_inv e
        refine ⟨_, rfl, fun σ ρ w h he => ?_⟩
        obtain ⟨rx, hra, hx⟩ := args1 (ra := c.args.map ρ) (callArgs_rel hus he)
        obtain ⟨rv, hr, hv⟩ := lenA_sound (P := P) hD h h1 hx o.type
        exact ⟨rv, by rw [exec_builtin hop hcal, hra]; exact run_value hr, hv⟩

/-- an operation that lays one block behind all others. -/
def AllocOp (den : N → Int) (P : Program) (σ : Sub) (q : Nat) (w : World) (s : Sem Next) (v : AV N) (b : ABlk N) : Prop :=
  ∃ rv w' l, s.run P w = .ok (.value rv) w' ∧ l.r = w.heap.size ∧ w'.heap.size = w.heap.size + 1 ∧ (∀ r, r < w.heap.size → w'.heap[r]? = w.heap[r]?) ∧ w'.os = w.os ∧ w'.output = w.output ∧ w'.tape = w.tape ∧
    BRel den (σ.add q l) q w' b ∧ VRel den (σ.add q l) v rv

theorem AllocRun.op {q : Nat} {s : Sem Value} {v : AV N} {b : ABlk N} (h : AllocRun den P σ q w s v b) : AllocOp den P σ q w (do pure (Next.value (← s))) v b := by
  obtain ⟨rv, w', l, hr, h⟩ := h
  exact ⟨rv, w', l, run_value hr, h⟩

theorem new_inj {b b' : ABlk N} (h : (H.new b).2 = (H.new b').2) : b = b' := by
  have : (H.new b).2.blk H.next = (H.new b').2.blk H.next := by rw [h]
  simpa [AH.blk_new] using this

theorem newVar_alloc {q : Nat} (hn : σ q = none) {z : AV N} {rz : Value} (hz : VRel den σ z rz) (hj : z = .junk → False) (t : TypeId) (w : World) :
    AllocRun den P σ q w (do pure (.pointer (some (← newVar t rz)))) (.ptr q 0) (.cells (Row.ofList z.cells) false) := by
  refine ⟨.pointer (some ⟨w.heap.size, 0, none⟩), w.alloc (.cells rz.cells t), ⟨w.heap.size, 0, rz.cells.size⟩, ?_, rfl, by simp, fun r hr => World.heap_push_lt w _ hr, rfl, rfl, rfl, newList_brel hn t (cells_rel hz hj), ?_⟩
  · simp only [newVar, newRow, Sem.run_bind, run_newObj, Result.andThen_ok, Sem.run_pure]
    rfl
  · simp only [VRel]
    exact ⟨⟨w.heap.size, 0, rz.cells.size⟩, by simp [Sub.add], rfl⟩

theorem allocOp_sound (hD : DomOk D den) {o : Oper} (hk : kindO P o.op = .alloc) {r : ORes N} (e : opA P D a H o = some r) :
    ∃ v b, r = .val v (H.new b).2 ∧ ∀ (σ : Sub) (ρ : Operand → Value) (w : World), σ H.next = none → EnvRel den P D σ a ρ o.op.operands.toList → AllocOp den P σ H.next w (execOp ρ o) v b := by
  unfold opA at e
  cases hop : o.op <;> simp only [hop, kindO] at hk e <;> first | (cases hk; done) | skip
  case alloc t =>
    split at e
    · rename_i z hz
      split at e
      · rename_i n hn
        simp only [Bool.cond_eq_ite] at e
        split at e
        · obtain ⟨v, h1, rfl⟩ := ow_inv e
          cases h1
          refine ⟨_, _, rfl, fun σ ρ w hn he => ?_⟩
          obtain ⟨rz, hrz, hvz⟩ := zeroV_sound (P := P) (σ := σ) hD hz w
          have := newVar_alloc (P := P) hn hvz (zeroV_notJunk hz) t w
          obtain ⟨rv, w', l, hr, h⟩ := this
          refine ⟨rv, w', l, ?_, h⟩
          simp only [execOp, hop]
          refine run_value ?_
          simp only [Instr.alloc, Sem.run_bind, hrz, Result.andThen_ok]
          exact hr
        · cases e
      · cases e
    · cases e
  case box t x =>
    split at e
    · cases e
    · rename_i u hj hx
      simp only [Bool.cond_eq_ite] at e
      split at e
      · obtain ⟨v, h1, rfl⟩ := ow_inv e
        cases h1
        refine ⟨_, _, rfl, fun σ ρ w hn he => ?_⟩
        have hu := he x (by simp [Op.operands]) _ hx
        have := newVar_alloc (P := P) hn hu (by rintro rfl; exact hj rfl) t w
        obtain ⟨rv, w', l, hr, h⟩ := this
        refine ⟨rv, w', l, ?_, h⟩
        simp only [execOp, hop]
        exact run_value hr
      · cases e
    · cases e
  case buildSlice t len ps =>
    split at e
    · rename_i l hl
      obtain ⟨v, H', h1, rfl⟩ := ov_inv e
      have hform : ∃ b, H' = (H.new b).2 := by
        unfold buildSliceA at h1
        split at h1
        · split at h1
          · simp only [Bool.cond_eq_ite] at h1
            split at h1
            · split at h1
              · simp only [Option.some.injEq, Prod.mk.injEq] at h1
                exact ⟨_, h1.2.symm⟩
              · cases h1
            · cases h1
          · cases h1
        · cases h1
      obtain ⟨b, rfl⟩ := hform
      refine ⟨_, b, rfl, fun σ ρ w hn he => ?_⟩
      have hp := parts_rel (ρ := ρ) (σ := σ) (den := den) _ _ hl (fun x hx => he x (by simpa [Op.operands] using hx))
      obtain ⟨b', hb', ha⟩ := buildSliceA_alloc (P := P) (w := w) hD hn h1 (rps := ps.map fun (i, x) => (i, ρ x)) (by rw [Array.toList_map]; exact hp)
      have := new_inj hb'
      subst this
      simp only [execOp, hop]
      exact ha.op
    · cases e
  case makeMap t r' =>
    have hmk : ∀ (σ : Sub) (w : World), σ H.next = none → AllocRun den P σ H.next w (do pure (.map (some (← newObj (.map #[] 0))))) (.map H.next : AV N) (.map [] 0) := by
      intro σ w hn
      refine ⟨.map (some w.heap.size), w.alloc (.map #[] 0), ⟨w.heap.size, 0, 0⟩, ?_, rfl, by simp, fun r hr => World.heap_push_lt w _ hr, rfl, rfl, rfl, ?_, ?_⟩
      · simp only [Sem.run_bind, run_newObj, Result.andThen_ok, Sem.run_pure]
        rfl
      · simp only [BRel]
        exact ⟨⟨w.heap.size, 0, 0⟩, #[], by simp [Sub.add], World.heap_push_self _ _, by simp [ERels]⟩
      · simp only [VRel]
        exact ⟨⟨w.heap.size, 0, 0⟩, by simp [Sub.add], rfl⟩
    split at e
    · obtain ⟨v, h1, rfl⟩ := ow_inv e
      cases h1
      refine ⟨_, _, rfl, fun σ ρ w hn he => ?_⟩
      have := (hmk σ w hn).op
      simp only [execOp, hop, Option.map_none, Instr.makeMap]
      exact this
    · rename_i r0
      split at e
      · rename_i hu hx
        obtain ⟨v, h1, rfl⟩ := ow_inv e
        cases h1
        refine ⟨_, _, rfl, fun σ ρ w hn he => ?_⟩
        have hi := he r0 (by simp [Op.operands]) _ hx
        simp only [VRel] at hi
        obtain ⟨rv, w', l, hr, h⟩ := hmk σ w hn
        refine ⟨rv, w', l, ?_, h⟩
        simp only [execOp, hop, Option.map_some, Instr.makeMap]
        refine run_value ?_
        simp only [Sem.run_bind, run_underlying hu, Result.andThen_ok, hi, asInt, asIntOf, Sem.run_pure] at hr ⊢
        exact hr
      · cases e
  case makeSlice t l c =>
    split at e
    · rename_i u v' hl hc
      obtain ⟨v, H', h1, rfl⟩ := ov_inv e
      have hform : ∃ b, H' = (H.new b).2 := by
        unfold makeSliceA at h1
        split at h1
        · split at h1
          · simp only [Bool.cond_eq_ite] at h1
            split at h1
            · simp only [Option.some.injEq, Prod.mk.injEq] at h1
              exact ⟨_, h1.2.symm⟩
            · cases h1
          · cases h1
        · cases h1
      obtain ⟨b, rfl⟩ := hform
      refine ⟨_, b, rfl, fun σ ρ w hn he => ?_⟩
      obtain ⟨b', hb', ha⟩ := makeSliceA_alloc (P := P) (w := w) hD hn h1 (he l (by simp [Op.operands]) _ hl) (he c (by simp [Op.operands]) _ hc)
      have := new_inj hb'
      subst this
      simp only [execOp, hop]
      exact ha.op
    · cases e
  case convert s d x =>
    split at e
    · rename_i u hx
      obtain ⟨v, H', h1, rfl⟩ := ov_inv e
      obtain ⟨e', hs, hd⟩ : ∃ e', P.underlying s = some .string ∧ P.underlying d = some (.slice e') := by
        cases hs : P.underlying s with
        | none => rw [hs] at hk; simp at hk
        | some ds =>
          cases hd : P.underlying d with
          | none => rw [hs, hd] at hk; cases ds <;> simp at hk
          | some dd => rw [hs, hd] at hk; cases ds <;> cases dd <;> simp at hk; exact ⟨_, rfl, rfl⟩
      have hstr : ∃ q, u = .str q ∧ ∃ b, H' = (H.new b).2 := by
        unfold convA at h1
        rw [hs, hd] at h1
        split at h1
        · rename_i hq; cases hq
        · rename_i hq; cases hq
        · rename_i q _ _
          split at h1
          · simp only [Option.some.injEq, Prod.mk.injEq] at h1
            exact ⟨q, rfl, _, h1.2.symm⟩
          · cases h1
        · rename_i hq _; cases hq
        · cases h1
      obtain ⟨q, rfl, b, rfl⟩ := hstr
      refine ⟨_, b, rfl, fun σ ρ w hn he => ?_⟩
      obtain ⟨b', hb', ha⟩ := convA_alloc (P := P) (w := w) hD hn hs hd h1 (he x (by simp [Op.operands]) _ hx)
      have := new_inj hb'
      subst this
      simp only [execOp, hop]
      exact ha.op
    · cases e
  case call c =>
    cases hcal : c.callee with
    | value f => rw [hcal] at hk; cases hk
    | invoke f n => rw [hcal] at hk; cases hk
    | builtin b => rw [hcal] at hk; cases b <;> cases hk

end
end Go.Am

namespace Go.Am
section
variable {N : Type} {D : Dom N} {den : N → Int} {P : Program} {σ : Sub} {H : AH N} {w : World} {a : AAct N} {ρ : Operand → Value}

def TgtRel (den : N → Int) (σ : Sub) : ATarget N → Target → Prop
  | .fn f cap, t => ∃ cap', t = .fn f cap' ∧ VRels den σ cap cap'.toList
  | .collected r, t => ∃ l, σ r = some l ∧ t = .collected l.r

def DRel (den : N → Int) (σ : Sub) (d : ADef N) (rd : Deferred) : Prop := TgtRel den σ d.target rd.target ∧ VRels den σ d.args rd.args.toList

/-- what an operation that is no draw comes to. -/
def OpRes (den : N → Int) (P : Program) (σ : Sub) (H : AH N) (w : World) (s : Sem Next) : ORes N → Prop
  | .val v H' => ∃ rv w' σ', (s.run P w = .ok (.value rv) w' ∨ (s.run P w = .ok .skip w' ∧ rv = undef)) ∧ Ext σ H w σ' H' w' ∧ HRel den σ' H' w' ∧ VRel den σ' v rv
  | .enter f args => ∃ ra, s.run P w = .ok (.enter f ra) w ∧ VRels den σ args ra.toList
  | .round l args => ∃ m ra, σ l = some m ∧ s.run P w = (Instr.yield m.r ra).run P w ∧ VRels den σ args ra.toList
  | .defer d => ∃ rd, s.run P w = .ok (.defer rd) w ∧ DRel den σ d rd
  | _ => True

theorem VRun.opRes {s : Sem Value} {v : AV N} {H' : AH N} (h : VRun den P σ H w s v H') : OpRes den P σ H w (do pure (Next.value (← s))) (.val v H') := by
  obtain ⟨rv, w', σ', hr, h1, h2, h3⟩ := h
  exact ⟨rv, w', σ', .inl (run_value hr), h1, h2, h3⟩

theorem undef_rel : VRel den σ (undefA : AV N) undef := by
  show VRel den σ (.tuple [] : AV N) undef
  simp only [VRel]
  exact ⟨#[], rfl, by simp [VRels]⟩

theorem URun.opRes {s : Sem Unit} {H' : AH N} (h : URun den P σ H w s H') : OpRes den P σ H w (do s; pure Next.skip) (.val undefA H') := by
  obtain ⟨w', σ', hr, h1, h2⟩ := h
  exact ⟨undef, w', σ', .inr ⟨run_skip hr, rfl⟩, h1, h2, undef_rel⟩

theorem find_row {fn : Func} {row : Array Value → Sem Value} (h : IsRow fn.name row) (ho : fn.origin = "") : Extern.findNext fn = none ∧ Extern.find fn = some row := by
  constructor
  · unfold Extern.findNext
    simp only [h.next, ho, nextEmpty]
    rfl
  · unfold Extern.find
    simp only [h.gen, h.typed, h.row]
    rfl

theorem funcA_sound (hD : DomOk D den) (hG : GOk P σ) (h : HRel den σ H w) {f : FuncId} {args : List (AV N)} {r : ORes N} (e : funcA P D H f args = some r) {ra : Array Value} (ha : VRels den σ args ra.toList) :
    OpRes den P σ H w (callFunc f ra) r := by
  unfold funcA at e
  split at e
  · cases e
  rename_i fn hf
  cases hng : (fn.name == "runtime.NumGoroutine") with
  | true => rw [hng] at e; cases e
  | false =>
    rw [hng, cond_false] at e
    split at e
    · rename_i c hb
      cases e
      refine ⟨ra, ?_, ha⟩
      have h1 : fn.name ≠ "runtime.NumGoroutine" := by simpa using hng
      simp [callFunc, hf, h1, hb]
    · rename_i hb
      cases ho : (fn.origin == "") with
      | false => rw [ho] at e; cases e
      | true =>
        rw [ho, cond_true] at e
        have ho := eq_of_beq ho
        obtain ⟨v, H', h1, rfl⟩ := ov_inv e
        obtain ⟨row, hrow, rv, w', σ', hr, hx, hh, hv⟩ := externA_sound (P := P) hD hG h h1 ha
        obtain ⟨k1, k2⟩ := find_row hrow ho
        refine ⟨rv, w', σ', .inl ?_, hx, hh, hv⟩
        rw [run_callFunc_extern hf hng (by rw [hb]; rfl) k1 k2, hr]
        rfl

theorem followA_sound : ∀ (l : List FieldStep) (t : TypeId) (v : AV N) (t' : TypeId) (v' : AV N), followA P l t v = some (t', v') → ∀ rv, VRel den σ v rv → ∀ w, ∃ rv', (follow l t (.val rv)).run P w = .ok (t', .val rv') w ∧ VRel den σ v' rv'
  | [], t, v, t', v', e, rv, hv, w => by
    simp only [followA, Option.some.injEq, Prod.mk.injEq] at e
    obtain ⟨rfl, rfl⟩ := e
    exact ⟨rv, rfl, hv⟩
  | s :: rest, t, v, t', v', e, rv, hv, w => by
    unfold followA at e
    cases hd : s.deref with
    | true => rw [hd] at e; cases e
    | false =>
    rw [hd, cond_false] at e
    split at e
    · rename_i fields cs hu
      split at e
      · rename_i f hf
        split at e
        · rename_i u hu'
          rw [VRel] at hv
          obtain ⟨cs', rfl, hcs⟩ := hv
          obtain ⟨ru, hru, hrel⟩ := partA_sound (P := P) hcs hu' w
          obtain ⟨rv', hr, hv'⟩ := followA_sound rest f.type u t' v' e ru hrel w
          refine ⟨rv', ?_, hv'⟩
          simp only [follow, Sem.run_bind, run_underlying hu, Result.andThen_ok, hf, hd, Bool.false_eq_true, if_false, hru, hr]
        · cases e
      · cases e
    · cases e

theorem methodA_sound {t : TypeId} {v : AV N} {name : String} {f : FuncId} {u : AV N} (e : methodA P t v name = some (f, u)) {rv : Value} (hv : VRel den σ v rv) (n : Nat) (w : World) :
    ∃ ru, (method (n + 1) t rv name).run P w = .ok (f, ru) w ∧ VRel den σ u ru := by
  unfold methodA at e
  split at e
  · cases e
  rename_i i hi
  split at e
  · cases e
  rename_i m hm
  split at e
  · rename_i xt x f' ptr hfo hfu
    obtain ⟨rx, hfr, hx⟩ := followA_sound (P := P) _ _ _ _ _ hfo rv hv w
    have pre : ∀ wr, (method (n + 1) t rv name).run P w = ((do pure (f', ← receiverAt xt (.val rx) ptr wr) : Sem (FuncId × Value)).run P w) → True := fun _ _ => trivial
    have hmeth : (method (n + 1) t rv name).run P w = (do pure (f', ← receiverAt xt (.val rx) ptr (if m.path.isEmpty then some ((name.splitOn ".").getLastD name) else none)) : Sem (FuncId × Value)).run P w := by
      simp only [method, Sem.run_bind, run_info hi, Result.andThen_ok, hm, hfr, hfu]
    split at e
    · rename_i i' o' hu
      simp only [Option.some.injEq, Prod.mk.injEq] at e
      obtain ⟨rfl, rfl⟩ := e
      refine ⟨rx, ?_, hx⟩
      rw [hmeth]
      simp only [receiverAt, Sem.run_bind, run_underlying hu, Result.andThen_ok, Place.get, Sem.run_pure]
    · cases e
    · cases e
    · rename_i d _ _ hnp hu _
      simp only [Option.some.injEq, Prod.mk.injEq] at e
      obtain ⟨rfl, rfl⟩ := e
      refine ⟨rx, ?_, hx⟩
      rw [hmeth]
      simp only [receiverAt, Sem.run_bind, run_underlying hu, Result.andThen_ok]
      cases d <;> first | exact (hnp _ rfl).elim | (simp only [Place.get, Sem.run_pure, Result.andThen_ok])
    · cases e
  · cases e

theorem OpRes.of_run {s s' : Sem Next} (h : s.run P w = s'.run P w) {r : ORes N} (hr : OpRes den P σ H w s' r) : OpRes den P σ H w s r := by
  cases r with
  | val v H' =>
    obtain ⟨rv, w', σ', h1, h2⟩ := hr
    exact ⟨rv, w', σ', by rw [h]; exact h1, h2⟩
  | enter f args => obtain ⟨ra, h1, h2⟩ := hr; exact ⟨ra, by rw [h]; exact h1, h2⟩
  | round l args => obtain ⟨m, ra, h0, h1, h2⟩ := hr; exact ⟨m, ra, h0, by rw [h]; exact h1, h2⟩
  | defer d => obtain ⟨rd, h1, h2⟩ := hr; exact ⟨rd, by rw [h]; exact h1, h2⟩
  | panic v => trivial
  | recover => trivial

theorem callMethod_sound (hD : DomOk D den) (hG : GOk P σ) (h : HRel den σ H w) {t : TypeId} {v : AV N} {name : String} {f : FuncId} {u : AV N} (e1 : methodA P t v name = some (f, u)) {args : List (AV N)} {r : ORes N} (e2 : funcA P D H f (u :: args) = some r)
    {rv : Value} (hv : VRel den σ v rv) {ra : Array Value} (ha : VRels den σ args ra.toList) : OpRes den P σ H w (callMethod (.iface t rv) name ra) r := by
  obtain ⟨n, hn⟩ : ∃ n, P.types.size + Made.depth = n + 1 := ⟨P.types.size + Made.depth - 1, by have h0 : 0 < Made.depth := (by decide); omega⟩
  obtain ⟨ru, hr, hu⟩ := methodA_sound (P := P) e1 hv n w
  have := funcA_sound hD hG h e2 (ra := #[ru] ++ ra) (by
    rw [Array.toList_append]
    simp only [List.singleton_append, VRels]
    exact ⟨_, _, rfl, hu, ha⟩)
  refine this.of_run ?_
  have hp : (program : Sem Program).run P w = .ok P w := rfl
  simp only [callMethod, Sem.run_bind, hp, Result.andThen_ok, hn, hr]

theorem callValA_sound (hD : DomOk D den) (hG : GOk P σ) (h : HRel den σ H w) {f : AV N} {args : List (AV N)} {r : ORes N} (e : callValA P D H f args = some r) {rf : Value} (hf : VRel den σ f rf) {ra : Array Value} (ha : VRels den σ args ra.toList) :
    OpRes den P σ H w (do let d ← Deferred.ofValue rf ra; invoke d.target d.args) r := by
  unfold callValA at e
  split at e
  · rename_i g first cap
    rw [VRel] at hf
    obtain ⟨f', c', rfl, h1, h2⟩ := hf
    have := funcA_sound hD hG h e (ra := (f' ++ ra) ++ c') (by
      rw [Array.toList_append, Array.toList_append]
      exact (h1.append ha).append h2)
    refine this.of_run ?_
    simp only [Deferred.ofValue, Sem.run_bind, Sem.run_pure, Result.andThen_ok, invoke]
  · rename_i l
    cases e
    rw [VRel] at hf
    obtain ⟨m, hm, rfl⟩ := hf
    refine ⟨m, #[] ++ ra, hm, ?_, by simpa using ha⟩
    simp only [Deferred.ofValue, Sem.run_bind, Sem.run_pure, Result.andThen_ok, invoke]
  · rename_i name first cap
    split at e
    · rename_i t v rest heq
      split at e
      · rename_i f1 u hm
        rw [VRel] at hf
        obtain ⟨f', c', rfl, h1, _⟩ := hf
        have hall := h1.append ha
        rw [heq] at hall
        simp only [VRels] at hall
        obtain ⟨ri, rr, hl, hi, hrr⟩ := hall
        rw [VRel] at hi
        obtain ⟨rv, rfl, hv⟩ := hi
        have harr : f' ++ ra = #[.iface t rv] ++ rr.toArray := by
          apply Array.ext'
          rw [Array.toList_append, hl]
          simp
        have hx : (f' ++ ra).extract 1 (f' ++ ra).size = rr.toArray := by
          rw [harr]
          apply Array.ext'
          simp
        have h0 : (f' ++ ra)[0]? = some (.iface t rv) := by rw [harr]; simp
        have := callMethod_sound hD hG h hm e hv (ra := rr.toArray) (by simpa using hrr)
        refine this.of_run ?_
        simp only [Deferred.ofValue, Sem.run_bind, Sem.run_pure, Result.andThen_ok, invoke, h0, hx]
      · cases e
    · cases e
  · cases e

theorem ov_defer {x : Option (AV N × AH N)} {d : ADef N} (h : ov x = some (.defer d)) : False := by
  obtain ⟨v, H', _, h⟩ := ov_inv h; cases h

theorem builtinA_sound (hD : DomOk D den) (h : HRel den σ H w) {b : Builtin} {ats : Array TypeId} {args : List (AV N)} {r : ORes N} (e : builtinA P D H b ats args = some r) {ra : Array Value} (ha : VRels den σ args ra.toList) (ty : TypeId) (cs : Array Bool) :
    OpRes den P σ H w (builtin b ats ty cs ra) r := by
  unfold builtinA at e
  split at e
  · obtain ⟨v, H', h1, rfl⟩ := ov_inv e
    obtain ⟨rx, ry, rfl, hx, hy⟩ := args2 ha
    exact (appendA_sound hD h h1 hx hy ty).opRes
  · obtain ⟨v, h1, rfl⟩ := ow_inv e
    obtain ⟨rx, rfl, hx⟩ := args1 ha
    obtain ⟨rv, hr, hv⟩ := lenA_sound (P := P) hD h h1 hx ty
    exact (VRun.same h hr hv).opRes
  · obtain ⟨v, H', h1, rfl⟩ := ov_inv e
    obtain ⟨rx, ry, rfl, hx, hy⟩ := args2 ha
    exact (copyA_sound hD h h1 hx hy ty).opRes
  · obtain ⟨v, H', h1, rfl⟩ := ov_inv e
    obtain ⟨rx, rfl, hx⟩ := args1 ha
    exact (clearA_sound hD h h1 hx ty).opRes
  · obtain ⟨H', h1, rfl⟩ := Option.map_eq_some_iff.1 e
    obtain ⟨rx, ry, rfl, hx, hy⟩ := args2 ha
    exact (deleteA_sound hD h h1 hx hy ty).opRes
  · obtain ⟨v, h1, rfl⟩ := ow_inv e
    simp only [VRels] at ha
    obtain ⟨rx, rr, hl, hx, hrr⟩ := ha
    obtain ⟨rv, hr, hv⟩ := foldMM_sound (P := P) hD true Builtin.min2 rfl _ _ _ h1 rx rr hx hrr w
    have : (Builtin.min_ ats ty ra).run P w = .ok rv w := by
      unfold Builtin.min_
      rw [hl]
      exact hr
    exact (VRun.same h this hv).opRes
  · obtain ⟨v, h1, rfl⟩ := ow_inv e
    simp only [VRels] at ha
    obtain ⟨rx, rr, hl, hx, hrr⟩ := ha
    obtain ⟨rv, hr, hv⟩ := foldMM_sound (P := P) hD false Builtin.max2 rfl _ _ _ h1 rx rr hx hrr w
    have : (Builtin.max_ ats ty ra).run P w = .ok rv w := by
      unfold Builtin.max_
      rw [hl]
      exact hr
    exact (VRun.same h this hv).opRes
  · cases e; trivial
  · obtain ⟨v, h1, rfl⟩ := ow_inv e
    obtain ⟨rx, rfl, hx⟩ := args1 ha
    obtain ⟨rv, hr, hv⟩ := capA_sound (P := P) hD h1 hx ty w
    exact (VRun.same h hr hv).opRes
  · cases e

theorem opA_sound (hD : DomOk D den) (hG : GOk P σ) (h : HRel den σ H w) {o : Oper} {r : ORes N} (e : opA P D a H o = some r) (he : EnvRel den P D σ a ρ o.op.operands.toList) :
    OpRes den P σ H w (execOp ρ o) r := by
  cases hk : kindO P o.op with
  | pure =>
    obtain ⟨v, rfl, hs⟩ := pureOp_sound hD hk e
    obtain ⟨rv, hr, hv⟩ := hs σ ρ w he
    exact ⟨rv, w, σ, .inl hr, Ext.refl _ _ _, h, hv⟩
  | read =>
    obtain ⟨v, rfl, hs⟩ := readOp_sound hD hk e
    obtain ⟨rv, hr, hv⟩ := hs σ ρ w h he
    exact ⟨rv, w, σ, .inl hr, Ext.refl _ _ _, h, hv⟩
  | alloc =>
    obtain ⟨v, b, rfl, hs⟩ := allocOp_sound hD hk e
    obtain ⟨rv, w', l, hr, hl, hsz, hold, ho, hout, ht, hb, hv⟩ := hs σ ρ w h.none_next he
    obtain ⟨g1, g2⟩ := new_rel' h b l hl hsz hold ho hout ht hb
    exact ⟨rv, w', _, .inl hr, g2, g1, hv⟩
  | eff =>
    unfold opA at e
    cases hop : o.op <;> simp only [hop, kindO] at hk e <;> first | (cases hk; done) | (cases e; done) | skip
    case store t x v =>
      split at e
      · rename_i i o' u hx hv
        obtain ⟨H', h1, rfl⟩ := ou_inv e
        have h2 := he x (by simp [hop, Op.operands]) _ hx
        simp only [VRel] at h2
        obtain ⟨l, hl, hρ⟩ := h2
        obtain ⟨w', hr, hh, hxx⟩ := storeA_sound (P := P) h hl (he v (by simp [hop, Op.operands]) _ hv) h1
        have : URun den P σ H w (Instr.storeAt t (ρ x) (ρ v)) H' := by
          refine ⟨w', σ, ?_, hxx, hh⟩
          rw [hρ]
          simp only [Instr.storeAt, Instr.sureAddr, Sem.run_bind, Sem.run_pure, Result.andThen_ok, hr]
        refine this.opRes.of_run ?_
        simp only [execOp, hop]
      · cases e
    case mapUpdate t m k v =>
      split at e
      · rename_i u1 u2 u3 hm hkk hv
        obtain ⟨H', h1, rfl⟩ := ou_inv e
        have := mapUpdateA_sound (P := P) hD h h1 (he m (by simp [hop, Op.operands]) _ hm) (he k (by simp [hop, Op.operands]) _ hkk) (he v (by simp [hop, Op.operands]) _ hv)
        refine this.opRes.of_run ?_
        simp only [execOp, hop]
      · cases e
    case mapEntry t m k =>
      split at e
      · rename_i u1 u2 hm hkk
        obtain ⟨v, H', h1, rfl⟩ := ov_inv e
        have := mapEntryA_sound (P := P) hD h h1 (he m (by simp [hop, Op.operands]) _ hm) (he k (by simp [hop, Op.operands]) _ hkk)
        refine this.opRes.of_run ?_
        simp only [execOp, hop]
      · cases e
    case entryStore t m s v =>
      split at e
      · rename_i u1 u2 u3 hm hs hv
        obtain ⟨H', h1, rfl⟩ := ou_inv e
        have := entryStoreA_sound (P := P) hD h h1 (he m (by simp [hop, Op.operands]) _ hm) (he s (by simp [hop, Op.operands]) _ hs) (he v (by simp [hop, Op.operands]) _ hv) t
        refine this.opRes.of_run ?_
        simp only [execOp, hop]
      · cases e
    case range t x =>
      split at e
      · rename_i u hx
        obtain ⟨v, H', h1, rfl⟩ := ov_inv e
        have := rangeA_sound (P := P) h h1 (he x (by simp [hop, Op.operands]) _ hx)
        refine this.opRes.of_run ?_
        simp only [execOp, hop]
      · cases e
    case call c =>
      split at e
      · cases e
      rename_i us hus
      have hargs := callArgs_rel hus (by rw [hop] at he; exact he)
      split at e
      · rename_i b hcal
        have := builtinA_sound hD h e hargs o.type (c.args.map fun | .const _ => true | _ => false)
        exact this.of_run (exec_builtin hop hcal ρ w)
      · rename_i f hcal
        split at e
        · rename_i fv hfv
          have hf := he f (by simp [hop, Op.operands, Call.operands, hcal]) _ hfv
          have := callValA_sound hD hG h e hf hargs
          refine this.of_run ?_
          simp only [execOp, hop, resolve, hcal, Sem.run_bind, Result.andThen_ok]
        · cases e
      · rename_i rc name hcal
        split at e
        · rename_i t v hrc
          split at e
          · rename_i f rv hm
            have hi := he rc (by simp [hop, Op.operands, Call.operands, hcal]) _ hrc
            rw [VRel] at hi
            obtain ⟨rv', hρ, hv⟩ := hi
            have := callMethod_sound hD hG h hm e hv hargs
            refine this.of_run ?_
            have h0 : (#[Value.iface t rv'] ++ c.args.map ρ)[0]? = some (.iface t rv') := by rw [Array.getElem?_append_left (by simp)]; rfl
            have hx : (#[Value.iface t rv'] ++ c.args.map ρ).extract 1 (#[Value.iface t rv'] ++ c.args.map ρ).size = c.args.map ρ := by
              apply Array.ext'
              simp [List.take_of_length_le]
            simp only [execOp, hop, resolve, hcal, Sem.run_bind, Sem.run_pure, Result.andThen_ok, hρ, invoke, h0, hx]
          · cases e
        · cases e
    case defer c =>
      split at e
      · rename_i f us hcal hus
        split at e
        · rename_i g first cap hfv
          cases e
          have hargs : VRels den σ us (c.args.map ρ).toList := by
            rw [Array.toList_map]
            exact evals_rel _ _ hus (fun z hz => he z (by simp only [hop, Op.operands, Call.operands, Array.toList_append, List.mem_append]; exact .inr hz))
          have hf := he f (by simp [hop, Op.operands, Call.operands, hcal]) _ hfv
          rw [VRel] at hf
          obtain ⟨f', c', hρ, h1, h2⟩ := hf
          refine ⟨{ target := .fn (.func g) c', args := f' ++ c.args.map ρ }, ?_, ⟨c', rfl, h2⟩, ?_⟩
          · simp only [execOp, hop, resolve, hcal, hρ, Deferred.ofValue, Sem.run_bind, Sem.run_pure, Result.andThen_ok]
          · rw [Array.toList_append]
            exact h1.append hargs
        · cases e
      · cases e
    case panic x =>
      split at e
      · cases e; trivial
      · cases e
    case convert s d x =>
      exfalso
      cases hs : P.underlying s with
      | none => rw [hs] at hk; cases hk
      | some ds =>
        cases hd : P.underlying d with
        | none => rw [hs, hd] at hk; cases ds <;> cases hk
        | some dd => rw [hs, hd] at hk; cases ds <;> cases dd <;> cases hk

end
end Go.Am
