/- Every code, call, loop and scope of the abstract machine is sound, given its regions that draw an order. -/
import Derived.Test.YtbkefimllhmfjaaGreatDoorA1
import Derived.Test.YtbkefimllhmfjaaGreatDoorA5
import Derived.CallsIn
import Derived.OrdersIn
import Derived.LoopNIn
import Derived.RangeFuncIn
import Derived.RangeFuncCalls
import Derived.RangeFuncLeaves
import Derived.DefersIn
set_option linter.unusedVariables false
set_option linter.unusedSimpArgs false
set_option linter.unusedSectionVars false
namespace Go.Am
section
variable {N : Type} {D : Dom N} {den : N → Int} {P : Program} {σ : Sub} {H : AH N} {w : World} {a : AAct N}

def DRels (den : N → Int) (σ : Sub) : List (ADef N) → List Deferred → Prop
  | [], l => l = []
  | d :: ds, l => ∃ r rs, l = r :: rs ∧ DRel den σ d r ∧ DRels den σ ds rs

structure ARel (den : N → Int) (σ : Sub) (a : AAct N) (ra : Act) : Prop where
  tmps : TRel den σ a.n a.t ra.tmps
  defers : DRels den σ a.d ra.defers

theorem DRel.mono {σ' : Sub} (h : σ.le σ') {d : ADef N} {rd : Deferred} (hd : DRel den σ d rd) : DRel den σ' d rd := by
  obtain ⟨h1, h2⟩ := hd
  refine ⟨?_, VRels.mono h _ _ h2⟩
  cases ht : d.target with
  | fn f cap =>
    rw [ht] at h1
    obtain ⟨c, e, hc⟩ := h1
    exact ⟨c, e, VRels.mono h _ _ hc⟩
  | collected r =>
    rw [ht] at h1
    obtain ⟨l, hl, e⟩ := h1
    exact ⟨l, h _ _ hl, e⟩

theorem DRels.mono {σ' : Sub} (h : σ.le σ') : ∀ {ds : List (ADef N)} {rs : List Deferred}, DRels den σ ds rs → DRels den σ' ds rs
  | [], _, e => by simpa [DRels] using e
  | d :: ds, _, e => by
    simp only [DRels] at e ⊢
    obtain ⟨r, rs, rfl, h1, h2⟩ := e
    exact ⟨r, rs, rfl, h1.mono h, h2.mono h⟩

theorem ARel.mono {σ' : Sub} (h : σ.le σ') {ra : Act} (ha : ARel den σ a ra) : ARel den σ' a ra := ⟨ha.tmps.mono h, ha.defers.mono h⟩

theorem aeval_sound (hD : DomOk D den) (hG : GOk P σ) {ra : Act} (ha : ARel den σ a ra) {x : Operand} {u : AV N} (e : aeval P D a x = some u) : VRel den σ u (ra.eval x) := by
  cases x with
  | tmp t =>
    simp only [aeval_tmp, Bool.cond_eq_ite, Nat.blt_eq] at e
    split at e
    · rename_i ht
      cases e
      exact ha.tmps.2 t ht
    · cases e
  | const v => exact ofValue_sound hD 6 v u e
  | global g =>
    simp only [aeval, Bool.cond_eq_ite, Nat.blt_eq] at e
    split at e
    · rename_i hg
      cases e
      obtain ⟨l, hl, h1, h2⟩ := hG g (by omega)
      simp only [VRel]
      exact ⟨l, hl, by simp [Act.eval, h1, h2]⟩
    · cases e
  | func f =>
    cases e
    simp only [VRel]
    exact ⟨#[], #[], rfl, by simp [VRels], by simp [VRels]⟩

theorem ARel.env (hD : DomOk D den) (hG : GOk P σ) {ra : Act} (ha : ARel den σ a ra) (l : List Operand) : EnvRel den P D σ a ra.eval l := fun _ _ _ e => aeval_sound hD hG ha e

theorem aput_sound {ra : Act} (ha : ARel den σ a ra) {dst : Option Tmp} {v : AV N} {a' : AAct N} (e : aput a dst v = some a') {rv : Value} (hv : VRel den σ v rv) : ARel den σ a' (ra.put dst rv) := by
  rw [aput_eq] at e
  split at e
  · cases e; exact ha
  · rename_i d
    simp only [Bool.cond_eq_ite, Nat.blt_eq] at e
    split at e
    · rename_i hd
      cases e
      refine ⟨⟨by simp [Act.put, ha.tmps.1], fun i hi => ?_⟩, ha.defers⟩
      simp only [Act.put, Tr.get_set]
      by_cases hid : i = d
      · subst hid
        have : i < ra.tmps.size := by rw [ha.tmps.1]; exact hi
        simp [Array.getD_eq_getD_getElem?, this]
        exact hv
      · rw [if_neg hid]
        have := ha.tmps.2 i hi
        simp only [Array.getD_eq_getD_getElem?] at this ⊢
        rw [Array.getElem?_setIfInBounds_ne (by omega)]
        exact this
    · cases e

theorem pushD_sound {ra : Act} (ha : ARel den σ a ra) {d : Option (ADef N)} {rds : List Deferred} (hd : match d with | none => rds = ra.defers | some d => ∃ rd, DRel den σ d rd ∧ rds = rd :: ra.defers) : ARel den σ (pushD a d) { ra with defers := rds } := by
  cases d with
  | none => simp only at hd; subst hd; exact ha
  | some d =>
    obtain ⟨rd, h1, rfl⟩ := hd
    refine ⟨ha.tmps, ?_⟩
    simp only [pushD, DRels]
    exact ⟨rd, ra.defers, rfl, h1, ha.defers⟩

theorem wantedA_sound {ops : Array Oper} {o : Oper} {ra : Act} (ha : ARel den σ a ra) {b : Bool} (e : wantedA ops a o = some b) : Region.wanted o (yielded ops ra.tmps) = b := by
  unfold wantedA at e
  unfold Region.wanted
  cases hg : o.guard with
  | none => rw [hg] at e; cases e; rfl
  | some jw =>
    obtain ⟨j, want⟩ := jw
    rw [hg] at e
    simp only at e ⊢
    unfold yielded
    cases hd : (ops[j]?).bind (·.dst) with
    | none => rw [hd] at e; cases e; rfl
    | some d =>
      rw [hd] at e
      simp only [Bool.cond_eq_ite, Nat.blt_eq] at e
      simp only [Option.bind_some]
      split at e
      · rename_i hlt
        have hr := ha.tmps.2 d hlt
        have hsz : d < ra.tmps.size := by rw [ha.tmps.1]; exact hlt
        have hget : ra.tmps[d]? = some (ra.tmps.getD d undef) := by simp [Array.getD_eq_getD_getElem?, hsz]
        rw [hget]
        split at e
        · rename_i b' hb
          rw [hb] at hr
          simp only [VRel] at hr
          rw [hr]
          cases e
          rfl
        · cases e
        · rename_i hnb hnj
          cases e
          have : ∀ b', ra.tmps.getD d undef ≠ .bool b' := by
            intro b' hb'
            rw [hb'] at hr
            generalize (a.t.get d).getD undefA = q at hr hnb hnj
            cases q <;> simp only [VRel] at hr <;> first | (cases hr; done) | (exact hnb _ rfl) | (exact hnj rfl) | (obtain ⟨_, hr⟩ := hr; first | (cases hr; done) | (obtain ⟨hr, _⟩ := hr; cases hr; done) | (obtain ⟨_, hr⟩ := hr; first | (cases hr; done) | (obtain ⟨hr, _⟩ := hr; cases hr; done) | (obtain ⟨_, hr, _⟩ := hr; cases hr))) | (obtain ⟨hr, _⟩ := hr; cases hr)
          revert this
          generalize ra.tmps.getD d undef = q
          intro this
          cases q <;> first | rfl | exact (this _ rfl).elim
      · rename_i hge
        cases e
        have : ra.tmps[d]? = none := by rw [Array.getElem?_eq_none]; rw [ha.tmps.1]; omega
        rw [this]
        rfl

/-- how a code's ways out stand for the abstract ones. -/
def ExRel : AEx N → Exit → Prop
  | .normal, .normal => True
  | .exit i, .exit j => i = j
  | .goto i, .goto j => i = j
  | .ret, .ret => True
  | _, _ => False

def QC (den : N → Int) (outs : List (Out N)) (σ : Sub) (H : AH N) (w : World) : Exit → Act → World → Prop := fun e ra w' =>
  ∃ o ∈ outs, ∃ σ', ExRel o.ex e ∧ ARel den σ' o.a ra ∧ HRel den σ' o.H w' ∧ Ext σ H w σ' o.H w'

def QV (den : N → Int) (outs : List (Out N)) (σ : Sub) (H : AH N) (w : World) : Ending → World → Prop
  | .returned v, w' => ∃ o ∈ outs, ∃ va σ', o.ex = .val va ∧ VRel den σ' va v ∧ HRel den σ' o.H w' ∧ Ext σ H w σ' o.H w'
  | _, _ => False

/-- the fence of a frame: of no round, or of one. -/
def FR (σ : Sub) (r : Option Nat) (F : Fence) : Prop :=
  match r with
  | none => F = Fence.wide
  | some l => ∃ m, σ l = some m ∧ F = Fence.wide.inRound m.r

theorem FR.mono {σ' : Sub} (h : σ.le σ') {r : Option Nat} {F : Fence} (hf : FR σ r F) : FR σ' r F := by
  cases r with
  | none => exact hf
  | some l =>
    obtain ⟨m, hm, e⟩ := hf
    exact ⟨m, h _ _ hm, e⟩

theorem FR.fn {r : Option Nat} {F : Fence} (hf : FR σ r F) (f : FuncId) : F.fn f := by
  cases r with
  | none => rw [show F = Fence.wide from hf]; trivial
  | some l => obtain ⟨m, _, e⟩ := hf; rw [e]; trivial

theorem FR.depth {r : Option Nat} {F : Fence} (hf : FR σ r F) : F.depth = none := by
  cases r with
  | none => rw [show F = Fence.wide from hf]; rfl
  | some l => obtain ⟨m, _, e⟩ := hf; rw [e]; rfl

theorem FR.calls {r : Option Nat} {F : Fence} (hf : FR σ r F) {n : Nat} {f : FuncId} {args : Array Value} {w : World} {R : Ending → World → Prop} (h : CallsIn Fence.wide n P f args w R) : CallsIn F n P f args w R := by
  cases r with
  | none => rw [show F = Fence.wide from hf]; exact h
  | some l => obtain ⟨m, _, e⟩ := hf; rw [e]; exact h

theorem FR.round {r : Option Nat} {F : Fence} (hf : FR σ r F) {n l : Nat} {f : FuncId} {ts : Array Value} {as bd : Code} {w : World} {R : Ending → World → Prop} (h : RoundIn Fence.wide n P l f ts as bd w R) : RoundIn F n P l f ts as bd w R := by
  cases r with
  | none => rw [show F = Fence.wide from hf]; exact h
  | some l => obtain ⟨m, _, e⟩ := hf; rw [e]; exact h

structure RecOk (den : N → Int) (P : Program) (rec : Task N → Option (List (Out N))) : Prop where
  code : ∀ {r c a H outs}, rec (.code r c a H) = some outs → ∀ {σ w ra F}, HRel den σ H w → ARel den σ a ra → GOk P σ → FR σ r F → ∀ k, c.wpIn F k P (QC den outs σ H w) ra w
  scope : ∀ {r whole cur a H outs}, rec (.scope r whole cur a H) = some outs → ∀ {σ w ra F}, HRel den σ H w → ARel den σ a ra → GOk P σ → FR σ r F →
    ∀ k (b : Frame) (its : List Item) (cs : List Frame), b.roundOf = F.round → F.fn b.fn → F.room (cs.length + 1 + k) →
      ∃ e a' w', QC den outs σ H w e a' w' ∧ ArrivesIn (Machine.fenced P F) P (lone (b.atR ra (.code cur :: .inScope whole :: its)) cs w) b its cs e a' w'
  rounds : ∀ {r c a H outs}, rec (.rounds r c a H) = some outs → ∀ {σ w ra F}, HRel den σ H w → ARel den σ a ra → GOk P σ → FR σ r F →
    ∀ k (b : Frame) (its : List Item) (cs : List Frame), b.roundOf = F.round → F.fn b.fn → F.room (cs.length + 1 + k) →
      ∃ e a' w', QC den outs σ H w e a' w' ∧ ArrivesIn (Machine.fenced P F) P (lone (b.atR ra (.code c :: .inLoop c :: its)) cs w) b its cs e a' w'
  call : ∀ {f args H outs}, rec (.call f args H) = some outs → ∀ {σ w} {ra : Array Value}, HRel den σ H w → GOk P σ → VRels den σ args ra.toList → ∀ k, CallsIn Fence.wide k P f ra w (QV den outs σ H w)
  round : ∀ {l args H outs}, rec (.round l args H) = some outs → ∀ {σ w m} {ra : Array Value}, σ l = some m → HRel den σ H w → GOk P σ → VRels den σ args ra.toList →
    ∃ f ts as bd, (Instr.yield m.r ra).run P w = .ok (.round m.r f ts as bd) w ∧ ∀ k, RoundIn Fence.wide k P m.r f ts as bd w (QV den outs σ H w)

theorem valOut_inv {x : Out N} {y : AV N × Option (ADef N) × AH N} (h : valOut x = some y) : x.ex = .val y.1 ∧ y.2.1 = none ∧ y.2.2 = x.H := by
  unfold valOut at h
  split at h
  · rename_i v hv; cases h; exact ⟨hv, rfl, rfl⟩
  · cases h

theorem mapM_mem {α β : Type} {f : α → Option β} : ∀ {l : List α} {l' : List β}, l.mapM f = some l' → ∀ x ∈ l, ∃ y ∈ l', f x = some y
  | [], l', h, x, hx => by cases hx
  | a :: l, l', h, x, hx => by
    rw [List.mapM_cons] at h
    simp only [bind, Option.bind_eq_some_iff, pure, Option.some.injEq] at h
    obtain ⟨b, hb, bs, hbs, rfl⟩ := h
    rcases List.mem_cons.1 hx with rfl | hx
    · exact ⟨b, by simp, hb⟩
    · obtain ⟨y, hy, e⟩ := mapM_mem hbs x hx
      exact ⟨y, by simp [hy], e⟩

/-- one operation. -/
theorem oneB_sound (hD : DomOk D den) {rec : Task N → Option (List (Out N))} (hrec : RecOk den P rec) {r : Option Nat} {F : Fence} (hF : FR σ r F) {o : Oper} {l : List (AV N × Option (ADef N) × AH N)} (e : oneB P D rec r a H o = some l)
    (hG : GOk P σ) (h : HRel den σ H w) {ra : Act} (he : EnvRel den P D σ a ra.eval o.op.operands.toList) {next : Act → World → Prop} {Q : Exit → Act → World → Prop} (n : Nat)
    (K : ∀ x ∈ l, ∀ σ' w' rv rds, Ext σ H w σ' x.2.2 w' → HRel den σ' x.2.2 w' → VRel den σ' x.1 rv → (match x.2.1 with | none => rds = ra.defers | some d => ∃ rd, DRel den σ' d rd ∧ rds = rd :: ra.defers) → next ({ ra with defers := rds }.put o.dst rv) w') :
    o.wpIn F n P ra w next Q := by
  refine ⟨fun f _ => hF.fn f, ?_⟩
  have hsem : ∀ (_ : (∀ c, o.op ≠ .defer c) ∨ r = none), o.semAt F.round ra.eval = execOp ra.eval o := by
    intro hd
    rcases hd with hd | hd
    · exact Oper.semAt_eq _ _ _ hd
    · subst hd
      rw [show F = Fence.wide from hF]
      rfl
  unfold oneB at e
  split at e
  · rename_i x isString hop
    rw [hsem (.inl (by rw [hop]; intro c h; cases h))]
    split at e
    · rename_i v hv
      obtain ⟨outs, ho, rfl⟩ := Option.map_eq_some_iff.1 e
      obtain ⟨p, hp, rv, w', σ', hr, hx, hh, hvv⟩ := nextA_sound (P := P) h ho (he x (by simp [hop, Op.operands]) _ hv) o.type
      have : (execOp ra.eval o).run P w = .ok (.value rv) w' := by
        simp only [execOp, hop]
        exact run_value hr
      rw [this]
      exact K (p.1, none, p.2) (List.mem_map.2 ⟨p, hp, rfl⟩) σ' w' rv ra.defers hx hh hvv rfl
    · cases e
  · rename_i hnn
    cases hop : opA P D a H o with
    | none => rw [hop] at e; cases e
    | some res =>
      have hs := opA_sound hD hG h hop he
      rw [hop] at e
      cases res with
      | val v H' =>
        cases e
        have hnd : ∀ c, o.op ≠ .defer c := by
          intro c hc
          unfold opA at hop
          rw [hc] at hop
          simp only at hop
          split at hop
          · split at hop
            · cases hop
            · cases hop
          · cases hop
        rw [hsem (.inl hnd)]
        obtain ⟨rv, w', σ', hr, hx, hh, hv⟩ := hs
        have hk := K (v, none, H') (by simp) σ' w' rv ra.defers hx hh hv rfl
        rcases hr with hr | ⟨hr, rfl⟩
        · rw [hr]; exact hk
        · rw [hr]; exact hk
      | enter f args =>
        have hnd : ∀ c, o.op ≠ .defer c := by
          intro c hc
          unfold opA at hop
          rw [hc] at hop
          simp only at hop
          split at hop
          · split at hop
            · cases hop
            · cases hop
          · cases hop
        rw [hsem (.inl hnd)]
        simp only at e
        split at e
        · rename_i outs hcall
          obtain ⟨ra', hr, hra⟩ := hs
          rw [hr]
          refine ⟨fun hd => absurd hd (by rw [hF.depth]; simp), (hF.calls (hrec.call hcall h hG hra (n - 1))).mono ?_⟩
          intro en w' hq
          cases en with
          | returned v =>
            obtain ⟨x, hx, va, σ', hex, hv, hh, hxt⟩ := hq
            obtain ⟨y, hy, hyv⟩ := mapM_mem e x hx
            obtain ⟨h1, h2, h3⟩ := valOut_inv hyv
            rw [hex] at h1
            cases h1
            refine K y hy σ' w' v ra.defers (by rw [h3]; exact hxt) (by rw [h3]; exact hh) hv ?_
            rw [h2]
          | panicked ch => exact hq.elim
          | outgrown => exact hq.elim
        · cases e
      | round l' args =>
        have hnd : ∀ c, o.op ≠ .defer c := by
          intro c hc
          unfold opA at hop
          rw [hc] at hop
          simp only at hop
          split at hop
          · split at hop
            · cases hop
            · cases hop
          · cases hop
        rw [hsem (.inl hnd)]
        simp only at e
        split at e
        · rename_i outs hcall
          obtain ⟨m, ra', hm, hr, hra⟩ := hs
          obtain ⟨f, ts, as, bd, hy, hround⟩ := hrec.round hcall hm h hG hra
          rw [hr, hy]
          refine ⟨fun hd => absurd hd (by rw [hF.depth]; simp), (hF.round (hround (n - 1))).mono ?_⟩
          intro en w' hq
          cases en with
          | returned v =>
            obtain ⟨x, hx, va, σ', hex, hv, hh, hxt⟩ := hq
            obtain ⟨y, hy, hyv⟩ := mapM_mem e x hx
            obtain ⟨h1, h2, h3⟩ := valOut_inv hyv
            rw [hex] at h1
            cases h1
            refine K y hy σ' w' v ra.defers (by rw [h3]; exact hxt) (by rw [h3]; exact hh) hv ?_
            rw [h2]
          | panicked ch => exact hq.elim
          | outgrown => exact hq.elim
        · cases e
      | defer d =>
        simp only at e
        split at e
        · cases e
          rw [hsem (.inr rfl)]
          obtain ⟨rd, hr, hd⟩ := hs
          rw [hr]
          exact K (undefA, some d, H) (by simp) σ w undef (rd :: ra.defers) (Ext.refl _ _ _) h undef_rel ⟨rd, hd, rfl⟩
        · cases e
      | panic v => cases e
      | recover => cases e

end
end Go.Am

namespace Go.Am
section
variable {N : Type} {D : Dom N} {den : N → Int} {P : Program} {σ : Sub} {H : AH N} {w : World} {a : AAct N}

/-! Merging. -/
theorem get_mergeTr : ∀ (t t' : Tr (ABlk N)) (i : Nat), (mergeTr D t t').get i = match t.get i, t'.get i with | some a, some b => (if ABlk.beq D a b = true then some a else none) | _, _ => none
  | .nil, t', i => by simp [mergeTr, Tr.get]
  | .node l v r, .nil, i => by
    simp only [mergeTr, Tr.get]
    split <;> simp_all
  | .node l v r, .node l' v' r', i => by
    simp only [mergeTr, Tr.get_node]
    by_cases h0 : i = 0
    · simp only [h0, if_true]
      cases v <;> cases v' <;> simp [Bool.cond_eq_ite]
    · simp only [h0, if_false]
      by_cases h1 : i % 2 = 1
      · simp only [h1, if_true]; exact get_mergeTr l l' _
      · simp only [h1, if_false]; exact get_mergeTr r r' _

theorem entsBeq_sound (hD : DomOk D den) : ∀ (a b : List (AEnt N)), entsBeq D a b = true → ∀ rs, ERels den σ b rs → ERels den σ a rs
  | [], b, h, rs, hr => by cases b <;> simp [entsBeq] at h; exact hr
  | x :: a, b, h, rs, hr => by
    cases b with
    | nil => simp [entsBeq] at h
    | cons y b =>
      simp only [entsBeq, Bool.and_eq_true, nbeq, decide_eq_true_eq] at h
      obtain ⟨⟨⟨h1, h2⟩, h3⟩, h4⟩ := h
      simp only [ERels] at hr ⊢
      obtain ⟨z, zs, rfl, k1, k2, k3, k4⟩ := hr
      exact ⟨z, zs, rfl, (beq_sound hD _ _ h1 _).2 k1, (beq_sound hD _ _ h2 _).2 k2, by omega, entsBeq_sound hD a b h4 zs k4⟩

theorem blkBeq_sound (hD : DomOk D den) {b b' : ABlk N} (h : ABlk.beq D b b' = true) : b.live = b'.live ∧ b.wr = b'.wr ∧ ∀ (σ : Sub) i w, BRel den σ i w b' → BRel den σ i w b := by
  unfold ABlk.beq at h
  split at h
  · rename_i r ro s so
    simp only [Bool.and_eq_true, nbeq, decide_eq_true_eq, beq_iff_eq, List.all_eq_true, List.mem_range] at h
    obtain ⟨⟨h1, rfl⟩, h2⟩ := h
    refine ⟨rfl, by cases ro <;> rfl, fun σ i w hb => ?_⟩
    simp only [BRel] at hb ⊢
    obtain ⟨l, cs, e, fr, hl, hh, hs, hz, hc, hf⟩ := hb
    refine ⟨l, cs, e, fr, hl, hh, hs, by omega, fun j hj => ?_, hf⟩
    obtain ⟨v, hv, hr⟩ := hc j (by omega)
    exact ⟨v, hv, (beq_sound hD _ _ (h2 j hj) _).2 hr⟩
  · rename_i x c y d
    simp only [Bool.and_eq_true, nbeq, decide_eq_true_eq] at h
    obtain ⟨h1, rfl⟩ := h
    refine ⟨rfl, rfl, fun σ i w hb => ?_⟩
    simp only [BRel] at hb ⊢
    obtain ⟨l, es', hl, hh, he⟩ := hb
    exact ⟨l, es', hl, hh, entsBeq_sound hD _ _ h1 _ he⟩
  · rename_i x1 x2 x3 x4 y1 y2 y3 y4
    simp only [Bool.and_eq_true, nbeq, decide_eq_true_eq] at h
    obtain ⟨⟨⟨h1, rfl⟩, h3⟩, rfl⟩ := h
    have h3 := (natsBeq_iff _ _).1 h3
    subst h3
    have h1 : x1 = y1 := by
      cases x1 <;> cases y1 <;> simp [optNatBeq, nbeq] at h1 ⊢
      exact h1
    subst h1
    exact ⟨rfl, rfl, fun σ i w hb => hb⟩
  · exact ⟨rfl, rfl, fun _ _ _ hb => hb⟩
  · exact ⟨rfl, rfl, fun _ _ _ hb => hb⟩
  · cases h

/-- a heap that knows less. -/
structure Less (K H : AH N) : Prop where
  next : H.next ≤ K.next
  blk : ∀ i, K.blk i = .dead ∨ ((K.blk i).live = (H.blk i).live ∧ (K.blk i).wr = (H.blk i).wr)

theorem live_false {b : ABlk N} (h : b.live = false) : b = .dead := by cases b <;> simp_all [ABlk.live]

theorem HRel.less (h : HRel den σ H w) {K : AH N} (hl : Less K H) (hb : ∀ i, K.blk i ≠ .dead → BRel den σ i w (K.blk i)) : HRel den σ K w := by
  have hlive : ∀ i, (K.blk i).live = true → (H.blk i).live = true := by
    intro i hi
    rcases hl.blk i with e | e
    · rw [e] at hi; simp [ABlk.live] at hi
    · rw [← e.1]; exact hi
  refine ⟨fun i => ?_, fun i j li lj hi hj => h.inj i j li lj (hlive i hi) (hlive j hj), fun i l hi => Nat.lt_of_lt_of_le (h.dom i l hi) hl.next, h.bnd, fun i hi => ?_⟩
  · by_cases e : K.blk i = .dead
    · rw [e]; trivial
    · exact hb i e
  · rcases hl.blk i with e | e
    · exact e
    · have := h.fut i (Nat.le_trans hl.next hi)
      rw [this] at e
      exact live_false e.1

theorem Ext.less {σ0 : Sub} {H0 : AH N} {w0 : World} (h : Ext σ0 H0 w0 σ H w) {K : AH N} (hl : Less K H) : Ext σ0 H0 w0 σ K w where
  sub := h.sub
  size := h.size
  os := h.os
  out := h.out
  tape := h.tape
  next := Nat.le_trans h.next hl.next
  frame := h.frame
  range := fun i l hi hs hr => by
    rcases hl.blk i with e | e
    · rw [e] at hi; simp [ABlk.live] at hi
    · obtain ⟨j, m, h1, h2, h3, h4⟩ := h.range i l (by rw [← e.1]; exact hi) hs hr
      exact ⟨j, m, h1, h2, h3, fun hw => h4 (by rw [← e.2]; exact hw)⟩
  only := h.only

theorem mergeH_blk (H H' : AH N) (i : Nat) : (mergeH D H H').blk i = .dead ∨ ((mergeH D H H').blk i = H.blk i ∧ ABlk.beq D (H.blk i) (H'.blk i) = true) := by
  unfold AH.blk mergeH
  simp only [get_mergeTr]
  cases H.m.get i with
  | none => simp
  | some a =>
    cases H'.m.get i with
    | none => simp
    | some b =>
      simp only [Option.getD_some]
      by_cases hb : ABlk.beq D a b = true
      · simp [hb]
      · simp [hb]

theorem merge_left (H H' : AH N) : Less (mergeH D H H') H where
  next := Nat.le_max_left _ _
  blk := fun i => by
    rcases mergeH_blk (D := D) H H' i with e | ⟨e, _⟩
    · exact .inl e
    · right; rw [e]; exact ⟨rfl, rfl⟩

theorem merge_right (hD : DomOk D den) (H H' : AH N) : Less (mergeH D H H') H' where
  next := Nat.le_max_right _ _
  blk := fun i => by
    rcases mergeH_blk (D := D) H H' i with e | ⟨e, hb⟩
    · exact .inl e
    · right; rw [e]
      obtain ⟨h1, h2, _⟩ := blkBeq_sound hD hb
      exact ⟨h1, h2⟩

/-- one outcome stands for another. -/
def Covers (den : N → Int) (x m : Out N) : Prop :=
  ∃ v v', x.ex = .val v ∧ m.ex = .val v' ∧ (∀ (σ : Sub) rv, VRel den σ v rv → VRel den σ v' rv) ∧ (∀ (σ : Sub) w, HRel den σ x.H w → HRel den σ m.H w) ∧
    ∀ (σ0 : Sub) H0 w0 σ w, Ext σ0 H0 w0 σ x.H w → Ext σ0 H0 w0 σ m.H w

theorem Covers.trans {x y z : Out N} (h : Covers den x y) (h' : Covers den y z) : Covers den x z := by
  obtain ⟨v, v', e1, e2, h1, h2, h3⟩ := h
  obtain ⟨u, u', e3, e4, k1, k2, k3⟩ := h'
  rw [e2] at e3; cases e3
  exact ⟨v, u', e1, e4, fun σ rv hr => k1 σ rv (h1 σ rv hr), fun σ w hr => k2 σ w (h2 σ w hr), fun _ _ _ _ _ hr => k3 _ _ _ _ _ (h3 _ _ _ _ _ hr)⟩

theorem merge_sound (hD : DomOk D den) : ∀ (rest : List (Out N)) (o m : Out N) (v : AV N), o.ex = .val v → merge D o rest = some m → Covers den o m ∧ ∀ x ∈ rest, Covers den x m
  | [], o, m, v, hv, h => by
    simp only [merge, Option.some.injEq] at h
    subst h
    exact ⟨⟨v, v, hv, hv, fun _ _ h => h, fun _ _ h => h, fun _ _ _ _ _ h => h⟩, by simp⟩
  | o' :: rest, o, m, v, hv, h => by
    unfold merge at h
    split at h
    · rename_i u u' hu hu'
      rw [hv] at hu; cases hu
      simp only [Bool.cond_eq_ite] at h
      split at h
      · rename_i hb
        obtain ⟨h1, h2⟩ := merge_sound hD rest { o with H := mergeH D o.H o'.H } m v hv h
        have c1 : Covers den o { o with H := mergeH D o.H o'.H } := ⟨v, v, hv, hv, fun _ _ h => h, fun σ w hr => hr.less (merge_left _ _) (fun i hi => by
            rcases mergeH_blk (D := D) o.H o'.H i with e | ⟨e, _⟩
            · exact (hi e).elim
            · show BRel den σ i w ((mergeH D o.H o'.H).blk i)
              rw [e]; exact hr.blk i), fun _ _ _ _ _ hr => hr.less (merge_left _ _)⟩
        have c2 : Covers den o' { o with H := mergeH D o.H o'.H } := ⟨u', v, hu', hv, fun σ rv hr => (beq_sound hD _ _ hb rv).2 hr, fun σ w hr => hr.less (merge_right hD _ _) (fun i hi => by
            rcases mergeH_blk (D := D) o.H o'.H i with e | ⟨e, hb⟩
            · exact (hi e).elim
            · show BRel den σ i w ((mergeH D o.H o'.H).blk i)
              rw [e]; exact (blkBeq_sound hD hb).2.2 σ i w (hr.blk i)), fun _ _ _ _ _ hr => hr.less (merge_right hD _ _)⟩
        refine ⟨c1.trans h1, fun x hx => ?_⟩
        rcases List.mem_cons.1 hx with rfl | hx
        · exact c2.trans h1
        · exact h2 x hx
      · cases h
    · cases h

theorem mergeAll_sound (hD : DomOk D den) {outs outs' : List (Out N)} (h : mergeAll D outs = some outs') {σ0 : Sub} {H0 : AH N} {w0 : World} {e : Ending} {w : World} (hq : QV den outs σ0 H0 w0 e w) : QV den outs' σ0 H0 w0 e w := by
  unfold mergeAll at h
  split at h
  · cases h
  · cases h; exact hq
  · rename_i o rest hne
    obtain ⟨m, hm, rfl⟩ := Option.map_eq_some_iff.1 h
    cases e with
    | returned v =>
      obtain ⟨x, hx, va, σ', hex, hv, hh, hxt⟩ := hq
      have hoval : ∃ u, o.ex = .val u := by
        cases rest with
        | nil => rcases List.mem_singleton.1 hx with rfl; exact ⟨va, hex⟩
        | cons o' rest =>
          unfold merge at hm
          split at hm
          · rename_i u u' hu hu'
            exact ⟨u, hu⟩
          · cases hm
      obtain ⟨u, hu⟩ := hoval
      obtain ⟨h1, h2⟩ := merge_sound hD rest o m u hu hm
      have hc : Covers den x m := by
        rcases List.mem_cons.1 hx with rfl | hx
        · exact h1
        · exact h2 x hx
      obtain ⟨v1, v2, e1, e2, k1, k2, k3⟩ := hc
      rw [hex] at e1; cases e1
      exact ⟨m, by simp, v2, σ', e2, k1 _ _ hv, k2 _ _ hh, k3 _ _ _ _ _ hxt⟩
    | panicked ch => exact hq.elim
    | outgrown => exact hq.elim

/-! Results; entering. -/
theorem tmpA_sound {ra : Act} (ha : ARel den σ a ra) {t : Tmp} {u : AV N} (e : tmpA a t = some u) : VRel den σ u (ra.tmps.getD t undef) := by
  simp only [tmpA, Bool.cond_eq_ite, Nat.blt_eq] at e
  split at e
  · rename_i ht; cases e; exact ha.tmps.2 t ht
  · cases e

def resultR (tmps : Array Value) : ResultVar → Sem Value
  | .tmp t => pure (tmps.getD t undef)
  | .cell a t => do loadVar t (← asAddr (tmps.getD a undef))

theorem resultA_sound (h : HRel den σ H w) {ra : Act} (ha : ARel den σ a ra) {x : ResultVar} {u : AV N} (e : resultA P a H x = some u) : ∃ rv, (resultR ra.tmps x).run P w = .ok rv w ∧ VRel den σ u rv := by
  unfold resultA at e
  split at e
  · exact ⟨_, rfl, tmpA_sound ha e⟩
  · split at e
    · rename_i i o hi
      have := tmpA_sound ha hi
      simp only [VRel] at this
      obtain ⟨l, hl, hv⟩ := this
      obtain ⟨rv, hr, hrel⟩ := loadA_sound (P := P) h hl e
      refine ⟨rv, ?_, hrel⟩
      simp only [resultR, hv, asAddr, Sem.run_bind, Sem.run_pure, Result.andThen_ok, hr]
    · cases e

theorem resultsL_sound (h : HRel den σ H w) {ra : Act} (ha : ARel den σ a ra) : ∀ (l : List ResultVar) (us : List (AV N)), l.mapM (resultA P a H) = some us → ∃ rs, (l.mapM (resultR ra.tmps)).run P w = .ok rs w ∧ VRels den σ us rs
  | [], us, e => by simp at e; subst e; exact ⟨[], by simp, by simp [VRels]⟩
  | x :: l, us, e => by
    rw [List.mapM_cons] at e
    simp only [bind, Option.bind_eq_some_iff, pure, Option.some.injEq] at e
    obtain ⟨u, hu, vs, hvs, rfl⟩ := e
    obtain ⟨rv, hr, hv⟩ := resultA_sound (P := P) h ha hu
    obtain ⟨rs, hrs, hvs⟩ := resultsL_sound h ha l vs hvs
    refine ⟨rv :: rs, ?_, by simp only [VRels]; exact ⟨_, _, rfl, hv, hvs⟩⟩
    rw [List.mapM_cons]
    simp only [Sem.run_bind, hr, Result.andThen_ok, hrs, Sem.run_pure]

theorem resultsA_sound (h : HRel den σ H w) {ra : Act} (ha : ARel den σ a ra) {fn : Func} {v : AV N} (e : resultsA P fn a H = some v) : ∃ rv, (results fn ra.tmps).run P w = .ok rv w ∧ VRel den σ v rv := by
  unfold resultsA at e
  have hres : results fn ra.tmps = (do
      let vs ← fn.results.mapM (resultR ra.tmps)
      pure (if h : vs.size = 1 then vs[0] else .tuple vs)) := by
    unfold results
    congr 1
  split at e
  · cases e
  all_goals
    rename_i hm
    obtain ⟨rs, hrs, hv⟩ := resultsL_sound (P := P) h ha _ _ hm
    have hrun : (fn.results.mapM (resultR ra.tmps)).run P w = .ok rs.toArray w := by
      rw [Array.mapM_eq_mapM_toList, map_eq_pure_bind]
      simp only [Sem.run_bind, hrs, Result.andThen_ok, Sem.run_pure]
    rw [hres]
    simp only [Sem.run_bind, hrun, Result.andThen_ok, Sem.run_pure]
    cases e
  · simp only [VRels] at hv
    obtain ⟨rv, _, rfl, hv, rfl⟩ := hv
    exact ⟨rv, by simp, hv⟩
  · rename_i us hne
    refine ⟨.tuple rs.toArray, ?_, by simp only [VRel]; exact ⟨_, rfl, by simpa using hv⟩⟩
    have hlen := hv.length
    have : ¬ rs.toArray.size = 1 := by
      intro h1
      simp only [List.size_toArray] at h1
      rw [h1] at hlen
      match us, hlen, hne with
      | [u], _, hne => exact hne u rfl
    rw [dif_neg this]

end
end Go.Am

namespace Go.Am
section
variable {N : Type} {D : Dom N} {den : N → Int} {P : Program} {σ : Sub} {H : AH N} {w : World} {a : AAct N}

theorem eachOut_mem {f : Out N → Option (List (Out N))} : ∀ {l outs : List (Out N)}, eachOut f l = some outs → ∀ x ∈ l, ∃ l', f x = some l' ∧ ∀ y ∈ l', y ∈ outs
  | [], _, _, x, hx => by cases hx
  | o :: l, outs, h, x, hx => by
    unfold eachOut at h
    split at h
    · rename_i l1 l2 h1 h2
      cases h
      rcases List.mem_cons.1 hx with rfl | hx
      · exact ⟨l1, h1, fun y hy => List.mem_append.2 (.inl hy)⟩
      · obtain ⟨l', e, hl⟩ := eachOut_mem h2 x hx
        exact ⟨l', e, fun y hy => List.mem_append.2 (.inr (hl y hy))⟩
    · cases h

theorem QC.trans {σ0 : Sub} {H0 : AH N} {w0 : World} {l outs : List (Out N)} (hx : Ext σ0 H0 w0 σ H w) (hl : ∀ y ∈ l, y ∈ outs) {e : Exit} {ra : Act} {w' : World} (h : QC den l σ H w e ra w') : QC den outs σ0 H0 w0 e ra w' := by
  obtain ⟨o, ho, σ', h1, h2, h3, h4⟩ := h
  exact ⟨o, hl o ho, σ', h1, h2, h3, hx.trans h4⟩

theorem seqOps_sound (hD : DomOk D den) {rec : Task N → Option (List (Out N))} (hrec : RecOk den P rec) {r : Option Nat} {F : Fence} {ops : Array Oper} {σ0 : Sub} {H0 : AH N} {w0 : World} (n : Nat) {Q : Exit → Act → World → Prop} :
    ∀ (rest : List Oper) (i : Nat), ops.toList.drop i = rest → ∀ {a : AAct N} {H : AH N} {outs : List (Out N)}, seqOps P D rec r ops rest a H = some outs → (∀ e ra w, QC den outs σ0 H0 w0 e ra w → Q e ra w) →
      ∀ {σ : Sub} {w : World} {ra : Act}, Ext σ0 H0 w0 σ H w → HRel den σ H w → ARel den σ a ra → GOk P σ → FR σ r F → wpOpsIn F n P ops Q (List.range' i rest.length) ra w
  | [], i, _, a, H, outs, e, hQ, σ, w, ra, hx, h, ha, hG, hF => by
    simp only [seqOps, Option.some.injEq] at e
    subst e
    exact hQ .normal _ _ ⟨{ ex := .normal, a := a, H := H }, by simp, σ, trivial, ha, h, hx⟩
  | o :: rest, i, hdrop, a, H, outs, e, hQ, σ, w, ra, hx, h, ha, hG, hF => by
    have hi : ops[i]? = some o := by
      have : (ops.toList.drop i)[0]? = some o := by rw [hdrop]; rfl
      simpa using this
    have hdrop' : ops.toList.drop (i + 1) = rest := by
      rw [← List.drop_drop, hdrop]; rfl
    rw [List.length_cons, List.range'_succ, wpOpsIn]
    simp only [hi]
    unfold seqOps at e
    split at e
    · cases e
    · rename_i hw
      rw [wantedA_sound ha hw]
      simp only [Bool.false_eq_true, if_false]
      refine ⟨fun f _ => hF.fn f, ?_⟩
      split at e
      · rename_i a' hput
        exact seqOps_sound hD hrec n rest (i + 1) hdrop' e hQ hx h (aput_sound ha hput undef_rel) hG hF
      · cases e
    · rename_i hw
      rw [wantedA_sound ha hw]
      simp only [if_true]
      split at e
      · cases e
      · rename_i l hl
        unfold oneA at hl
        split at hl
        · rename_i lb hlb
          refine oneB_sound hD hrec hF hlb hG h (ha.env hD hG _) n ?_
          intro x hx' σ' w' rv rds hxt hh hv hd
          obtain ⟨y, hy, hput⟩ := mapM_mem hl x hx'
          unfold putB at hput
          obtain ⟨a', hput', rfl⟩ := Option.map_eq_some_iff.1 hput
          obtain ⟨l', hl', hsub⟩ := eachOut_mem e _ hy
          have ha' := ha.mono hxt.sub
          have hd' : (match x.2.1 with | none => rds = ra.defers | some d => ∃ rd, DRel den σ' d rd ∧ rds = rd :: ra.defers) := hd
          have hp := aput_sound (pushD_sound ha' hd') hput' hv
          exact seqOps_sound hD hrec n rest (i + 1) hdrop' hl' (fun e ra w hq => hQ e ra w (by
            obtain ⟨o, ho, r⟩ := hq
            exact ⟨o, hsub o ho, r⟩)) (hx.trans hxt) hh hp (hG.mono hxt.sub) (hF.mono hxt.sub)
        · cases hl

/-! Scopes. -/
theorem exitRel_normal {x : AEx N} (h : ExRel x .normal) : x = .normal := by cases x <;> first | rfl | cases h


/-- the code of a task, out of what is assumed of 'rec'. -/
theorem wpIn_seq_sound {rec : Task N → Option (List (Out N))} (hrec : RecOk den P rec) {r : Option Nat} {F : Fence} {x y : Code} {l outs : List (Out N)} (hx : rec (.code r x a H) = some l)
    (e : eachOut (fun o => match o.ex with
      | .normal => rec (.code r y o.a o.H)
      | _ => some [o]) l = some outs) (h : HRel den σ H w) {ra : Act} (ha : ARel den σ a ra) (hG : GOk P σ) (hF : FR σ r F) (k : Nat) : (Code.seq x y).wpIn F k P (QC den outs σ H w) ra w := by
  refine wpIn_seq (wpIn_mono (hrec.code hx h ha hG hF k) ?_)
  intro ex ra' w' hq
  obtain ⟨o, ho, σ', h1, h2, h3, h4⟩ := hq
  obtain ⟨l', hl', hsub⟩ := eachOut_mem e o ho
  cases ex with
  | normal =>
    have hn := exitRel_normal h1
    rw [hn] at hl'
    exact wpIn_mono (hrec.code hl' h3 h2 (hG.mono h4.sub) (hF.mono h4.sub) k) (fun e ra w hq => hq.trans h4 hsub)
  | exit id => cases hoe : o.ex <;> rw [hoe] at h1 hl' <;> first | exact h1.elim | (cases hl'; exact ⟨o, hsub o (by simp), σ', by rw [hoe]; exact h1, h2, h3, h4⟩)
  | goto id => cases hoe : o.ex <;> rw [hoe] at h1 hl' <;> first | exact h1.elim | (cases hl'; exact ⟨o, hsub o (by simp), σ', by rw [hoe]; exact h1, h2, h3, h4⟩)
  | ret => cases hoe : o.ex <;> rw [hoe] at h1 hl' <;> first | exact h1.elim | (cases hl'; exact ⟨o, hsub o (by simp), σ', by rw [hoe]; exact h1, h2, h3, h4⟩)
  | panic ch => cases hoe : o.ex <;> rw [hoe] at h1 <;> exact h1.elim
  | outgrown => cases hoe : o.ex <;> rw [hoe] at h1 <;> exact h1.elim

theorem exRel_same {x : AEx N} {e : Exit} (h : ExRel x e) (hne : e ≠ .normal) : x ≠ .normal := by
  rintro rfl
  cases e <;> first | exact hne rfl | exact h

/-- outcomes that go on, or stay. -/
theorem QC.next {f : Out N → Option (List (Out N))} {l outs : List (Out N)} (e : eachOut f l = some outs) {ex : Exit} {ra : Act} {w' : World} (hq : QC den l σ H w ex ra w') (hne : ∀ o, ExRel o.ex ex → f o = some [o]) : QC den outs σ H w ex ra w' := by
  obtain ⟨o, ho, σ', h1, h2, h3, h4⟩ := hq
  obtain ⟨l', hl', hsub⟩ := eachOut_mem e o ho
  rw [hne o h1] at hl'
  cases hl'
  exact ⟨o, hsub o (by simp), σ', h1, h2, h3, h4⟩

/-- the rounds of a loop. -/
theorem rounds_sound {rec : Task N → Option (List (Out N))} (hrec : RecOk den P rec) {r : Option Nat} {F : Fence} {c : Code} {l outs : List (Out N)} (hx : rec (.code r c a H) = some l)
    (e : eachOut (fun o => match o.ex with
      | .normal => rec (.rounds r c o.a o.H)
      | _ => some [o]) l = some outs) (h : HRel den σ H w) {ra : Act} (ha : ARel den σ a ra) (hG : GOk P σ) (hF : FR σ r F) (k : Nat) (b : Frame) (its : List Item) (cs : List Frame) (hro : b.roundOf = F.round) (hb : F.fn b.fn) (hr : F.room (cs.length + 1 + k)) :
    ∃ e a' w', QC den outs σ H w e a' w' ∧ ArrivesIn (Machine.fenced P F) P (lone (b.atR ra (.code c :: .inLoop c :: its)) cs w) b its cs e a' w' := by
  obtain ⟨ex, a₁, w₁, hq, harr⟩ := hrec.code hx h ha hG hF k b (.inLoop c :: its) cs hro hb hr
  cases ex with
  | normal =>
    obtain ⟨o, ho, σ', h1, h2, h3, h4⟩ := hq
    obtain ⟨l', hl', hsub⟩ := eachOut_mem e o ho
    have hn := exitRel_normal h1
    rw [hn] at hl'
    obtain ⟨e₂, a₂, w₂, hq₂, harr₂⟩ := hrec.rounds hl' h3 h2 (hG.mono h4.sub) (hF.mono h4.sub) k b its cs hro hb hr
    exact ⟨e₂, a₂, w₂, hq₂.trans h4 hsub, .of_steps (StepsIn.trans harr (.one (fenced_calm hb hr rfl) stepR_inLoop)) harr₂⟩
  | exit id => exact ⟨_, a₁, w₁, hq.next e (fun o ho => by cases hoe : o.ex <;> rw [hoe] at ho <;> first | exact ho.elim | rfl), .pass (x := .inLoop c) rfl (fun _ _ => .inl (by simp)) harr⟩
  | goto l => exact ⟨_, a₁, w₁, hq.next e (fun o ho => by cases hoe : o.ex <;> rw [hoe] at ho <;> first | exact ho.elim | rfl), .pass (x := .inLoop c) rfl (fun _ _ => .inl (by simp)) harr⟩
  | ret => exact ⟨_, a₁, w₁, hq.next e (fun o ho => by cases hoe : o.ex <;> rw [hoe] at ho <;> first | exact ho.elim | rfl), .pass (x := .inLoop c) rfl (fun _ _ => .inl (by simp)) harr⟩
  | panic ch => obtain ⟨o, _, _, h1, _⟩ := hq; cases hoe : o.ex <;> rw [hoe] at h1 <;> exact h1.elim
  | outgrown => obtain ⟨o, _, _, h1, _⟩ := hq; cases hoe : o.ex <;> rw [hoe] at h1 <;> exact h1.elim

theorem stepR_scope' {b : Frame} {a : Act} {k : List Item} {cs : List Frame} {w : World} {c : Code} : step P (lone (b.atR a (.code (.scope c) :: k)) cs w) = .next (lone (b.atR a (.code c :: .inScope c :: k)) cs w) :=
  step_lone_go (by simp [stepG, stepG.exec, Frame.atR])
theorem stepR_inScope' {b : Frame} {a : Act} {k : List Item} {cs : List Frame} {w : World} {c : Code} : step P (lone (b.atR a (.inScope c :: k)) cs w) = .next (lone (b.atR a k) cs w) :=
  step_lone_go (by simp [stepG, stepG.exec, Frame.atR])

/-- the codes of a scope. -/
theorem scope_sound {rec : Task N → Option (List (Out N))} (hrec : RecOk den P rec) {r : Option Nat} {F : Fence} {whole cur : Code} {l outs : List (Out N)} (hx : rec (.code r cur a H) = some l)
    (e : eachOut (fun o => match o.ex with
      | .goto t => match findLabel whole t with
        | some rest => rec (.scope r whole rest o.a o.H)
        | none => some [o]
      | _ => some [o]) l = some outs) (h : HRel den σ H w) {ra : Act} (ha : ARel den σ a ra) (hG : GOk P σ) (hF : FR σ r F) (k : Nat) (b : Frame) (its : List Item) (cs : List Frame) (hro : b.roundOf = F.round) (hb : F.fn b.fn) (hr : F.room (cs.length + 1 + k)) :
    ∃ e a' w', QC den outs σ H w e a' w' ∧ ArrivesIn (Machine.fenced P F) P (lone (b.atR ra (.code cur :: .inScope whole :: its)) cs w) b its cs e a' w' := by
  obtain ⟨ex, a₁, w₁, hq, harr⟩ := hrec.code hx h ha hG hF k b (.inScope whole :: its) cs hro hb hr
  cases ex with
  | normal => exact ⟨.normal, a₁, w₁, hq.next e (fun o ho => by cases hoe : o.ex <;> rw [hoe] at ho <;> first | exact ho.elim | rfl), StepsIn.trans harr (.one (fenced_calm hb hr rfl) stepR_inScope')⟩
  | goto t =>
    cases hfl : findLabel whole t with
    | none =>
      refine ⟨.goto t, a₁, w₁, hq.next e (fun o ho => by
        cases hoe : o.ex <;> rw [hoe] at ho <;> first | exact ho.elim | skip
        simp only [ExRel] at ho
        subst ho
        simp only [hfl]), ?_⟩
      have hg : gotoIn t (.inScope whole :: its) = gotoIn t its := by simp [gotoIn, hfl]
      exact ⟨fun k' hk => harr.1 k' (by rw [hg]; exact hk), fun hr' hk => harr.2 hr' (by rw [hg]; exact hk)⟩
    | some rest =>
      obtain ⟨o, ho, σ', h1, h2, h3, h4⟩ := hq
      obtain ⟨l', hl', hsub⟩ := eachOut_mem e o ho
      cases hoe : o.ex <;> rw [hoe] at h1 hl' <;> first | exact h1.elim | skip
      simp only [ExRel] at h1
      rw [h1] at hl'
      simp only [hfl] at hl'
      obtain ⟨e₂, a₂, w₂, hq₂, harr₂⟩ := hrec.scope hl' h3 h2 (hG.mono h4.sub) (hF.mono h4.sub) k b its cs hro hb hr
      have hg : gotoIn t (.inScope whole :: its) = some (.code rest :: .inScope whole :: its) := by simp [gotoIn, hfl]
      exact ⟨e₂, a₂, w₂, hq₂.trans h4 hsub, .of_steps (harr.1 _ hg) harr₂⟩
  | exit id =>
    refine ⟨.exit id, a₁, w₁, hq.next e (fun o ho => by cases hoe : o.ex <;> rw [hoe] at ho <;> first | exact ho.elim | rfl), ?_⟩
    have hx : exitTo id (.inScope whole :: its) = exitTo id its := by simp [exitTo]
    exact ⟨fun k' hk => harr.1 k' (by rw [hx]; exact hk), fun hr' hk => harr.2 hr' (by rw [hx]; exact hk)⟩
  | ret => exact ⟨.ret, a₁, w₁, hq.next e (fun o ho => by cases hoe : o.ex <;> rw [hoe] at ho <;> first | exact ho.elim | rfl), harr⟩
  | panic ch => obtain ⟨o, _, _, h1, _⟩ := hq; cases hoe : o.ex <;> rw [hoe] at h1 <;> exact h1.elim
  | outgrown => obtain ⟨o, _, _, h1, _⟩ := hq; cases hoe : o.ex <;> rw [hoe] at h1 <;> exact h1.elim

end
end Go.Am

namespace Go.Am
section
variable {N : Type} {D : Dom N} {den : N → Int} {P : Program} {σ : Sub} {H : AH N} {w : World} {a : AAct N}

theorem enter_get : ∀ (args : List (AV N)) (k : Nat) (t : Tr (AV N)) (i : Nat), ((args.foldl (fun (s : Nat × Tr (AV N)) v => (s.1 + 1, s.2.set s.1 v)) (k, t)).2).get i = if k ≤ i ∧ i < k + args.length then args[i - k]? else t.get i
  | [], k, t, i => by simp; intro h1 h2; omega
  | v :: args, k, t, i => by
    rw [List.foldl_cons, enter_get args (k + 1)]
    simp only [List.length_cons, Tr.get_set]
    by_cases h : k + 1 ≤ i ∧ i < k + 1 + args.length
    · rw [if_pos h, if_pos (by omega), show i - k = (i - (k + 1)) + 1 by omega]; simp
    · rw [if_neg h]
      by_cases h2 : i = k
      · subst h2; rw [if_pos rfl, if_pos (by omega)]; simp
      · rw [if_neg h2, if_neg (by omega)]

theorem enterA_sound {fn : Func} {args : List (AV N)} {ra : Array Value} (ha : VRels den σ args ra.toList) : ARel den σ (enterA fn args) { tmps := ra ++ Array.replicate (fn.ntmps - ra.size) undef, defers := [] } := by
  have hlen := ha.length
  simp only [Array.length_toList] at hlen
  refine ⟨⟨?_, fun i hi => ?_⟩, by simp [enterA, DRels]⟩
  · simp only [Array.size_append, Array.size_replicate, enterA]
    show _ = max fn.ntmps args.length
    omega
  · simp only [enterA] at hi ⊢
    rw [enter_get]
    by_cases h : i < args.length
    · rw [if_pos (by omega)]
      have hx : args[i - 0]? = some (args[i - 0]?.getD undefA) := by
        rw [List.getElem?_eq_getElem (by omega)]; rfl
      obtain ⟨y, hy, hr⟩ := ha.get _ _ hx
      simp only [Nat.sub_zero, Array.getElem?_toList] at hy hr
      rw [Array.getD_eq_getD_getElem?, Array.getElem?_append_left (by omega), hy]
      exact hr
    · rw [if_neg (by omega)]
      simp only [Tr.get, Option.getD_none]
      have : (ra ++ Array.replicate (fn.ntmps - ra.size) undef).getD i undef = undef := by
        rw [Array.getD_eq_getD_getElem?, Array.getElem?_append_right (by omega), Array.getElem?_replicate]
        split <;> rfl
      rw [this]
      exact undef_rel

theorem leaveA_sound {rec : Task N → Option (List (Out N))} (hrec : RecOk den P rec) {fn : Func} (k : Nat) {R : Ending → World → Prop} :
    ∀ (ds : List (ADef N)) {H : AH N} {outs : List (Out N)}, leaveA P rec fn a ds H = some outs → ∀ {σ : Sub} {w : World} {ra : Act} {rds : List Deferred} {σ0 : Sub} {H0 : AH N} {w0 : World}, Ext σ0 H0 w0 σ H w → HRel den σ H w → ARel den σ a ra → DRels den σ ds rds → GOk P σ →
      (∀ e w', QV den outs σ0 H0 w0 e w' → R e w') → LeavesInM Fence.wide k P fn ra.tmps R rds .returning w
  | [], H, outs, e, σ, w, ra, rds, σ0, H0, w0, hx, h, ha, hd, hG, hR => by
    simp only [leaveA] at e
    obtain ⟨v, hv, rfl⟩ := Option.map_eq_some_iff.1 e
    simp only [DRels] at hd
    subst hd
    obtain ⟨rv, hr, hrel⟩ := resultsA_sound (P := P) h ha hv
    exact ⟨rv, hr, hR (.returned rv) w ⟨{ ex := .val v, a := a, H := H }, by simp, v, σ, rfl, hrel, h, hx⟩⟩
  | d :: ds, H, outs, e, σ, w, ra, rds, σ0, H0, w0, hx, h, ha, hd, hG, hR => by
    simp only [DRels] at hd
    obtain ⟨rd, rds', rfl, hd1, hd2⟩ := hd
    obtain ⟨htgt, hargs⟩ := hd1
    refine ⟨by simp, ?_⟩
    unfold leaveA at e
    split at e
    · rename_i r ht
      split at e
      · rename_i hb
        rw [ht] at htgt
        obtain ⟨l, hl, htg⟩ := htgt
        left
        have hbk := h.blk r
        rw [hb] at hbk
        simp only [BRel] at hbk
        obtain ⟨l', hl', hh⟩ := hbk
        rw [hl] at hl'; cases hl'
        obtain ⟨w', hs, h1, h2⟩ := setObj_rel (P := P) h hl (by rw [hb]; rfl) hh notRow_deferred (.deferred none) (.deferred none) (fun w' hw' => by simp only [BRel]; exact ⟨l, hl, hw'⟩)
        refine ⟨l.r, w', htg, ?_, leaveA_sound hrec k ds e (hx.trans h2) h1 ha hd2 hG hR⟩
        simp only [Instr.takeDeferred, Sem.run_bind, run_getObj hh notRow_deferred, Result.andThen_ok, hs, Sem.run_pure]
      · cases e
    · rename_i g cap ht
      rw [ht] at htgt
      obtain ⟨cap', htg, hcap⟩ := htgt
      split at e
      · cases e
      rename_i gn hgn
      split at e
      · cases e
      rename_i c hc
      cases hng : (gn.name == "runtime.NumGoroutine") with
      | true => rw [hng] at e; cases e
      | false =>
        rw [hng, cond_false] at e
        split at e
        · rename_i l hl
          right
          have hn1 : gn.name ≠ "runtime.NumGoroutine" := by simpa using hng
          refine ⟨fun hd => absurd hd (by simp [Fence.wide]), .func g, cap', g, rd.args ++ cap', htg, ?_, fun _ _ => trivial, ?_⟩
          · rw [htg]
            simp [invoke, callFunc, hgn, hn1, hc]
          · have hwp := callsDIn_of_wp (F := Fence.wide) (n := k - 1) (P := P) (f := g) (args := rd.args ++ cap') (u := .returning) (w := w) hgn hc trivial
              (R := fun e w' => match e with
                | .returned _ => LeavesInM Fence.wide k P fn ra.tmps R rds' .returning w'
                | _ => False) ?_
            · obtain ⟨h1, h2⟩ := hwp
              refine ⟨h1, fun c cs hm hroom => ?_⟩
              obtain ⟨e, u', w', fr, ⟨rfl, hq⟩, hrest⟩ := h2 c cs hm hroom
              refine ⟨e, .returning, w', fr, ?_, hrest⟩
              cases e with
              | returned v => exact hq
              | panicked ch => exact hq.elim
              | outgrown => exact hq.elim
            · refine wpIn_mono (hrec.code hl h (enterA_sound (ra := rd.args ++ cap') (by rw [Array.toList_append]; exact hargs.append hcap)) hG rfl (k - 1)) ?_
              intro ex ra' w' hq
              obtain ⟨o, ho, σ', h1, h2, h3, h4⟩ := hq
              obtain ⟨l', hl', hsub⟩ := eachOut_mem e o ho
              have key : ∀ (_ : o.a.d = []) (_ : ∃ u, resultsA P gn o.a o.H = some u) (_ : leaveA P rec fn a ds o.H = some l'), ra'.defers = [] ∧ ∃ v, (results gn ra'.tmps).run P w' = .ok v w' ∧ LeavesInM Fence.wide k P fn ra.tmps R rds' .returning w' := by
                intro k1 k2 k3
                obtain ⟨u, hu⟩ := k2
                have hdd := h2.defers
                rw [k1] at hdd
                simp only [DRels] at hdd
                obtain ⟨rv, hr, _⟩ := resultsA_sound (P := P) h3 h2 hu
                refine ⟨hdd, rv, hr, leaveA_sound hrec k ds k3 (hx.trans h4) h3 (ha.mono h4.sub) (hd2.mono h4.sub) (hG.mono h4.sub) (fun e w hq => hR e w ?_)⟩
                cases e with
                | returned v =>
                  obtain ⟨o', ho', r⟩ := hq
                  exact ⟨o', hsub o' ho', r⟩
                | panicked ch => exact hq.elim
                | outgrown => exact hq.elim
              cases ex with
              | normal =>
                have hn := exitRel_normal h1
                rw [hn] at hl'
                split at hl' <;> first | (cases hl'; done) | skip
                all_goals first | (rename_i q _; cases q; done) | skip
                rename_i hd0
                split at hl'
                · rename_i u hu; exact key hd0 ⟨u, hu⟩ hl'
                · cases hl'
              | ret =>
                have hn : o.ex = .ret := by cases hoe : o.ex <;> rw [hoe] at h1 <;> first | exact h1.elim | rfl
                rw [hn] at hl'
                split at hl' <;> first | (cases hl'; done) | skip
                all_goals first | (rename_i q _; cases q; done) | skip
                rename_i hd0
                split at hl'
                · rename_i u hu; exact key hd0 ⟨u, hu⟩ hl'
                · cases hl'
              | exit id =>
                exfalso
                cases hoe : o.ex <;> rw [hoe] at h1 hl' <;> first | exact h1.elim | (cases hl')
              | goto id =>
                exfalso
                cases hoe : o.ex <;> rw [hoe] at h1 hl' <;> first | exact h1.elim | (cases hl')
              | panic ch => cases hoe : o.ex <;> rw [hoe] at h1 <;> exact h1.elim
              | outgrown => cases hoe : o.ex <;> rw [hoe] at h1 <;> exact h1.elim
        · cases e
    · cases e

end
end Go.Am

namespace Go.Am
section
variable {N : Type} {D : Dom N} {den : N → Int} {P : Program} {σ : Sub} {H : AH N} {w : World} {a : AAct N}

theorem QV.sub {l outs : List (Out N)} (hs : ∀ y ∈ l, y ∈ outs) {e : Ending} {w' : World} (hq : QV den l σ H w e w') : QV den outs σ H w e w' := by
  cases e with
  | returned v => obtain ⟨o, ho, r⟩ := hq; exact ⟨o, hs o ho, r⟩
  | panicked ch => exact hq.elim
  | outgrown => exact hq.elim

theorem call_sound (hD : DomOk D den) {rec : Task N → Option (List (Out N))} (hrec : RecOk den P rec) {f : FuncId} {args : List (AV N)} {outs : List (Out N)} (e : stepT P D rec (.call f args H) = some outs)
    (h : HRel den σ H w) (hG : GOk P σ) {ra : Array Value} (ha : VRels den σ args ra.toList) (k : Nat) : CallsIn Fence.wide k P f ra w (QV den outs σ H w) := by
  simp only [stepT] at e
  split at e
  · cases e
  rename_i fn hf
  split at e
  · cases e
  rename_i c hc
  split at e
  · cases e
  rename_i l hl
  split at e
  · cases e
  rename_i l2 hl2
  refine callsIn_of_wp_marks hf hc trivial (wpIn_mono (hrec.code hl h (enterA_sound ha) hG rfl k) ?_)
  intro ex ra' w' hq
  obtain ⟨o, ho, σ', h1, h2, h3, h4⟩ := hq
  obtain ⟨l', hl', hsub⟩ := eachOut_mem hl2 o ho
  have key : leaveA P rec fn o.a o.a.d o.H = some l' → LeavesInM Fence.wide k P fn ra'.tmps (QV den outs σ H w) ra'.defers .returning w' := by
    intro hlv
    exact leaveA_sound hrec k o.a.d hlv h4 h3 h2 h2.defers (hG.mono h4.sub) (fun _ _ hq => mergeAll_sound hD e (hq.sub hsub))
  cases ex with
  | normal =>
    rw [exitRel_normal h1] at hl'
    exact key hl'
  | ret =>
    have hn : o.ex = .ret := by cases hoe : o.ex <;> rw [hoe] at h1 <;> first | exact h1.elim | rfl
    rw [hn] at hl'
    exact key hl'
  | exit id => exfalso; cases hoe : o.ex <;> rw [hoe] at h1 hl' <;> first | exact h1.elim | (cases hl')
  | goto id => exfalso; cases hoe : o.ex <;> rw [hoe] at h1 hl' <;> first | exact h1.elim | (cases hl')
  | panic ch => cases hoe : o.ex <;> rw [hoe] at h1 <;> exact h1.elim
  | outgrown => cases hoe : o.ex <;> rw [hoe] at h1 <;> exact h1.elim

theorem loopBlk (h : HRel den σ H w) {i : Nat} {l : Loc} (hl : σ i = some l) {L : ALoop N} (hb : H.blk i = .loop L) : ∃ L', w.heap[l.r]? = some (.loop L') ∧ LRel den σ L L' := by
  have hbk := h.blk i
  rw [hb] at hbk
  simp only [BRel] at hbk
  obtain ⟨l', L', hl', hh, he⟩ := hbk
  rw [hl] at hl'; cases hl'
  exact ⟨L', hh, he⟩

theorem run_getLoop {r : Nat} {L' : Loop} (hh : w.heap[r]? = some (.loop L')) : (Instr.getLoop r).run P w = .ok L' w := by
  simp only [Instr.getLoop, Sem.run_bind, run_getObj hh notRow_loop, Result.andThen_ok, Sem.run_pure]

theorem rangeFunc_sound (hD : DomOk D den) {rec : Task N → Option (List (Out N))} (hrec : RecOk den P rec) {g : Operand} {ps : Array Tmp} {assign body : Code} {outs : List (Out N)} (e : stepT P D rec (.code none (.rangeFunc g ps assign body) a H) = some outs)
    (h : HRel den σ H w) (hG : GOk P σ) {ra : Act} (ha : ARel den σ a ra) (k : Nat) : (Code.rangeFunc g ps assign body).wpIn Fence.wide k P (QC den outs σ H w) ra w := by
  simp only [stepT] at e
  refine wpIn_rangeFunc fun fn _ => ?_
  -- the block of the deferred calls
  let l1 : Loc := ⟨w.heap.size, 0, 0⟩
  let w1 := w.alloc (.deferred (some []))
  let σ1 := σ.add H.next l1
  let H1 := (H.new (.deferred (some []) : ABlk N)).2
  obtain ⟨g1, g2⟩ := new_rel h (.deferred (some [])) (.deferred (some [])) l1 rfl (by
    simp only [BRel]
    exact ⟨l1, by simp [Sub.add], World.heap_push_self _ _⟩)
  -- the record
  let L : ALoop N := { state := .ready, pending := none, n := a.n, t := a.t, params := ps, assign := assign, body := body, defers := H.next }
  let L' : Loop := { state := .ready, pending := none, fn := fn, tmps := ra.tmps, params := ps, assign := assign, body := body, defers := w.heap.size }
  let l2 : Loc := ⟨w1.heap.size, 0, 0⟩
  have hle1 : σ1.le (σ1.add H1.next l2) := Sub.le_add g1.none_next
  obtain ⟨k1, k2⟩ := new_rel g1 (.loop L') (.loop L) l2 rfl (by
    simp only [BRel]
    refine ⟨l2, L', by simp [Sub.add], World.heap_push_self _ _, rfl, rfl, rfl, rfl, rfl, (ha.tmps.mono g2.sub).mono hle1, l1, hle1 _ _ (by show σ.add H.next l1 H.next = some l1; simp [Sub.add]), rfl⟩)
  let σ2 := σ1.add H1.next l2
  let w2 := w1.alloc (.loop L')
  have hσ2 : σ2 H1.next = some l2 := by simp [σ2, Sub.add]
  have hx2 : Ext σ H w σ2 (H1.new (.loop L)).2 w2 := g2.trans k2
  have hG2 := hG.mono hx2.sub
  have ha2 := ha.mono hx2.sub
  split at e
  rotate_left
  · cases e
  rename_i gv hgv
  split at e
  rotate_left
  · cases e
  rename_i f args hcall
  split at e
  · cases e
  rename_i l hl
  have hgv' : aeval P D a g = some gv := by
    cases g <;> exact hgv
  have hg := aeval_sound hD hG2 ha2 hgv'
  have hy : VRels den σ2 [(.yield H1.next : AV N)] (#[Value.func (.yield l2.r) #[] #[]]).toList := by
    simp only [VRels, VRel]
    exact ⟨_, _, rfl, ⟨l2, hσ2, rfl⟩, rfl⟩
  obtain ⟨ra', hrun, hra'⟩ := callValA_sound hD hG2 k1 hcall hg hy
  have hof : ∃ d, (Deferred.ofValue (ra.eval g) #[Value.func (.yield l2.r) #[] #[]]).run P w2 = .ok d w2 ∧ (invoke d.target d.args).run P w2 = .ok (.enter f ra') w2 := by
    rw [Sem.run_bind] at hrun
    revert hrun
    generalize ra.eval g = gv'
    intro hrun
    cases gv' <;> simp only [Deferred.ofValue, Sem.run_pure, Result.andThen_ok] at hrun ⊢ <;> first | exact ⟨_, rfl, hrun⟩ | skip
    all_goals (exfalso; simp [stuck, Sem.run] at hrun)
  obtain ⟨d, hd1, hd2⟩ := hof
  refine ⟨l2.r, [{ target := .collected w.heap.size, args := #[] }], w2, d, w2, f, ra', w2, ?_, ?_, fun _ _ => trivial, hd2, fun hd => absurd hd (by simp [Fence.wide]), ?_⟩
  · simp only [Instr.enterLoop, Fence.wide, Sem.run_bind, run_newObj, Result.andThen_ok, Sem.run_pure]
    rfl
  · have hm : Array.map ra.eval #[Operand.const (Value.func (Fn.yield l2.r) #[] #[])] = #[Value.func (Fn.yield l2.r) #[] #[]] := by simp [Act.eval]
    simp only [resolve, hm]
    exact hd1
  · refine (hrec.call hl k1 hG2 hra' (k - 1)).mono ?_
    intro en w3 hq
    cases en with
    | panicked ch => exact hq.elim
    | outgrown => exact hq.elim
    | returned v =>
      obtain ⟨o, ho, va, σ3, hex, hv, hh, hxt⟩ := hq
      obtain ⟨l', hl', hsub⟩ := eachOut_mem e o ho
      rw [hex] at hl'
      simp only at hl'
      split at hl'
      rotate_left
      · cases hl'
      rename_i L3 hL3
      have hL3 : o.H.blk H1.next = .loop L3 := hL3
      cases hbusy : (L3.state == .busy) with
      | true => rw [hbusy] at hl'; cases hl'
      | false =>
        rw [hbusy, cond_false] at hl'
        have hσ3 := hxt.sub _ _ hσ2
        obtain ⟨L3', hh3, hr3⟩ := loopBlk hh hσ3 hL3
        obtain ⟨q1, q2, q3, q4, q5, q6, q7⟩ := hr3
        obtain ⟨w4, hs, h4, hx4⟩ := setObj_rel (P := P) hh hσ3 (by rw [hL3]; rfl) hh3 notRow_loop (.loop { L3' with state := .exhausted }) (.loop { L3 with state := .exhausted }) (fun w' hw' => by
          simp only [BRel]
          exact ⟨l2, _, hσ3, hw', rfl, q2, q3, q4, q5, q6, q7⟩)
        have hend : (Instr.endLoop l2.r).run P w3 = .ok L3.pending w4 := by
          simp only [Instr.endLoop, Sem.run_bind, run_getLoop hh3, Result.andThen_ok, q1, hbusy, Bool.false_eq_true, if_false]
          rw [hs]
          simp only [Result.andThen_ok, Sem.run_pure, q2]
        have hall : Ext σ H w σ3 (o.H.put H1.next (.loop { L3 with state := .exhausted })) w4 := (hx2.trans hxt).trans hx4
        have hact : ARel den σ3 { a with d := { target := .collected H.next, args := [] } :: a.d } { ra with defers := [{ target := .collected w.heap.size, args := #[] }] ++ ra.defers } := by
          have := ha.mono hall.sub
          refine ⟨this.tmps, ?_⟩
          simp only [List.cons_append, List.nil_append, DRels]
          exact ⟨_, _, rfl, ⟨⟨l1, hxt.sub _ _ (hle1 _ _ (by simp [σ1, Sub.add])), rfl⟩, by simp [VRels]⟩, this.defers⟩
        refine ⟨L3.pending, w4, hend, ?_⟩
        split at hl' <;> first | (cases hl'; done) | skip
        · rename_i hp
          cases hl'
          rw [hp]
          exact ⟨_, hsub _ (List.mem_singleton.2 rfl), σ3, trivial, hact, h4, hall⟩
        · rename_i id hp
          cases hl'
          rw [hp]
          exact wpIn_exit ⟨_, hsub _ (List.mem_singleton.2 rfl), σ3, rfl, hact, h4, hall⟩
        · rename_i hp
          cases hl'
          rw [hp]
          exact wpIn_ret ⟨_, hsub _ (List.mem_singleton.2 rfl), σ3, trivial, hact, h4, hall⟩
        · rename_i t hp
          cases hl'
          rw [hp]
          exact wpIn_goto ⟨_, hsub _ (List.mem_singleton.2 rfl), σ3, rfl, hact, h4, hall⟩

end
end Go.Am

namespace Go.Am
section
variable {N : Type} {D : Dom N} {den : N → Int} {P : Program} {σ : Sub} {H : AH N} {w : World} {a : AAct N}

theorem yield_fold {n : Nat} : ∀ (ps : List Tmp) (args : List (AV N)) (ras : List Value), VRels den σ args ras → ∀ (t : Tr (AV N)) (ts : Array Value), TRel den σ n t ts →
    TRel den σ n ((ps.zip args).foldl (fun t (p : Tmp × AV N) => bif Nat.blt p.1 n then t.set p.1 p.2 else t) t) ((ps.zip ras).foldl (fun ts (p : Tmp × Value) => ts.setIfInBounds p.1 p.2) ts)
  | [], args, ras, _, t, ts, h => by simpa using h
  | p :: ps, [], ras, hr, t, ts, h => by
    simp only [VRels] at hr; subst hr
    simpa using h
  | p :: ps, v :: args, ras, hr, t, ts, h => by
    simp only [VRels] at hr
    obtain ⟨r, rs, rfl, hv, hr⟩ := hr
    simp only [List.zip_cons_cons, List.foldl_cons]
    refine yield_fold ps args rs hr _ _ ?_
    refine ⟨by simp [h.1], fun i hi => ?_⟩
    simp only [Bool.cond_eq_ite, Nat.blt_eq]
    by_cases hp : p < n
    · rw [if_pos hp, Tr.get_set]
      by_cases hip : i = p
      · subst hip
        have : i < ts.size := by rw [h.1]; exact hi
        simp [Array.getD_eq_getD_getElem?, this]
        exact hv
      · rw [if_neg hip]
        have := h.2 i hi
        simp only [Array.getD_eq_getD_getElem?] at this ⊢
        rw [Array.getElem?_setIfInBounds_ne (by omega)]
        exact this
    · rw [if_neg hp]
      have := h.2 i hi
      have hne : p ≠ i := fun q => hp (by rw [q]; exact hi)
      simp only [Array.getD_eq_getD_getElem?] at this ⊢
      rw [Array.getElem?_setIfInBounds_ne hne]
      exact this

theorem round_sound {rec : Task N → Option (List (Out N))} (hrec : RecOk den P rec) {l : Nat} {args : List (AV N)} {outs : List (Out N)} (e : stepT P D rec (.round l args H) = some outs)
    {m : Loc} (hm : σ l = some m) (h : HRel den σ H w) (hG : GOk P σ) {ra : Array Value} (ha : VRels den σ args ra.toList) :
    ∃ f ts as bd, (Instr.yield m.r ra).run P w = .ok (.round m.r f ts as bd) w ∧ ∀ k, RoundIn Fence.wide k P m.r f ts as bd w (QV den outs σ H w) := by
  simp only [stepT] at e
  split at e
  rotate_left
  · cases e
  rename_i L hL
  obtain ⟨L', hh, q1, q2, q3, q4, q5, q6, q7⟩ := loopBlk h hm hL
  have hlen := ha.length
  simp only [Array.length_toList] at hlen
  simp only [nbeq, Bool.cond_decide] at e
  split at e
  rotate_left
  · cases e
  rename_i hsz
  split at e
  · cases e
  rename_i outs1 hl
  have hsz' : ¬ ra.size ≠ L'.params.size := by rw [q3]; omega
  refine ⟨L'.fn, (L'.params.zip ra).foldl (fun tmps (p : Tmp × Value) => tmps.setIfInBounds p.1 p.2) L'.tmps, L'.assign, L'.body, ?_, fun k => ?_⟩
  · simp only [Instr.yield, Sem.run_bind, run_getLoop hh, Result.andThen_ok, hsz', if_false, Sem.run_pure]
  · have hF : FR σ (some l) (Fence.wide.inRound m.r) := ⟨m, hm, rfl⟩
    have ht : TRel den σ L.n ((L.params.toList.zip args).foldl (fun t (p : Tmp × AV N) => bif Nat.blt p.1 L.n then t.set p.1 p.2 else t) L.t) ((L'.params.zip ra).foldl (fun tmps (p : Tmp × Value) => tmps.setIfInBounds p.1 p.2) L'.tmps) := by
      rw [← Array.foldl_toList, Array.toList_zip, q3]
      exact yield_fold _ _ _ ha _ _ q6
    refine roundIn_of_wpIn trivial ?_
    rw [q4, q5]
    refine wpIn_mono (hrec.code hl h (a := { n := L.n, t := _, d := [] }) ⟨ht, by simp [DRels]⟩ hG hF k) ?_
    intro ex a1 w1 hq
    obtain ⟨o, ho, σ', h1, h2, h3, h4⟩ := hq
    obtain ⟨l', hl', hsub⟩ := eachOut_mem e o ho
    cases ex with
    | exit id => exfalso; cases hoe : o.ex <;> rw [hoe] at h1 hl' <;> first | exact h1.elim | (cases hl')
    | goto id => exfalso; cases hoe : o.ex <;> rw [hoe] at h1 hl' <;> first | exact h1.elim | (cases hl')
    | ret => exfalso; cases hoe : o.ex <;> rw [hoe] at h1 hl' <;> first | exact h1.elim | (cases hl')
    | panic ch => exfalso; cases hoe : o.ex <;> rw [hoe] at h1 <;> exact h1.elim
    | outgrown => exfalso; cases hoe : o.ex <;> rw [hoe] at h1 <;> exact h1.elim
    | normal =>
      rw [exitRel_normal h1] at hl'
      simp only at hl'
      split at hl'
      rotate_left
      · cases hl'
      rename_i L1 hL1
      have hm1 := h4.sub _ _ hm
      obtain ⟨L1', hh1, p1, p2, p3, p4, p5, p6, p7⟩ := loopBlk h3 hm1 hL1
      cases hready : (L1.state == .ready) with
      | false => rw [hready] at hl'; cases hl'
      | true =>
        rw [hready, cond_true] at hl'
        have hready := eq_of_beq hready
        split at hl'
        · cases hl'
        rename_i outs2 hl2
        obtain ⟨w2, hs, k1, k2⟩ := setObj_rel (P := P) h3 hm1 (by rw [hL1]; rfl) hh1 notRow_loop (.loop { L1' with state := .busy }) (.loop { L1 with state := .busy }) (fun w' hw' => by
          simp only [BRel]
          exact ⟨m, _, hm1, hw', rfl, p2, p3, p4, p5, p6, p7⟩)
        refine ⟨w2, ?_, ?_⟩
        · simp only [Instr.beginRound, Sem.run_bind, run_getLoop hh1, Result.andThen_ok]
          rw [hs]
          simp only [Result.andThen_ok, p1, hready, Sem.run_pure]
        · have hx2 := h4.trans k2
          refine wpIn_mono (hrec.code hl2 k1 (h2.mono k2.sub) (hG.mono hx2.sub) (hF.mono hx2.sub) k) ?_
          intro ex2 a2 w3 hq2
          obtain ⟨o2, ho2, σ3, j1, j2, j3, j4⟩ := hq2
          obtain ⟨l3, hl3, hsub3⟩ := eachOut_mem hl' o2 ho2
          split at hl3
          rotate_left
          · cases hl3
          rename_i L2 hL2
          have hm3 := j4.sub _ _ (k2.sub _ _ hm1)
          obtain ⟨L2', hh2, r1, r2, r3, r4, r5, r6, r7⟩ := loopBlk j3 hm3 hL2
          have fin : ∀ (j : Option Code), l3 = [{ ex := .val (.bool j.isNone), a := o2.a, H := o2.H.put l (.loop { L2 with state := bif j.isNone then .ready else .done, pending := j }) }] →
              ∃ v w', (Instr.endRound m.r j).run P w3 = .ok v w' ∧ QV den outs σ H w (.returned v) w' := by
            intro j hj
            obtain ⟨w4, hs4, y1, y2⟩ := setObj_rel (P := P) j3 hm3 (by rw [hL2]; rfl) hh2 notRow_loop (.loop { L2' with state := if j.isNone then .ready else .done, pending := j }) (.loop { L2 with state := bif j.isNone then .ready else .done, pending := j }) (fun w' hw' => by
              simp only [BRel]
              refine ⟨m, _, hm3, hw', ?_, rfl, r3, r4, r5, r6, r7⟩
              cases j.isNone <;> rfl)
            refine ⟨.bool j.isNone, w4, ?_, { ex := .val (.bool j.isNone), a := o2.a, H := o2.H.put l (.loop { L2 with state := bif j.isNone then .ready else .done, pending := j }) }, hsub _ (hsub3 _ (by rw [hj]; simp)), .bool j.isNone, σ3, rfl, by simp [VRel], y1, (hx2.trans j4).trans y2⟩
            simp only [Instr.endRound, Sem.run_bind, run_getLoop hh2, Result.andThen_ok]
            rw [hs4]
            simp only [Result.andThen_ok, Sem.run_pure]
          cases ex2 with
          | normal =>
            rw [exitRel_normal j1] at hl3
            exact fin none (by cases hl3; rfl)
          | exit id =>
            cases hoe : o2.ex <;> rw [hoe] at j1 hl3 <;> first | exact j1.elim | skip
            simp only [ExRel] at j1
            subst j1
            exact fin (some (.exit _)) (by cases hl3; rfl)
          | goto id =>
            cases hoe : o2.ex <;> rw [hoe] at j1 hl3 <;> first | exact j1.elim | skip
            simp only [ExRel] at j1
            subst j1
            exact fin (some (.goto _)) (by cases hl3; rfl)
          | ret =>
            cases hoe : o2.ex <;> rw [hoe] at j1 hl3 <;> first | exact j1.elim | skip
            exact fin (some .ret) (by cases hl3; rfl)
          | panic ch => exfalso; cases hoe : o2.ex <;> rw [hoe] at j1 <;> exact j1.elim
          | outgrown => exfalso; cases hoe : o2.ex <;> rw [hoe] at j1 <;> exact j1.elim

/-- what a drawn region's walk is to be. -/
def DrawOk (den : N → Int) (P : Program) (D : Dom N) : Prop := ∀ (rec : Task N → Option (List (Out N))), RecOk den P rec → ∀ {r : Option Nat} {ops : Array Oper} {a : AAct N} {H : AH N} {outs : List (Out N)} {id : Nat}, drawA P D rec r ops a H = some outs →
  ∀ {σ : Sub} {w : World} {ra : Act} {F : Fence}, HRel den σ H w → ARel den σ a ra → GOk P σ → FR σ r F → ∀ k, (Code.region id ops true).wpIn F k P (QC den outs σ H w) ra w

theorem code_sound (hD : DomOk D den) (hdraw : DrawOk den P D) {rec : Task N → Option (List (Out N))} (hrec : RecOk den P rec) {r : Option Nat} {c : Code} {outs : List (Out N)} (e : stepT P D rec (.code r c a H) = some outs)
    {ra : Act} {F : Fence} (h : HRel den σ H w) (ha : ARel den σ a ra) (hG : GOk P σ) (hF : FR σ r F) (k : Nat) : c.wpIn F k P (QC den outs σ H w) ra w := by
  have stay : ∀ (ex : AEx N) (e' : Exit), ExRel ex e' → outs = [{ ex := ex, a := a, H := H }] → QC den outs σ H w e' ra w := by
    rintro ex e' hr rfl
    exact ⟨_, List.mem_singleton.2 rfl, σ, hr, ha, h, Ext.refl _ _ _⟩
  cases c with
  | skip => simp only [stepT, Option.some.injEq] at e; exact wpIn_skip (stay .normal _ trivial e.symm)
  | label l => simp only [stepT, Option.some.injEq] at e; exact wpIn_label (stay .normal _ trivial e.symm)
  | exit id => simp only [stepT, Option.some.injEq] at e; exact wpIn_exit (stay (.exit id) _ rfl e.symm)
  | goto l => simp only [stepT, Option.some.injEq] at e; exact wpIn_goto (stay (.goto l) _ rfl e.symm)
  | ret => simp only [stepT, Option.some.injEq] at e; exact wpIn_ret (stay .ret _ trivial e.symm)
  | region id ops draw =>
    cases draw with
    | true => exact hdraw rec hrec e h ha hG hF k
    | false =>
      simp only [stepT, cond_false] at e
      refine wpIn_region ?_
      have := seqOps_sound hD hrec (F := F) (ops := ops) k ops.toList 0 rfl e (fun _ _ _ hq => hq) (Ext.refl σ H w) h ha hG hF
      rw [List.range_eq_range']
      simpa using this
  | seq x y =>
    simp only [stepT] at e
    split at e
    · cases e
    · rename_i l hl
      exact wpIn_seq_sound hrec hl e h ha hG hF k
  | cond c x y =>
    simp only [stepT] at e
    split at e
    · rename_i b hb
      have hv := aeval_sound hD hG ha hb
      simp only [VRel] at hv
      have := hrec.code e h ha hG hF k
      refine wpIn_cond hv ?_
      cases b <;> exact this
    · cases e
  | block id b =>
    simp only [stepT] at e
    split at e
    · cases e
    · rename_i l hl
      simp only [Option.some.injEq] at e
      refine wpIn_block (wpIn_mono (hrec.code hl h ha hG hF k) ?_)
      intro ex ra' w' hq
      obtain ⟨o, ho, σ', h1, h2, h3, h4⟩ := hq
      have mem : ∀ o', o' = (match o.ex with | .exit j => bif Nat.beq j id then { o with ex := .normal } else o | _ => o) → o' ∈ outs := by
        rintro o' rfl
        rw [← e]
        exact List.mem_map.2 ⟨o, ho, rfl⟩
      cases ex with
      | normal => exact ⟨o, mem o (by rw [exitRel_normal h1]), σ', h1, h2, h3, h4⟩
      | exit j =>
        cases hoe : o.ex <;> rw [hoe] at h1 <;> first | exact h1.elim | skip
        simp only [ExRel] at h1
        rw [hoe] at mem
        simp only [nbeq, Bool.cond_decide, h1] at mem
        show if j = id then _ else _
        by_cases hj : j = id
        · rw [if_pos hj]
          rw [if_pos hj] at mem
          exact ⟨_, mem _ rfl, σ', trivial, h2, h3, h4⟩
        · rw [if_neg hj]
          rw [if_neg hj] at mem
          exact ⟨o, mem _ rfl, σ', by rw [hoe, h1]; rfl, h2, h3, h4⟩
      | goto j => exact ⟨o, mem o (by cases hoe : o.ex <;> rw [hoe] at h1 <;> first | exact h1.elim | rfl), σ', h1, h2, h3, h4⟩
      | ret => exact ⟨o, mem o (by cases hoe : o.ex <;> rw [hoe] at h1 <;> first | exact h1.elim | rfl), σ', h1, h2, h3, h4⟩
      | panic ch => cases hoe : o.ex <;> rw [hoe] at h1 <;> exact h1.elim
      | outgrown => cases hoe : o.ex <;> rw [hoe] at h1 <;> exact h1.elim
  | loop b =>
    simp only [stepT] at e
    intro b' its cs hro hb hr
    obtain ⟨ex, a', w', hq, harr⟩ := hrec.rounds e h ha hG hF k b' its cs hro hb hr
    exact ⟨ex, a', w', hq, .of_steps (.one (fenced_calm hb hr rfl) stepR_loop) harr⟩
  | scope body =>
    simp only [stepT] at e
    intro b' its cs hro hb hr
    obtain ⟨ex, a', w', hq, harr⟩ := hrec.scope e h ha hG hF k b' its cs hro hb hr
    exact ⟨ex, a', w', hq, .of_steps (.one (fenced_calm hb hr rfl) stepR_scope') harr⟩
  | rangeFunc g ps as bd =>
    cases r with
    | none =>
      rw [show F = Fence.wide from hF]
      exact rangeFunc_sound hD hrec e h hG ha k
    | some l => simp only [stepT] at e; cases e
  | refuse s => simp only [stepT] at e; cases e

theorem stepT_ok (hD : DomOk D den) (hdraw : DrawOk den P D) {rec : Task N → Option (List (Out N))} (hrec : RecOk den P rec) : RecOk den P (stepT P D rec) where
  code := fun e => fun h ha hG hF k => code_sound hD hdraw hrec e h ha hG hF k
  scope := fun e => fun h ha hG hF k b its cs hro hb hr => by
    simp only [stepT] at e
    split at e
    · cases e
    · rename_i l hl
      exact scope_sound hrec hl e h ha hG hF k b its cs hro hb hr
  rounds := fun e => fun h ha hG hF k b its cs hro hb hr => by
    simp only [stepT] at e
    split at e
    · cases e
    · rename_i l hl
      exact rounds_sound hrec hl e h ha hG hF k b its cs hro hb hr
  call := fun e => fun h hG ha k => call_sound hD hrec e h hG ha k
  round := fun e => fun hm h hG ha => round_sound hrec e hm h hG ha

theorem interp_ok (hD : DomOk D den) (hdraw : DrawOk den P D) : ∀ n, RecOk den P (interp P D n)
  | 0 => by constructor <;> (intros; simp [interp] at *)
  | n + 1 => stepT_ok hD hdraw (interp_ok hD hdraw n)

end
end Go.Am
