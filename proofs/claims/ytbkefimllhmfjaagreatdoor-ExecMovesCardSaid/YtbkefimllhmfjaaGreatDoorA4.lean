/- Maps, type assertions and library functions of the abstract machine are sound. -/
import Derived.Test.YtbkefimllhmfjaaGreatDoorA3
import Derived.Lib.BytesEntry
import Derived.Laws.Externs
import Derived.KernelRfl
set_option linter.unusedVariables false
set_option linter.unusedSimpArgs false
set_option linter.unusedSectionVars false
namespace Go.Am
section
variable {N : Type} {D : Dom N} {den : N → Int} {P : Program} {σ : Sub} {H : AH N} {w : World}

mutual
theorem beq_sound (hD : DomOk D den) : ∀ (a b : AV N), AV.beq D a b = true → ∀ v, VRel den σ a v ↔ VRel den σ b v
  | .junk, b, h, v => by cases b <;> simp [AV.beq] at h; simp
  | .bool x, b, h, v => by cases b <;> simp [AV.beq] at h; subst h; simp
  | .int k x, b, h, v => by
    cases b <;> simp [AV.beq] at h
    obtain ⟨rfl, h⟩ := h
    simp [VRel, hD.beq _ _ h]
  | .str x, b, h, v => by
    cases b <;> simp [AV.beq] at h
    rw [(natsBeq_iff _ _).1 h]
  | .ptr x y, b, h, v => by cases b <;> simp [AV.beq, nbeq] at h; obtain ⟨rfl, rfl⟩ := h; simp
  | .nilp, b, h, v => by cases b <;> simp [AV.beq] at h; simp
  | .slice x y z u t s, b, h, v => by
    cases b <;> simp [AV.beq, nbeq] at h
    obtain ⟨⟨⟨⟨⟨rfl, rfl⟩, rfl⟩, rfl⟩, rfl⟩, rfl⟩ := h; simp
  | .void, b, h, v => by cases b <;> simp [AV.beq] at h; simp
  | .nils, b, h, v => by cases b <;> simp [AV.beq] at h; simp
  | .map x, b, h, v => by cases b <;> simp [AV.beq, nbeq] at h; subst h; simp
  | .nilm, b, h, v => by cases b <;> simp [AV.beq] at h; simp
  | .func f x y, b, h, v => by
    cases b <;> simp [AV.beq] at h
    obtain ⟨⟨rfl, h1⟩, h2⟩ := h
    simp only [VRel]
    constructor
    · rintro ⟨p, q, rfl, hp, hq⟩
      exact ⟨p, q, rfl, (beqs_sound hD _ _ h1 _).1 hp, (beqs_sound hD _ _ h2 _).1 hq⟩
    · rintro ⟨p, q, rfl, hp, hq⟩
      exact ⟨p, q, rfl, (beqs_sound hD _ _ h1 _).2 hp, (beqs_sound hD _ _ h2 _).2 hq⟩
  | .yield x, b, h, v => by cases b <;> simp [AV.beq, nbeq] at h; subst h; simp
  | .nilf, b, h, v => by cases b <;> simp [AV.beq] at h; simp
  | .iface t x, b, h, v => by
    cases b <;> simp [AV.beq, nbeq] at h
    obtain ⟨rfl, h⟩ := h
    simp only [VRel]
    constructor
    · rintro ⟨p, rfl, hp⟩; exact ⟨p, rfl, (beq_sound hD _ _ h _).1 hp⟩
    · rintro ⟨p, rfl, hp⟩; exact ⟨p, rfl, (beq_sound hD _ _ h _).2 hp⟩
  | .nili, b, h, v => by cases b <;> simp [AV.beq] at h; simp
  | .agg x, b, h, v => by
    cases b <;> simp [AV.beq] at h
    simp only [VRel]
    constructor
    · rintro ⟨p, rfl, hp⟩; exact ⟨p, rfl, (beqs_sound hD _ _ h _).1 hp⟩
    · rintro ⟨p, rfl, hp⟩; exact ⟨p, rfl, (beqs_sound hD _ _ h _).2 hp⟩
  | .tuple x, b, h, v => by
    cases b <;> simp [AV.beq] at h
    simp only [VRel]
    constructor
    · rintro ⟨p, rfl, hp⟩; exact ⟨p, rfl, (beqs_sound hD _ _ h _).1 hp⟩
    · rintro ⟨p, rfl, hp⟩; exact ⟨p, rfl, (beqs_sound hD _ _ h _).2 hp⟩
theorem beqs_sound (hD : DomOk D den) : ∀ (a b : List (AV N)), AV.beqs D a b = true → ∀ v, VRels den σ a v ↔ VRels den σ b v
  | [], b, h, v => by cases b <;> simp [AV.beqs] at h; simp
  | x :: a, b, h, v => by
    cases b <;> simp [AV.beqs] at h
    obtain ⟨h1, h2⟩ := h
    simp only [VRels]
    constructor
    · rintro ⟨p, q, rfl, hp, hq⟩
      exact ⟨p, q, rfl, (beq_sound hD _ _ h1 _).1 hp, (beqs_sound hD _ _ h2 _).1 hq⟩
    · rintro ⟨p, q, rfl, hp, hq⟩
      exact ⟨p, q, rfl, (beq_sound hD _ _ h1 _).2 hp, (beqs_sound hD _ _ h2 _).2 hq⟩
end

theorem keyOk_sound : ∀ (d : Nat) (t : TypeId) (k : AV N), keyOk P d t k = true → ∀ (rk : Value), VRel den σ k rk → ∀ (em : Bool) (m : Nat), d ≤ m → ∀ w, (Instr.checkKey em m t rk).run P w = .ok () w := by
  intro d
  induction d with
  | zero => intro t k e; simp [keyOk] at e
  | succ d ih =>
    intro t k e rk hk em m hm w
    obtain ⟨m, rfl⟩ : ∃ q, m = q + 1 := ⟨m - 1, by omega⟩
    have hdm : d ≤ m := by omega
    unfold keyOk at e
    split at e
    · rename_i len elem cs hu
      split at e
      · rename_i n hn
        simp only [VRel] at hk
        obtain ⟨cs', rfl, hcs⟩ := hk
        rw [Instr.checkKey]
        simp only [Sem.run_bind, run_underlying hu, Result.andThen_ok]
        simp only [Std.Legacy.Range.forIn_eq_forIn_range', Std.Legacy.Range.size, Nat.sub_zero, Nat.add_one_sub_one, Nat.div_one]
        rw [List.range_eq_range', List.all_eq_true] at e
        generalize List.range' 0 len = is at e
        induction is with
        | nil => simp
        | cons j is ihl =>
          have hj := e j (by simp)
          split at hj
          · rename_i u hu'
            obtain ⟨rv, hr, hv⟩ := partA_sound (P := P) hcs hu' w
            have p2 := ih elem u hj rv hv em m hdm w
            simp only [List.forIn_cons, Sem.run_bind, run_sizeT hn, Result.andThen_ok, hr, p2, Sem.run_pure]
            exact ihl (fun x hx => e x (by simp [hx]))
          · cases hj
      · cases e
    · rename_i fields cs hu
      simp only [VRel] at hk
      obtain ⟨cs', rfl, hcs⟩ := hk
      rw [Instr.checkKey]
      simp only [Sem.run_bind, run_underlying hu, Result.andThen_ok]
      rw [← Array.forIn_toList]
      rw [List.all_eq_true] at e
      generalize fields.toList = L at e
      induction L with
      | nil => simp
      | cons f L ihl =>
        have hj := e f (by simp)
        simp only [Bool.or_eq_true, beq_iff_eq] at hj
        by_cases hn : f.name = "_"
        · simp only [List.forIn_cons, Sem.run_bind, hn, ne_eq, not_true_eq_false, if_false, Result.andThen_ok, Sem.run_pure]
          exact ihl (fun x hx => e x (by simp [hx]))
        · rcases hj with hj | hj
          · exact (hn hj).elim
          · split at hj
            · rename_i u hu'
              obtain ⟨rv, hr, hv⟩ := partA_sound (P := P) hcs hu' w
              have p2 := ih f.type u hj rv hv em m hdm w
              simp only [List.forIn_cons, Sem.run_bind, hn, ne_eq, not_false_eq_true, if_true, Result.andThen_ok, hr, p2, Sem.run_pure]
              exact ihl (fun x hx => e x (by simp [hx]))
            · cases hj
    · rename_i hu
      simp only [VRel] at hk; subst hk
      rw [Instr.checkKey]; simp [run_underlying hu]
    · rename_i hu
      simp only [VRel] at hk; obtain ⟨rfl, _⟩ := hk
      rw [Instr.checkKey]; simp [run_underlying hu]
    · rename_i hu
      simp only [VRel] at hk; subst hk
      rw [Instr.checkKey]; simp [run_underlying hu]
    · cases e

theorem same_eq {kt : TypeId} {kind : TypeDesc} (hu : P.underlying kt = some kind) {k x : Value} {b : Bool} (e : Instr.sameNow kind k x = some b) (w : World) : (Op.equal kt k x).run P w = .ok b w := by
  unfold Op.equal
  show (Op.equalIn (Op.maxDepth - 1 + 1) kt k x).run P w = _
  unfold Instr.sameNow at e
  split at e
  · split at e
    · rename_i hkk
      cases e
      subst hkk
      simp [Op.equalIn, run_underlying hu]
    · cases e
  · cases e
    simp [Op.equalIn, run_underlying hu]
  · cases e
    simp [Op.equalIn, run_underlying hu]
  · cases e

theorem findNow_asking {kt : TypeId} {kind : TypeDesc} (hu : P.underlying kt = some kind) (k : Value) (w : World) : ∀ (es : List MapEntry) (i : Nat) (r : Option (Nat × Value)), Instr.findNow kind k es i = some r → (Instr.findAsking kt k es i).run P w = .ok r w
  | [], i, r, h => by simp [Instr.findNow] at h; subst h; simp [Instr.findAsking]
  | e :: es, i, r, h => by
    rw [Instr.findNow] at h
    split at h
    · rename_i hs
      cases h
      simp [Instr.findAsking, same_eq hu hs]
    · rename_i hs
      simp [Instr.findAsking, same_eq hu hs, findNow_asking hu k w es _ r h]
    · cases h

def FindRel (den : N → Int) (σ : Sub) (es : List (AEnt N)) (rs : List MapEntry) (i : Nat) : Option (Nat × AV N) → Option (Nat × Value) → Prop
  | none, none => True
  | some (j, v), some (j', v') => j = j' ∧ i ≤ j ∧ ∃ e e', es[j - i]? = some e ∧ rs[j - i]? = some e' ∧ e.val = v ∧ e'.val = v'
  | _, _ => False

theorem FindRel.some_inv {es : List (AEnt N)} {rs : List MapEntry} {j : Nat} {v : AV N} {r' : Option (Nat × Value)} (h : FindRel den σ es rs 0 (some (j, v)) r') :
    ∃ p q, r' = some (j, q.val) ∧ es[j]? = some p ∧ rs[j]? = some q ∧ p.val = v := by
  match r', h with
  | some (j', v'), ⟨h1, _, p, q, hp, hq, h3, h4⟩ => subst h1; subst h4; exact ⟨p, q, rfl, by simpa using hp, by simpa using hq, h3⟩

theorem FindRel.none_inv {es : List (AEnt N)} {rs : List MapEntry} {i : Nat} {r' : Option (Nat × Value)} (h : FindRel den σ es rs i none r') : r' = none := by
  match r', h with
  | none, _ => rfl

theorem findA_sound (hD : DomOk D den) (h : HRel den σ H w) {kt : TypeId} {k : AV N} {rk : Value} (hk : VRel den σ k rk) : ∀ (es : List (AEnt N)) (rs : List MapEntry) (i : Nat) (r : Option (Nat × AV N)), findA P D kt k es i = some r → ERels den σ es rs →
    ∃ r', (Instr.findAsking kt rk rs i).run P w = .ok r' w ∧ FindRel den σ es rs i r r'
  | [], rs, i, r, e, he => by
    simp only [findA, Option.some.injEq] at e
    subst e
    simp only [ERels] at he
    subst he
    exact ⟨none, by simp [Instr.findAsking], trivial⟩
  | a :: es, rs, i, r, e, he => by
    simp only [ERels] at he
    obtain ⟨x, xs, rfl, hkey, hval, hborn, hr⟩ := he
    rw [findA] at e
    split at e
    · rename_i hq
      cases e
      have := eqV_sound (P := P) (w := w) hD hq hk hkey
      exact ⟨some (i, x.val), by simp [Instr.findAsking, this], rfl, Nat.le_refl _, a, x, by simp, by simp, rfl, rfl⟩
    · rename_i hq
      have := eqV_sound (P := P) (w := w) hD hq hk hkey
      obtain ⟨r', hr1, hr2⟩ := findA_sound hD h hk es xs (i + 1) r e hr
      refine ⟨r', by simp [Instr.findAsking, this, hr1], ?_⟩
      match r, r', hr2 with
      | none, none, _ => trivial
      | some (j, v), some (j', v'), ⟨e1, e2, p, q, h1, h2, h3, h4⟩ =>
        refine ⟨e1, by omega, p, q, ?_, ?_, h3, h4⟩
        · rw [show j - i = (j - (i + 1)) + 1 by omega]; simpa using h1
        · rw [show j - i = (j - (i + 1)) + 1 by omega]; simpa using h2
    · cases e

theorem findKey_sound (hD : DomOk D den) (h : HRel den σ H w) {kt : TypeId} {k : AV N} {rk : Value} (hk : VRel den σ k rk) {es : List (AEnt N)} {rs : List MapEntry} {r : Option (Nat × AV N)} (e : findA P D kt k es 0 = some r) (he : ERels den σ es rs) {kind : TypeDesc} (hu : P.underlying kt = some kind) :
    ∃ r', (Instr.findKey kt rk rs).run P w = .ok r' w ∧ FindRel den σ es rs 0 r r' := by
  obtain ⟨r', h1, h2⟩ := findA_sound hD h hk es rs 0 r e he
  refine ⟨r', ?_, h2⟩
  simp only [Instr.findKey, Sem.run_bind, run_underlying hu, Result.andThen_ok]
  split
  · rename_i q hq
    have := findNow_asking hu rk w rs 0 q hq
    rw [h1] at this
    cases this
    simp
  · exact h1

theorem keyOk_under {d : Nat} {t : TypeId} {k : AV N} (h : keyOk P d t k = true) : ∃ kind, P.underlying t = some kind := by
  cases d with
  | zero => simp [keyOk] at h
  | succ d =>
    unfold keyOk at h
    split at h <;> first | exact ⟨_, by assumption⟩ | cases h

theorem keyThatStays_run (old new : Value) (w : World) : ∃ key w1, (Instr.keyThatStays old new).run P w = .ok key w1 ∧ (key = old ∨ key = new) ∧ w1.heap = w.heap ∧ w1.os = w.os ∧ w1.output = w.output ∧ w1.tape = w.tape := by
  unfold Instr.keyThatStays
  split
  · exact ⟨new, w, by simp, .inr rfl, rfl, rfl, rfl, rfl⟩
  · have hf : (Question.extern "map.whichKeyStays" 2).forced = false := rfl
    simp only [Sem.run_bind, run_choose, hf, Bool.false_eq_true, if_false, Result.andThen_ok]
    split
    · exact ⟨new, _, rfl, .inr rfl, rfl, rfl, rfl, rfl⟩
    · exact ⟨old, _, rfl, .inl rfl, rfl, rfl, rfl, rfl⟩

theorem ERels.get : ∀ {es : List (AEnt N)} {rs : List MapEntry}, ERels den σ es rs → ∀ (j : Nat) (e : AEnt N), es[j]? = some e → ∃ x, rs[j]? = some x ∧ VRel den σ e.key x.key ∧ VRel den σ e.val x.val ∧ x.born = e.born
  | [], rs, h, j, e, he => by simp at he
  | a :: es, rs, h, j, e, he => by
    simp only [ERels] at h
    obtain ⟨x, xs, rfl, h1, h2, h3, h4⟩ := h
    cases j with
    | zero => simp at he; subst he; exact ⟨x, by simp, h1, h2, h3⟩
    | succ j => simpa using h4.get j e (by simpa using he)

theorem ERels.set : ∀ {es : List (AEnt N)} {rs : List MapEntry}, ERels den σ es rs → ∀ (j : Nat) {k v : AV N} {rk rv : Value}, VRel den σ k rk → VRel den σ v rv → ERels den σ (setEnt es j k v) (rs.modify j fun e => { e with key := rk, val := rv })
  | [], rs, h, j, k, v, rk, rv, _, _ => by simp only [ERels] at h; subst h; simp [setEnt, ERels]
  | a :: es, rs, h, j, k, v, rk, rv, hk, hv => by
    simp only [ERels] at h
    obtain ⟨x, xs, rfl, h1, h2, h3, h4⟩ := h
    cases j with
    | zero => simp only [setEnt, List.modify_zero_cons, ERels]; exact ⟨_, _, rfl, hk, hv, h3, h4⟩
    | succ j => simp only [setEnt, List.modify_succ_cons, ERels]; exact ⟨_, _, rfl, h1, h2, h3, h4.set j hk hv⟩

theorem ERels.snoc : ∀ {es : List (AEnt N)} {rs : List MapEntry}, ERels den σ es rs → ∀ {k v : AV N} {rk rv : Value} (b : Nat), VRel den σ k rk → VRel den σ v rv → ERels den σ (es ++ [{ key := k, val := v, born := b }]) (rs ++ [{ key := rk, val := rv, born := b }])
  | [], rs, h, k, v, rk, rv, b, hk, hv => by
    simp only [ERels] at h; subst h
    simp only [List.nil_append, ERels]
    exact ⟨_, _, rfl, hk, hv, rfl, rfl⟩
  | a :: es, rs, h, k, v, rk, rv, b, hk, hv => by
    simp only [ERels] at h
    obtain ⟨x, xs, rfl, h1, h2, h3, h4⟩ := h
    simp only [List.cons_append, ERels]
    exact ⟨_, _, rfl, h1, h2, h3, h4.snoc b hk hv⟩

theorem ERels.erase : ∀ {es : List (AEnt N)} {rs : List MapEntry}, ERels den σ es rs → ∀ (j : Nat), ERels den σ (es.eraseIdx j) (rs.eraseIdx j)
  | [], rs, h, j => by simp only [ERels] at h; subst h; simp [ERels]
  | a :: es, rs, h, j => by
    simp only [ERels] at h
    obtain ⟨x, xs, rfl, h1, h2, h3, h4⟩ := h
    cases j with
    | zero => simpa using h4
    | succ j => simp only [List.eraseIdx_cons_succ, ERels]; exact ⟨_, _, rfl, h1, h2, h3, h4.erase j⟩

theorem ERels.filter (p : Nat → Bool) : ∀ {es : List (AEnt N)} {rs : List MapEntry}, ERels den σ es rs → ERels den σ (es.filter fun e => p e.born) (rs.filter fun e => p e.born)
  | [], rs, h => by simp only [ERels] at h; subst h; simp [ERels]
  | a :: es, rs, h => by
    simp only [ERels] at h
    obtain ⟨x, xs, rfl, h1, h2, h3, h4⟩ := h
    simp only [List.filter_cons, h3]
    split
    · simp only [ERels]; exact ⟨_, _, rfl, h1, h2, h3, h4.filter p⟩
    · exact h4.filter p

theorem mapBlk (h : HRel den σ H w) {r : Nat} {l : Loc} (hl : σ r = some l) {es : List (AEnt N)} {clock : Nat} (hb : H.blk r = .map es clock) : ∃ es' : Array MapEntry, w.heap[l.r]? = some (.map es' clock) ∧ ERels den σ es es'.toList := by
  have hbk := h.blk r
  rw [hb] at hbk
  simp only [BRel] at hbk
  obtain ⟨l', es', hl', hh, he⟩ := hbk
  rw [hl] at hl'; cases hl'
  exact ⟨es', hh, he⟩

theorem lookupA_sound (hD : DomOk D den) (h : HRel den σ H w) {t : TypeId} {x k v : AV N} {ok : Bool} (e : lookupA P D H t x k ok = some v) {rx rk : Value} (hx : VRel den σ x rx) (hk : VRel den σ k rk) :
    ∃ rv, (Instr.lookup t rx rk ok).run P w = .ok rv w ∧ VRel den σ v rv := by
  unfold lookupA at e
  split at e
  rotate_left
  · cases e
  rename_i kt et hu
  split at e
  · cases e
  rename_i es hes
  simp only [Bool.cond_eq_ite] at e
  split at e
  rotate_left
  · cases e
  rename_i hko
  obtain ⟨kind, huk⟩ := keyOk_under hko
  -- the entries
  have hmap : ∃ es' : Array MapEntry, ((rx = .map none ∧ es' = #[]) ∨ ∃ r clock, rx = .map (some r) ∧ w.heap[r]? = some (.map es' clock)) ∧ ERels den σ es es'.toList := by
    split at hes
    · cases hes; simp only [VRel] at hx; subst hx
      exact ⟨#[], .inl ⟨rfl, rfl⟩, by simp [ERels]⟩
    · split at hes
      · rename_i hb
        cases hes
        simp only [VRel] at hx
        obtain ⟨l, hl, rfl⟩ := hx
        obtain ⟨es', hh, he⟩ := mapBlk h hl hb
        exact ⟨es', .inr ⟨_, _, rfl, hh⟩, he⟩
      · cases hes
    · cases hes
  obtain ⟨es', hrun, he⟩ := hmap
  have hck := keyOk_sound (P := P) 8 kt k hko rk hk es'.isEmpty 10000 (by omega) w
  split at e
  · cases e
  · rename_i j u hf
    obtain ⟨r', hr1, hr2⟩ := findKey_sound (P := P) hD h hk hf he huk
    obtain ⟨p, q, rfl, hp, hq, hpv⟩ := hr2.some_inv
    obtain ⟨q', hq', hqk, hqv, _⟩ := he.get _ _ hp
    rw [hq] at hq'; cases hq'
    rw [hpv] at hqv
    refine ⟨if ok then .tuple #[q.val, .bool true] else q.val, ?_, ?_⟩
    · rcases hrun with ⟨rfl, rfl⟩ | ⟨r, clock, rfl, hh⟩
      · simp only [Instr.lookup, Sem.run_bind, run_underlying hu, Result.andThen_ok, hck, hr1, Sem.run_pure]
      · simp only [Instr.lookup, Sem.run_bind, run_underlying hu, Result.andThen_ok, run_getObj hh notRow_map, hck, hr1, Sem.run_pure]
    · cases e
      cases ok
      · simpa using hqv
      · simp only [if_true, VRel]; exact ⟨_, rfl, by simp only [VRels]; exact ⟨_, _, rfl, hqv, _, _, rfl, by simp [VRel], rfl⟩⟩
  · rename_i hf
    obtain ⟨r', hr1, hr2⟩ := findKey_sound (P := P) hD h hk hf he huk
    obtain rfl := hr2.none_inv
    obtain ⟨z, hz, rfl⟩ := Option.map_eq_some_iff.1 e
    obtain ⟨rz, hrz, hvz⟩ := zeroV_sound (P := P) (σ := σ) hD hz w
    refine ⟨if ok then .tuple #[rz, .bool false] else rz, ?_, ?_⟩
    · rcases hrun with ⟨rfl, rfl⟩ | ⟨r, clock, rfl, hh⟩
      · simp only [Instr.lookup, Sem.run_bind, run_underlying hu, Result.andThen_ok, hck, hr1, hrz, Sem.run_pure]
      · simp only [Instr.lookup, Sem.run_bind, run_underlying hu, Result.andThen_ok, run_getObj hh notRow_map, hck, hr1, hrz, Sem.run_pure]
    · cases ok
      · simpa using hvz
      · simp only [if_true, VRel]; exact ⟨_, rfl, by simp only [VRels]; exact ⟨_, _, rfl, hvz, _, _, rfl, by simp [VRel], rfl⟩⟩

/-- what an operation that gives nothing comes to. -/
def URun (den : N → Int) (P : Program) (σ : Sub) (H : AH N) (w : World) (s : Sem Unit) (H' : AH N) : Prop :=
  ∃ w' σ', s.run P w = .ok () w' ∧ Ext σ H w σ' H' w' ∧ HRel den σ' H' w'

theorem sameKey_sound (hD : DomOk D den) {k : AV N} {es : List (AEnt N)} {i : Nat} (e : sameKey D k es i = true) : ∃ a, es[i]? = some a ∧ ∀ v, VRel den σ k v ↔ VRel den σ a.key v := by
  unfold sameKey at e
  split at e
  · rename_i a ha
    exact ⟨a, ha, beq_sound hD _ _ e⟩
  · cases e

theorem mapUpdateA_sound (hD : DomOk D den) (h : HRel den σ H w) {t : TypeId} {x k v : AV N} {H' : AH N} (e : mapUpdateA P D H t x k v = some H') {rx rk rv : Value} (hx : VRel den σ x rx) (hk : VRel den σ k rk) (hv : VRel den σ v rv) :
    URun den P σ H w (Instr.mapUpdate t rx rk rv) H' := by
  unfold mapUpdateA at e
  split at e
  rotate_left
  · cases e
  rename_i kt et r hu
  split at e
  rotate_left
  · cases e
  rename_i es clock hb
  simp only [VRel] at hx
  obtain ⟨l, hl, rfl⟩ := hx
  obtain ⟨es', hh, he⟩ := mapBlk h hl hb
  simp only [Bool.cond_eq_ite] at e
  split at e
  rotate_left
  · cases e
  rename_i hko
  obtain ⟨kind, huk⟩ := keyOk_under hko
  have hck := keyOk_sound (P := P) 8 kt k hko rk hk false 10000 (by omega) w
  split at e
  · cases e
  · rename_i j u hf
    split at e
    rotate_left
    · cases e
    rename_i hsame
    simp only [Option.some.injEq] at e
    subst e
    obtain ⟨r', hr1, hr2⟩ := findKey_sound (P := P) hD h hk hf he huk
    obtain ⟨p, q, rfl, hp, hq, hpv⟩ := hr2.some_inv
    obtain ⟨a, ha, hak⟩ := sameKey_sound (σ := σ) hD hsame
    rw [ha] at hp; cases hp
    obtain ⟨q', hq', hqk, _, _⟩ := he.get _ _ ha
    rw [hq] at hq'; cases hq'
    obtain ⟨key, w1, hks, hkey, g1, g2, g3, g4⟩ := keyThatStays_run (P := P) (((es'[j]?).map (·.key)).getD rk) rk w
    have hkeyv : VRel den σ k key := by
      rcases hkey with rfl | rfl
      · simp only [Array.getElem?_toList] at hq
        simp only [hq, Option.map_some, Option.getD_some]
        exact (hak _).2 hqk
      · exact hk
    have h1 : HRel den σ H w1 := h.world g1
    obtain ⟨w2, hs, hh2, hx2⟩ := setObj_rel (P := P) h1 hl (by rw [hb]; rfl) (by rw [g1]; exact hh) notRow_map (.map (es'.modify j fun e => { e with key, val := rv }) clock) (.map (setEnt es j k v) clock) (fun w' hw' => by
      simp only [BRel]
      refine ⟨l, _, hl, hw', ?_⟩
      rw [Array.toList_modify]
      exact he.set j hkeyv hv)
    refine ⟨w2, σ, ?_, (Ext.world σ H g1 g2 g3 g4).trans hx2, hh2⟩
    simp only [Instr.mapUpdate, Sem.run_bind, run_underlying hu, Result.andThen_ok, run_getObj hh notRow_map, hck, hr1, hks, hs]
  · rename_i hf
    simp only [Option.some.injEq] at e
    subst e
    obtain ⟨r', hr1, hr2⟩ := findKey_sound (P := P) hD h hk hf he huk
    obtain rfl := hr2.none_inv
    obtain ⟨w2, hs, hh2, hx2⟩ := setObj_rel (P := P) h hl (by rw [hb]; rfl) hh notRow_map (.map (es'.push { key := rk, val := rv, born := clock }) (clock + 1)) (.map (es ++ [{ key := k, val := v, born := clock }]) (clock + 1)) (fun w' hw' => by
      simp only [BRel]
      refine ⟨l, _, hl, hw', ?_⟩
      rw [Array.toList_push]
      exact he.snoc clock hk hv)
    refine ⟨w2, σ, ?_, hx2, hh2⟩
    simp only [Instr.mapUpdate, Sem.run_bind, run_underlying hu, Result.andThen_ok, run_getObj hh notRow_map, hck, hr1, hs]

theorem mapEntryA_sound (hD : DomOk D den) (h : HRel den σ H w) {t : TypeId} {x k v : AV N} {H' : AH N} (e : mapEntryA P D H t x k = some (v, H')) {rx rk : Value} (hx : VRel den σ x rx) (hk : VRel den σ k rk) :
    VRun den P σ H w (Instr.mapEntry t rx rk) v H' := by
  unfold mapEntryA at e
  split at e
  rotate_left
  · cases e
  rename_i kt et r hu
  split at e
  rotate_left
  · cases e
  rename_i es clock hb
  simp only [VRel] at hx
  obtain ⟨l, hl, rfl⟩ := hx
  obtain ⟨es', hh, he⟩ := mapBlk h hl hb
  simp only [Bool.cond_eq_ite] at e
  split at e
  rotate_left
  · cases e
  rename_i hko
  obtain ⟨kind, huk⟩ := keyOk_under hko
  have hck := keyOk_sound (P := P) 8 kt k hko rk hk false 10000 (by omega) w
  split at e
  · cases e
  · rename_i j u hf
    split at e
    rotate_left
    · cases e
    rename_i a ha
    split at e
    rotate_left
    · cases e
    rename_i hsame
    simp only [Option.some.injEq, Prod.mk.injEq] at e
    obtain ⟨rfl, rfl⟩ := e
    obtain ⟨r', hr1, hr2⟩ := findKey_sound (P := P) hD h hk hf he huk
    obtain ⟨p, q, rfl, hp, hq, hpv⟩ := hr2.some_inv
    obtain ⟨a', ha', hak⟩ := sameKey_sound (σ := σ) hD hsame
    rw [ha] at ha'; cases ha'
    rw [ha] at hp; cases hp
    obtain ⟨q', hq', hqk, hqv', hqb⟩ := he.get _ _ ha
    rw [hq] at hq'; cases hq'
    obtain ⟨key, w1, hks, hkey, g1, g2, g3, g4⟩ := keyThatStays_run (P := P) (((es'[j]?).map (·.key)).getD rk) rk w
    simp only [Array.getElem?_toList] at hq
    have hkeyv : VRel den σ k key := by
      rcases hkey with rfl | rfl
      · simp only [hq, Option.map_some, Option.getD_some]
        exact (hak _).2 hqk
      · exact hk
    have h1 : HRel den σ H w1 := h.world g1
    have hmod : (es'.modify j fun e => { e with key }) = es'.modify j fun e => { e with key, val := q.val } := by
      apply Array.ext_getElem?
      intro i
      simp only [Array.getElem?_modify]
      split
      · subst_vars; rw [hq]; rfl
      · rfl
    obtain ⟨w2, hs, hh2, hx2⟩ := setObj_rel (P := P) h1 hl (by rw [hb]; rfl) (by rw [g1]; exact hh) notRow_map (.map (es'.modify j fun e => { e with key }) clock) (.map (setEnt es j k u) clock) (fun w' hw' => by
      simp only [BRel]
      refine ⟨l, _, hl, hw', ?_⟩
      rw [hmod, Array.toList_modify]
      exact he.set j hkeyv (by rw [← hpv]; exact hqv'))
    refine ⟨.tuple #[q.val, goInt q.born], w2, σ, ?_, (Ext.world σ H g1 g2 g3 g4).trans hx2, hh2, ?_⟩
    · simp only [Instr.mapEntry, Sem.run_bind, run_underlying hu, Result.andThen_ok, run_getObj hh notRow_map, hck, hr1, hks, hs, Sem.run_pure]
      rw [hq]; rfl
    · simp only [VRel, VRels]
      exact ⟨_, rfl, _, _, rfl, by rw [← hpv]; exact hqv', _, _, rfl, by simp [goInt, hD.lit, hqb], rfl⟩
  · rename_i hf
    obtain ⟨z, hz, he'⟩ := Option.map_eq_some_iff.1 e
    cases he'
    obtain ⟨r', hr1, hr2⟩ := findKey_sound (P := P) hD h hk hf he huk
    obtain rfl := hr2.none_inv
    obtain ⟨rz, hrz, hvz⟩ := zeroV_sound (P := P) (σ := σ) hD hz w
    obtain ⟨w2, hs, hh2, hx2⟩ := setObj_rel (P := P) h hl (by rw [hb]; rfl) hh notRow_map (.map (es'.push { key := rk, val := rz, born := clock }) (clock + 1)) (.map (es ++ [{ key := k, val := z, born := clock }]) (clock + 1)) (fun w' hw' => by
      simp only [BRel]
      refine ⟨l, _, hl, hw', ?_⟩
      rw [Array.toList_push]
      exact he.snoc clock hk hvz)
    refine ⟨.tuple #[rz, goInt clock], w2, σ, ?_, hx2, hh2, ?_⟩
    · simp only [Instr.mapEntry, Sem.run_bind, run_underlying hu, Result.andThen_ok, run_getObj hh notRow_map, hck, hr1, hrz, hs, Sem.run_pure]
    · simp only [VRel, VRels]
      exact ⟨_, rfl, _, _, rfl, hvz, _, _, rfl, by simp [goInt, hD.lit], rfl⟩

theorem findBorn_sound (n : Nat) : ∀ (es : List (AEnt N)) (i j : Nat), findBorn n es i = some j → i ≤ j ∧ ∀ (rs : List MapEntry), ERels den σ es rs → ∀ f : MapEntry → Bool, (∀ e : MapEntry, f e = decide (e.born = n)) → rs.findIdx? f = some (j - i)
  | [], i, j, h => by simp [findBorn] at h
  | a :: es, i, j, h => by
    rw [findBorn] at h
    simp only [nbeq, Bool.cond_decide] at h
    split at h
    · rename_i hb
      cases h
      refine ⟨Nat.le_refl _, fun rs hr f hf => ?_⟩
      simp only [ERels] at hr
      obtain ⟨x, xs, rfl, _, _, h3, _⟩ := hr
      rw [List.findIdx?_cons, hf]
      simp [h3, hb]
    · rename_i hb
      obtain ⟨h1, h2⟩ := findBorn_sound n es (i + 1) j h
      refine ⟨by omega, fun rs hr f hf => ?_⟩
      simp only [ERels] at hr
      obtain ⟨x, xs, rfl, _, _, h3, h4⟩ := hr
      rw [List.findIdx?_cons, hf, h3, decide_eq_false hb, h2 xs h4 f hf]
      simp
      omega

theorem entryStoreA_sound (hD : DomOk D den) (h : HRel den σ H w) {x s v : AV N} {H' : AH N} (e : entryStoreA D H x s v = some H') {rx rs rv : Value} (hx : VRel den σ x rx) (hs : VRel den σ s rs) (hv : VRel den σ v rv) (t : TypeId) :
    URun den P σ H w (Instr.entryStore t rx rs rv) H' := by
  unfold entryStoreA at e
  split at e
  rotate_left
  · cases e
  rename_i r
  split at e
  rotate_left
  · cases e
  rename_i es clock n hb hn
  split at e
  rotate_left
  · cases e
  rename_i i hi
  split at e
  rotate_left
  · cases e
  rename_i a ha
  simp only [Option.some.injEq] at e
  subst e
  simp only [VRel] at hx
  obtain ⟨l, hl, rfl⟩ := hx
  obtain ⟨es', hh, he⟩ := mapBlk h hl hb
  obtain ⟨kk, rfl⟩ := litOf_sound hD hn hs
  obtain ⟨_, hfi⟩ := findBorn_sound (den := den) (σ := σ) n es 0 i hi
  have hfi := hfi _ he (fun e => (e.born : Int) == (Int.ofNat n)) (by intro e; rw [Bool.eq_iff_iff]; simp only [beq_iff_eq, decide_eq_true_eq, Int.ofNat_eq_natCast]; omega)
  obtain ⟨q, hq, hqk, hqv, hqb⟩ := he.get _ _ ha
  simp only [Array.getElem?_toList] at hq
  have hmod : (es'.modify i fun e => { e with val := rv }) = es'.modify i fun e => { e with key := q.key, val := rv } := by
    apply Array.ext_getElem?
    intro j
    simp only [Array.getElem?_modify]
    split
    · subst_vars; rw [hq]; rfl
    · rfl
  obtain ⟨w2, hs2, hh2, hx2⟩ := setObj_rel (P := P) h hl (by rw [hb]; rfl) hh notRow_map (.map (es'.modify i fun e => { e with val := rv }) clock) (.map (setEnt es i a.key v) clock) (fun w' hw' => by
    simp only [BRel]
    refine ⟨l, _, hl, hw', ?_⟩
    rw [hmod, Array.toList_modify]
    exact he.set i hqk hv)
  refine ⟨w2, σ, ?_, hx2, hh2⟩
  have hfa : es'.findIdx? (fun e => (e.born : Int) == (Int.ofNat n)) = some i := by
    have e2 : ∀ (A : Array MapEntry) (f : MapEntry → Bool), A.findIdx? f = A.toList.findIdx? f := by intro A f; cases A; simp
    rw [e2]
    simpa using hfi
  simp only [Instr.entryStore, Sem.run_bind, Result.andThen_ok, run_getObj hh notRow_map, asInt, asIntOf, Sem.run_pure, hfa, hs2]

theorem deleteA_sound (hD : DomOk D den) (h : HRel den σ H w) {ats : Array TypeId} {x k : AV N} {H' : AH N} (e : deleteA P D H ats x k = some H') {rx rk : Value} (hx : VRel den σ x rx) (hk : VRel den σ k rk) (ty : TypeId) :
    VRun den P σ H w (Builtin.delete_ ats ty #[rx, rk]) (.tuple []) H' := by
  have ht : VRel den σ (AV.tuple [] : AV N) (.tuple #[]) := by simp [VRel, VRels]
  unfold deleteA at e
  split at e
  rotate_left
  · cases e
  rename_i t ha0
  split at e
  rotate_left
  · cases e
  rename_i kt et r hu
  split at e
  rotate_left
  · cases e
  rename_i es clock hb
  simp only [VRel] at hx
  obtain ⟨l, hl, rfl⟩ := hx
  obtain ⟨es', hh, he⟩ := mapBlk h hl hb
  simp only [Bool.cond_eq_ite] at e
  split at e
  rotate_left
  · cases e
  rename_i hko
  obtain ⟨kind, huk⟩ := keyOk_under hko
  have hck := keyOk_sound (P := P) 8 kt k hko rk hk es'.isEmpty 10000 (by omega) w
  split at e
  · cases e
  · rename_i j u hf
    simp only [Option.some.injEq] at e
    subst e
    obtain ⟨r', hr1, hr2⟩ := findKey_sound (P := P) hD h hk hf he huk
    obtain ⟨p, q, rfl, hp, hq, hpv⟩ := hr2.some_inv
    obtain ⟨w2, hs, hh2, hx2⟩ := setObj_rel (P := P) h hl (by rw [hb]; rfl) hh notRow_map (.map (es'.eraseIdxIfInBounds j) clock) (.map (es.eraseIdx j) clock) (fun w' hw' => by
      simp only [BRel]
      refine ⟨l, _, hl, hw', ?_⟩
      have : (es'.eraseIdxIfInBounds j).toList = es'.toList.eraseIdx j := by
        unfold Array.eraseIdxIfInBounds
        split
        · simp
        · rw [List.eraseIdx_of_length_le (by simpa using (by omega : es'.size ≤ j))]
      rw [this]
      exact he.erase j)
    refine ⟨.tuple #[], w2, σ, ?_, hx2, hh2, ht⟩
    simp only [Builtin.delete_, ha0, List.getElem?_toArray, List.getElem?_cons_zero, List.getElem?_cons_succ, Sem.run_bind, run_underlying hu, Result.andThen_ok, run_getObj hh notRow_map, hck, hr1, hs, Sem.run_pure]
  · rename_i hf
    simp only [Option.some.injEq] at e
    subst e
    obtain ⟨r', hr1, hr2⟩ := findKey_sound (P := P) hD h hk hf he huk
    obtain rfl := hr2.none_inv
    have hlt := h.bnd _ _ hl
    have hself : w.heap.setIfInBounds l.r (.map es' clock) = w.heap := by
      apply Array.ext_getElem?
      intro i
      simp only [Array.getElem?_setIfInBounds]
      split
      · subst_vars; rw [hh]
      · rfl
    refine ⟨.tuple #[], w, σ, ?_, Ext.refl _ _ _, h, ht⟩
    simp only [Builtin.delete_, ha0, List.getElem?_toArray, List.getElem?_cons_zero, List.getElem?_cons_succ, Sem.run_bind, run_underlying hu, Result.andThen_ok, run_getObj hh notRow_map, hck, hr1, run_setObj hh notRow_map, hself, Sem.run_pure]

end
end Go.Am

namespace Go.Am
section
variable {N : Type} {D : Dom N} {den : N → Int} {P : Program} {σ : Sub} {H : AH N} {w : World}

theorem ERels.append : ∀ {a b : List (AEnt N)} {u v : List MapEntry}, ERels den σ a u → ERels den σ b v → ERels den σ (a ++ b) (u ++ v)
  | [], b, u, v, h, h' => by simp only [ERels] at h; subst h; simpa using h'
  | x :: a, b, u, v, h, h' => by
    simp only [ERels] at h
    obtain ⟨y, ys, rfl, h1, h2, h3, h4⟩ := h
    simp only [List.cons_append, ERels]
    exact ⟨_, _, rfl, h1, h2, h3, h4.append h'⟩

theorem ERels.get' : ∀ {es : List (AEnt N)} {rs : List MapEntry}, ERels den σ es rs → ∀ (j : Nat) (x : MapEntry), rs[j]? = some x → ∃ e, es[j]? = some e ∧ VRel den σ e.key x.key ∧ VRel den σ e.val x.val ∧ x.born = e.born
  | [], rs, h, j, e, he => by simp only [ERels] at h; subst h; simp at he
  | a :: es, rs, h, j, e, he => by
    simp only [ERels] at h
    obtain ⟨x, xs, rfl, h1, h2, h3, h4⟩ := h
    cases j with
    | zero => simp at he; subst he; exact ⟨a, by simp, h1, h2, h3⟩
    | succ j => simpa using h4.get' j e (by simpa using he)

theorem ERels.all (p : Nat → Bool) : ∀ {es : List (AEnt N)} {rs : List MapEntry}, ERels den σ es rs → (es.all fun e => p e.born) = (rs.all fun e => p e.born)
  | [], rs, h => by simp only [ERels] at h; subst h; rfl
  | a :: es, rs, h => by
    simp only [ERels] at h
    obtain ⟨x, xs, rfl, h1, h2, h3, h4⟩ := h
    simp [h3, h4.all p]

theorem iterBlk (h : HRel den σ H w) {r : Nat} {m : Option Nat} {a : Nat} {seen : List Nat} {c : Nat} (hb : H.blk r = .mapIter m a seen c) {l : Loc} (hl : σ r = some l) :
    ∃ m', l.base = 0 ∧ w.heap[l.r]? = some (.mapIter m' a seen.toArray c) ∧ BRelMI σ m m' := by
  have hbk := h.blk r
  rw [hb] at hbk
  simp only [BRel] at hbk
  obtain ⟨l', m', hl', h0, hh, hm⟩ := hbk
  rw [hl] at hl'; cases hl'
  exact ⟨m', h0, hh, hm⟩

/-- ranging over a map: one of the ways. -/
theorem nextA_sound (h : HRel den σ H w) {x : AV N} {isString : Bool} {outs : List (AV N × AH N)} (e : nextA H x isString = some outs) {rx : Value} (hx : VRel den σ x rx) (ty : TypeId) :
    ∃ o ∈ outs, VRun den P σ H w (Instr.next rx isString ty) o.1 o.2 := by
  unfold nextA at e
  simp only [Bool.cond_eq_ite] at e
  split at e
  · cases e
  rename_i hstr
  have hstr : isString = false := by simpa using hstr
  subst hstr
  split at e
  rotate_left
  · cases e
  rename_i r
  simp only [VRel] at hx
  obtain ⟨l, hl, rfl⟩ := hx
  have hover : VRel den σ (AV.tuple [.bool false] : AV N) (.tuple #[.bool false]) := by simp [VRel, VRels]
  split at e
  · rename_i since seen last hb
    cases e
    obtain ⟨m', h0, hh, hm⟩ := iterBlk h hb hl
    cases m' with
    | some _ => exact hm.elim
    | none =>
      refine ⟨_, List.mem_singleton.2 rfl, VRun.same h (rv := .tuple #[.bool false]) ?_ hover⟩
      simp only [Instr.next, h0, Sem.run_bind, run_getObj hh notRow_iter, Result.andThen_ok, Sem.run_pure]
  · rename_i m since seen last hb
    split at e
    rotate_left
    · cases e
    rename_i es clock hbm
    split at e
    · cases e
    rename_i hnot
    simp only [Option.some.injEq] at e
    obtain ⟨m', h0, hh, hm⟩ := iterBlk h hb hl
    cases m' with
    | none => exact hm.elim
    | some mr =>
      obtain ⟨lm, hlm, rfl⟩ := hm
      obtain ⟨es', hhm, he⟩ := mapBlk h hlm hbm
      -- the filters
      have hf1 : ERels den σ (es.filter fun e => !seen.any (Nat.beq e.born)) ((es'.filter fun e => !seen.toArray.contains e.born).toList) := by
        rw [Array.toList_filter]
        have : (fun e : MapEntry => !seen.toArray.contains e.born) = fun e : MapEntry => (fun b => !seen.any (Nat.beq b)) e.born := by
          funext e
          simp only [List.contains_toArray]
          congr 1
          rw [Bool.eq_iff_iff]
          simp [nbeq]
        rw [this]
        exact he.filter fun b => !seen.any (Nat.beq b)
      let left' := es'.filter fun e => !seen.toArray.contains e.born
      have ho : ERels den σ ((es.filter fun e => !seen.any (Nat.beq e.born)).filter fun e => Nat.blt e.born since) ((left'.filter fun e => decide (e.born < since)).toList) := by
        rw [Array.toList_filter]
        have : (fun e : MapEntry => decide (e.born < since)) = fun e : MapEntry => (fun b => Nat.blt b since) e.born := by
          funext e; rw [Bool.eq_iff_iff]; simp
        rw [this]
        exact hf1.filter fun b => Nat.blt b since
      have hn : ERels den σ ((es.filter fun e => !seen.any (Nat.beq e.born)).filter fun e => Nat.ble since e.born) ((left'.filter fun e => decide (e.born ≥ since)).toList) := by
        rw [Array.toList_filter]
        have : (fun e : MapEntry => decide (e.born ≥ since)) = fun e : MapEntry => (fun b => Nat.ble since b) e.born := by
          funext e; rw [Bool.eq_iff_iff]; simp
        rw [this]
        exact hf1.filter fun b => Nat.ble since b
      have hguard : (!seen.toArray.isEmpty && !es'.isEmpty && es'.all fun e => decide (e.born ≥ last)) = false := by
        have h1 : seen.toArray.isEmpty = seen.isEmpty := by cases seen <;> rfl
        have h2 : es'.isEmpty = es.isEmpty := by
          have := he.length
          rw [Bool.eq_iff_iff]
          simp only [Array.isEmpty_iff, List.isEmpty_iff, ← Array.toList_eq_nil_iff, ← List.length_eq_zero_iff]
          omega
        have h3 : (es'.all fun e => decide (e.born ≥ last)) = es.all fun e => Nat.ble last e.born := by
          rw [← Array.all_toList]
          have := he.all fun b => Nat.ble last b
          rw [this]
          congr 1
          funext e; rw [Bool.eq_iff_iff]; simp
        rw [h1, h2, h3]
        simpa using hnot
      generalize hO : ((es.filter fun e => !seen.any (Nat.beq e.born)).filter fun e => Nat.blt e.born since) = O at e ho
      generalize hNw : ((es.filter fun e => !seen.any (Nat.beq e.born)).filter fun e => Nat.ble since e.born) = Nw at e hn
      generalize hO' : (left'.filter fun e => decide (e.born < since)) = O' at ho
      generalize hN' : (left'.filter fun e => decide (e.born ≥ since)) = N' at hn
      let cands := (if O'.isEmpty then #[none] else #[]) ++ (O' ++ N').map some
      have hcs : 0 < cands.size := by
        simp only [cands]
        by_cases hO1 : O'.isEmpty = true
        · simp [hO1]; omega
        · simp only [hO1, Bool.false_eq_true, if_false]
          have : O'.size ≠ 0 := by simpa [Array.isEmpty_iff_size_eq_zero] using hO1
          simp; omega
      obtain ⟨c, w1, hch, hc, g1, g2, g3, g4⟩ : ∃ c w1, (choose (.mapNext cands.size)).run P w = .ok c w1 ∧ c < cands.size ∧ w1.heap = w.heap ∧ w1.os = w.os ∧ w1.output = w.output ∧ w1.tape = w.tape := by
        rw [run_choose]
        split
        · exact ⟨0, w, rfl, hcs, rfl, rfl, rfl, rfl⟩
        · exact ⟨_, _, rfl, by simp only [Question.cut]; exact Nat.mod_lt _ hcs, rfl, rfl, rfl, rfl⟩
      have h1 : HRel den σ H w1 := h.world g1
      have hext1 : Ext σ H w σ H w1 := Ext.world σ H g1 g2 g3 g4
      have hrun : ∀ s, (match cands[c]? with
          | some (some e) => do
            setObj l.r (.mapIter (some lm.r) since (seen.toArray.push e.born) clock)
            pure (.tuple #[.bool true, e.key, e.val])
          | some none => pure (.tuple #[.bool false])
          | none => stuck "Next: no such candidate" : Sem Value).run P w1 = s → (Instr.next (.pointer (some ⟨l.r, l.base + 0, none⟩)) false ty).run P w = s := by
        intro s hs
        rw [← hs]
        simp only [Instr.next, h0, Sem.run_bind, run_getObj hh notRow_iter, Result.andThen_ok, run_getObj hhm notRow_map, hguard, Bool.false_eq_true, if_false]
        show ((choose (.mapNext (((if (left'.filter fun (e : MapEntry) => decide (e.born < since)).isEmpty then #[none] else #[]) ++ ((left'.filter fun (e : MapEntry) => decide (e.born < since)) ++ (left'.filter fun (e : MapEntry) => decide (e.born ≥ since))).map some).size))).run P w).andThen _ = _
        rw [hO', hN']
        rw [hch]
        rfl
      rcases hcc : cands[c]? with _ | q
      · rw [Array.getElem?_eq_getElem hc] at hcc; cases hcc
      · cases q with
        | none =>
          have hO1 : O'.isEmpty = true := by
            cases hq : O'.isEmpty with
            | true => rfl
            | false =>
              have hin : (none : Option MapEntry) ∈ cands := Array.mem_of_getElem? hcc
              simp [cands, hq] at hin
          have : O = [] := by
            have := ho.length
            simp only [Array.isEmpty_iff] at hO1
            subst hO1
            simpa using this
          subst this
          refine ⟨(.tuple [.bool false], H), by rw [← e]; simp, .tuple #[.bool false], w1, σ, ?_, hext1, h1, hover⟩
          apply hrun
          rw [hcc]; rfl
        | some en =>
          have hmem : ∃ j : Nat, ((O'.toList ++ N'.toList) : List MapEntry)[j]? = some en := by
            have hin : some en ∈ cands := Array.mem_of_getElem? hcc
            simp only [cands, Array.mem_append, Array.mem_map] at hin
            rcases hin with hin | ⟨y, hy, e1⟩
            · split at hin <;> simp at hin
            · cases e1
              have : en ∈ O'.toList ++ N'.toList := by simpa using hy
              exact List.getElem?_of_mem this
          obtain ⟨j, hj⟩ := hmem
          obtain ⟨ae, hae, hk, hv, hbn⟩ := (ho.append hn).get' j en hj
          obtain ⟨w2, hs2, hh2, hx2⟩ := setObj_rel (P := P) h1 hl (by rw [hb]; rfl) (by rw [g1]; exact hh) notRow_iter (.mapIter (some lm.r) since (seen.toArray.push en.born) clock) (.mapIter (some m) since (seen ++ [ae.born]) clock) (fun w' hw' => by
            simp only [BRel]
            refine ⟨l, some lm.r, hl, h0, ?_, lm, hlm, rfl⟩
            rw [hw', hbn]; simp)
          refine ⟨(.tuple [.bool true, ae.key, ae.val], H.put r (.mapIter (some m) since (seen ++ [ae.born]) clock)), ?_, .tuple #[.bool true, en.key, en.val], w2, σ, ?_, hext1.trans hx2, hh2, ?_⟩
          · rw [← e]
            refine List.mem_append.2 (.inr (List.mem_map.2 ⟨ae, List.mem_of_getElem? hae, rfl⟩))
          · apply hrun
            rw [hcc]
            simp only [Sem.run_bind, hs2, Result.andThen_ok, Sem.run_pure]
          · simp only [VRel, VRels]
            exact ⟨_, rfl, _, _, rfl, rfl, _, _, rfl, hk, _, _, rfl, hv, rfl⟩
  · cases e

theorem rangeA_sound (h : HRel den σ H w) {t : TypeId} {x v : AV N} {H' : AH N} (e : rangeA P H t x = some (v, H')) {rx : Value} (hx : VRel den σ x rx) :
    VRun den P σ H w (Instr.range t rx) v H' := by
  have hself : ∀ l : Loc, (σ.add H.next l) H.next = some l := by intro l; simp [Sub.add]
  have hnone : σ H.next = none := by
    cases e : σ H.next with
    | none => rfl
    | some m => exact absurd (h.dom _ _ e) (Nat.lt_irrefl _)
  unfold rangeA at e
  split at e
  · rename_i hu
    simp only [Option.some.injEq, Prod.mk.injEq] at e
    obtain ⟨rfl, rfl⟩ := e
    simp only [VRel] at hx
    subst hx
    let l : Loc := ⟨w.heap.size, 0, 0⟩
    obtain ⟨g1, g2⟩ := new_rel h (.mapIter none 0 #[] 0) (.mapIter none 0 [] 0) l rfl (by
      simp only [BRel]
      exact ⟨l, none, hself l, rfl, World.heap_push_self _ _, trivial⟩)
    refine ⟨.pointer (some ⟨w.heap.size, 0, none⟩), _, _, ?_, g2, g1, ?_⟩
    · simp only [Instr.range, Sem.run_bind, run_underlying hu, Result.andThen_ok, Sem.run_pure, run_newObj]
      rfl
    · simp only [VRel, AH.id_new]; exact ⟨l, hself l, rfl⟩
  · rename_i m hu
    split at e
    rotate_left
    · cases e
    rename_i es clock hb
    simp only [Option.some.injEq, Prod.mk.injEq] at e
    obtain ⟨rfl, rfl⟩ := e
    simp only [VRel] at hx
    obtain ⟨lm, hlm, rfl⟩ := hx
    obtain ⟨es', hh, he⟩ := mapBlk h hlm hb
    let l : Loc := ⟨w.heap.size, 0, 0⟩
    obtain ⟨g1, g2⟩ := new_rel h (.mapIter (some lm.r) clock #[] clock) (.mapIter (some m) clock [] clock) l rfl (by
      simp only [BRel]
      exact ⟨l, some lm.r, hself l, rfl, World.heap_push_self _ _, lm, Sub.le_add hnone _ _ hlm, rfl⟩)
    refine ⟨.pointer (some ⟨w.heap.size, 0, none⟩), _, _, ?_, g2, g1, ?_⟩
    · simp only [Instr.range, Sem.run_bind, run_underlying hu, Result.andThen_ok, Sem.run_pure, run_getObj hh notRow_map, run_newObj]
      rfl
    · simp only [VRel, AH.id_new]; exact ⟨l, hself l, rfl⟩
  · cases e

theorem find_born (n : Nat) : ∀ {es : List (AEnt N)} {rs : List MapEntry}, ERels den σ es rs → ∀ (a : AEnt N), es.find? (fun e => Nat.beq e.born n) = some a → ∃ x, rs.find? (fun e => e.born == n) = some x ∧ VRel den σ a.key x.key ∧ VRel den σ a.val x.val
  | [], rs, h, a, e => by simp at e
  | b :: es, rs, h, a, e => by
    simp only [ERels] at h
    obtain ⟨x, xs, rfl, h1, h2, h3, h4⟩ := h
    rw [List.find?_cons] at e
    rw [List.find?_cons, h3]
    simp only [nbeq] at e
    split at e
    · rename_i hq
      cases e
      have hq' : (b.born == n) = true := by simpa using hq
      rw [hq']
      exact ⟨x, rfl, h1, h2⟩
    · rename_i hq
      have hq' : (b.born == n) = false := by simpa using hq
      rw [hq']
      exact find_born n h4 a (by simpa [nbeq] using e)

theorem entryA_sound (h : HRel den σ H w) {x v : AV N} (e : entryA H x = some v) {rx : Value} (hx : VRel den σ x rx) :
    ∃ rv, (Instr.entry rx).run P w = .ok rv w ∧ VRel den σ v rv := by
  unfold entryA at e
  split at e
  rotate_left
  · cases e
  rename_i r
  split at e
  rotate_left
  · cases e
  rename_i m a seen stepped hb
  split at e
  rotate_left
  · cases e
  rename_i stamp es clock hlast hbm
  simp only [nbeq, Bool.cond_decide] at e
  split at e
  rotate_left
  · cases e
  rename_i hclock
  subst hclock
  split at e
  rotate_left
  · cases e
  rename_i en hen
  simp only [Option.some.injEq] at e
  subst e
  simp only [VRel] at hx
  obtain ⟨l, hl, rfl⟩ := hx
  obtain ⟨m', h0, hh, hm⟩ := iterBlk h hb hl
  cases m' with
  | none => exact hm.elim
  | some mr =>
    obtain ⟨lm, hlm, rfl⟩ := hm
    obtain ⟨es', hhm, he⟩ := mapBlk h hlm hbm
    obtain ⟨y, hy, hk, hv⟩ := find_born (den := den) (σ := σ) stamp he en (by simpa [nbeq] using hen)
    refine ⟨.tuple #[y.key, y.val], ?_, ?_⟩
    · have hback : seen.toArray.back? = some stamp := by simpa using hlast
      have hf : es'.find? (fun e => e.born == stamp) = some y := by
        rw [← Array.find?_toList]; exact hy
      simp only [Instr.entry, h0, Sem.run_bind, run_getObj hh notRow_iter, Result.andThen_ok, hback, run_getObj hhm notRow_map, bne_self_eq_false, Bool.false_eq_true, if_false, Sem.run_pure, hf]
    · simp only [VRel, VRels]
      exact ⟨_, rfl, _, _, rfl, hk, _, _, rfl, hv, rfl⟩

theorem least_none {l : List String} (h : Instr.least l = none) : l = [] := by
  cases l with
  | nil => rfl
  | cons a l => simp [Instr.least] at h

theorem orElse_none {α : Type} {a b : Option α} (h : (a <|> b) = none) : a = none ∧ b = none := by
  cases a with
  | some x => cases h
  | none => exact ⟨rfl, h⟩

theorem lacks_iff (want : Array (String × TypeId)) (got : Array Method) : lacks want got = false ↔ Instr.missingMethod want got = none := by
  unfold lacks Instr.missingMethod
  have h1 : (want.toList.any fun x => !got.any fun m => m.name == x.1 && m.sig == x.2) = false ↔ (want.toList.filter fun (x : String × TypeId) => !got.any fun m => m.name == x.1 && m.sig == x.2) = [] := by
    rw [List.filter_eq_nil_iff, List.any_eq_false]
  rw [h1]
  constructor
  · intro h
    simp only
    rw [h]
    rfl
  · intro h
    simp only at h
    generalize (want.toList.filter fun (x : String × TypeId) => !got.any fun m => m.name == x.1 && m.sig == x.2) = miss at h
    rw [List.partition_eq_filter_filter] at h
    obtain ⟨h2, h3⟩ := orElse_none h
    have h2 := least_none h2
    have h3 := List.map_eq_nil_iff.1 (least_none h3)
    rw [List.filter_eq_nil_iff] at h2 h3
    cases miss with
    | nil => rfl
    | cons x xs =>
      have a1 := h2 x.1 (by simp)
      have a2 := h3 x.1 (by simp)
      simp at a1 a2
      exact (a2 a1).elim

theorem typeAssertA_sound (hD : DomOk D den) {x v : AV N} {t : TypeId} {ok : Bool} (e : typeAssertA P D x t ok = some v) {rx : Value} (hx : VRel den σ x rx) (xt : TypeId) (w : World) :
    ∃ rv, (Instr.typeAssert rx xt t ok).run P w = .ok rv w ∧ VRel den σ v rv := by
  have hholds : ∀ (a : AV N) (ra : Value), VRel den σ a ra → VRel den σ (bif ok then .tuple [a, .bool true] else a) (if ok then .tuple #[ra, .bool true] else ra) := by
    intro a ra ha
    cases ok
    · simpa using ha
    · simp only [cond_true, if_true, VRel, VRels]; exact ⟨_, rfl, _, _, rfl, ha, _, _, rfl, rfl, rfl⟩
  have hfails : ∀ (u : AV N), (bif ok then (zeroV P D t).map fun z => .tuple [z, .bool false] else none) = some u → ok = true ∧ ∃ rz, (zeroValue t).run P w = .ok rz w ∧ VRel den σ u (.tuple #[rz, .bool false]) := by
    intro u hu
    cases ok
    · cases hu
    · simp only [cond_true] at hu
      obtain ⟨z, hz, rfl⟩ := Option.map_eq_some_iff.1 hu
      obtain ⟨rz, hrz, hvz⟩ := zeroV_sound (P := P) (σ := σ) hD hz w
      exact ⟨rfl, rz, hrz, by simp only [VRel, VRels]; exact ⟨_, rfl, _, _, rfl, hvz, _, _, rfl, rfl, rfl⟩⟩
  unfold typeAssertA at e
  simp only at e
  split at e
  · rename_i hu
    simp only [VRel] at hx
    subst hx
    obtain ⟨rfl, rz, hrz, hv⟩ := hfails _ e
    exact ⟨_, by simp only [Instr.typeAssert, Sem.run_bind, run_underlying hu, Result.andThen_ok, if_true, hrz, Sem.run_pure], hv⟩
  · rename_i want d u hu
    simp only [VRel] at hx
    obtain ⟨ru, rfl, hru⟩ := hx
    split at e
    rotate_left
    · cases e
    rename_i i hi
    cases hl : lacks want i.methods with
    | true =>
      rw [hl, cond_true] at e
      obtain ⟨rfl, rz, hrz, hv⟩ := hfails _ e
      have hne : Instr.missingMethod want i.methods ≠ none := fun h => by rw [(lacks_iff want i.methods).2 h] at hl; cases hl
      obtain ⟨m, hm⟩ := Option.ne_none_iff_exists'.1 hne
      exact ⟨_, by simp only [Instr.typeAssert, Sem.run_bind, run_underlying hu, Result.andThen_ok, run_info hi, hm, if_true, hrz, Sem.run_pure], hv⟩
    | false =>
      rw [hl, cond_false, Option.some.injEq] at e
      subst e
      have hm := (lacks_iff want i.methods).1 hl
      refine ⟨_, ?_, hholds _ (.iface d ru) (by simp only [VRel]; exact ⟨ru, rfl, hru⟩)⟩
      simp only [Instr.typeAssert, Sem.run_bind, run_underlying hu, Result.andThen_ok, run_info hi, hm, Sem.run_pure]
  · rename_i hnot hu
    simp only [VRel] at hx
    subst hx
    obtain ⟨rfl, rz, hrz, hv⟩ := hfails _ e
    refine ⟨_, ?_, hv⟩
    rename_i dd _ _
    cases dd <;> simp only [Instr.typeAssert, Sem.run_bind, run_underlying hu, Result.andThen_ok, if_true, hrz, Sem.run_pure]
  · rename_i d u hnot hu
    simp only [VRel] at hx
    obtain ⟨ru, rfl, hru⟩ := hx
    simp only [nbeq, Bool.cond_decide] at e
    split at e
    · rename_i hdt
      subst hdt
      simp only [Option.some.injEq] at e
      subst e
      refine ⟨_, ?_, hholds _ ru hru⟩
      rename_i dd _ _
      cases dd <;> first | (exact (hnot _ rfl).elim) | simp only [Instr.typeAssert, Sem.run_bind, run_underlying hu, Result.andThen_ok, if_true, Sem.run_pure]
    · rename_i hdt
      obtain ⟨rfl, rz, hrz, hv⟩ := hfails _ e
      refine ⟨_, ?_, hv⟩
      rename_i dd _ _
      cases dd <;> first | (exact (hnot _ rfl).elim) | simp only [Instr.typeAssert, Sem.run_bind, run_underlying hu, Result.andThen_ok, hdt, if_true, if_false, hrz, Sem.run_pure]
  · cases e

end
end Go.Am

namespace Go.Am
section
variable {N : Type} {D : Dom N} {den : N → Int} {P : Program} {σ : Sub} {H : AH N} {w : World}

theorem prun_sound {α : Type} : ∀ (s : Sem α) (a : α), prun P s = some a → ∀ w, s.run P w = .ok a w
  | .pure x, a, h, w => by simp [prun] at h; subst h; rfl
  | .program k, a, h, w => by simp only [prun] at h; simpa [Sem.run] using prun_sound (k P) a h w
  | .mark _ k, a, h, w => by simp only [prun] at h; simpa [Sem.run] using prun_sound k a h w
  | .load _ _ _, a, h, w => by simp [prun] at h
  | .store _ _ _ _, a, h, w => by simp [prun] at h
  | .new _ _, a, h, w => by simp [prun] at h
  | .shape _ _, a, h, w => by simp [prun] at h
  | .freeze _ _ _, a, h, w => by simp [prun] at h
  | .frozen _ _, a, h, w => by simp [prun] at h
  | .getObj _ _, a, h, w => by simp [prun] at h
  | .setObj _ _ _, a, h, w => by simp [prun] at h
  | .choose _ _, a, h, w => by simp [prun] at h
  | .sys _ _, a, h, w => by simp [prun] at h
  | .halt _, a, h, w => by simp [prun] at h

/-- the globals lie where they lie; the block of the type handles too. -/
def GOk (P : Program) (σ : Sub) : Prop := ∀ g, g ≤ P.globals.size → ∃ l, σ g = some l ∧ l.r = g ∧ l.base = 0

theorem GOk.mono {σ' : Sub} (h : GOk P σ) (hs : σ.le σ') : GOk P σ' := fun g hg => by
  obtain ⟨l, hl, h1, h2⟩ := h g hg
  exact ⟨l, hs _ _ hl, h1, h2⟩

theorem handle_rel (hG : GOk P σ) (t : Nat) : VRel den σ (.ptr P.globals.size t : AV N) (typeHandle P t) := by
  obtain ⟨l, hl, h1, h2⟩ := hG P.globals.size (Nat.le_refl _)
  simp only [VRel]
  exact ⟨l, hl, by simp [typeHandle, h1, h2]⟩

theorem handle_of (hG : GOk P σ) {t : Nat} {v : Value} (h : VRel den σ (.ptr P.globals.size t : AV N) v) : v = typeHandle P t := by
  obtain ⟨l, hl, h1, h2⟩ := hG P.globals.size (Nat.le_refl _)
  simp only [VRel] at h
  obtain ⟨l', hl', rfl⟩ := h
  rw [hl] at hl'; cases hl'
  simp [typeHandle, h1, h2]

theorem run_handle (t : Nat) (w : World) : (Extern.Rtype.handle t).run P w = .ok (typeHandle P t) w := by simp [Extern.Rtype.handle]
theorem run_ofHandle (t : Nat) (w : World) : (Extern.Rtype.ofHandle (typeHandle P t)).run P w = .ok t w := by simp [Extern.Rtype.ofHandle, handleType, typeHandle]

theorem toTypeA_sound (hG : GOk P σ) {t : TypeId} {v : AV N} (e : toTypeA P t = some v) (w : World) : ∃ rv, (Extern.ReflectliteType.toType t).run P w = .ok rv w ∧ VRel den σ v rv := by
  unfold toTypeA at e
  split at e
  · rename_i rt hrt
    cases e
    refine ⟨.iface rt (.agg #[typeHandle P t]), ?_, ?_⟩
    · simp only [Extern.ReflectliteType.toType, Sem.run_bind, prun_sound _ _ hrt, Result.andThen_ok, run_handle, Sem.run_pure]
    · simp only [VRel, VRels]
      exact ⟨_, rfl, _, rfl, _, _, rfl, by simpa [VRel] using handle_rel (N := N) (den := den) hG t, rfl⟩
  · cases e

theorem mkA_sound (hD : DomOk D den) (hG : GOk P σ) {t : TypeId} {i o fl : Nat} {v : AV N} (e : mkA P D t i o fl = some v) {l : Loc} (hl : σ i = some l) (w : World) :
    ∃ rv, (Extern.ReflectliteValue.mk t ⟨l.r, l.base + o, none⟩ fl).run P w = .ok rv w ∧ VRel den σ v rv := by
  unfold mkA at e
  split at e
  · rename_i k hk
    cases e
    refine ⟨.agg #[typeHandle P t, .pointer (some ⟨l.r, l.base + o, none⟩), .int .u64 (Int.ofNat (k + 128 + fl))], ?_, ?_⟩
    · simp only [Extern.ReflectliteValue.mk, Sem.run_bind, run_handle, Result.andThen_ok, prun_sound _ _ hk, Sem.run_pure]
      rfl
    · simp only [VRel, VRels]
      exact ⟨_, rfl, _, _, rfl, by simpa [VRel] using handle_rel (N := N) (den := den) hG t, _, _, rfl, ⟨l, hl, rfl⟩, _, _, rfl, by simp [hD.lit], rfl⟩
  · cases e

theorem unpackA_sound (hD : DomOk D den) (hG : GOk P σ) (h : HRel den σ H w) {x v : AV N} {H' : AH N} (e : unpackA P D H x = some (v, H')) {rx : Value} (hx : VRel den σ x rx) :
    VRun den P σ H w (Extern.ReflectliteValue.unpack rx) v H' := by
  unfold unpackA at e
  split at e
  · cases e
  · rename_i t u hj
    simp only [Bool.cond_eq_ite] at e
    split at e
    rotate_left
    · cases e
    simp only [VRel] at hx
    obtain ⟨ru, rfl, hu⟩ := hx
    obtain ⟨v', hv', he⟩ := Option.map_eq_some_iff.1 e
    cases he
    have hcr := cells_rel hu (by rintro rfl; exact hj rfl)
    obtain ⟨g1, g2, g3⟩ := newList_sound h t hcr
    obtain ⟨rv, hr, hv⟩ := mkA_sound (P := P) hD (hG.mono g2.sub) hv' g3 (w.alloc (.cells ru.cells t))
    refine ⟨rv, _, _, ?_, g2, g1, hv⟩
    simp only [Extern.ReflectliteValue.unpack, Sem.run_bind, newVar, newRow, run_newObj, Result.andThen_ok, Sem.run_pure]
    exact hr
  · cases e

theorem partsAnyA_sound (hD : DomOk D den) (hG : GOk P σ) {l : List (AV N)} {t i o fl : Nat} (e : partsAnyA P D l = some (t, i, o, fl)) {rl : List Value} (hl : VRels den σ l rl) :
    ∃ rv m, rl = [rv] ∧ σ i = some m ∧ ∀ w, (Extern.ReflectliteValue.partsAny rv).run P w = .ok (some (t, ⟨m.r, m.base + o, none⟩, fl)) w := by
  unfold partsAnyA at e
  split at e
  · rename_i g t' i' o' f
    split at e
    · rename_i n hn
      simp only [nbeq, Bool.cond_decide] at e
      split at e
      · rename_i hg
        subst hg
        simp only [Option.some.injEq, Prod.mk.injEq] at e
        obtain ⟨rfl, rfl, rfl, rfl⟩ := e
        simp only [VRels] at hl
        obtain ⟨rv, _, rfl, hrv, rfl⟩ := hl
        rw [VRel] at hrv
        obtain ⟨cs, rfl, hcs⟩ := hrv
        simp only [VRels] at hcs
        obtain ⟨v1, vs1, hc1, h1, v2, vs2, hc2, h2, v3, vs3, hc3, h3, hc4⟩ := hcs
        have h1 := handle_of hG h1
        simp only [VRel] at h2 h3
        obtain ⟨m, hm, rfl⟩ := h2
        have hfn := hD.toLit _ _ hn
        rw [hfn] at h3
        subst h1; subst h3; subst hc4; subst hc3; subst hc2
        have : cs = #[typeHandle P t', .pointer (some ⟨m.r, m.base + o', none⟩), .int .u64 (Int.ofNat (n + 1))] := by
          apply Array.ext'; simpa using hc1
        subst this
        refine ⟨_, m, rfl, hm, fun w => ?_⟩
        have e1 : Extern.ReflectliteValue.partsAny (.agg #[typeHandle P t', .pointer (some ⟨m.r, m.base + o', none⟩), .int .u64 (Int.ofNat (n + 1))]) = (do pure (some (← Extern.Rtype.ofHandle (typeHandle P t'), ⟨m.r, m.base + o', none⟩, (Int.ofNat (n + 1)).toNat))) := rfl
        rw [e1]
        simp only [Sem.run_bind, run_ofHandle, Result.andThen_ok, Sem.run_pure]
        rfl
      · cases e
    · cases e
  · cases e

theorem partsA_sound (hD : DomOk D den) (hG : GOk P σ) {l : List (AV N)} {t i o fl : Nat} (e : partsA P D l = some (t, i, o, fl)) {rl : List Value} (hl : VRels den σ l rl) :
    ∃ rv m, rl = [rv] ∧ σ i = some m ∧ ∀ w, (Extern.ReflectliteValue.parts rv).run P w = .ok (some (t, ⟨m.r, m.base + o, none⟩, fl)) w := by
  unfold partsA at e
  split at e
  · rename_i t' i' o' fl' hp
    split at e
    · rename_i hnp
      cases e
      obtain ⟨rv, m, h1, h2, h3⟩ := partsAnyA_sound hD hG hp hl
      refine ⟨rv, m, h1, h2, fun w => ?_⟩
      simp only [Extern.ReflectliteValue.parts, Sem.run_bind, h3, Result.andThen_ok, prun_sound _ _ hnp, Sem.run_pure]
    · cases e
  · cases e

theorem rtypeA_sound (hG : GOk P σ) {x : AV N} {t : TypeId} (e : rtypeA P x = some t) {rx : Value} (hx : VRel den σ x rx) : ∀ w, (Extern.ReflectliteType.ofRtype rx).run P w = .ok t w := by
  unfold rtypeA at e
  split at e
  · rename_i g t'
    simp only [nbeq, Bool.cond_decide] at e
    split at e
    · rename_i hg
      subst hg
      split at e
      · rename_i hnp
        cases e
        rw [VRel] at hx
        obtain ⟨cs, rfl, hcs⟩ := hx
        simp only [VRels] at hcs
        obtain ⟨v1, vs1, hc1, h1, rfl⟩ := hcs
        have h1 := handle_of hG h1
        subst h1
        have : cs = #[typeHandle P t] := by apply Array.ext'; simpa using hc1
        subst this
        intro w
        have e1 : Extern.ReflectliteType.ofRtype (.agg #[typeHandle P t]) = (do
          let t ← Extern.Rtype.ofHandle (typeHandle P t)
          Extern.Rtype.noPack "a Type asked or handed on" t
          pure t) := rfl
        rw [e1]
        simp only [Sem.run_bind, run_ofHandle, Result.andThen_ok, prun_sound _ _ hnp, Sem.run_pure]
      · cases e
    · cases e
  · cases e

theorem lexI_compare : ∀ (a b : List Int), (∀ x ∈ a ++ b, 0 ≤ x ∧ x < 256) → Lib.compareBytes (Lib.bytesOf a) (Lib.bytesOf b) = lexI a b
  | [], [], _ => rfl
  | [], _ :: _, _ => rfl
  | _ :: _, [], _ => rfl
  | x :: a, y :: b, h => by
    have hx := h x (by simp)
    have hy := h y (by simp)
    have ih := lexI_compare a b (fun z hz => h z (by simp at hz ⊢; rcases hz with hz | hz <;> simp [hz]))
    unfold Lib.bytesOf at ih ⊢
    simp only [List.map_cons, Lib.compareBytes, lexI]
    have e : ∀ z : Int, 0 ≤ z ∧ z < 256 → (UInt8.ofNat z.toNat).toNat = z.toNat := fun z hz => by
      rw [UInt8.toNat_ofNat']; exact Nat.mod_eq_of_lt (by omega)
    have l1 : (UInt8.ofNat x.toNat < UInt8.ofNat y.toNat) ↔ x < y := by
      rw [UInt8.lt_iff_toNat_lt, e x hx, e y hy]; omega
    have l2 : (UInt8.ofNat y.toNat < UInt8.ofNat x.toNat) ↔ y < x := by
      rw [UInt8.lt_iff_toNat_lt, e x hx, e y hy]; omega
    by_cases h1 : x < y
    · rw [if_pos (l1.2 h1), if_neg (by omega), if_pos h1]
    · rw [if_neg (fun q => h1 (l1.1 q))]
      by_cases h2 : y < x
      · rw [if_pos (l2.2 h2), if_neg (by omega), if_neg h1]
      · rw [if_neg (fun q => h2 (l2.1 q)), if_pos (by omega), ih]

theorem u8s_sound : ∀ (l : List (AV N)) (ns : List N), u8s l = some ns → ∀ rl, VRels den σ l rl → rl = ns.map fun n => Value.int .u8 (den n)
  | [], ns, h, rl, hr => by simp [u8s] at h; subst h; simp only [VRels] at hr; subst hr; rfl
  | x :: l, ns, h, rl, hr => by
    unfold u8s at h
    split at h
    · rename_i heq; cases heq
    · rename_i a x' heq
      cases heq
      split at h
      · rename_i l' hl'
        cases h
        simp only [VRels, VRel] at hr
        obtain ⟨_, vs, rfl, rfl, hr⟩ := hr
        simp [u8s_sound _ _ hl' _ hr]
      · cases h
    · cases h

theorem loadCells_cells (h : HRel den σ H w) {i off n : Nat} {l : Loc} (hl : σ i = some l) {vs : List (AV N)} (e : loadCellsA H i off n = some vs) :
    ∃ rl : List Value, VRels den σ vs rl ∧ rl.length = n ∧ ∀ j x, rl[j]? = some x → w.cell? ((⟨l.r, l.base + off, none⟩ : Addr).add j) = some x := by
  unfold loadCellsA at e
  have hb := h.blk i
  cases hc : H.blk i with
  | cells row ro =>
    rw [hc] at e hb
    simp only [Bool.cond_eq_ite, Nat.ble_eq] at e
    split at e
    · rename_i hle
      simp only [Option.some.injEq] at e
      subst e
      simp only [BRel] at hb
      obtain ⟨l', cs, te, fr, hl', hh, _, hsz, hcell, _⟩ := hb
      rw [hl] at hl'; cases hl'
      refine ⟨(List.range n).map fun j => cs.getD (l.base + (off + j)) undef, ?_, by simp, ?_⟩
      · refine VRels.of_get (by simp) fun j x hx => ?_
        simp only [List.getElem?_map, Option.map_eq_some_iff] at hx
        obtain ⟨k, hk, rfl⟩ := hx
        have hjn : j < n := by
          rcases Nat.lt_or_ge j n with q | q
          · exact q
          · simp [q] at hk
        simp [List.getElem?_range hjn] at hk
        subst hk
        obtain ⟨v, hv, hr⟩ := hcell (off + j) (by omega)
        refine ⟨v, ?_, hr⟩
        simp [hjn, Array.getD_eq_getD_getElem?, hv]
      · intro j x hx
        have hjn : j < n := by
          rcases Nat.lt_or_ge j n with q | q
          · exact q
          · simp [q] at hx
        obtain ⟨v, hv, hr⟩ := hcell (off + j) (by omega)
        simp [hjn, Array.getD_eq_getD_getElem?, hv] at hx
        subst hx
        rw [add_loc, cell_of_heap hh]
        exact hv
    · cases e
  | _ => simp [hc] at e

theorem bytesCellsA_sound (h : HRel den σ H w) {x : AV N} {cs : List (AV N)} {ns : List N} (e : bytesCellsA H x = some cs) (hu : u8s cs = some ns) {rx : Value} (hx : VRel den σ x rx) :
    (Extern.Bytes.bytesOf rx).run P w = .ok ⟨(Lib.bytesOf (ns.map den)).toArray⟩ w := by
  unfold bytesCellsA at e
  split at e
  · rename_i i o n c ex es
    simp only [nbeq, Bool.cond_decide] at e
    split at e
    · simp only [VRel] at hx
      obtain ⟨l, c', hl, rfl, _⟩ := hx
      obtain ⟨rl, hrl, hlen, hcell⟩ := loadCells_cells h hl e
      have := u8s_sound (den := den) (σ := σ) _ _ hu _ hrl
      subst this
      simp only [List.length_map] at hlen
      have hr := Lib.run_loadBytesX (P := P) w (ns.map den) ⟨l.r, l.base + o, none⟩ .empty (fun j x hx => by
        simp only [List.getElem?_map, Option.map_eq_some_iff] at hx
        obtain ⟨q, hq, rfl⟩ := hx
        exact hcell j _ (by simp [hq]))
      rw [List.length_map, hlen] at hr
      simp only [Extern.Bytes.bytesOf]
      rw [hr]
      congr 1
      apply ByteArray.ext
      have : (ByteArray.empty.data : Array UInt8) = #[] := rfl
      simp [this]
    · cases e
  · cases e; simp [u8s] at hu; subst hu; simp only [VRel] at hx; subst hx
    simp only [Extern.Bytes.bytesOf, Sem.run_pure]; rfl
  · cases e; simp [u8s] at hu; subst hu; simp only [VRel] at hx; obtain ⟨a, c, rfl⟩ := hx
    simp only [Extern.Bytes.bytesOf, Extern.Bytes.loadBytes, Sem.run_pure]; rfl
  · cases e

theorem isNilA_sound {x : AV N} {b : Bool} (e : isNilA x = some b) {rx : Value} (hx : VRel den σ x rx) (w : World) :
    ((match rx with
    | .chan none | .nilFunc | .nilIface | .map none | .pointer none | .slice none _ _ => pure (.bool true)
    | _ => pure (.bool false) : Sem Value)).run P w = .ok (.bool b) w := by
  unfold isNilA at e
  split at e <;> first | (cases e; done) | (cases e; simp only [VRel] at hx)
  all_goals first | (subst hx; simp; done) | (obtain ⟨_, _, rfl⟩ := hx; simp; done) | (obtain ⟨_, rfl, _⟩ := hx; simp; done) | (obtain ⟨_, _, _, rfl, _⟩ := hx; simp; done)

end
end Go.Am

namespace Go.Am
section
variable {N : Type} {D : Dom N} {den : N → Int} {P : Program} {σ : Sub} {H : AH N} {w : World}

theorem args1 {x : AV N} {ra : Array Value} (h : VRels den σ [x] ra.toList) : ∃ rx, ra = #[rx] ∧ VRel den σ x rx := by
  simp only [VRels] at h
  obtain ⟨rx, vs, h1, h2, rfl⟩ := h
  exact ⟨rx, by apply Array.ext'; simpa using h1, h2⟩
theorem args2 {x y : AV N} {ra : Array Value} (h : VRels den σ [x, y] ra.toList) : ∃ rx ry, ra = #[rx, ry] ∧ VRel den σ x rx ∧ VRel den σ y ry := by
  simp only [VRels] at h
  obtain ⟨rx, vs, h1, h2, ry, vs', rfl, h3, rfl⟩ := h
  exact ⟨rx, ry, by apply Array.ext'; simpa using h1, h2, h3⟩
theorem args3 {x y z : AV N} {ra : Array Value} (h : VRels den σ [x, y, z] ra.toList) : ∃ rx ry rz, ra = #[rx, ry, rz] ∧ VRel den σ x rx ∧ VRel den σ y ry ∧ VRel den σ z rz := by
  simp only [VRels] at h
  obtain ⟨rx, vs, h1, h2, ry, vs', rfl, h3, rz, vs'', rfl, h4, rfl⟩ := h
  exact ⟨rx, ry, rz, by apply Array.ext'; simpa using h1, h2, h3, h4⟩

def sub64Entry : Array Value → Sem Value := fun args => do
  let (x, y, b) ← Extern.MathBitsCarry.three "Sub64" args
  pure (Extern.MathBitsCarry.pair ((x + Extern.MathBitsCarry.m64 - y - b) % Extern.MathBitsCarry.m64) (if x < y + b then 1 else 0))

theorem run_three (what : String) (x y c : Int) (hc : c.toNat ≤ 1) (w : World) : (Extern.MathBitsCarry.three what #[.int .u64 x, .int .u64 y, .int .u64 c]).run P w = .ok (x.toNat, y.toNat, c.toNat) w := by
  have e : Extern.MathBitsCarry.three what #[.int .u64 x, .int .u64 y, .int .u64 c] = (do
    let c := (← asInt (.int .u64 c)).toNat
    if c > 1 then unsupported (.noEntry ("extern/math/bits." ++ what ++ ": a carry that is neither 0 nor 1"))
    pure ((← asInt (.int .u64 x)).toNat, (← asInt (.int .u64 y)).toNat, c)) := rfl
  rw [e]
  have h1 : ¬ c.toNat > 1 := by omega
  simp only [Sem.run_bind, asInt, asIntOf, Sem.run_pure, Result.andThen_ok, h1, if_false]

/-- an external function's row in the tables. -/
structure IsRow (name : String) (row : Array Value → Sem Value) : Prop where
  gen : Extern.allGenericRows.lookup name = none
  typed : Extern.allTypedRows.lookup name = none
  row : Extern.allRows.lookup name = some row
  next : Extern.allNextRows.lookup name = none

theorem nextEmpty : Extern.allNextRows.lookup "" = none := by kernel_rfl

def cmpRow : Array Value → Sem Value
  | #[a, b] => do pure (goInt (Extern.BytealgCompare.cmp (← Extern.Bytes.bytesOf a) (← Extern.Bytes.bytesOf b)))
  | _ => stuck "bytealg.Compare: two arguments expected"

theorem row_add64 : IsRow "math/bits.Add64" add64Entry := ⟨by kernel_rfl, by kernel_rfl, by kernel_rfl, by kernel_rfl⟩
theorem row_sub64 : IsRow "math/bits.Sub64" sub64Entry := ⟨by kernel_rfl, by kernel_rfl, by kernel_rfl, by kernel_rfl⟩
theorem row_compare : IsRow "internal/bytealg.Compare" Extern.BytealgCompare.compare := ⟨by kernel_rfl, by kernel_rfl, by kernel_rfl, by kernel_rfl⟩
theorem row_typeOf : IsRow "internal/reflectlite.TypeOf" Extern.ReflectliteType.typeOf := ⟨by kernel_rfl, by kernel_rfl, by kernel_rfl, by kernel_rfl⟩
theorem row_comparable : IsRow "(internal/reflectlite.rtype).Comparable" (Extern.ReflectliteType.method fun t => do Extern.Rtype.noPackHeld "Comparable" t; pure (.bool (← typeInfo t).comparable)) := ⟨by kernel_rfl, by kernel_rfl, by kernel_rfl, by kernel_rfl⟩
theorem row_elem : IsRow "(internal/reflectlite.rtype).Elem" (Extern.ReflectliteType.method Extern.ReflectliteType.elem) := ⟨by kernel_rfl, by kernel_rfl, by kernel_rfl, by kernel_rfl⟩
theorem row_implements : IsRow "(internal/reflectlite.rtype).Implements" (Extern.ReflectliteType.relation "Implements" Extern.ReflectliteType.implements_) := ⟨by kernel_rfl, by kernel_rfl, by kernel_rfl, by kernel_rfl⟩
theorem row_assignable : IsRow "(internal/reflectlite.rtype).AssignableTo" (Extern.ReflectliteType.relation "AssignableTo" Extern.ReflectliteType.assignableTo) := ⟨by kernel_rfl, by kernel_rfl, by kernel_rfl, by kernel_rfl⟩
theorem row_kind : IsRow "(*internal/abi.Type).Kind" (Extern.ReflectliteType.abiMethod fun t => do pure (.int .u8 (← Extern.Rtype.kind t))) := ⟨by kernel_rfl, by kernel_rfl, by kernel_rfl, by kernel_rfl⟩
theorem row_valueOf : IsRow "internal/reflectlite.ValueOf" (fun args => Extern.ReflectliteValue.unpack (args.getD 0 (.tuple #[]))) := ⟨by kernel_rfl, by kernel_rfl, by kernel_rfl, by kernel_rfl⟩
theorem row_vtype : IsRow "(internal/reflectlite.Value).Type" (Extern.ReflectliteValue.methodAny (Extern.ReflectliteValue.valueError "reflectlite.Value.Type" 0) fun t _ _ _ => Extern.ReflectliteType.toType t) := ⟨by kernel_rfl, by kernel_rfl, by kernel_rfl, by kernel_rfl⟩
theorem row_vkind : IsRow "(internal/reflectlite.Value).Kind" (Extern.ReflectliteValue.method (pure (.int .u8 0)) fun _ _ _ k => pure (.int .u8 (Int.ofNat k))) := ⟨by kernel_rfl, by kernel_rfl, by kernel_rfl, by kernel_rfl⟩
theorem row_visnil : IsRow "(internal/reflectlite.Value).IsNil" (Extern.ReflectliteValue.method (Extern.ReflectliteValue.valueError "reflectlite.Value.IsNil" 0) Extern.ReflectliteValue.isNil) := ⟨by kernel_rfl, by kernel_rfl, by kernel_rfl, by kernel_rfl⟩
theorem row_velem : IsRow "(internal/reflectlite.Value).Elem" (Extern.ReflectliteValue.method (Extern.ReflectliteValue.valueError "reflectlite.Value.Elem" 0) Extern.ReflectliteValue.elem) := ⟨by kernel_rfl, by kernel_rfl, by kernel_rfl, by kernel_rfl⟩
theorem row_vset : IsRow "(internal/reflectlite.Value).Set" Extern.ReflectliteValue.set := ⟨by kernel_rfl, by kernel_rfl, by kernel_rfl, by kernel_rfl⟩

theorem prun_bind {α β : Type} {s : Sem α} {f : α → Sem β} {b : β} : ∀ (_ : prun P (s >>= f) = some b), ∃ a, prun P s = some a ∧ prun P (f a) = some b := by
  intro h
  have key : ∀ (s : Sem α), prun P (s.bind f) = some b → ∃ a, prun P s = some a ∧ prun P (f a) = some b := by
    intro s
    induction s with
    | pure a => intro h; exact ⟨a, rfl, h⟩
    | program k ih => intro h; exact ih P h
    | mark m k ih => intro h; exact ih h
    | _ => intro h; simp [Sem.bind, prun] at h
  exact key s h

theorem relationA_sound (hG : GOk P σ) (h : HRel den σ H w) {f : TypeId → TypeId → Sem Bool} {args : List (AV N)} {v : AV N} (e : relationA P f args = some v) {ra : Array Value} (ha : VRels den σ args ra.toList) (what : String) :
    VRun den P σ H w (Extern.ReflectliteType.relation what f ra) v H := by
  unfold relationA at e
  split at e
  · rename_i r it u
    split at e
    · rename_i u' t' hu ht
      obtain ⟨b, hb, rfl⟩ := Option.map_eq_some_iff.1 e
      obtain ⟨rr, ri, rfl, hr, hi⟩ := args2 ha
      rw [VRel] at hi
      obtain ⟨ru, rfl, hru⟩ := hi
      have h1 := rtypeA_sound (P := P) hG hu hru w
      have h2 := rtypeA_sound (P := P) hG ht hr w
      refine VRun.same h (rv := .bool b) ?_ (by simp [VRel])
      have e1 : Extern.ReflectliteType.relation what f #[rr, .iface it ru] = (do pure (.bool (← f (← Extern.ReflectliteType.ofRtype ru) (← Extern.ReflectliteType.ofRtype rr)))) := rfl
      rw [e1]
      simp only [Sem.run_bind, h1, h2, Result.andThen_ok, prun_sound _ _ hb, Sem.run_pure]
    · cases e
  · cases e

theorem xAdd64_sound (hD : DomOk D den) (hG : GOk P σ) (h : HRel den σ H w) {args : List (AV N)} {v : AV N} {H' : AH N} (e : xAdd64 D H args = some (v, H')) {ra : Array Value} (ha : VRels den σ args ra.toList) :
    VRun den P σ H w (add64Entry ra) v H' := by
  unfold xAdd64 at e
  split at e
  · rename_i x y c
    obtain ⟨⟨s, k⟩, hs, he⟩ := Option.map_eq_some_iff.1 e
    cases he
    obtain ⟨rx, ry, rc, rfl, hx, hy, hc⟩ := args3 ha
    simp only [VRel] at hx hy hc
    subst hx; subst hy; subst hc
    obtain ⟨h1, h2, h3⟩ := hD.add64 _ _ _ _ _ hs
    refine VRun.same h (rv := .tuple #[.int .u64 (den s), .int .u64 (den k)]) ?_ (by simp [VRel, VRels])
    unfold add64Entry
    simp only [Sem.run_bind, run_three _ _ _ _ h1, Result.andThen_ok, Sem.run_pure, Extern.MathBitsCarry.pair, Extern.MathBitsCarry.m64, h2, h3]
  · cases e

theorem xSub64_sound (hD : DomOk D den) (hG : GOk P σ) (h : HRel den σ H w) {args : List (AV N)} {v : AV N} {H' : AH N} (e : xSub64 D H args = some (v, H')) {ra : Array Value} (ha : VRels den σ args ra.toList) :
    VRun den P σ H w (sub64Entry ra) v H' := by
  unfold xSub64 at e
  split at e
  · rename_i x y c
    obtain ⟨⟨s, k⟩, hs, he⟩ := Option.map_eq_some_iff.1 e
    cases he
    obtain ⟨rx, ry, rc, rfl, hx, hy, hc⟩ := args3 ha
    simp only [VRel] at hx hy hc
    subst hx; subst hy; subst hc
    obtain ⟨h1, h2, h3⟩ := hD.sub64 _ _ _ _ _ hs
    refine VRun.same h (rv := .tuple #[.int .u64 (den s), .int .u64 (den k)]) ?_ (by simp [VRel, VRels])
    unfold sub64Entry
    simp only [Sem.run_bind, run_three _ _ _ _ h1, Result.andThen_ok, Sem.run_pure, Extern.MathBitsCarry.pair, Extern.MathBitsCarry.m64, h2, h3]
    congr 4
    split <;> rfl
  · cases e

theorem xCompare_sound (hD : DomOk D den) (hG : GOk P σ) (h : HRel den σ H w) {args : List (AV N)} {v : AV N} {H' : AH N} (e : xCompare D H args = some (v, H')) {ra : Array Value} (ha : VRels den σ args ra.toList) :
    VRun den P σ H w (Extern.BytealgCompare.compare ra) v H' := by
  unfold xCompare at e
  split at e
  · rename_i a b
    split at e
    · rename_i x y hx hy
      split at e
      · rename_i x' y' hx' hy'
        obtain ⟨n, hn, he⟩ := Option.map_eq_some_iff.1 e
        cases he
        obtain ⟨r1, r2, rfl, h1, h2⟩ := args2 ha
        have e1 := bytesCellsA_sound (P := P) h hx hx' h1
        have e2 := bytesCellsA_sound (P := P) h hy hy' h2
        obtain ⟨h3, h4⟩ := hD.lex _ _ _ hn
        refine VRun.same h (rv := goInt n) ?_ (by simp [VRel, goInt, hD.lit])
        have e3 : Extern.BytealgCompare.compare #[r1, r2] = (do pure (goInt (Extern.BytealgCompare.cmp (← Extern.Bytes.bytesOf r1) (← Extern.Bytes.bytesOf r2)))) := rfl
        rw [e3]
        simp only [Sem.run_bind, e1, e2, Result.andThen_ok, Sem.run_pure, Lib.cmp_eq]
        rw [lexI_compare _ _ (by intro z hz; rw [← List.map_append] at hz; obtain ⟨q, hq, rfl⟩ := List.mem_map.1 hz; exact h3 q hq), h4]
      · cases e
    · cases e
  · cases e

theorem xTypeOf_sound (hD : DomOk D den) (hG : GOk P σ) (h : HRel den σ H w) {args : List (AV N)} {v : AV N} {H' : AH N} (e : xTypeOf P H args = some (v, H')) {ra : Array Value} (ha : VRels den σ args ra.toList) :
    VRun den P σ H w (Extern.ReflectliteType.typeOf ra) v H' := by
  unfold xTypeOf at e
  split at e
  · cases e
    obtain ⟨r1, rfl, h1⟩ := args1 ha
    simp only [VRel] at h1; subst h1
    exact VRun.same h (rv := .nilIface) rfl (by simp [VRel])
  · rename_i t u
    obtain ⟨v', hv, he⟩ := Option.map_eq_some_iff.1 e
    cases he
    obtain ⟨r1, rfl, h1⟩ := args1 ha
    rw [VRel] at h1; obtain ⟨ru, rfl, _⟩ := h1
    obtain ⟨rv, hr, hrel⟩ := toTypeA_sound (den := den) hG hv w
    exact VRun.same h hr hrel
  · cases e

theorem xComparable_sound (hD : DomOk D den) (hG : GOk P σ) (h : HRel den σ H w) {args : List (AV N)} {v : AV N} {H' : AH N} (e : xComparable P H args = some (v, H')) {ra : Array Value} (ha : VRels den σ args ra.toList) :
    VRun den P σ H w ((Extern.ReflectliteType.method fun t => do Extern.Rtype.noPackHeld "Comparable" t; pure (.bool (← typeInfo t).comparable)) ra) v H' := by
  unfold xComparable at e
  split at e
  · split at e
    · rename_i t ht
      obtain ⟨b, hb, he⟩ := Option.map_eq_some_iff.1 e
      cases he
      obtain ⟨r1, rfl, h1⟩ := args1 ha
      have h2 := rtypeA_sound (P := P) hG ht h1 w
      refine VRun.same h (rv := .bool b) ?_ (by simp [VRel])
      have hb' := prun_sound _ _ hb w
      have e1 : ∀ f, Extern.ReflectliteType.method f #[r1] = (do f (← Extern.ReflectliteType.ofRtype r1)) := fun _ => rfl
      rw [e1]
      simp only [Sem.run_bind, h2, Result.andThen_ok, Sem.run_pure] at hb' ⊢
      cases hq : (Extern.Rtype.noPackHeld "Comparable" t).run P w with
      | halt x y => rw [hq] at hb'; simp at hb'
      | ok x y =>
        rw [hq] at hb'
        simp only [Result.andThen_ok] at hb' ⊢
        cases hq2 : (typeInfo t).run P y with
        | halt x y => rw [hq2] at hb'; simp at hb'
        | ok i z => rw [hq2] at hb'; simp only [Result.andThen_ok, Result.ok.injEq] at hb' ⊢; simp [hb'.1, hb'.2]
    · cases e
  · cases e

theorem xElem_sound (hD : DomOk D den) (hG : GOk P σ) (h : HRel den σ H w) {args : List (AV N)} {v : AV N} {H' : AH N} (e : xElem P H args = some (v, H')) {ra : Array Value} (ha : VRels den σ args ra.toList) :
    VRun den P σ H w ((Extern.ReflectliteType.method Extern.ReflectliteType.elem) ra) v H' := by
  unfold xElem at e
  split at e
  · split at e
    · rename_i t ht
      split at e
      · rename_i el hel
        obtain ⟨v', hv, he⟩ := Option.map_eq_some_iff.1 e
        cases he
        obtain ⟨r1, rfl, h1⟩ := args1 ha
        have h2 := rtypeA_sound (P := P) hG ht h1 w
        obtain ⟨rv, hr, hrel⟩ := toTypeA_sound (den := den) hG hv w
        refine VRun.same h (rv := rv) ?_ hrel
        have e1 : ∀ f, Extern.ReflectliteType.method f #[r1] = (do f (← Extern.ReflectliteType.ofRtype r1)) := fun _ => rfl
        rw [e1]
        simp only [Sem.run_bind, h2, Result.andThen_ok, Extern.ReflectliteType.elem, prun_sound _ _ hel, hr]
      · cases e
    · cases e
  · cases e

theorem xImplements_sound (hD : DomOk D den) (hG : GOk P σ) (h : HRel den σ H w) {args : List (AV N)} {v : AV N} {H' : AH N} (e : xImplements P H args = some (v, H')) {ra : Array Value} (ha : VRels den σ args ra.toList) :
    VRun den P σ H w ((Extern.ReflectliteType.relation "Implements" Extern.ReflectliteType.implements_) ra) v H' := by
  unfold xImplements at e
  obtain ⟨v', hv, he⟩ := Option.map_eq_some_iff.1 e
  cases he
  exact relationA_sound hG h hv ha _

theorem xAssignable_sound (hD : DomOk D den) (hG : GOk P σ) (h : HRel den σ H w) {args : List (AV N)} {v : AV N} {H' : AH N} (e : xAssignable P H args = some (v, H')) {ra : Array Value} (ha : VRels den σ args ra.toList) :
    VRun den P σ H w ((Extern.ReflectliteType.relation "AssignableTo" Extern.ReflectliteType.assignableTo) ra) v H' := by
  unfold xAssignable at e
  obtain ⟨v', hv, he⟩ := Option.map_eq_some_iff.1 e
  cases he
  exact relationA_sound hG h hv ha _

theorem xKind_sound (hD : DomOk D den) (hG : GOk P σ) (h : HRel den σ H w) {args : List (AV N)} {v : AV N} {H' : AH N} (e : xKind P D H args = some (v, H')) {ra : Array Value} (ha : VRels den σ args ra.toList) :
    VRun den P σ H w ((Extern.ReflectliteType.abiMethod fun t => do pure (.int .u8 (← Extern.Rtype.kind t))) ra) v H' := by
  unfold xKind at e
  split at e
  · rename_i g t
    simp only [nbeq, Bool.cond_decide] at e
    split at e
    · rename_i hg
      subst hg
      split at e
      · rename_i k hk1 hk2
        cases e
        obtain ⟨r1, rfl, h1⟩ := args1 ha
        have := handle_of hG h1
        subst this
        refine VRun.same h (rv := .int .u8 (Int.ofNat k)) ?_ (by simp [VRel, hD.lit])
        have e1 : ∀ f, Extern.ReflectliteType.abiMethod f #[typeHandle P t] = (do
          let t ← Extern.Rtype.ofHandle (typeHandle P t)
          Extern.Rtype.noPack "a method of abi.Type" t
          f t) := fun _ => rfl
        rw [e1]
        simp only [Sem.run_bind, run_ofHandle, Result.andThen_ok, prun_sound _ _ hk1, prun_sound _ _ hk2, Sem.run_pure]
        rfl
      · cases e
    · cases e
  · cases e

theorem xValueOf_sound (hD : DomOk D den) (hG : GOk P σ) (h : HRel den σ H w) {args : List (AV N)} {v : AV N} {H' : AH N} (e : xValueOf P D H args = some (v, H')) {ra : Array Value} (ha : VRels den σ args ra.toList) :
    VRun den P σ H w ((fun args => Extern.ReflectliteValue.unpack (args.getD 0 (.tuple #[]))) ra) v H' := by
  unfold xValueOf at e
  split at e
  · obtain ⟨r1, rfl, h1⟩ := args1 ha
    exact unpackA_sound hD hG h e h1
  · cases e

theorem xVType_sound (hD : DomOk D den) (hG : GOk P σ) (h : HRel den σ H w) {args : List (AV N)} {v : AV N} {H' : AH N} (e : xVType P D H args = some (v, H')) {ra : Array Value} (ha : VRels den σ args ra.toList) :
    VRun den P σ H w ((Extern.ReflectliteValue.methodAny (Extern.ReflectliteValue.valueError "reflectlite.Value.Type" 0) fun t _ _ _ => Extern.ReflectliteType.toType t) ra) v H' := by
  unfold xVType at e
  split at e
  · rename_i t i o fl hp
    obtain ⟨v', hv, he⟩ := Option.map_eq_some_iff.1 e
    cases he
    obtain ⟨rv, m, h1, h2, h3⟩ := partsAnyA_sound hD hG hp ha
    obtain ⟨rt, hr, hrel⟩ := toTypeA_sound (den := den) hG hv w
    have : ra = #[rv] := by apply Array.ext'; simpa using h1
    subst this
    refine VRun.same h (rv := rt) ?_ hrel
    have e1 : ∀ z f, Extern.ReflectliteValue.methodAny z f #[rv] = (do
      match ← Extern.ReflectliteValue.partsAny rv with
      | none => z
      | some (t, a, fl) => f t a fl (fl % 32)) := fun _ _ => rfl
    rw [e1]
    simp only [Sem.run_bind, h3, Result.andThen_ok, hr]
  · cases e

theorem xVKind_sound (hD : DomOk D den) (hG : GOk P σ) (h : HRel den σ H w) {args : List (AV N)} {v : AV N} {H' : AH N} (e : xVKind P D H args = some (v, H')) {ra : Array Value} (ha : VRels den σ args ra.toList) :
    VRun den P σ H w ((Extern.ReflectliteValue.method (pure (.int .u8 0)) fun _ _ _ k => pure (.int .u8 (Int.ofNat k))) ra) v H' := by
  unfold xVKind at e
  split at e
  · rename_i t i o fl hp
    cases e
    obtain ⟨rv, m, h1, h2, h3⟩ := partsA_sound hD hG hp ha
    have : ra = #[rv] := by apply Array.ext'; simpa using h1
    subst this
    refine VRun.same h (rv := .int .u8 (Int.ofNat (fl % 32))) ?_ (by simp [VRel, hD.lit])
    have e1 : ∀ z f, Extern.ReflectliteValue.method z f #[rv] = (do
      match ← Extern.ReflectliteValue.parts rv with
      | none => z
      | some (t, a, fl) => f t a fl (fl % 32)) := fun _ _ => rfl
    rw [e1]
    simp only [Sem.run_bind, h3, Result.andThen_ok, Sem.run_pure]
  · cases e

theorem xVIsNil_sound (hD : DomOk D den) (hG : GOk P σ) (h : HRel den σ H w) {args : List (AV N)} {v : AV N} {H' : AH N} (e : xVIsNil P D H args = some (v, H')) {ra : Array Value} (ha : VRels den σ args ra.toList) :
    VRun den P σ H w ((Extern.ReflectliteValue.method (Extern.ReflectliteValue.valueError "reflectlite.Value.IsNil" 0) Extern.ReflectliteValue.isNil) ra) v H' := by
  unfold xVIsNil at e
  split at e
  · rename_i t i o fl hp
    simp only [nbeq, Bool.cond_decide] at e
    split at e
    · rename_i hfl
      split at e
      · rename_i u hu
        obtain ⟨b, hb, he⟩ := Option.map_eq_some_iff.1 e
        cases he
        obtain ⟨rv, m, h1, h2, h3⟩ := partsA_sound hD hG hp ha
        obtain ⟨ru, hr, hrel⟩ := loadA_sound (P := P) h h2 hu
        have : ra = #[rv] := by apply Array.ext'; simpa using h1
        subst this
        refine VRun.same h (rv := .bool b) ?_ (by simp [VRel])
        have e1 : ∀ z f, Extern.ReflectliteValue.method z f #[rv] = (do
          match ← Extern.ReflectliteValue.parts rv with
          | none => z
          | some (t, a, fl) => f t a fl (fl % 32)) := fun _ _ => rfl
        rw [e1]
        have hk : ([18, 19, 20, 21, 22, 23, 26].contains 22) = true := by decide
        simp only [Sem.run_bind, h3, Result.andThen_ok, Extern.ReflectliteValue.isNil, hfl, hk, Bool.not_true, Bool.false_eq_true, if_false, hr]
        unfold isNilA at hb
        split at hb <;> first | (cases hb; done) | (cases hb; simp only [VRel] at hrel)
        all_goals first | (subst hrel; simp; done) | (obtain ⟨_, _, rfl⟩ := hrel; simp; done) | (obtain ⟨_, rfl, _⟩ := hrel; simp; done) | (obtain ⟨_, _, _, rfl, _⟩ := hrel; simp; done)
      · cases e
    · cases e
  · cases e

theorem xVElem_sound (hD : DomOk D den) (hG : GOk P σ) (h : HRel den σ H w) {args : List (AV N)} {v : AV N} {H' : AH N} (e : xVElem P D H args = some (v, H')) {ra : Array Value} (ha : VRels den σ args ra.toList) :
    VRun den P σ H w ((Extern.ReflectliteValue.method (Extern.ReflectliteValue.valueError "reflectlite.Value.Elem" 0) Extern.ReflectliteValue.elem) ra) v H' := by
  unfold xVElem at e
  split at e
  · rename_i t i o fl hp
    simp only [nbeq, Bool.cond_decide] at e
    split at e
    · rename_i hfl
      split at e
      · rename_i j p el hu hel
        obtain ⟨v', hv, he⟩ := Option.map_eq_some_iff.1 e
        cases he
        obtain ⟨rv, m, h1, h2, h3⟩ := partsA_sound hD hG hp ha
        obtain ⟨ru, hr, hrel⟩ := loadA_sound (P := P) h h2 hu
        rw [VRel] at hrel
        obtain ⟨lj, hlj, rfl⟩ := hrel
        obtain ⟨rt, hmk, hrt⟩ := mkA_sound (P := P) hD hG hv hlj w
        have : ra = #[rv] := by apply Array.ext'; simpa using h1
        subst this
        refine VRun.same h (rv := rt) ?_ hrt
        have e1 : ∀ z f, Extern.ReflectliteValue.method z f #[rv] = (do
          match ← Extern.ReflectliteValue.parts rv with
          | none => z
          | some (t, a, fl) => f t a fl (fl % 32)) := fun _ _ => rfl
        rw [e1]
        have hk : (22 != 20 && 22 != 22) = false := by decide
        simp only [Sem.run_bind, h3, Result.andThen_ok, Extern.ReflectliteValue.elem, hfl, hk, Bool.false_eq_true, if_false, hr, prun_sound _ _ hel, Sem.run_pure]
        exact hmk
      · cases e
    · cases e
  · cases e

theorem xVSet_sound (hD : DomOk D den) (hG : GOk P σ) (h : HRel den σ H w) {args : List (AV N)} {v : AV N} {H' : AH N} (e : xVSet P D H args = some (v, H')) {ra : Array Value} (ha : VRels den σ args ra.toList) :
    VRun den P σ H w (Extern.ReflectliteValue.set ra) v H' := by
  unfold xVSet at e
  split at e
  · rename_i v1 x1
    split at e
    · rename_i dst i o fl src j p _ hp1 hp2
      simp only [nbeq, Bool.cond_decide] at e
      split at e
      · rename_i hfl
        split at e
        · rename_i u hu hda
          obtain ⟨H1, hst, he⟩ := Option.map_eq_some_iff.1 e
          cases he
          obtain ⟨r1, r2, rfl, h1, h2⟩ := args2 ha
          obtain ⟨rv1, m1, g1, g2, g3⟩ := partsA_sound hD hG hp1 (rl := [r1]) (by simp only [VRels]; exact ⟨_, _, rfl, h1, rfl⟩)
          obtain ⟨rv2, m2, k1, k2, k3⟩ := partsA_sound hD hG hp2 (rl := [r2]) (by simp only [VRels]; exact ⟨_, _, rfl, h2, rfl⟩)
          cases g1; cases k1
          obtain ⟨ru, hr, hrel⟩ := loadA_sound (P := P) h k2 hu
          obtain ⟨w', hs, hh, hx⟩ := storeA_sound (P := P) h g2 hrel hst
          refine ⟨.tuple #[], w', σ, ?_, hx, hh, by simp [VRel, VRels]⟩
          have e1 : Extern.ReflectliteValue.set #[r1, r2] = (do
            let (some (dst, a, fl), some (src, b, _)) := (← Extern.ReflectliteValue.parts r1, ← Extern.ReflectliteValue.parts r2)
              | unsupported (.noEntry "extern/(internal/reflectlite.Value).Set.zeroValue")
            if fl / Extern.ReflectliteValue.flagAddr % 2 == 0 then unsupported (.noEntry "extern/(internal/reflectlite.Value).Set.unaddressable")
            let val ← loadVar src b
            if ← Extern.Rtype.directlyAssignable dst src then storeVar dst a val
            else if ← Extern.Rtype.implements dst src then
              if (← Extern.Rtype.kind src) == 20 then
                match val with
                | .nilIface => unsupported (.noEntry "extern/reflectlite: a nil value of one interface type handed on as a value of another")
                | _ => storeVar dst a val
              else storeVar dst a (.iface src val)
            else panicString ("reflectlite.Set: value of type " ++ (← Extern.Rtype.spelt src) ++ " is not assignable to type " ++ (← Extern.Rtype.spelt dst))
            pure (.tuple #[])) := rfl
          rw [e1]
          have hflag : (fl / Extern.ReflectliteValue.flagAddr % 2 == 0) = false := by
            simp only [Extern.ReflectliteValue.flagAddr, hfl]; rfl
          simp only [Sem.run_bind, g3, k3, Result.andThen_ok, hflag, Bool.false_eq_true, if_false, hr, prun_sound _ _ hda, if_true, hs, Sem.run_pure]
        · cases e
      · cases e
    · cases e
  · cases e

theorem nameCase {α : Type} {name n : String} {A B : Option α} {r : α} (e : (bif name == n then A else B) = some r) : (name = n ∧ A = some r) ∨ B = some r := by
  cases h : (name == n) with
  | true => rw [h] at e; exact .inl ⟨eq_of_beq h, e⟩
  | false => rw [h] at e; exact .inr e

theorem externA_sound (hD : DomOk D den) (hG : GOk P σ) (h : HRel den σ H w) {name : String} {args : List (AV N)} {v : AV N} {H' : AH N} (e : externA P D H name args = some (v, H')) {ra : Array Value} (ha : VRels den σ args ra.toList) :
    ∃ row, IsRow name row ∧ VRun den P σ H w (row ra) v H' := by
  unfold externA at e
  rcases nameCase e with ⟨rfl, e⟩ | e
  · exact ⟨_, row_add64, xAdd64_sound hD hG h e ha⟩
  rcases nameCase e with ⟨rfl, e⟩ | e
  · exact ⟨_, row_sub64, xSub64_sound hD hG h e ha⟩
  rcases nameCase e with ⟨rfl, e⟩ | e
  · exact ⟨_, row_compare, xCompare_sound hD hG h e ha⟩
  rcases nameCase e with ⟨rfl, e⟩ | e
  · exact ⟨_, row_typeOf, xTypeOf_sound hD hG h e ha⟩
  rcases nameCase e with ⟨rfl, e⟩ | e
  · exact ⟨_, row_comparable, xComparable_sound hD hG h e ha⟩
  rcases nameCase e with ⟨rfl, e⟩ | e
  · exact ⟨_, row_elem, xElem_sound hD hG h e ha⟩
  rcases nameCase e with ⟨rfl, e⟩ | e
  · exact ⟨_, row_implements, xImplements_sound hD hG h e ha⟩
  rcases nameCase e with ⟨rfl, e⟩ | e
  · exact ⟨_, row_assignable, xAssignable_sound hD hG h e ha⟩
  rcases nameCase e with ⟨rfl, e⟩ | e
  · exact ⟨_, row_kind, xKind_sound hD hG h e ha⟩
  rcases nameCase e with ⟨rfl, e⟩ | e
  · exact ⟨_, row_valueOf, xValueOf_sound hD hG h e ha⟩
  rcases nameCase e with ⟨rfl, e⟩ | e
  · exact ⟨_, row_vtype, xVType_sound hD hG h e ha⟩
  rcases nameCase e with ⟨rfl, e⟩ | e
  · exact ⟨_, row_vkind, xVKind_sound hD hG h e ha⟩
  rcases nameCase e with ⟨rfl, e⟩ | e
  · exact ⟨_, row_visnil, xVIsNil_sound hD hG h e ha⟩
  rcases nameCase e with ⟨rfl, e⟩ | e
  · exact ⟨_, row_velem, xVElem_sound hD hG h e ha⟩
  rcases nameCase e with ⟨rfl, e⟩ | e
  · exact ⟨_, row_vset, xVSet_sound hD hG h e ha⟩
  cases e

end
end Go.Am
