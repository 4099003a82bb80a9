/- Comparisons, conversions, slices and appends of the abstract machine are sound. -/
import Derived.Test.YtbkefimllhmfjaaGreatDoorA2
import Derived.Lib.ConvBytes
import Derived.Lib.Strings
import Derived.Laws.BytesArg
import Derived.Laws.BytesString
import Derived.Laws.Append
set_option linter.unusedVariables false
set_option linter.unusedSimpArgs false
set_option linter.unusedSectionVars false
namespace Go.Am
section
variable {N : Type} {D : Dom N} {den : N → Int} {P : Program} {σ : Sub} {H : AH N} {w : World}

theorem HRel.world (h : HRel den σ H w) {w' : World} (hh : w'.heap = w.heap) : HRel den σ H w' where
  blk := fun i => (h.blk i).mono (Sub.le.refl σ) fun l _ _ => by rw [hh]
  inj := h.inj
  dom := h.dom
  bnd := fun i l hl => by rw [hh]; exact h.bnd i l hl
  fut := h.fut

theorem Ext.world (σ : Sub) (H : AH N) {w w' : World} (hh : w'.heap = w.heap) (ho : w'.os = w.os) (hout : w'.output = w.output) (ht : w'.tape = w.tape) : Ext σ H w σ H w' where
  sub := Sub.le.refl σ
  size := by rw [hh]; exact Nat.le_refl _
  os := ho
  out := hout
  tape := ht
  next := Nat.le_refl _
  frame := fun r _ _ => by rw [hh]
  range := fun i l hi hl _ => ⟨i, l, hi, hl, rfl, id⟩
  only := fun _ _ h => h

theorem litOf_sound (hD : DomOk D den) {x : AV N} {n : Int} (h : litOf D x = some n) {rx : Value} (hx : VRel den σ x rx) : ∃ k, rx = .int k n := by
  unfold litOf at h
  split at h
  · rename_i k m
    simp only [VRel] at hx
    exact ⟨k, by rw [hx, hD.toLit _ _ h]⟩
  · cases h

def isNumV : Value → Bool
  | .int _ _ | .float _ _ | .complex _ _ _ | .string _ => true
  | _ => false

theorem binOp_eql {t : TypeId} {x y : Value} (h : isNumV x = false) : Go.binOp .eql t x y = (do pure (.bool (← Op.equal t x y))) := by
  cases x <;> first | (simp [isNumV] at h; done) | (cases y <;> rfl)
theorem binOp_neq {t : TypeId} {x y : Value} (h : isNumV x = false) : Go.binOp .neq t x y = (do pure (.bool (!(← Op.equal t x y)))) := by
  cases x <;> first | (simp [isNumV] at h; done) | (cases y <;> rfl)

theorem noNum_rel {x : AV N} {rx : Value} (hx : VRel den σ x rx) (h : x.noNum = true) : isNumV rx = false := by
  cases x <;> simp only [VRel] at hx <;> simp only [AV.noNum, Bool.false_eq_true] at h
  case bool => subst hx; rfl
  case nilp => subst hx; rfl
  case nils => subst hx; rfl
  case nilm => subst hx; rfl
  case nilf => subst hx; rfl
  case nili => subst hx; rfl
  case ptr => obtain ⟨l, hl, rfl⟩ := hx; rfl
  case map => obtain ⟨l, hl, rfl⟩ := hx; rfl
  case yield => obtain ⟨l, hl, rfl⟩ := hx; rfl
  case slice => obtain ⟨l, c', hl, rfl, r⟩ := hx; rfl
  case void => obtain ⟨l, c', rfl⟩ := hx; rfl
  case func => obtain ⟨l, c', rfl, r⟩ := hx; rfl
  case iface => obtain ⟨y, rfl, r⟩ := hx; rfl
  case agg => obtain ⟨y, rfl, r⟩ := hx; rfl
  case tuple => obtain ⟨y, rfl, r⟩ := hx; rfl

theorem binA_sound (hD : DomOk D den) {op : BinOp} {t : TypeId} {x y v : AV N} (e : binA P D op t x y = some v) {rx ry : Value} (hx : VRel den σ x rx) (hy : VRel den σ y ry) :
    ∃ rv, (Go.binOp op t rx ry).run P w = .ok rv w ∧ VRel den σ v rv := by
  unfold binA at e
  split at e
  · rename_i k a k' b
    simp only [VRel] at hx hy
    subst hx; subst hy
    have bin : ∀ (_ : op = .shl ∨ op = .shr ∨ k = k'), (D.bin op k a b).map (.int k) = some v → ∃ rv, (Go.binOp op t (.int k (den a)) (.int k' (den b))).run P w = .ok rv w ∧ VRel den σ v rv := by
      intro hk e
      simp only [Option.map_eq_some_iff] at e
      obtain ⟨c, hc, rfl⟩ := e
      exact ⟨_, hD.bin op k a k' b c hc hk P w t, by simp [VRel]⟩
    have cmp : (bif k == k' then (D.cmp op a b).map .bool else none) = some v → ∃ rv, (Go.binOp op t (.int k (den a)) (.int k' (den b))).run P w = .ok rv w ∧ VRel den σ v rv := by
      intro e1
      simp only [Bool.cond_eq_ite] at e1
      split at e1
      · rename_i hk
        have hk := eq_of_beq hk
        subst hk
        obtain ⟨c, hc, rfl⟩ := Option.map_eq_some_iff.1 e1
        exact ⟨_, hD.cmp op a b c hc k P w t, by simp [VRel]⟩
      · cases e1
    have bin2 : (bif k == k' then (D.bin op k a b).map (.int k) else none) = some v → ∃ rv, (Go.binOp op t (.int k (den a)) (.int k' (den b))).run P w = .ok rv w ∧ VRel den σ v rv := by
      intro e1
      simp only [Bool.cond_eq_ite] at e1
      split at e1
      · rename_i hk
        exact bin (.inr (.inr (eq_of_beq hk))) e1
      · cases e1
    cases op <;> first | exact bin (.inl rfl) e | exact bin (.inr (.inl rfl)) e | exact cmp e | exact bin2 e
  · rename_i a b
    simp only [VRel] at hx hy
    obtain ⟨rfl, ha⟩ := hx
    obtain ⟨rfl, hb⟩ := hy
    have hlen : ∀ s : List Nat, (⟨(s.map UInt8.ofNat).toArray⟩ : ByteArray).size = s.length := by
      intro s
      show ((s.map UInt8.ofNat).toArray).size = s.length
      simp
    split at e
    · simp only [Bool.cond_eq_ite, Nat.ble_eq] at e
      split at e
      · rename_i hl
        cases e
        refine ⟨.string ⟨((a ++ b).map UInt8.ofNat).toArray⟩, ?_, ?_⟩
        · simp only [Go.binOp, Op.stringOp, hlen]
          rw [if_neg (by show ¬ ((_ : Int) > IntKind.i64.max); have : IntKind.i64.max = 9223372036854775807 := by decide
                         rw [this]; omega)]
          simp only [Sem.run_pure]
          congr 2
          apply ByteArray.ext
          simp
        · simp only [VRel, true_and]
          intro x hx
          rcases List.mem_append.1 hx with hx | hx
          · exact ha x hx
          · exact hb x hx
      · cases e
    · cases e
      refine ⟨_, by simp only [Go.binOp, Op.stringOp, Sem.run_pure]; rfl, ?_⟩
      simp only [VRel, ByteArray.toList_eq]
      congr 1
      rw [mkStr_inj ha hb, Bool.eq_iff_iff]
      simp [natsBeq_iff]
    · cases e
      refine ⟨_, by simp only [Go.binOp, Op.stringOp, Sem.run_pure]; rfl, ?_⟩
      simp only [VRel, ByteArray.toList_eq]
      congr 2
      rw [mkStr_inj ha hb, Bool.eq_iff_iff]
      simp [natsBeq_iff]
    · cases e
      refine ⟨_, by simp only [Go.binOp, Op.stringOp, Sem.run_pure]; rfl, ?_⟩
      simp only [VRel, ByteArray.toList_eq]
      congr 1
      clear hlen
      induction a generalizing b with
      | nil => cases b <;> simp [Op.bytesLess, bytesLess]
      | cons x a ih =>
        cases b with
        | nil => simp [Op.bytesLess, bytesLess]
        | cons y b =>
          have hx := ha x (by simp)
          have hy := hb y (by simp)
          simp only [List.map_cons, Op.bytesLess, bytesLess]
          rw [ih b (fun z hz => ha z (by simp [hz])) (fun z hz => hb z (by simp [hz]))]
          congr 1
          · rw [Bool.eq_iff_iff]
            simp [UInt8.lt_iff_toNat_lt, UInt8.toNat_ofNat', Nat.mod_eq_of_lt hx, Nat.mod_eq_of_lt hy, Nat.blt]
            omega
          · congr 1
            rw [Bool.eq_iff_iff]
            simp only [beq_iff_eq, nbeq, decide_eq_true_eq]
            constructor
            · intro q
              have := congrArg UInt8.toNat q
              simp only [UInt8.toNat_ofNat', Nat.mod_eq_of_lt hx, Nat.mod_eq_of_lt hy] at this
              exact this
            · rintro rfl; rfl
    · cases e
  · simp only [Bool.cond_eq_ite] at e
    split at e
    · rename_i hn
      have hnum := noNum_rel hx hn
      have heq : ∀ b, eqV P D t x y = some b → (Op.equal t rx ry).run P w = .ok b w := fun b hb => eqV_sound (P := P) hD hb hx hy
      split at e
      · simp only [Option.map_eq_some_iff] at e
        obtain ⟨b, hb, rfl⟩ := e
        exact ⟨.bool b, by rw [binOp_eql hnum]; simp [heq b hb], by simp [VRel]⟩
      · simp only [Option.map_eq_some_iff] at e
        obtain ⟨b, hb, rfl⟩ := e
        exact ⟨.bool (!b), by rw [binOp_neq hnum]; simp [heq b hb], by simp [VRel]⟩
      · cases e
    · cases e

end
end Go.Am

namespace Go.Am
section
variable {N : Type} {D : Dom N} {den : N → Int} {P : Program} {σ : Sub} {H : AH N} {w : World}

theorem unA_sound (hD : DomOk D den) {op : UnOp} {x v : AV N} (e : unA D op x = some v) {rx : Value} (hx : VRel den σ x rx) (w : World) :
    ∃ rv, (Op.unary op rx).run P w = .ok rv w ∧ VRel den σ v rv := by
  unfold unA at e
  split at e
  · rename_i k n
    simp only [VRel] at hx
    subst hx
    obtain ⟨c, hc, rfl⟩ := Option.map_eq_some_iff.1 e
    have := hD.bin .sub k (D.lit 0) k n c hc (.inr (.inr rfl)) P w 0
    rw [hD.lit] at this
    exact ⟨_, by simpa [Op.unary, Go.binOp] using this, by simp [VRel]⟩
  · rename_i k n
    simp only [VRel] at hx
    subst hx
    obtain ⟨c, hc, rfl⟩ := Option.map_eq_some_iff.1 e
    have := hD.bin .xor k (D.lit (if k.signed then -1 else k.max)) k n c hc (.inr (.inr rfl)) P w 0
    rw [hD.lit] at this
    exact ⟨_, by simpa [Op.unary, Go.binOp] using this, by simp [VRel]⟩
  · simp only [VRel] at hx
    subst hx
    cases e
    exact ⟨_, rfl, by simp [VRel]⟩
  · cases e

theorem fieldAddrA_sound {s : TypeId} {x v : AV N} {f : Nat} (e : fieldAddrA P s x f = some v) {rx : Value} (hx : VRel den σ x rx) (w : World) :
    ∃ rv, (Instr.fieldAt s rx f).run P w = .ok rv w ∧ VRel den σ v rv := by
  unfold fieldAddrA at e
  split at e
  · rename_i fields i o hu
    split at e
    · rename_i fd hfd
      split at e
      · rename_i k hk
        cases e
        simp only [VRel] at hx
        obtain ⟨l, hl, rfl⟩ := hx
        refine ⟨.pointer (some ⟨l.r, l.base + (o + fd.offset), none⟩), ?_, ?_⟩
        · simp only [Instr.fieldAt, Sem.run_bind, run_underlying hu, Result.andThen_ok, hfd, Instr.sureAddr, Sem.run_pure, fieldPlace, run_sizeT hk]
          rw [if_neg (by omega)]
          simp only [Sem.run_pure, Result.andThen_ok, add_loc]
        · simp only [VRel]; exact ⟨l, hl, rfl⟩
      · cases e
    · cases e
  · cases e

theorem fieldA_sound {s : TypeId} {x v : AV N} {f : Nat} (e : fieldA P s x f = some v) {rx : Value} (hx : VRel den σ x rx) (w : World) :
    ∃ rv, (Instr.field s rx f).run P w = .ok rv w ∧ VRel den σ v rv := by
  unfold fieldA at e
  split at e
  · rename_i fields cs hu
    split at e
    · rename_i fd hfd
      simp only [VRel] at hx
      obtain ⟨cs', rfl, hc⟩ := hx
      obtain ⟨rv, hr, hv⟩ := partA_sound (P := P) hc e w
      exact ⟨rv, by simp only [Instr.field, Sem.run_bind, run_underlying hu, Result.andThen_ok, hfd, asAgg, Sem.run_pure, hr], hv⟩
    · cases e
  · cases e

theorem indexAddrA_sound (hD : DomOk D den) {t : TypeId} {x ix v : AV N} (e : indexAddrA P D t x ix = some v) {rx ri : Value} (hx : VRel den σ x rx) (hi : VRel den σ ix ri) (w : World) :
    ∃ rv, (Instr.indexAt t rx ri).run P w = .ok rv w ∧ VRel den σ v rv := by
  unfold indexAddrA at e
  split at e
  · rename_i k hk
    obtain ⟨kk, rfl⟩ := litOf_sound hD hk hi
    split at e
    · rename_i len elem i o hu
      split at e
      · rename_i es hes
        simp only [Bool.cond_eq_ite, Nat.blt_eq] at e
        split at e
        · rename_i hlt
          cases e
          simp only [VRel] at hx
          obtain ⟨l, hl, rfl⟩ := hx
          refine ⟨.pointer (some ⟨l.r, l.base + (o + k * es), none⟩), ?_, ?_⟩
          · simp only [Instr.indexAt, asIntOf, Sem.run_bind, Sem.run_pure, run_underlying hu, Result.andThen_ok, Instr.sureAddr]
            have h1 : (0 : Int) ≤ Int.ofNat k ∧ (Int.ofNat k) < (len : Int) := ⟨by simp, by simpa using hlt⟩
            simp only [if_pos h1, Sem.run_bind, run_sizeT hes, Result.andThen_ok, Sem.run_pure]
            congr 3
            exact add_loc _ _ _ _
          · simp only [VRel]; exact ⟨l, hl, rfl⟩
        · cases e
      · cases e
    · rename_i elem i o n c ex es hu
      split at e
      · rename_i es' hes
        simp only [Bool.cond_eq_ite, Nat.blt_eq, Bool.and_eq_true, nbeq, decide_eq_true_eq] at e
        split at e
        · rename_i hlt
          obtain ⟨hlt, rfl⟩ := hlt
          cases e
          simp only [VRel] at hx
          obtain ⟨l, c', hl, rfl, _⟩ := hx
          refine ⟨.pointer (some ⟨l.r, l.base + (o + k * es), none⟩), ?_, ?_⟩
          · simp only [Instr.indexAt, asIntOf, Sem.run_bind, Sem.run_pure, run_underlying hu, Result.andThen_ok]
            have h1 : (0 : Int) ≤ Int.ofNat k ∧ (Int.ofNat k) < (n : Int) := ⟨by simp, by simpa using hlt⟩
            simp only [if_pos h1, Sem.run_bind, run_sizeT hes, Result.andThen_ok, Sem.run_pure]
            congr 3
            exact add_loc _ _ _ _
          · simp only [VRel]; exact ⟨l, hl, rfl⟩
        · cases e
      · cases e
    · cases e
  · cases e

theorem bytes_get (s : List Nat) (k : Nat) : ((⟨(s.map UInt8.ofNat).toArray⟩ : ByteArray)[k]?) = (s[k]?).map UInt8.ofNat := by
  have hs : (⟨(s.map UInt8.ofNat).toArray⟩ : ByteArray).size = s.length := by
    show ((s.map UInt8.ofNat).toArray).size = s.length
    simp
  by_cases h : k < s.length
  · rw [getElem?_pos _ k (by rw [hs]; exact h), getElem?_pos s k h]
    simp only [Option.map_some]
    congr 1
    show ((s.map UInt8.ofNat).toArray)[k]'_ = _
    simp
  · rw [getElem?_neg _ k (by rw [hs]; exact h), getElem?_neg s k h]
    rfl

theorem indexA_sound (hD : DomOk D den) {t : TypeId} {x ix v : AV N} (e : indexA P D t x ix = some v) {rx ri : Value} (hx : VRel den σ x rx) (hi : VRel den σ ix ri) (w : World) :
    ∃ rv, (Instr.index t rx ri).run P w = .ok rv w ∧ VRel den σ v rv := by
  unfold indexA at e
  split at e
  · rename_i k hk
    obtain ⟨kk, rfl⟩ := litOf_sound hD hk hi
    split at e
    · rename_i len elem cs hu
      split at e
      · rename_i es hes
        simp only [Bool.cond_eq_ite, Nat.blt_eq] at e
        split at e
        · rename_i hlt
          simp only [VRel] at hx
          obtain ⟨cs', rfl, hc⟩ := hx
          obtain ⟨rv, hr, hv⟩ := partA_sound (P := P) hc e w
          refine ⟨rv, ?_, hv⟩
          simp only [Instr.index, asIntOf, Sem.run_bind, Sem.run_pure, run_underlying hu, Result.andThen_ok]
          have h1 : (0 : Int) ≤ Int.ofNat k ∧ (Int.ofNat k) < (len : Int) := ⟨by simp, by simpa using hlt⟩
          simp only [if_pos h1, Sem.run_bind, run_sizeT hes, Result.andThen_ok]
          simpa using hr
        · cases e
      · cases e
    · rename_i s hu
      split at e
      · rename_i b hb
        cases e
        simp only [VRel] at hx
        obtain ⟨rfl, hs⟩ := hx
        refine ⟨.int .u8 b, ?_, by simp [VRel, hD.lit]⟩
        simp only [Instr.index, asIntOf, Sem.run_bind, Sem.run_pure, run_underlying hu, Result.andThen_ok]
        have h1 : (0 : Int) ≤ Int.ofNat k := by simp
        rw [if_pos h1]
        have hbb := hs b (List.mem_of_getElem? hb)
        have : (Int.ofNat k).toNat = k := rfl
        rw [this, bytes_get, hb]
        simp [Nat.mod_eq_of_lt hbb]
      · cases e
    · cases e
  · cases e

/-! Cutting slices. -/
def ORelV (den : N → Int) (σ : Sub) : Option (AV N) → Option Value → Prop
  | none, none => True
  | some a, some v => VRel den σ a v
  | _, _ => False

theorem boundA_sound (hD : DomOk D den) {x : AV N} {y i : Nat} (e : boundA D x y = some i) {rx : Value} (hx : VRel den σ x rx) (y' : Nat) (hy : y ≤ y') (code : BoundsCode) (w : World) :
    (Instr.sliceBound rx y' code).run P w = .ok i w ∧ i ≤ y := by
  unfold boundA at e
  split at e
  · rename_i k hk
    obtain ⟨kk, rfl⟩ := litOf_sound hD hk hx
    simp only [Bool.cond_eq_ite, Nat.ble_eq] at e
    split at e
    · rename_i hle
      cases e
      refine ⟨?_, hle⟩
      simp only [Instr.sliceBound, asIntOf, Sem.run_bind, Sem.run_pure, Result.andThen_ok]
      have h1 : (0 : Int) ≤ Int.ofNat i ∧ (Int.ofNat i) ≤ (y' : Int) := ⟨by simp, by simpa using Nat.le_trans hle hy⟩
      rw [if_pos h1]
      rfl
    · cases e
  · cases e

theorem sliceBoundsA_sound (hD : DomOk D den) {len cap : Nat} {lo hi mx : Option (AV N)} {l h m : Nat} (e : sliceBoundsA D len cap lo hi mx = some (l, h, m)) {rlo rhi rmx : Option Value}
    (hlo : ORelV den σ lo rlo) (hhi : ORelV den σ hi rhi) (hmx : ORelV den σ mx rmx) (b : Bool) (cap' : Nat) (hc : cap ≤ cap') (w : World) :
    (Instr.sliceBounds b len cap' rlo rhi rmx).run P w = .ok (l, h, if mx.isSome then m else cap') w ∧ l ≤ h ∧ m ≤ cap ∧ (hi.isSome = true → h ≤ m) ∧ (hi = none → h = len) ∧ (mx = none → m = cap) := by
  unfold sliceBoundsA at e
  cases mx with
  | none =>
    cases rmx with
    | some _ => exact hmx.elim
    | none =>
      simp only at e
      cases hi with
      | none =>
        cases rhi with
        | some _ => exact hhi.elim
        | none =>
          simp only at e
          cases lo with
          | none =>
            cases rlo with
            | some _ => exact hlo.elim
            | none =>
              simp at e
              obtain ⟨rfl, rfl, rfl⟩ := e
              simp [Instr.sliceBounds]
          | some a =>
            cases rlo with
            | none => exact hlo.elim
            | some v =>
              simp only at e
              cases hb : boundA D a len with
              | none => simp [hb] at e
              | some i =>
                simp [hb] at e
                obtain ⟨rfl, rfl, rfl⟩ := e
                obtain ⟨h1, h2⟩ := boundA_sound (P := P) hD hb hlo len (Nat.le_refl _) .sliceB w
                simp [Instr.sliceBounds, h1, h2]
      | some c =>
        cases rhi with
        | none => exact hhi.elim
        | some v =>
          simp only at e
          cases hb : boundA D c cap with
          | none => simp [hb] at e
          | some j =>
            simp only [hb] at e
            obtain ⟨g1, g2⟩ := boundA_sound (P := P) hD hb hhi cap' hc (if b then .sliceAcap else .sliceAlen) w
            cases lo with
            | none =>
              cases rlo with
              | some _ => exact hlo.elim
              | none =>
                simp at e
                obtain ⟨rfl, rfl, rfl⟩ := e
                simp [Instr.sliceBounds, g1, g2]
            | some a =>
              cases rlo with
              | none => exact hlo.elim
              | some u =>
                simp only at e
                cases hb' : boundA D a j with
                | none => simp [hb'] at e
                | some i =>
                  simp [hb'] at e
                  obtain ⟨rfl, rfl, rfl⟩ := e
                  obtain ⟨h1, h2⟩ := boundA_sound (P := P) hD hb' hlo j (Nat.le_refl _) .sliceB w
                  simp [Instr.sliceBounds, g1, g2, h1, h2]
  | some x =>
    cases rmx with
    | none => exact hmx.elim
    | some rx =>
      simp only at e
      cases hbm : boundA D x cap with
      | none => simp [hbm] at e
      | some m' =>
        simp only [hbm] at e
        obtain ⟨q1, q2⟩ := boundA_sound (P := P) hD hbm hmx cap' hc (if b then .slice3Acap else .slice3Alen) w
        cases hi with
        | none => simp at e
        | some c =>
          cases rhi with
          | none => exact hhi.elim
          | some v =>
            simp only at e
            cases hb : boundA D c m' with
            | none => simp [hb] at e
            | some j =>
              simp only [hb] at e
              obtain ⟨g1, g2⟩ := boundA_sound (P := P) hD hb hhi m' (Nat.le_refl _) .slice3B w
              cases lo with
              | none =>
                cases rlo with
                | some _ => exact hlo.elim
                | none =>
                  simp at e
                  obtain ⟨rfl, rfl, rfl⟩ := e
                  simp [Instr.sliceBounds, g1, g2, q1, q2]
              | some a =>
                cases rlo with
                | none => exact hlo.elim
                | some u =>
                  simp only at e
                  cases hb' : boundA D a j with
                  | none => simp [hb'] at e
                  | some i =>
                    simp [hb'] at e
                    obtain ⟨rfl, rfl, rfl⟩ := e
                    obtain ⟨h1, h2⟩ := boundA_sound (P := P) hD hb' hlo j (Nat.le_refl _) .slice3C w
                    simp [Instr.sliceBounds, g1, g2, h1, h2, q1, q2]

theorem cutA_sound (hD : DomOk D den) {i o len c : Nat} {ex : Bool} {es : Nat} {lo hi mx : Option (AV N)} {v : AV N} (e : cutA D i o len c ex es lo hi mx = some v) {l : Loc} (hl : σ i = some l) {c' : Nat}
    (hc : c ≤ c') (hex : ex = true → c' = c) (hnx : ex = false → l.base + o + c' * es = l.size) {rlo rhi rmx : Option Value}
    (hlo : ORelV den σ lo rlo) (hhi : ORelV den σ hi rhi) (hmx : ORelV den σ mx rmx) (b : Bool) (w : World) :
    ∃ p h m, (Instr.sliceBounds b len c' rlo rhi rmx).run P w = .ok (p, h, m) w ∧
      VRel den σ v (.slice (some (if m = p then ⟨l.r, l.base + o, none⟩ else (⟨l.r, l.base + o, none⟩ : Addr).add (p * es))) (h - p) (m - p)) := by
  unfold cutA at e
  cases hs : sliceBoundsA D len c lo hi mx with
  | none => simp [hs] at e
  | some x =>
    obtain ⟨p, h, m⟩ := x
    simp only [hs] at e
    obtain ⟨hrun, hph, hmc, hhm, hhl, hmn⟩ := sliceBoundsA_sound (P := P) hD hs hlo hhi hmx b c' hc w
    refine ⟨p, h, _, hrun, ?_⟩
    simp only [Bool.cond_eq_ite] at e
    split at e
    · rename_i hx
      cases e
      have hm' : (if mx.isSome = true then m else c') = m := by
        simp only [Bool.or_eq_true] at hx
        split
        · rfl
        · rename_i hn
          rcases hx with hx | hx
          · have := hmn (by cases mx <;> simp_all)
            rw [hex hx, this]
          · exact absurd hx hn
      rw [hm']
      simp only [VRel, nbeq]
      refine ⟨l, m - p, hl, ?_, Nat.le_refl _, fun _ => rfl, fun h => by simp at h⟩
      by_cases hmp : m = p
      · simp [hmp]
      · simp only [hmp, if_false, decide_false, Bool.false_eq_true, add_loc]
    · rename_i hx
      simp only [Bool.or_eq_true, not_or, Bool.not_eq_true] at hx
      obtain ⟨hx1, hx2⟩ := hx
      have hmxn : mx = none := by cases mx <;> simp_all
      have hm := hmn hmxn
      subst hm
      subst hmxn
      simp only [Option.isSome_none, Bool.false_eq_true, if_false]
      have hsz := hnx hx1
      simp only [nbeq, decide_eq_true_eq] at e
      split at e
      · rename_i hp0
        cases e
        subst hp0
        simp only [VRel]
        refine ⟨l, c', hl, ?_, hc, fun h => by simp at h, fun _ => hsz⟩
        have : (⟨l.r, l.base + o, none⟩ : Addr).add (0 * es) = ⟨l.r, l.base + o, none⟩ := by simp [Addr.add]
        rw [this]
        simp
      · rename_i hp0
        simp only [Nat.blt_eq] at e
        split at e
        · rename_i hlt
          cases e
          simp only [VRel]
          refine ⟨l, c' - p, hl, ?_, by omega, fun h => by simp at h, fun _ => ?_⟩
          · rw [if_neg (by omega), add_loc]
          · rw [← hsz, Nat.sub_mul]
            have : p * es ≤ c' * es := Nat.mul_le_mul_right es (by omega)
            omega
        · rename_i hlt
          simp only [Nat.ble_eq] at e
          split at e
          · cases e
            simp only [VRel]
            have hh : h - p = 0 := by omega
            rw [hh]
            exact ⟨_, _, rfl⟩
          · cases e

end
end Go.Am

namespace Go.Am
section
variable {N : Type} {D : Dom N} {den : N → Int} {P : Program} {σ : Sub} {H : AH N} {w : World}

theorem sliceA_sound (hD : DomOk D den) {t : TypeId} {x v : AV N} {lo hi mx : Option (AV N)} (e : sliceA P D t x lo hi mx = some v) {rx : Value} (hx : VRel den σ x rx) {rlo rhi rmx : Option Value}
    (hlo : ORelV den σ lo rlo) (hhi : ORelV den σ hi rhi) (hmx : ORelV den σ mx rmx) (w : World) :
    ∃ rv, (Instr.sliceAt t rx rlo rhi rmx).run P w = .ok rv w ∧ VRel den σ v rv := by
  unfold sliceA at e
  split at e
  · rename_i n elem i o hu
    split at e
    · rename_i es hes
      simp only [VRel] at hx
      obtain ⟨l, hl, rfl⟩ := hx
      obtain ⟨p, h, m, hr, hv⟩ := cutA_sound (P := P) hD e hl (Nat.le_refl n) (fun _ => rfl) (fun h => by simp at h) hlo hhi hmx false w
      exact ⟨_, by simp only [Instr.sliceAt, Sem.run_bind, run_underlying hu, Result.andThen_ok, Instr.sureAddr, Sem.run_pure, hr, run_sizeT hes], hv⟩
    · cases e
  · rename_i s hu
    simp only [Bool.cond_eq_ite] at e
    split at e
    · cases e
    · rename_i hmn
      have hmxn : mx = none := by cases mx <;> simp_all
      subst hmxn
      cases rmx with
      | some _ => exact hmx.elim
      | none =>
        cases hs : sliceBoundsA D s.length s.length lo hi none with
        | none => simp [hs] at e
        | some y =>
          obtain ⟨p, h, m⟩ := y
          simp only [hs, Option.some.injEq] at e
          subst e
          simp only [VRel] at hx
          obtain ⟨rfl, hb⟩ := hx
          have hsz : (⟨(s.map UInt8.ofNat).toArray⟩ : ByteArray).size = s.length := by
            show ((s.map UInt8.ofNat).toArray).size = s.length
            simp
          obtain ⟨hr, _⟩ := sliceBoundsA_sound (P := P) hD hs hlo hhi hmx false s.length (Nat.le_refl _) w
          refine ⟨.string ((⟨(s.map UInt8.ofNat).toArray⟩ : ByteArray).extract p h), ?_, ?_⟩
          · simp only [Instr.sliceAt, Sem.run_bind, run_underlying hu, Result.andThen_ok, Instr.slice, Option.isSome_none, Bool.false_eq_true, if_false, hsz, hr, Sem.run_pure]
          · simp only [VRel]
            refine ⟨?_, fun b hb' => hb b (List.mem_of_mem_drop (List.mem_of_mem_take hb'))⟩
            congr 1
            apply ByteArray.ext
            apply Array.ext'
            rw [Lib.extract_data]
            simp [List.map_take, List.map_drop]
  · rename_i elem i o n c ex es hu
    split at e
    · rename_i es' hes
      simp only [nbeq, Bool.cond_decide] at e
      split at e
      · rename_i hee
        subst hee
        simp only [VRel] at hx
        obtain ⟨l, c', hl, rfl, hc, hex, hnx⟩ := hx
        obtain ⟨p, h, m, hr, hv⟩ := cutA_sound (P := P) hD e hl hc hex hnx hlo hhi hmx true w
        refine ⟨_, ?_, hv⟩
        simp only [Instr.sliceAt, Sem.run_bind, run_underlying hu, Result.andThen_ok, Instr.slice, hr, run_sizeT hes, Sem.run_pure]
        congr 2
        split <;> rfl
      · cases e
    · cases e
  · rename_i elem hu
    split at e
    · rename_i es y hes hs
      obtain ⟨p, h, m⟩ := y
      cases e
      simp only [VRel] at hx
      subst hx
      obtain ⟨hr, h1, h2, h3, h4, h5⟩ := sliceBoundsA_sound (P := P) hD hs hlo hhi hmx true 0 (Nat.le_refl _) w
      have hm0 : m = 0 := by omega
      have hh0 : h = 0 := by
        cases hi with
        | none => exact h4 rfl
        | some _ => have := h3 rfl; omega
      have hp0 : p = 0 := by omega
      subst hm0; subst hh0; subst hp0
      have : (if mx.isSome = true then 0 else 0) = 0 := by split <;> rfl
      rw [this] at hr
      refine ⟨.slice none 0 0, ?_, by simp [VRel]⟩
      simp only [Instr.sliceAt, Sem.run_bind, run_underlying hu, Result.andThen_ok, Instr.slice, hr, run_sizeT hes, Sem.run_pure]
      rfl
    · cases e
  · rename_i arr i o hu
    split at e
    · rename_i n elem hua
      split at e
      · rename_i es hes
        simp only [VRel] at hx
        obtain ⟨l, hl, rfl⟩ := hx
        obtain ⟨p, h, m, hr, hv⟩ := cutA_sound (P := P) hD e hl (Nat.le_refl n) (fun _ => rfl) (fun h => by simp at h) hlo hhi hmx false w
        refine ⟨_, ?_, hv⟩
        simp only [Instr.sliceAt, Sem.run_bind, run_underlying hu, Result.andThen_ok, Instr.slice, asAddr, Sem.run_pure, run_underlying hua, hr, run_sizeT hes]
      · cases e
    · cases e
  · cases e

/-! Building values. -/
theorem setList_rel : ∀ (vs : List (AV N)) (cs : List (AV N)) (off : Nat) (arr : Array Value) (rvs : List Value), VRels den σ cs arr.toList → VRels den σ vs rvs →
    VRels den σ (setList cs off vs) (setArr arr off rvs).toList
  | [], cs, off, arr, rvs, hc, hv => by
    simp only [VRels] at hv
    subst hv
    exact hc
  | v :: vs, cs, off, arr, rvs, hc, hv => by
    simp only [VRels] at hv
    obtain ⟨r, rs, rfl, h1, h2⟩ := hv
    rw [setList, setArr]
    refine setList_rel vs _ _ _ _ ?_ h2
    rw [Array.toList_setIfInBounds]
    exact hc.set off h1

theorem foldl_setArr : ∀ (vs : List Value) (off k : Nat) (arr : Array Value), (vs.zipIdx k).foldl (fun cs (c : Value × Nat) => cs.setIfInBounds (off + c.2) c.1) arr = setArr arr (off + k) vs
  | [], off, k, arr => by simp [setArr]
  | v :: vs, off, k, arr => by
    rw [List.zipIdx_cons, List.foldl_cons, foldl_setArr vs off (k + 1)]
    simp only [setArr, Nat.add_assoc]

theorem fillA_sound (place : Nat → Option (Nat × Nat)) : ∀ (ps : List (Nat × AV N)) (cells : List (AV N)) (arr : Array Value) (rps : List (Nat × Value)) (out : List (AV N)), VRels den σ cells arr.toList →
    ps.length = rps.length → (∀ (j : Nat) (p : Nat × AV N), ps[j]? = some p → ∃ q, rps[j]? = some q ∧ q.1 = p.1 ∧ VRel den σ p.2 q.2) → fillA place cells ps = some out →
    ∃ rout, Instr.fill place arr rps = some rout ∧ VRels den σ out rout.toList
  | [], cells, arr, rps, out, hc, hl, _, e => by
    cases rps with
    | cons => simp at hl
    | nil => simp only [fillA, Option.some.injEq] at e; subst e; exact ⟨arr, rfl, hc⟩
  | (i, v) :: ps, cells, arr, rps, out, hc, hl, hp, e => by
    cases rps with
    | nil => simp at hl
    | cons q rps =>
      obtain ⟨q', hq', hq1, hq2⟩ := hp 0 (i, v) (by simp)
      simp at hq'
      subst hq'
      obtain ⟨qi, qv⟩ := q
      simp only at hq1 hq2
      subst hq1
      rw [fillA] at e
      cases hpl : place qi with
      | none => simp [hpl] at e
      | some os =>
        obtain ⟨off, size⟩ := os
        simp only [hpl] at e
        have hj : ∀ _ : v = .junk, False := by rintro rfl; simp at e
        have e' : (bif Nat.beq v.cells.length size && Nat.ble (off + v.cells.length) cells.length then fillA place (setList cells off v.cells) ps else none) = some out := by
          cases v <;> first | exact e | exact (hj rfl).elim
        simp only [Bool.cond_eq_ite, nbeq, Bool.and_eq_true, decide_eq_true_eq, Nat.ble_eq] at e'
        split at e'
        · rename_i hs
          have hcr := cells_rel hq2 hj
          have hlen := hcr.length
          have hclen := hc.length
          simp only [Array.length_toList] at hlen hclen
          have hnot : ¬ (qv.cells.size ≠ size ∨ off + qv.cells.size > arr.size) := by omega
          obtain ⟨rout, hr, hv⟩ := fillA_sound place ps _ (setArr arr off qv.cells.toList) rps out (setList_rel _ _ _ _ _ hc hcr) (by simpa using hl)
            (fun j p hjp => by simpa using hp (j + 1) p (by simpa using hjp)) e'
          refine ⟨rout, ?_, hv⟩
          rw [Instr.fill]
          have hnot' : (decide (qv.cells.size ≠ size) || decide (off + qv.cells.size > arr.size)) = false := by simpa using hnot
          simp only [hpl, hnot', Bool.false_eq_true, if_false]
          have : qv.cells.zipIdx.foldl (fun cs (x : Value × Nat) => cs.setIfInBounds (off + x.2) x.1) arr = setArr arr off qv.cells.toList := by
            rw [← Array.foldl_toList, Array.toList_zipIdx]
            have := foldl_setArr qv.cells.toList off 0 arr
            simpa using this
          rw [← hr, ← this]
        · cases e'

def PRels (den : N → Int) (σ : Sub) (ps : List (Nat × AV N)) (rps : List (Nat × Value)) : Prop :=
  ps.length = rps.length ∧ ∀ (j : Nat) (p : Nat × AV N), ps[j]? = some p → ∃ q, rps[j]? = some q ∧ q.1 = p.1 ∧ VRel den σ p.2 q.2

theorem mapM_places (fields : List Field) (places : List (Nat × Nat)) (h : fields.mapM (fun f => (sizeT P f.type).map fun n => (f.offset, n)) = some places) (w : World) :
    (fields.mapM fun f => (do pure (f.offset, ← sizeOf f.type) : Sem (Nat × Nat))).run P w = .ok places w := by
  induction fields generalizing places with
  | nil => simp at h; subst h; simp
  | cons f fields ih =>
    rw [List.mapM_cons] at h ⊢
    simp only [bind, Option.bind_eq_some_iff, pure, Option.some.injEq] at h
    obtain ⟨a, ha, bs, hb, rfl⟩ := h
    obtain ⟨n, hn, rfl⟩ := Option.map_eq_some_iff.1 ha
    have := ih bs hb
    simp only [Sem.run_bind, run_sizeT hn, Result.andThen_ok, Sem.run_pure, this]

theorem buildA_sound (hD : DomOk D den) {t : TypeId} {ps : List (Nat × AV N)} {v : AV N} (e : buildA P D t ps = some v) {rps : Array (Nat × Value)} (hp : PRels den σ ps rps.toList) (w : World) :
    ∃ rv, (Instr.build t rps).run P w = .ok rv w ∧ VRel den σ v rv := by
  unfold buildA at e
  split at e
  · rename_i zero hz
    obtain ⟨rz, hrz, hvz⟩ := zeroV_sound (P := P) (σ := σ) hD hz w
    simp only [VRel] at hvz
    obtain ⟨zc, rfl, hzc⟩ := hvz
    split at e
    · rename_i fields hu
      split at e
      · rename_i places hpl
        obtain ⟨out, ho, rfl⟩ := Option.map_eq_some_iff.1 e
        obtain ⟨rout, hr, hv⟩ := fillA_sound _ ps zero zc rps.toList out hzc hp.1 hp.2 ho
        refine ⟨.agg rout, ?_, by simp only [VRel]; exact ⟨rout, rfl, hv⟩⟩
        have hm := mapM_places (P := P) fields.toList places hpl w
        have hma : (fields.mapM fun f => (do pure (f.offset, ← sizeOf f.type) : Sem (Nat × Nat))).run P w = .ok places.toArray w := by
          rw [Array.mapM_eq_mapM_toList, Sem.run_map, hm]
          rfl
        simp only [Instr.build, Sem.run_bind, hrz, Result.andThen_ok, run_underlying hu, hma, Value.cells]
        have : (fun (x : Nat) => places.toArray[x]?) = (fun (x : Nat) => places[x]?) := by funext x; simp
        rw [this, hr]
        rfl
      · cases e
    · rename_i len elem hu
      split at e
      · rename_i size hs
        obtain ⟨out, ho, rfl⟩ := Option.map_eq_some_iff.1 e
        obtain ⟨rout, hr, hv⟩ := fillA_sound _ ps zero zc rps.toList out hzc hp.1 hp.2 ho
        refine ⟨.agg rout, ?_, by simp only [VRel]; exact ⟨rout, rfl, hv⟩⟩
        simp only [Instr.build, Sem.run_bind, hrz, Result.andThen_ok, run_underlying hu, run_sizeT hs, Value.cells, hr]
        rfl
      · cases e
    · cases e
  · cases e

theorem rep_get (z : List (AV N)) : ∀ (n j : Nat), j < n * z.length → (rep n z)[j]? = z[j % z.length]?
  | 0, j, h => by simp at h
  | n + 1, j, h => by
    rw [rep, List.getElem?_append]
    split
    · rename_i hj
      rw [Nat.mod_eq_of_lt hj]
    · rename_i hj
      rw [rep_get z n (j - z.length) (by rw [Nat.succ_mul] at h; omega)]
      congr 1
      exact (Nat.mod_eq_sub_mod (by omega)).symm

theorem rep_rel {z : List (AV N)} {rz : Array Value} (hz : VRels den σ z rz.toList) (n m : Nat) (hm : m = n * rz.size) : VRels den σ (rep n z) ((Array.range m).map fun i => rz[i % rz.size]!).toList := by
  have hlen := hz.length
  simp only [Array.length_toList] at hlen
  refine VRels.of_get (by simp [rep_length, hm, hlen]) fun j x hx => ?_
  have hj : j < n * z.length := by
    rcases Nat.lt_or_ge j (n * z.length) with q | q
    · exact q
    · rw [List.getElem?_eq_none (by rw [rep_length]; exact q)] at hx; cases hx
  rw [rep_get z n j hj] at hx
  obtain ⟨y, hy, hr⟩ := hz.get _ _ hx
  refine ⟨y, ?_, hr⟩
  simp only [Array.toList_map, List.getElem?_map, Array.toList_range]
  rw [List.getElem?_range (by rw [hm, ← hlen]; exact hj)]
  simp only [Option.map_some]
  congr 1
  rw [hlen] at hy
  simp only [Array.getElem?_toList] at hy
  rw [getElem!_def, hy]

theorem buildSliceA_alloc (hD : DomOk D den) (hnone : σ H.next = none) {t : TypeId} {len : Nat} {ps : List (Nat × AV N)} {v : AV N} {H' : AH N} (e : buildSliceA P D H t len ps = some (v, H')) {rps : Array (Nat × Value)} (hp : PRels den σ ps rps.toList) :
    ∃ b, H' = (H.new b).2 ∧ AllocRun den P σ H.next w (Instr.buildSlice t len rps) v b := by
  unfold buildSliceA at e
  split at e
  · rename_i elem hu
    split at e
    · rename_i size z hs hz
      simp only [Bool.cond_eq_ite, nbeq, Bool.and_eq_true, decide_eq_true_eq, Nat.ble_eq] at e
      split at e
      · rename_i hcond
        obtain ⟨⟨hle, hzl⟩, hpos⟩ := hcond
        cases hf : fillA (fun i => some (i * size, size)) (rep len z.cells) ps with
        | none => simp [hf] at e
        | some cells =>
          simp only [hf, Option.some.injEq, Prod.mk.injEq] at e
          obtain ⟨rfl, rfl⟩ := e
          obtain ⟨rz, hrz, hvz⟩ := zeroV_sound (P := P) (σ := σ) hD hz w
          have hzj : ∀ _ : z = .junk, False := by
            rintro rfl
            unfold zeroV at hz
            cases hi : P.info? elem with
            | none => simp [hi] at hz
            | some i =>
              cases hzz : i.zero with
              | none => simp [hi, hzz] at hz
              | some q =>
                simp only [hi, hzz, Option.bind_some] at hz
                unfold ofValue at hz
                split at hz <;> first | cases hz | (split at hz <;> cases hz) | (simp at hz)
          have hcr := cells_rel hvz hzj
          have hclen := hcr.length
          simp only [Array.length_toList] at hclen
          have hzsz : rz.cells.size = size := by omega
          have hrep := rep_rel hcr len (len * size) (by rw [hzsz])
          obtain ⟨rout, hr, hv⟩ := fillA_sound _ ps _ _ rps.toList cells hrep hp.1 hp.2 hf
          refine ⟨_, rfl, .slice (some ⟨w.heap.size, 0, none⟩) len len, w.alloc (.cells rout elem), ⟨w.heap.size, 0, rout.size⟩, ?_, rfl, by simp, fun r hr' => World.heap_push_lt w _ hr', rfl, rfl, rfl, newList_brel hnone elem hv, ?_⟩
          · simp only [Instr.buildSlice, Sem.run_bind, run_underlying hu, Result.andThen_ok, run_sizeT hs]
            rw [if_neg (by omega)]
            by_cases h0 : len * size = 0
            · rw [if_pos h0]
              have hl0 : len = 0 := by
                rcases Nat.mul_eq_zero.1 h0 with q | q
                · exact q
                · omega
              subst hl0
              simp only [Sem.run_bind, Sem.run_pure, Result.andThen_ok]
              have : (Array.map (fun x => (#[] : Array Value)[x % (#[] : Array Value).size]!) (Array.range (0 * size))) = (Array.range (0 * size)).map fun i => rz.cells[i % rz.cells.size]! := by simp
              rw [this, hr]
              simp [newRow]
            · rw [if_neg h0]
              simp only [Sem.run_bind, hrz, Result.andThen_ok, Sem.run_pure, hr]
              simp [newRow]
          · simp only [VRel]
            exact ⟨⟨w.heap.size, 0, rout.size⟩, len, by rw [AH.id_new]; simp [Sub.add], by simp, Nat.le_refl _, fun _ => rfl, fun h => by simp at h⟩
      · cases e
    · cases e
  · cases e

end
end Go.Am

namespace Go.Am
section
variable {N : Type} {D : Dom N} {den : N → Int} {P : Program} {σ : Sub} {H : AH N} {w : World}

theorem zeroV_notJunk {t : TypeId} {z : AV N} (hz : zeroV P D t = some z) : ∀ _ : z = .junk, False := by
  rintro rfl
  unfold zeroV at hz
  cases hi : P.info? t with
  | none => simp [hi] at hz
  | some i =>
    cases hzz : i.zero with
    | none => simp [hi, hzz] at hz
    | some q =>
      simp only [hi, hzz, Option.bind_some] at hz
      unfold ofValue at hz
      split at hz <;> first | cases hz | (split at hz <;> cases hz) | (simp at hz)

theorem VRun.same {s : Sem Value} {v : AV N} {rv : Value} (h : HRel den σ H w) (hr : s.run P w = .ok rv w) (hv : VRel den σ v rv) : VRun den P σ H w s v H :=
  ⟨rv, w, σ, hr, Ext.refl σ H w, h, hv⟩

theorem bytesLit_sound (hD : DomOk D den) : ∀ (cs : List (AV N)) (s : List Nat) (vs : List Value), bytesLit D cs = some s → VRels den σ cs vs →
    ∃ ns : List Int, vs = ns.map (Value.int .u8) ∧ s = ns.map Int.toNat ∧ ∀ b ∈ s, b < 256
  | [], s, vs, e, h => by
    simp only [bytesLit, Option.some.injEq] at e
    simp only [VRels] at h
    subst e; subst h
    exact ⟨[], rfl, rfl, by simp⟩
  | .int .u8 n :: r, s, vs, e, h => by
    rw [bytesLit] at e
    split at e
    · rename_i m l h1 h2
      simp only [Bool.cond_eq_ite, Nat.blt_eq] at e
      split at e
      · rename_i hm
        cases e
        simp only [VRels, VRel] at h
        obtain ⟨v, vs', rfl, rfl, hr⟩ := h
        obtain ⟨ns, rfl, rfl, hb⟩ := bytesLit_sound hD r l vs' h2 hr
        have hd := hD.toLit _ _ h1
        refine ⟨den n :: ns, by simp, ?_, ?_⟩
        · simp [hd]
        · intro b hb'
          rcases List.mem_cons.1 hb' with rfl | hb'
          · exact hm
          · exact hb b hb'
      · cases e
    · cases e

theorem convA_alloc (hD : DomOk D den) (hnone : σ H.next = none) {src dst e' : TypeId} {s : List Nat} {v : AV N} {H' : AH N} (hs : P.underlying src = some .string) (hd : P.underlying dst = some (.slice e')) (e : convA P D H src dst (.str s) = some (v, H')) {rx : Value} (hx : VRel den σ (.str s : AV N) rx) :
    ∃ b, H' = (H.new b).2 ∧ AllocRun den P σ H.next w (Go.convert src dst rx) v b := by
  have e2 : convA P D H src dst (.str s : AV N) = match P.underlying e' with
    | some (.int .u8) => let (i, H) := H.new (.cells (Row.ofList (s.map fun b => .int .u8 (D.lit (Int.ofNat b)))) false); some (.slice i 0 s.length s.length false 1, H)
    | _ => none := by
    unfold convA
    rw [hs, hd]
    rfl
  rw [e2] at e
  split at e
  rotate_left
  · cases e
  rename_i he
  simp only [Option.some.injEq, Prod.mk.injEq] at e
  obtain ⟨rfl, rfl⟩ := e
  simp only [VRel] at hx
  obtain ⟨rfl, hb⟩ := hx
  have hr := Lib.run_convert_string_bytes (P := P) w src dst e' ⟨(s.map UInt8.ofNat).toArray⟩ hs hd he
  have hsz : (⟨(s.map UInt8.ofNat).toArray⟩ : ByteArray).size = s.length := by
    show ((s.map UInt8.ofNat).toArray).size = s.length
    simp
  let bc := Lib.bytesCells w e' ⟨(s.map UInt8.ofNat).toArray⟩
  have hcap : s.length ≤ grownCap w s.length 0 e' := by simp [grownCap, Question.cut]
  have hbs : bc.size = grownCap w s.length 0 e' := by
    simp only [bc, Lib.bytesCells, Array.size_append, Array.size_map, Array.size_replicate, hsz]
    simp
    omega
  let l : Loc := ⟨w.heap.size, 0, bc.size⟩
  have hself : (σ.add H.next l) H.next = some l := by simp [Sub.add]
  have g1 : BRel den (σ.add H.next l) H.next (Lib.bytesWorld w e' ⟨(s.map UInt8.ofNat).toArray⟩) (.cells (Row.ofList (s.map fun b => .int .u8 (D.lit (Int.ofNat b)))) false) := (by
      simp only [BRel]
      refine ⟨l, bc, e', (bc.size, bc.size + 1), hself, Lib.bytesWorld_at_new _ _ _, rfl, by simp [l, Row.ofList, hbs, hcap], ?_, fun _ j hj => by omega⟩
      intro j hj
      have hj' : j < s.length := by simpa [Row.ofList] using hj
      rw [Row.get_ofList _ _ (by simpa using hj')]
      have hsj := hb (s[j]) (List.getElem_mem hj')
      refine ⟨.int .u8 (s[j]), ?_, ?_⟩
      · simp only [l, Nat.zero_add, bc, Lib.bytesCells]
        rw [Array.getElem?_append_left (by simpa using hj')]
        simp [hj', Nat.mod_eq_of_lt hsj]
      · simp [List.getD_eq_getElem?_getD, hj', VRel, hD.lit])
  refine ⟨_, rfl, _, _, l, hr, rfl, Lib.bytesWorld_size _ _ _, fun r hr => Lib.bytesWorld_at_old _ _ _ r hr, rfl, rfl, rfl, g1, ?_⟩
  simp only [VRel, hsz]
  exact ⟨l, _, by rw [AH.id_new]; exact hself, rfl, hcap, fun h => by simp at h, fun _ => by simp [l, hbs]⟩


theorem convA_sound (hD : DomOk D den) (h : HRel den σ H w) {src dst : TypeId} {x v : AV N} {H' : AH N} (e : convA P D H src dst x = some (v, H')) {rx : Value} (hx : VRel den σ x rx) :
    VRun den P σ H w (Go.convert src dst rx) v H' := by
  unfold convA at e
  split at e
  · rename_i k q n hs hd
    simp only [VRel] at hx
    subst hx
    obtain ⟨m, hm, he⟩ := Option.map_eq_some_iff.1 e
    cases he
    refine VRun.same h (rv := .int k (k.wrap (den n))) ?_ (by simp [VRel, hD.conv _ _ _ hm])
    simp only [Go.convert, Sem.run_bind, run_underlying hs, run_underlying hd, Result.andThen_ok, Conv.intToInt, Sem.run_pure]
  · rename_i s hs hd
    cases e
    simp only [VRel] at hx
    obtain ⟨rfl, hb⟩ := hx
    refine VRun.same h (rv := .string ⟨(s.map UInt8.ofNat).toArray⟩) ?_ (by simp only [VRel, true_and]; exact hb)
    simp only [Go.convert, Sem.run_bind, run_underlying hs, run_underlying hd, Result.andThen_ok, Sem.run_pure]
  · rename_i e' s hs hd
    have e0 : convA P D H src dst (.str s : AV N) = some (v, H') := by
      unfold convA
      rw [hs, hd]
      exact e
    obtain ⟨b, rfl, ha⟩ := convA_alloc (P := P) (w := w) hD h.none_next hs hd e0 hx
    exact ha.vrun h
  · rename_i e' hs hd hnstr
    split at e
    · rename_i he
      have conv : ∀ a l c, (Go.convert src dst (.slice a l c)).run P w = (Conv.bytesToString (.slice a l c)).run P w := fun a l c => run_convert_bytes_string w src dst e' a l c hs he hd
      split at e
      · cases e
        simp only [VRel] at hx
        subst hx
        refine VRun.same h (rv := .string .empty) ?_ (by simp only [VRel]; exact ⟨rfl, by simp⟩)
        rw [conv]
        simp [Conv.bytesToString]
      · cases e
        simp only [VRel] at hx
        obtain ⟨a, c, rfl⟩ := hx
        refine VRun.same h (rv := .string .empty) ?_ (by simp only [VRel]; exact ⟨rfl, by simp⟩)
        rw [conv]
        simp [Conv.bytesToString, loadCells, loadCellsFrom]
      · rename_i i o n c ex es
        simp only [nbeq, Bool.cond_decide] at e
        split at e
        · split at e
          · rename_i cs hcs
            obtain ⟨s, hs', he'⟩ := Option.map_eq_some_iff.1 e
            cases he'
            simp only [VRel] at hx
            obtain ⟨l, c', hl, rfl, _⟩ := hx
            obtain ⟨arr, hr, hv, hsz⟩ := loadCells_sound (P := P) h hl hcs
            obtain ⟨ns, hns, rfl, hb⟩ := bytesLit_sound hD cs s arr.toList hs' hv
            have harr : arr = (ns.map (Value.int .u8)).toArray := by rw [← hns]
            rw [harr] at hr
            refine VRun.same h (by rw [conv]; exact run_bytesToString w _ n c' ns hr) ?_
            simp only [VRel]
            refine ⟨?_, hb⟩
            rw [foldl_push_bytes]
            congr 1
            apply ByteArray.ext
            simp only [List.map_map]
            show ByteArray.empty.data ++ _ = _
            have : (ByteArray.empty.data : Array UInt8) = #[] := rfl
            rw [this]
            simp
          · cases e
        · cases e
      · cases e
    · cases e
  · cases e

theorem i64wrap_small {n : Int} (h0 : 0 ≤ n) (h : n < 9223372036854775808) : IntKind.i64.wrap n = n := by
  have key : ∀ (b : Nat), b = 64 → ((if (true && decide (n % (2 ^ b : Int) ≥ (2 ^ (b - 1) : Int))) = true then n % (2 ^ b : Int) - (2 ^ b : Int) else n % (2 ^ b : Int)) = n) := by
    intro b hb
    subst hb
    have h1 : (2 : Int) ^ 64 = 18446744073709551616 := by decide
    have h2 : (2 : Int) ^ (64 - 1) = 9223372036854775808 := by decide
    have h3 : n % (2 : Int) ^ 64 = n := by rw [h1]; exact Int.emod_eq_of_lt h0 (by omega)
    rw [if_neg]
    · exact h3
    · rw [h3, h2]; simp; omega
  exact key 64 rfl

theorem makeSliceA_alloc (hD : DomOk D den) (hnone : σ H.next = none) {t : TypeId} {x y v : AV N} {H' : AH N} (e : makeSliceA P D H t x y = some (v, H')) {rx ry : Value} (hx : VRel den σ x rx) (hy : VRel den σ y ry) :
    ∃ b, H' = (H.new b).2 ∧ AllocRun den P σ H.next w (Instr.makeSlice t rx ry) v b := by
  unfold makeSliceA at e
  split at e
  · rename_i elem len cap hu h1 h2
    obtain ⟨k1, rfl⟩ := litOf_sound hD h1 hx
    obtain ⟨k2, rfl⟩ := litOf_sound hD h2 hy
    split at e
    · rename_i info z hi hz
      simp only [Bool.cond_eq_ite, nbeq, Bool.and_eq_true, decide_eq_true_eq, Nat.ble_eq] at e
      split at e
      · rename_i hc
        obtain ⟨⟨⟨⟨hlc, hcb⟩, hc9⟩, hzl⟩, hpos⟩ := hc
        simp only [Option.some.injEq, Prod.mk.injEq] at e
        obtain ⟨rfl, rfl⟩ := e
        obtain ⟨rz, hrz, hvz⟩ := zeroV_sound (P := P) (σ := σ) hD hz w
        have hcr := cells_rel hvz (zeroV_notJunk hz)
        have hclen := hcr.length
        simp only [Array.length_toList] at hclen
        have hzsz : rz.cells.size = info.size := by omega
        have hw1 : IntKind.i64.wrap (len : Int) = (len : Int) := i64wrap_small (by omega) (by omega)
        have hw2 : IntKind.i64.wrap (cap : Int) = (cap : Int) := i64wrap_small (by omega) (by omega)
        have hb1 : (info.bytes : Int) * (cap : Int) ≤ 1000000000 := by
          have : info.bytes * cap ≤ 1000000000 := by rw [Nat.mul_comm]; exact hcb
          rw [← Int.natCast_mul]
          generalize info.bytes * cap = m at this
          omega
        let arr : Array Value := (Array.range (cap * info.size)).map fun i => rz.cells[i % rz.cells.size]!
        have hsz : arr.size = cap * info.size := by simp [arr]
        have hrow : ∀ j, j < cap * info.size → ∃ v, arr[j]? = some v ∧ VRel den σ (({ sz := cap * info.size, c := .nil, z := z.cells } : Row N).get j) v := by
          intro j hj
          have hm : j % z.cells.length < z.cells.length := Nat.mod_lt _ (by omega)
          have hx : z.cells[j % z.cells.length]? = some (z.cells.getD (j % z.cells.length) .junk) := by
            simp [List.getD_eq_getElem?_getD, List.getElem?_eq_getElem hm]
          obtain ⟨u, hu, hr⟩ := hcr.get _ _ hx
          refine ⟨u, ?_, ?_⟩
          · simp only [arr, Array.getElem?_map, Array.getElem?_range]
            rw [if_pos hj]
            simp only [Option.map_some]
            congr 1
            rw [hclen] at hu
            simp only [Array.getElem?_toList] at hu
            rw [getElem!_def, hu]
          · unfold Row.get
            simp only [Tr.get]
            rw [hx]
            exact hr
        have g1 := newRow_brel (w := w) hnone (row := { sz := cap * info.size, c := .nil, z := z.cells }) (arr := arr) elem (by simp [hsz]) hrow
        refine ⟨_, rfl, .slice (some ⟨w.heap.size, 0, none⟩) len cap, w.alloc (.cells arr elem), ⟨w.heap.size, 0, arr.size⟩, ?_, rfl, by simp, fun r hr' => World.heap_push_lt w _ hr', rfl, rfl, rfl, g1, ?_⟩
        · simp only [Instr.makeSlice, Sem.run_bind, run_underlying hu, Result.andThen_ok, asInt, asIntOf, Sem.run_pure, run_info hi, Int.ofNat_eq_natCast, hw1, hw2]
          have e48 : (2 : Int) ^ 48 = 281474976710656 := by decide
          have a1 : decide ((cap : Int) < 0) = false := decide_eq_false (by omega)
          have a2 : decide ((info.bytes : Int) * (cap : Int) > 2 ^ 48) = false := decide_eq_false (by rw [e48]; omega)
          have a3 : decide ((len : Int) < 0) = false := decide_eq_false (by omega)
          have a4 : decide ((len : Int) > (cap : Int)) = false := decide_eq_false (by omega)
          have hno2 : ((decide ((cap : Int) < 0) || decide ((info.bytes : Int) * (cap : Int) > 2 ^ 48)) || decide ((len : Int) < 0) || decide ((len : Int) > (cap : Int))) = false := by
            rw [a1, a2, a3, a4]; rfl
          simp only [hno2, Bool.false_eq_true, if_false, Sem.run_bind, run_askRoom, Result.andThen_ok, Int.toNat_natCast]
          have hs : sizeT P elem = some info.size := by simp [sizeT, hi]
          simp only [run_sizeT hs, Result.andThen_ok]
          by_cases h0 : cap * info.size = 0
          · rw [if_pos h0]
            have : ((Array.range (cap * info.size)).map fun x => (#[] : Array Value)[x % (#[] : Array Value).size]!) = arr := by simp [arr, h0]
            simp only [Sem.run_bind, Sem.run_pure, Result.andThen_ok, newRow, this, run_newObj]
            rfl
          · rw [if_neg h0]
            simp only [Sem.run_bind, hrz, Sem.run_pure, Result.andThen_ok, newRow, run_newObj]
            rfl
        · simp only [VRel]
          exact ⟨⟨w.heap.size, 0, arr.size⟩, cap, by rw [AH.id_new]; simp [Sub.add], by simp, Nat.le_refl _, fun _ => rfl, fun h => by simp at h⟩
      · cases e
    · cases e
  · cases e

end
end Go.Am

namespace Go.Am
section
variable {N : Type} {D : Dom N} {den : N → Int} {P : Program} {σ : Sub} {H : AH N} {w : World}

theorem lenOfA_sound {x : AV N} {n : Nat} (e : lenOfA x = some n) {rx : Value} (hx : VRel den σ x rx) (w : World) : (Builtin.lenOf rx).run P w = .ok n w := by
  unfold lenOfA at e
  split at e
  · cases e; simp only [VRel] at hx; obtain ⟨_, _, _, rfl, _⟩ := hx; rfl
  · cases e; simp only [VRel] at hx; subst hx; rfl
  · cases e; simp only [VRel] at hx; obtain ⟨_, _, rfl⟩ := hx; rfl
  · cases e; simp only [VRel] at hx; obtain ⟨rfl, _⟩ := hx
    simp only [Builtin.lenOf, Sem.run_pure]
    congr 1
    show ((List.map UInt8.ofNat _).toArray).size = _
    simp
  · cases e

theorem firstCellsA_sound (hD : DomOk D den) (h : HRel den σ H w) {es n : Nat} {x : AV N} {vs : List (AV N)} (e : firstCellsA D H es n x = some vs) {rx : Value} (hx : VRel den σ x rx) :
    ∃ arr : Array Value, (Builtin.firstCells es n rx).run P w = .ok arr w ∧ VRels den σ vs arr.toList ∧ arr.size = n * es := by
  unfold firstCellsA at e
  split at e
  · simp only [nbeq, Bool.cond_decide] at e
    split at e
    · rename_i hee
      subst hee
      simp only [VRel] at hx
      obtain ⟨l, c', hl, rfl, _⟩ := hx
      exact loadCells_sound h hl e
    · cases e
  · simp only [nbeq, Bool.cond_decide] at e
    split at e
    · cases e; simp only [VRel] at hx; subst hx; subst_vars
      exact ⟨#[], rfl, by simp [VRels], by simp⟩
    · cases e
  · simp only [nbeq, Bool.cond_decide] at e
    split at e
    · cases e; simp only [VRel] at hx; obtain ⟨a, c, rfl⟩ := hx; subst_vars
      exact ⟨#[], by simp [Builtin.firstCells, loadCells, loadCellsFrom], by simp [VRels], by simp⟩
    · cases e
  · rename_i s
    simp only [Bool.cond_eq_ite, nbeq, Bool.and_eq_true, decide_eq_true_eq, Nat.ble_eq] at e
    split at e
    · rename_i hc
      obtain ⟨rfl, hn⟩ := hc
      cases e
      simp only [VRel] at hx
      obtain ⟨rfl, hb⟩ := hx
      refine ⟨_, rfl, ?_, ?_⟩
      · have hd : ((⟨(s.map UInt8.ofNat).toArray⟩ : ByteArray).extract 0 n).data.toList = (s.map UInt8.ofNat).take n := by
          rw [Lib.extract_data]; simp
        simp only [Array.toList_map, hd]
        refine VRels.of_get (by simp) fun j x hx => ?_
        simp only [List.getElem?_map, Option.map_eq_some_iff] at hx
        obtain ⟨b, hb', rfl⟩ := hx
        refine ⟨.int .u8 b, ?_, by simp [VRel, hD.lit]⟩
        rw [← List.map_take, List.getElem?_map, List.getElem?_map, hb']
        have hm : b ∈ s := List.mem_of_mem_take (List.mem_of_getElem? hb')
        simp [Nat.mod_eq_of_lt (hb b hm)]
      · have hd : ((⟨(s.map UInt8.ofNat).toArray⟩ : ByteArray).extract 0 n).data.toList = (s.map UInt8.ofNat).take n := by
          rw [Lib.extract_data]; simp
        have := congrArg List.length hd
        simp only [Array.length_toList, List.length_take, List.length_map] at this
        simp only [Array.size_map]
        omega
    · cases e
  · cases e

theorem zeroCells_eq (z : Array Value) (n : Nat) : Builtin.zeroCells z n = (Array.range (n * z.size)).map fun i => z[i % z.size]! := rfl

theorem nextcap_le (need old : Nat) (h : old < need) : Builtin.nextslicecap need old ≤ 4 * need + 4000 := by
  unfold Builtin.nextslicecap
  split
  · omega
  · split
    · omega
    · have key : ∀ r c, c < need → Builtin.growBy need r c ≤ 2 * need + 1000 := by
        intro r
        induction r with
        | zero => intro c hc; simp only [Builtin.growBy]; omega
        | succ r ih =>
          intro c hc
          simp only [Builtin.growBy]
          split
          · omega
          · rename_i hlt
            by_cases h2 : c + (c + 768) / 4 < need
            · exact ih _ h2
            · cases r with
              | zero => simp only [Builtin.growBy]; omega
              | succ r =>
                simp only [Builtin.growBy]
                rw [if_pos (by omega)]
                omega
      have := key 4 old h
      omega

/-- what is appended: the real side. -/
def Src (P : Program) (xd : TypeDesc) (rx : Value) (elem : TypeId) (size n : Nat) (new : Array Value) (w : World) : Prop :=
  (isIntD xd = true ∧ (∃ kk, rx = .int kk (n : Int)) ∧ n ≤ 1000000000 ∧ ∃ rz, (zeroValue elem).run P w = .ok rz w ∧ rz.cells.size = size ∧ new = Builtin.zeroCells rz.cells n) ∨
  (isIntD xd = false ∧ (Builtin.lenOf rx).run P w = .ok n w ∧ (Builtin.firstCells size n rx).run P w = .ok new w)

section
variable {ats : Array TypeId} {sType xType elem : TypeId} {xd : TypeDesc} {info : TypeInfo} {base : Option Addr} {sLen sCap n : Nat} {rx : Value} {new : Array Value} {ty : TypeId}

theorem append_in (ha0 : ats[0]? = some sType) (ha1 : ats[1]? = some xType) (hu : P.underlying sType = some (.slice elem)) (hux : P.underlying xType = some xd) (hi : P.info? elem = some info)
    (hb : n * info.bytes ≤ 1000000000) (hs : Src P xd rx elem info.size n new w) (hc : sLen + n ≤ sCap) :
    (Builtin.append_ ats ty #[.slice base sLen sCap, rx]).run P w =
      (do (match base with | some a => storeCells (a.add (sLen * info.size)) new.toList | none => pure ()); pure (.slice base (sLen + n) sCap) : Sem Value).run P w := by
  have hsz : sizeT P elem = some info.size := by simp [sizeT, hi]
  have e48 : (2 : Int) ^ 48 = 281474976710656 := by decide
  rcases hs with ⟨hint, ⟨kk, rfl⟩, hn9, rz, hrz, hrs, hnew⟩ | ⟨hint, hn, happ⟩
  · cases xd <;> simp only [isIntD, Bool.false_eq_true] at hint
    have hw1 : IntKind.i64.wrap (n : Int) = (n : Int) := i64wrap_small (by omega) (by omega)
    have hnb : ¬ ((n : Int) * (info.bytes : Int) > 2 ^ 48) := by
      rw [e48, ← Int.natCast_mul]
      generalize n * info.bytes = m at hb
      omega
    have hn0 : ¬ ((n : Int) < 0) := by omega
    simp only [Builtin.append_, ha0, ha1, List.getElem?_toArray, List.getElem?_cons_zero, List.getElem?_cons_succ, Sem.run_bind, run_underlying hu, Result.andThen_ok, run_sizeT hsz, run_underlying hux, Sem.run_pure,
      if_true, asInt, asIntOf, hw1, hn0, if_false, run_info hi, hnb, Int.toNat_natCast, hc, Bool.not_true, Bool.false_eq_true]
    by_cases h0 : n * info.size = 0
    · rw [if_pos h0]
      have : new = #[] := by rw [hnew]; simp [Builtin.zeroCells, hrs, h0]
      subst this
      cases base <;> simp [storeCells]
    · rw [if_neg h0]
      simp only [Sem.run_bind, hrz, Result.andThen_ok, Sem.run_pure, ← hnew]
      cases base <;> simp
  · have hx : ∀ (b : Bool), isIntD xd = b → (match xd with | TypeDesc.int _ => true | _ => false) = b := by rintro b rfl; cases xd <;> rfl
    cases xd <;> simp only [isIntD, Bool.true_eq_false] at hint
    all_goals
      simp only [Builtin.append_, ha0, ha1, List.getElem?_toArray, List.getElem?_cons_zero, List.getElem?_cons_succ, Sem.run_bind, run_underlying hu, Result.andThen_ok, run_sizeT hsz, run_underlying hux, Sem.run_pure,
        Bool.false_eq_true, if_false, hn, hc, if_true, Bool.not_false, happ]
      cases base <;> simp

theorem append_new (ha0 : ats[0]? = some sType) (ha1 : ats[1]? = some xType) (hu : P.underlying sType = some (.slice elem)) (hux : P.underlying xType = some xd) (hi : P.info? elem = some info)
    (hb : n * info.bytes ≤ 1000000000) (hb2 : sLen * info.bytes ≤ 1000000000) (hn9 : n ≤ 1000000000) (hs9 : sLen ≤ 1000000000) {new0 : Array Value} (hs : Src P xd rx elem info.size n new0 w) (hs' : Src P xd rx elem info.size n new w.drew) (hc : ¬ sLen + n ≤ sCap)
    {old : Array Value} (hold : (Builtin.firstCells info.size sLen (.slice base sLen sCap)).run P w.drew = .ok old w.drew) {rz : Value} (hrz : ∀ w, (zeroValue elem).run P w = .ok rz w) :
    (Builtin.append_ ats ty #[.slice base sLen sCap, rx]).run P w =
      .ok (.slice (some ⟨w.heap.size, 0, none⟩) (sLen + n) (grownCap w (sLen + n) sCap elem)) (w.drew.alloc (.cells (old ++ new ++ Builtin.zeroCells rz.cells (grownCap w (sLen + n) sCap elem - (sLen + n))) elem)) := by
  have hsz : sizeT P elem = some info.size := by simp [sizeT, hi]
  have e48 : (2 : Int) ^ 48 = 281474976710656 := by decide
  have e48n : (2 : Nat) ^ 48 = 281474976710656 := by decide
  have hnext := nextcap_le (sLen + n) sCap (by omega)
  have hgrow : ¬ (Builtin.nextslicecap (sLen + n) sCap * info.bytes > 2 ^ 48) := by
    rw [e48n]
    have h1 : Builtin.nextslicecap (sLen + n) sCap * info.bytes ≤ (4 * (sLen + n) + 4000) * info.bytes := Nat.mul_le_mul_right _ hnext
    have h2 : (4 * (sLen + n) + 4000) * info.bytes = 4 * (sLen * info.bytes) + 4 * (n * info.bytes) + 4000 * info.bytes := by
      rw [Nat.add_mul, Nat.mul_assoc, Nat.add_mul]; omega
    have h3 : info.bytes ≤ 1000000000 := by
      by_cases hn0 : n = 0
      · by_cases hs0 : sLen = 0
        · omega
        · exact Nat.le_trans (Nat.le_mul_of_pos_left _ (by omega)) hb2
      · exact Nat.le_trans (Nat.le_mul_of_pos_left _ (by omega)) hb
    omega
  have himax : IntKind.i64.max = 9223372036854775807 := by decide
  have hovf : ¬ ((((sLen + n : Nat) : Int) > IntKind.i64.max) ∧ ((isIntD xd = true) ∨ info.bytes = 0)) := by
    rw [himax]; omega
  have hq : (Question.appendCap (sLen + n) sCap elem).forced = false := rfl
  rcases hs with ⟨hint, ⟨kk, rfl⟩, _, _, _, _, _⟩ | ⟨hint, hn, _⟩
  · rcases hs' with ⟨_, _, _, rz', hrz', hrs, hnew⟩ | ⟨hint', _⟩
    · cases xd <;> simp only [isIntD, Bool.false_eq_true] at hint
      have hw1 : IntKind.i64.wrap (n : Int) = (n : Int) := i64wrap_small (by omega) (by omega)
      have hnb : ¬ ((n : Int) * (info.bytes : Int) > 2 ^ 48) := by
        rw [e48, ← Int.natCast_mul]
        generalize n * info.bytes = m at hb
        omega
      have hn0 : ¬ ((n : Int) < 0) := by omega
      have hov : ¬ (((sLen + n : Nat) : Int) > IntKind.i64.max) := by rw [himax]; omega
      have e1 : rz' = rz := by have := hrz w.drew; rw [hrz'] at this; cases this; rfl
      subst e1
      simp only [Builtin.append_, ha0, ha1, List.getElem?_toArray, List.getElem?_cons_zero, List.getElem?_cons_succ, Sem.run_bind, run_underlying hu, Result.andThen_ok, run_sizeT hsz, run_underlying hux, Sem.run_pure,
        if_true, asInt, asIntOf, hw1, hn0, if_false, run_info hi, hnb, Int.toNat_natCast, hc, hov, false_and, hgrow, run_choose, hq, Bool.false_eq_true, run_askRoom, hold, World.drew_eq, Bool.not_true]
      by_cases h0 : n * info.size = 0
      · rw [if_pos h0]
        have : new = #[] := by rw [hnew]; simp [Builtin.zeroCells, hrs, h0]
        subst this
        simp only [Sem.run_pure, Result.andThen_ok, hrz, Sem.run_bind, newRow, run_newObj]
        simp [grownCap]
        rfl
      · rw [if_neg h0]
        simp only [Sem.run_bind, hrz, Result.andThen_ok, Sem.run_pure, ← hnew, newRow, run_newObj]
        simp [grownCap]
        rfl
    · rw [hint] at hint'; cases hint'
  · rcases hs' with ⟨hint', _⟩ | ⟨_, hn', happ⟩
    · rw [hint] at hint'; cases hint'
    · have hov : ¬ (((sLen + n : Nat) : Int) > IntKind.i64.max) := by rw [himax]; omega
      cases xd <;> simp only [isIntD, Bool.true_eq_false] at hint
      all_goals
        simp only [Builtin.append_, ha0, ha1, List.getElem?_toArray, List.getElem?_cons_zero, List.getElem?_cons_succ, Sem.run_bind, run_underlying hu, Result.andThen_ok, run_sizeT hsz, run_underlying hux, Sem.run_pure,
          Bool.false_eq_true, if_false, hn, hc, hov, false_and, run_info hi, hgrow, run_choose, hq, run_askRoom, hold, World.drew_eq, Bool.not_false, if_true, happ, hrz, newRow, run_newObj]
        simp [grownCap]
        rfl

theorem src_sound (hD : DomOk D den) (h : HRel den σ H w) {xd : TypeDesc} {es n : Nat} {elem : TypeId} {x z : AV N} (hz : zeroV P D elem = some z) (hzl : z.cells.length = es) (hn9 : n ≤ 1000000000)
    (hn : (bif isIntD xd then (match litOf D x with | some (.ofNat l) => some l | _ => none) else lenOfA x) = some n) {new : List (AV N)}
    (hnew : (bif isIntD xd then some (rep n z.cells) else firstCellsA D H es n x) = some new) {rx : Value} (hx : VRel den σ x rx) :
    ∃ arr, Src P xd rx elem es n arr w ∧ VRels den σ new arr.toList ∧ arr.size = n * es := by
  cases hi : isIntD xd with
  | true =>
    rw [hi] at hn hnew
    simp only [cond_true, Option.some.injEq] at hn hnew
    subst hnew
    split at hn
    · rename_i l hl
      cases hn
      obtain ⟨rz, hrz, hv⟩ := zeroV_sound (P := P) (σ := σ) hD hz w
      have hcr := cells_rel hv (zeroV_notJunk hz)
      have hlen := hcr.length
      simp only [Array.length_toList] at hlen
      obtain ⟨kk, rfl⟩ := litOf_sound hD hl hx
      refine ⟨Builtin.zeroCells rz.cells n, Or.inl ⟨hi, ⟨kk, rfl⟩, hn9, rz, hrz, by omega, rfl⟩, rep_rel hcr n _ rfl, ?_⟩
      simp [Builtin.zeroCells]
      congr 1; omega
    · cases hn
  | false =>
    rw [hi] at hn hnew
    simp only [cond_false] at hn hnew
    obtain ⟨arr, hr, hv, hs⟩ := firstCellsA_sound (P := P) hD h hnew hx
    exact ⟨arr, Or.inr ⟨hi, lenOfA_sound hn hx w, hr⟩, hv, hs⟩

theorem fresh_rel (h : HRel den σ H w) {l1 l2 : List (AV N)} {r1 r2 : Array Value} (h1 : VRels den σ l1 r1.toList) (h2 : VRels den σ l2 r2.toList) (rest : Array Value) (elem : TypeId) :
    let l : Loc := ⟨w.heap.size, 0, (r1 ++ r2 ++ rest).size⟩
    HRel den (σ.add H.next l) (H.new (.cells (Row.ofList (l1 ++ l2)) false)).2 (w.drew.alloc (.cells (r1 ++ r2 ++ rest) elem)) ∧ Ext σ H w (σ.add H.next l) (H.new (.cells (Row.ofList (l1 ++ l2)) false)).2 (w.drew.alloc (.cells (r1 ++ r2 ++ rest) elem)) ∧ (σ.add H.next l) H.next = some l := by
  intro l
  have hw : HRel den σ H w.drew := h.world rfl
  have hv := h1.append h2
  have hlen := hv.length
  simp only [List.length_append, Array.length_toList] at hlen
  obtain ⟨g1, g2, g3⟩ := newRow_sound hw (row := Row.ofList (l1 ++ l2)) (arr := r1 ++ r2 ++ rest) elem (by simp [Row.ofList]; omega) (fun j hj => by
    have hj' : j < (l1 ++ l2).length := hj
    rw [Row.get_ofList _ j hj']
    have hx : (l1 ++ l2)[j]? = some ((l1 ++ l2).getD j .junk) := by simp only [List.getD_eq_getElem?_getD, List.getElem?_eq_getElem hj', Option.getD_some]
    obtain ⟨y, hy, hr⟩ := hv.get _ _ hx
    refine ⟨y, ?_, hr⟩
    have hj2 : j < (r1 ++ r2).size := by simp only [List.length_append] at hj'; simp only [Array.size_append]; omega
    rw [Array.getElem?_append_left hj2]
    rw [← Array.toList_append, Array.getElem?_toList] at hy
    exact hy)
  exact ⟨g1, (Ext.world σ H (w := w) (w' := w.drew) rfl rfl rfl rfl).trans g2, g3⟩

theorem grown_le (w : World) (need old : Nat) (e : TypeId) : need ≤ grownCap w need old e := by simp [grownCap, Question.cut]

end

theorem appendA_sound (hD : DomOk D den) (h : HRel den σ H w) {ats : Array TypeId} {s x v : AV N} {H' : AH N} (e : appendA P D H ats s x = some (v, H')) {rs rx : Value} (hs : VRel den σ s rs) (hx : VRel den σ x rx) (ty : TypeId) :
    VRun den P σ H w (Builtin.append_ ats ty #[rs, rx]) v H' := by
  unfold appendA at e
  split at e
  rotate_left
  · cases e
  rename_i sType xType ha0 ha1
  split at e
  rotate_left
  · cases e
  rename_i elem xd hu hux
  split at e
  rotate_left
  · cases e
  rename_i info z hi hz
  simp only at e
  split at e
  · cases e
  rename_i n hn
  simp only [Bool.cond_eq_ite, nbeq, Bool.and_eq_true, decide_eq_true_eq, Nat.ble_eq] at e
  split at e
  rotate_left
  · cases e
  rename_i hc
  obtain ⟨⟨⟨hb, hn9⟩, hes⟩, hzl⟩ := hc
  split at e
  · cases e
  rename_i new hnew
  have hn' : (bif isIntD xd then (match litOf D x with | some (.ofNat l) => some l | _ => none) else lenOfA x) = some n := hn
  have hnew' : (bif isIntD xd then some (rep n z.cells) else firstCellsA D H info.size n x) = some new := by simpa [Bool.cond_eq_ite] using hnew
  obtain ⟨arr, hsrc, hva, hsa⟩ := src_sound (P := P) hD h hz hzl hn9 hn' hnew' hx
  have hdw : HRel den σ H w.drew := h.world rfl
  obtain ⟨arr', hsrc', hva', hsa'⟩ := src_sound (P := P) hD hdw hz hzl hn9 hn' hnew' hx
  obtain ⟨rz, hrz0, hvz⟩ := zeroV_sound (P := P) (σ := σ) hD hz w
  have hrz : ∀ w', (zeroValue elem).run P w' = .ok rz w' := by
    intro w'
    obtain ⟨i, hi', hiz⟩ : ∃ i, P.info? elem = some i ∧ i.zero = some rz := by
      refine ⟨info, hi, ?_⟩
      have := hrz0
      cases hq : info.zero with
      | none => simp [zeroValue, run_info hi, hq] at this
      | some q => simp [zeroValue, run_info hi, hq] at this; rw [this]
    simp [zeroValue, run_info hi', hiz]
  have hcr := cells_rel hvz (zeroV_notJunk hz)
  have hclen := hcr.length
  simp only [Array.length_toList] at hclen
  split at e
  · simp only [VRel] at hs
    subst hs
    split at e
    · rename_i hn0
      subst hn0
      cases e
      refine VRun.same h (rv := .slice none 0 0) ?_ (by simp [VRel])
      rw [append_in ha0 ha1 hu hux hi hb hsrc (Nat.le_refl _)]
      simp
    · rename_i hn0
      simp only [Option.some.injEq, Prod.mk.injEq] at e
      obtain ⟨rfl, rfl⟩ := e
      have hold : (Builtin.firstCells info.size 0 (.slice none 0 0)).run P w.drew = .ok #[] w.drew := by simp [Builtin.firstCells]
      obtain ⟨g1, g2, g3⟩ := fresh_rel (r1 := #[]) (l1 := []) h (by simp [VRels]) hva' (Builtin.zeroCells rz.cells (grownCap w (0 + n) 0 elem - (0 + n))) elem
      refine ⟨_, _, _, append_new ha0 ha1 hu hux hi hb (by omega) hn9 (by omega) hsrc hsrc' (by omega) hold hrz, g2, g1, ?_⟩
      have hg := grown_le w (0 + n) 0 elem
      simp only [VRel, Nat.zero_add] at hg g3 ⊢
      refine ⟨_, _, by rw [AH.id_new]; exact g3, rfl, hg, by simp, fun _ => ?_⟩
      simp [hsa', Builtin.zeroCells, ← hclen, hzl]
      rw [← Nat.add_mul]; congr 1; omega
  · rename_i i o sLen c ex es'
    split at e
    rotate_left
    · cases e
    rename_i hc2
    obtain ⟨⟨hee, hb2⟩, hs9⟩ := hc2
    subst hee
    simp only [VRel] at hs
    obtain ⟨l, c', hl, rfl, hcc, hex, hnx⟩ := hs
    have hadd : (⟨l.r, l.base + o, none⟩ : Addr).add (sLen * info.size) = ⟨l.r, l.base + (o + sLen * info.size), none⟩ := add_loc _ _ _ _
    split at e
    · rename_i hle
      cases hst : storeCellsA H i (o + sLen * info.size) new with
      | none => simp [hst] at e
      | some H1 =>
        simp only [hst, Option.some.injEq, Prod.mk.injEq] at e
        obtain ⟨rfl, rfl⟩ := e
        obtain ⟨w', hr, hh, hext⟩ := storeCells_sound (P := P) h hl hva hst
        refine ⟨.slice (some ⟨l.r, l.base + o, none⟩) (sLen + n) c', w', σ, ?_, hext, hh, ?_⟩
        · rw [append_in ha0 ha1 hu hux hi hb hsrc (by omega)]
          simp only [hadd, Sem.run_bind, hr, Result.andThen_ok, Sem.run_pure]
        · simp only [VRel]
          exact ⟨l, c', hl, rfl, hcc, hex, hnx⟩
    · rename_i hgt
      split at e
      · cases e
      rename_i old hold
      split at e
      rotate_left
      · cases e
      rename_i row ro hblk
      have hdl := loadCells_sound (P := P) hdw hl hold
      obtain ⟨oarr, hor, hov, hos⟩ := hdl
      have hold' : (Builtin.firstCells info.size sLen (.slice (some ⟨l.r, l.base + o, none⟩) sLen c')).run P w.drew = .ok oarr w.drew := by simpa [Builtin.firstCells] using hor
      have newcase : ∀ (H1 : AH N) (_ : HRel den σ H1 w) (hgt' : ¬ sLen + n ≤ c'), VRun den P σ H1 w (Builtin.append_ ats ty #[.slice (some ⟨l.r, l.base + o, none⟩) sLen c', rx]) (.slice H1.next 0 (sLen + n) (sLen + n) false info.size) (H1.new (.cells (Row.ofList (old ++ new)) false)).2 := by
        intro H1 hH1 hgt'
        obtain ⟨g1, g2, g3⟩ := fresh_rel hH1 hov hva' (Builtin.zeroCells rz.cells (grownCap w (sLen + n) c' elem - (sLen + n))) elem
        refine ⟨_, _, _, append_new ha0 ha1 hu hux hi hb hb2 hn9 hs9 hsrc hsrc' hgt' hold' hrz, g2, g1, ?_⟩
        have hg := grown_le w (sLen + n) c' elem
        simp only [VRel]
        refine ⟨_, _, g3, by simp, hg, by simp, fun _ => ?_⟩
        simp only [Array.size_append, hsa', hos, Builtin.zeroCells, Array.size_map, Array.size_range, ← hclen, hzl]
        rw [← Nat.add_mul, ← Nat.add_mul]; simp only [Nat.zero_add]; congr 1; omega
      split at e
      · rename_i hext
        simp only [Option.some.injEq, Prod.mk.injEq] at e
        obtain ⟨rfl, rfl⟩ := e
        exact newcase H h (by have := hex hext; omega)
      · rename_i hext
        simp only [Bool.or_eq_true, Bool.not_eq_true'] at e
        split at e
        · cases e
        rename_i hro
        simp only [not_or, Bool.not_eq_true, Bool.not_eq_false] at hro
        simp only [Option.some.injEq, Prod.mk.injEq] at e
        obtain ⟨rfl, rfl⟩ := e
        have hlsz := hnx (by simpa using hext)
        have hwr : (H.blk i).wr = true := by rw [hblk, hro.1]; rfl
        by_cases hfit : sLen + n ≤ c'
        · have hbk := h.blk i
          rw [hblk] at hbk
          simp only [BRel] at hbk
          obtain ⟨l', cs, te, fr, hl', hh, hls, hsz, hcell, hfr⟩ := hbk
          rw [hl] at hl'; cases hl'
          have hvl := hva.length
          simp only [Array.length_toList] at hvl
          have hmul : (sLen + n) * info.size ≤ c' * info.size := Nat.mul_le_mul_right _ hfit
          rw [Nat.add_mul] at hmul
          obtain ⟨w', hr, hh', hsz', ho, hout, ht, hoth⟩ := storeCells_run (P := P) l.r (l.base + (o + sLen * info.size)) arr.toList 0 w cs te fr hh (oneCells_rel hva hro.2) (by simp only [Array.length_toList]; omega) (hfr hro.1)
          have hov2 := loadCells_sound (P := P) h hl hold
          obtain ⟨oarr2, hor2, hov2, hos2⟩ := hov2
          have hol := hov2.length
          simp only [Array.length_toList] at hol
          have hnone : σ H.next = none := by
            cases e : σ H.next with
            | none => rfl
            | some m => exact absurd (h.dom _ _ e) (Nat.lt_irrefl _)
          have hold3 := hold
          unfold loadCellsA at hold3
          rw [hblk] at hold3
          simp only [Bool.cond_eq_ite, Nat.ble_eq] at hold3
          split at hold3
          rotate_left
          · cases hold3
          rename_i hrow
          simp only [Option.some.injEq] at hold3
          let l2 : Loc := ⟨l.r, l.base + o, l.size⟩
          obtain ⟨g1, g2⟩ := rebase_rel (w' := w') h hl hwr (.cells (Row.ofList (old ++ new)) false) l2 rfl hsz' ho hout ht hoth (by
            simp only [BRel]
            refine ⟨l2, _, te, fr, by simp [Sub.add], hh', by rw [size_setArr]; exact hls, ?_, ?_, fun _ j hj => hfr hro.1 j (by rwa [size_setArr] at hj)⟩
            · rw [size_setArr]
              simp only [Row.ofList, List.length_append, l2]
              omega
            · intro j hj
              have hj' : j < (old ++ new).length := hj
              rw [Row.get_ofList _ j hj', Nat.add_zero, get_setArr _ _ _ _ (by simp only [Array.length_toList]; omega)]
              simp only [l2, Array.length_toList]
              simp only [List.length_append] at hj'
              by_cases hjo : j < old.length
              · rw [if_neg (by omega)]
                have hc := hcell (o + j) (by omega)
                obtain ⟨u, hu1, hu2⟩ := hc
                refine ⟨u, by rw [← hu1]; congr 1; omega, VRel.mono (Sub.le_add hnone) _ _ ?_⟩
                have : (old ++ new).getD j .junk = row.get (o + j) := by
                  rw [← hold3] at hjo ⊢
                  simp only [List.length_map, List.length_range] at hjo
                  simp [List.getD_eq_getElem?_getD, List.getElem?_append, hjo]
                rw [this]; exact hu2
              · rw [if_pos (by omega)]
                have hx : new[j - old.length]? = some ((old ++ new).getD j .junk) := by
                  simp only [List.getD_eq_getElem?_getD, List.getElem?_append, hjo, if_false]
                  rw [List.getElem?_eq_getElem (by omega)]; simp
                obtain ⟨y, hy, hr⟩ := hva.get _ _ hx
                refine ⟨y, ?_, VRel.mono (Sub.le_add hnone) _ _ hr⟩
                rw [← hy]; congr 1; omega)
          refine ⟨.slice (some ⟨l.r, l.base + o, none⟩) (sLen + n) c', w', _, ?_, g2, g1, ?_⟩
          · rw [append_in ha0 ha1 hu hux hi hb hsrc hfit]
            simp only [hadd, Sem.run_bind, hr, Result.andThen_ok, Sem.run_pure]
          · simp only [VRel]
            refine ⟨l2, c', by rw [AH.id_new, AH.next_put]; simp [Sub.add], by simp [l2], hfit, by simp, fun _ => by simp [l2]; exact hlsz⟩
        · obtain ⟨k1, k2⟩ := kill_rel (den := den) i h (h.dom _ _ hl)
          obtain ⟨rv, w', σ', hr, hx1, hh1, hv1⟩ := newcase _ k1 hfit
          exact ⟨rv, w', σ', hr, k2.trans hx1, hh1, hv1⟩
  · cases e

end
end Go.Am

namespace Go.Am
section
variable {N : Type} {D : Dom N} {den : N → Int} {P : Program} {σ : Sub} {H : AH N} {w : World}

theorem copyA_sound (hD : DomOk D den) (h : HRel den σ H w) {ats : Array TypeId} {s x v : AV N} {H' : AH N} (e : copyA P D H ats s x = some (v, H')) {rs rx : Value} (hs : VRel den σ s rs) (hx : VRel den σ x rx) (ty : TypeId) :
    VRun den P σ H w (Builtin.copy_ ats ty #[rs, rx]) v H' := by
  unfold copyA at e
  split at e
  rotate_left
  · cases e
  rename_i dType ha0
  split at e
  rotate_left
  · cases e
  rename_i elem hu
  split at e
  rotate_left
  · cases e
  rename_i es sn dn hes hsn hdn
  simp only at e
  split at e
  · cases e
  rename_i cells hcells
  obtain ⟨arr, hr, hv, hsz⟩ := firstCellsA_sound (P := P) hD h hcells hx
  split at e
  · rename_i i o dl dc ex es'
    simp only [nbeq, Bool.cond_decide] at e
    split at e
    · rename_i hee
      subst hee
      simp only [VRel] at hs
      obtain ⟨l, c', hl, rfl, _⟩ := hs
      obtain ⟨H1, hst, he⟩ := Option.map_eq_some_iff.1 e
      cases he
      simp only [lenOfA, Option.some.injEq] at hdn
      subst hdn
      obtain ⟨w', hr', hh, hext⟩ := storeCells_sound (P := P) h hl hv hst
      refine ⟨goInt (Nat.min sn dl), w', σ, ?_, hext, hh, by simp [VRel, goInt, hD.lit]⟩
      simp only [Builtin.copy_, ha0, List.getElem?_toArray, List.getElem?_cons_zero, List.getElem?_cons_succ, Sem.run_bind, run_underlying hu, Result.andThen_ok, lenOfA_sound hsn hx, run_sizeT hes, hr, hr', Sem.run_pure]
    · cases e
  · simp only [nbeq, Bool.cond_decide] at e
    split at e
    · rename_i hn0
      cases e
      simp only [VRel] at hs
      subst hs
      simp only [lenOfA, Option.some.injEq] at hdn
      subst hdn
      refine VRun.same h (rv := goInt (Nat.min sn 0)) ?_ (by simp [VRel, goInt, hD.lit])
      simp only [Builtin.copy_, ha0, List.getElem?_toArray, List.getElem?_cons_zero, List.getElem?_cons_succ, Sem.run_bind, run_underlying hu, Result.andThen_ok, lenOfA_sound hsn hx, run_sizeT hes, hr, Sem.run_pure]
    · cases e
  · cases e

def NotRow (o : Obj) : Prop := ∀ c e f, o ≠ .cells c e f

theorem run_setObj {w : World} {r : Nat} {o o' : Obj} (h : w.heap[r]? = some o') (hn : NotRow o') : (setObj r o).run P w = .ok () { w with heap := w.heap.setIfInBounds r o } := by
  cases o' <;> first | exact (hn _ _ _ rfl).elim | simp [setObj, Sem.run, h]

theorem run_getObj {w : World} {r : Nat} {o : Obj} (h : w.heap[r]? = some o) (hn : NotRow o) : (getObj r).run P w = .ok o w := by
  cases o <;> first | exact (hn _ _ _ rfl).elim | simp [getObj, Sem.run, h]

theorem notRow_map {es : Array MapEntry} {c : Nat} : NotRow (.map es c) := by intro _ _ _ h; cases h
theorem notRow_iter {a : Option Nat} {b : Nat} {c : Array Nat} {d : Nat} : NotRow (.mapIter a b c d) := by intro _ _ _ h; cases h
theorem notRow_loop {a : Loop} : NotRow (.loop a) := by intro _ _ _ h; cases h
theorem notRow_deferred {a} : NotRow (.deferred a) := by intro _ _ _ h; cases h

/-- an object that is one block's is written. -/
theorem setObj_rel (h : HRel den σ H w) {i : Nat} {l : Loc} (hl : σ i = some l) (hw : (H.blk i).wr = true) {o' : Obj} (ho : w.heap[l.r]? = some o') (hn : NotRow o') (o : Obj) (b : ABlk N)
    (hb : ∀ w' : World, w'.heap[l.r]? = some o → BRel den σ i w' b) :
    ∃ w', (setObj l.r o).run P w = .ok () w' ∧ HRel den σ (H.put i b) w' ∧ Ext σ H w σ (H.put i b) w' := by
  have hlt := h.bnd _ _ hl
  refine ⟨_, run_setObj ho hn, ?_⟩
  refine put_rel h hl hw (by simp) rfl rfl rfl (fun r hr => ?_) (hb _ (by simp [hlt]))
  simp only [Array.getElem?_setIfInBounds]
  rw [if_neg (by omega)]

theorem clearA_sound (hD : DomOk D den) (h : HRel den σ H w) {ats : Array TypeId} {x v : AV N} {H' : AH N} (e : clearA P D H ats x = some (v, H')) {rx : Value} (hx : VRel den σ x rx) (ty : TypeId) :
    VRun den P σ H w (Builtin.clear_ ats ty #[rx]) v H' := by
  have ht : VRel den σ (AV.tuple [] : AV N) (.tuple #[]) := by simp [VRel, VRels]
  unfold clearA at e
  split at e
  rotate_left
  · cases e
  rename_i t ha0
  split at e
  · rename_i hu; cases e; simp only [VRel] at hx; subst hx
    refine VRun.same h (rv := .tuple #[]) ?_ ht
    simp [Builtin.clear_, ha0, run_underlying hu]
  · rename_i hu; cases e; simp only [VRel] at hx; subst hx
    refine VRun.same h (rv := .tuple #[]) ?_ ht
    simp [Builtin.clear_, ha0, run_underlying hu]
  · rename_i hu; cases e; simp only [VRel] at hx; obtain ⟨a, c, rfl⟩ := hx
    refine VRun.same h (rv := .tuple #[]) ?_ ht
    simp [Builtin.clear_, ha0, run_underlying hu]
  · rename_i r hu
    split at e
    · rename_i es clock hb
      cases e
      simp only [VRel] at hx
      obtain ⟨l, hl, rfl⟩ := hx
      have hbk := h.blk r
      rw [hb] at hbk
      simp only [BRel] at hbk
      obtain ⟨l', es', hl', hh, _⟩ := hbk
      rw [hl] at hl'; cases hl'
      obtain ⟨w', hr, h1, h2⟩ := setObj_rel (P := P) h hl (by rw [hb]; rfl) hh notRow_map (.map #[] clock) (.map [] clock) (fun w' hw' => by
        simp only [BRel]; exact ⟨l, #[], hl, hw', by simp [ERels]⟩)
      refine ⟨.tuple #[], w', σ, ?_, h2, h1, ht⟩
      simp [Builtin.clear_, ha0, run_underlying hu, run_getObj hh notRow_map, hr]
    · cases e
  · rename_i elem i o n c ex es hu
    split at e
    · rename_i z hz
      simp only [nbeq, Bool.cond_decide] at e
      split at e
      · rename_i hzl
        simp only [VRel] at hx
        obtain ⟨l, c', hl, rfl, _⟩ := hx
        obtain ⟨H1, hst, he⟩ := Option.map_eq_some_iff.1 e
        cases he
        obtain ⟨rz, hrz, hvz⟩ := zeroV_sound (P := P) (σ := σ) hD hz w
        have hcr := cells_rel hvz (zeroV_notJunk hz)
        have hlen := hcr.length
        simp only [Array.length_toList] at hlen
        have hrep := rep_rel hcr n (n * rz.cells.size) rfl
        obtain ⟨w', hr', hh, hext⟩ := storeCells_sound (P := P) h hl hrep hst
        refine ⟨.tuple #[], w', σ, ?_, hext, hh, ht⟩
        cases n with
        | zero =>
          have : storeCells ⟨l.r, l.base + o, none⟩ ((Array.map (fun i => rz.cells[i % rz.cells.size]!) (Array.range (0 * rz.cells.size))).toList) = (pure () : Sem Unit) := by simp [storeCells]
          rw [this] at hr'
          simp only [Sem.run_pure, Result.ok.injEq, true_and] at hr'
          subst hr'
          simp [Builtin.clear_, ha0, run_underlying hu]
        | succ n =>
          simp only [Builtin.clear_, ha0, List.getElem?_toArray, List.getElem?_cons_zero, Sem.run_bind, run_underlying hu, Result.andThen_ok, hrz, Builtin.zeroCells, hr', Sem.run_pure]
      · cases e
    · cases e
  · cases e

theorem ERels.length : ∀ {es : List (AEnt N)} {rs : List MapEntry}, ERels den σ es rs → es.length = rs.length
  | [], rs, h => by simp only [ERels] at h; subst h; rfl
  | e :: es, rs, h => by
    simp only [ERels] at h
    obtain ⟨x, xs, rfl, _, _, _, hr⟩ := h
    simp [ERels.length hr]

theorem lenA_sound (hD : DomOk D den) (h : HRel den σ H w) {ats : Array TypeId} {x v : AV N} (e : lenA P D H ats x = some v) {rx : Value} (hx : VRel den σ x rx) (ty : TypeId) :
    ∃ rv, (Builtin.len_ ats ty #[rx]).run P w = .ok rv w ∧ VRel den σ v rv := by
  have hi : ∀ n : Nat, VRel den σ (.int .i64 (D.lit (Int.ofNat n)) : AV N) (goInt n) := fun n => by simp [VRel, goInt, hD.lit]
  unfold lenA at e
  split at e
  rotate_left
  · cases e
  rename_i t ha0
  split at e
  · rename_i s hu; cases e; simp only [VRel] at hx; obtain ⟨rfl, _⟩ := hx
    refine ⟨goInt s.length, ?_, hi _⟩
    simp only [Builtin.len_, ha0, List.getElem?_toArray, List.getElem?_cons_zero, Sem.run_bind, run_underlying hu, Result.andThen_ok, Sem.run_pure]
    congr 2
    show (((s.map UInt8.ofNat).toArray).size : Int) = _
    simp
  · rename_i n _ hu; cases e
    refine ⟨goInt n, ?_, hi _⟩
    simp only [Builtin.len_, ha0, List.getElem?_toArray, List.getElem?_cons_zero, Sem.run_bind, run_underlying hu, Result.andThen_ok]
    cases rx <;> rfl
  · rename_i arr hu
    split at e
    · rename_i n _ hua; cases e
      refine ⟨goInt n, ?_, hi _⟩
      simp only [Builtin.len_, ha0, List.getElem?_toArray, List.getElem?_cons_zero, Sem.run_bind, run_underlying hu, Result.andThen_ok]
      cases rx <;> simp only [Sem.run_bind, run_underlying hua, Result.andThen_ok, Sem.run_pure]
    · cases e
  · rename_i n c ex es hu; cases e; simp only [VRel] at hx; obtain ⟨l, c', hl, rfl, _⟩ := hx
    exact ⟨_, by simp only [Builtin.len_, ha0, List.getElem?_toArray, List.getElem?_cons_zero, Sem.run_bind, run_underlying hu, Result.andThen_ok, Sem.run_pure], hi _⟩
  · rename_i hu; cases e; simp only [VRel] at hx; subst hx
    exact ⟨_, by simp only [Builtin.len_, ha0, List.getElem?_toArray, List.getElem?_cons_zero, Sem.run_bind, run_underlying hu, Result.andThen_ok, Sem.run_pure], hi 0⟩
  · rename_i hu; cases e; simp only [VRel] at hx; obtain ⟨a, c, rfl⟩ := hx
    exact ⟨_, by simp only [Builtin.len_, ha0, List.getElem?_toArray, List.getElem?_cons_zero, Sem.run_bind, run_underlying hu, Result.andThen_ok, Sem.run_pure], hi 0⟩
  · rename_i hu; cases e; simp only [VRel] at hx; subst hx
    exact ⟨goInt 0, by simp only [Builtin.len_, ha0, List.getElem?_toArray, List.getElem?_cons_zero, Sem.run_bind, run_underlying hu, Result.andThen_ok, Sem.run_pure], hi 0⟩
  · rename_i r hu
    split at e
    · rename_i es clock hb
      cases e
      simp only [VRel] at hx
      obtain ⟨l, hl, rfl⟩ := hx
      have hbk := h.blk r
      rw [hb] at hbk
      simp only [BRel] at hbk
      obtain ⟨l', es', hl', hh, hes⟩ := hbk
      rw [hl] at hl'; cases hl'
      have hlen := hes.length
      refine ⟨goInt es'.size, ?_, ?_⟩
      · simp only [Builtin.len_, ha0, List.getElem?_toArray, List.getElem?_cons_zero, Sem.run_bind, run_underlying hu, Result.andThen_ok, run_getObj hh notRow_map, Sem.run_pure]
      · simp only [Array.length_toList] at hlen
        rw [hlen]; exact hi _
    · cases e
  · cases e

theorem foldMM_sound (hD : DomOk D den) (lt : Bool) (f : Value → Value → Sem Value) (hf : f = bif lt then Builtin.min2 else Builtin.max2) : ∀ (r : List (AV N)) (x v : AV N) (e : foldMM D lt x r = some v) (rx : Value) (rr : List Value) (_ : VRel den σ x rx) (_ : VRels den σ r rr) (w : World),
    ∃ rv, (rr.foldlM f rx).run P w = .ok rv w ∧ VRel den σ v rv
  | [], x, v, e, rx, rr, hx, hr, w => by
    simp only [foldMM, Option.some.injEq] at e
    subst e
    simp only [VRels] at hr
    subst hr
    exact ⟨rx, by simp, hx⟩
  | y :: r, x, v, e, rx, rr, hx, hr, w => by
    simp only [VRels] at hr
    obtain ⟨ry, rs, rfl, hy, hr⟩ := hr
    rw [foldMM] at e
    split at e
    · rename_i z hz
      unfold minmaxA at hz
      split at hz
      · rename_i k a k' b
        simp only [Bool.cond_eq_ite] at hz
        split at hz
        · rename_i hk
          have hk := eq_of_beq hk
          subst hk
          obtain ⟨c, hc, rfl⟩ := Option.map_eq_some_iff.1 hz
          simp only [VRel] at hx hy
          subst hx; subst hy
          simp only [← Bool.cond_eq_ite] at e
          have step : (f (.int k (den a)) (.int k (den b))).run P w = .ok (.int k (den (bif c then b else a))) w := by
            subst hf
            cases lt with
            | true =>
              have := hD.cmpLt _ _ _ hc
              cases c <;> simp only [Bool.false_eq_true, false_iff, true_iff, Int.not_lt] at this <;> simp only [cond_true, Builtin.min2, Sem.run_pure, cond_false] <;> congr 2 <;> split <;> first | rfl | omega
            | false =>
              have := hD.cmpGt _ _ _ hc
              cases c <;> simp only [Bool.false_eq_true, false_iff, true_iff, Int.not_lt, gt_iff_lt] at this <;> simp only [cond_false, cond_true, Builtin.max2, Sem.run_pure] <;> congr 2 <;> split <;> first | rfl | omega
          obtain ⟨rv, hrv, hv⟩ := foldMM_sound hD lt f hf r _ v e (.int k (den (bif c then b else a))) rs (by simp [VRel]) hr w
          exact ⟨rv, by rw [List.foldlM_cons, Sem.run_bind, step, Result.andThen_ok, hrv], hv⟩
        · cases hz
      · cases hz
    · cases e

end
end Go.Am
