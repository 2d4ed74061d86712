/-
  The runner's operations are sound.
-/
import Derived.Test.YtiekfipjbmdkpaaGreatDoorSxa
import Derived.Laws.StructEq
import Derived.Deep.AppendSrc
import Derived.Deep.Upon
import Derived.Laws.BytesString
import Derived.Laws.MakeOwn
import Derived.MapKept
import Derived.Lib.UnsafeStr
noncomputable section
set_option linter.unusedVariables false
set_option linter.unusedSimpArgs false
namespace Go.Sx
open Go.RowKit

-- ------------------------------------------------------------------ integers
theorem wrap_small {k : IntKind} {m : Nat} (hm : m ≤ top k) : k.wrap (m : Int) = (m : Int) := by
  unfold IntKind.wrap
  cases k <;> simp [top] at hm <;> simp [IntKind.bits, IntKind.signed] <;> omega
/-- The exponent of a kind's bound. -/
def pw : IntKind → Nat
  | .i8 => 7 | .i16 => 15 | .i32 => 31 | .i64 => 63 | .u8 => 8 | .u16 => 16 | .u32 => 32 | .u64 => 64
theorem top_pw (k : IntKind) (m : Nat) : m ≤ top k ↔ m < 2 ^ pw k := by cases k <;> simp [top, pw] <;> omega
theorem pw_bits (k : IntKind) : 2 ^ pw k ≤ 2 ^ k.bits := by cases k <;> simp [pw, IntKind.bits]
theorem ofInt_toNat {k : IntKind} {m : Nat} (hm : m ≤ top k) : (BitVec.ofInt k.bits (m : Int)).toNat = m := by
  have h1 := (top_pw k m).1 hm
  have h2 := pw_bits k
  rw [BitVec.ofInt_natCast, BitVec.toNat_ofNat, Nat.mod_eq_of_lt (by omega)]
section
variable {P : Program} {E : Env} {nx : Nat} {w : World}
theorem bitsI_run {op : BinOp} {k : IntKind} {a b r : Int} (h : bitsI op k a b = some r) : (Op.intBits op k a b).run P w = .ok (.int k r) w := by
  unfold bitsI at h
  simp only [] at h
  split at h
  · rename_i m n
    split at h
    · rename_i h1 h2
      have hm : m ≤ top k := Nat.le_of_ble_eq_true h1
      have hn : n ≤ top k := Nat.le_of_ble_eq_true h2
      have em := ofInt_toNat hm
      have en := ofInt_toNat hn
      split at h
      · injection h with h
        subst h
        have : (m &&& n) ≤ top k := Nat.le_trans (Nat.and_le_left) hm
        simp only [Op.intBits, Sem.run_pure, BitVec.toNat_and]
        simp only [Int.ofNat_eq_natCast, em, en]
        rw [wrap_small this]
        rfl
      · injection h with h
        subst h
        have : (m ||| n) ≤ top k := (top_pw k _).2 (Nat.or_lt_two_pow ((top_pw k m).1 hm) ((top_pw k n).1 hn))
        simp only [Op.intBits, Sem.run_pure, BitVec.toNat_or]
        simp only [Int.ofNat_eq_natCast, em, en]
        rw [wrap_small this]
        rfl
      · injection h with h
        subst h
        have : (m ^^^ n) ≤ top k := (top_pw k _).2 (Nat.xor_lt_two_pow ((top_pw k m).1 hm) ((top_pw k n).1 hn))
        simp only [Op.intBits, Sem.run_pure, BitVec.toNat_xor]
        simp only [Int.ofNat_eq_natCast, em, en]
        rw [wrap_small this]
        rfl
      · split at h <;> first | (injection h with h; subst h; simp [Op.intBits]; done) | cases h
    · split at h <;> first | (injection h with h; subst h; simp [Op.intBits]; done) | cases h
  · split at h <;> first | (injection h with h; subst h; simp [Op.intBits]; done) | cases h
theorem arithI_run {op : BinOp} {k : IntKind} {a b r : Int} (h : arithI op k a b = some r) (t : Nat) (hop : op ≠ .shl ∧ op ≠ .shr) : (binOp op t (.int k a) (.int k b)).run P w = .ok (.int k r) w := by
  unfold arithI at h
  cases op <;> simp only [] at h <;> first | (cases h; done) | skip
  case add => injection h with h; subst h; simp [binOp, Op.intArith, wrapI_eq]
  case sub => injection h with h; subst h; simp [binOp, Op.intArith, wrapI_eq]; rfl
  case mul => injection h with h; subst h; simp [binOp, Op.intArith, wrapI_eq]
  case quo =>
    split at h
    · cases h
    · rename_i hb
      injection h with h
      subst h
      rw [eqI_eq, decide_eq_false_iff_not] at hb
      simp [binOp, Op.intDiv, wrapI_eq, hb]
  case rem =>
    split at h
    · cases h
    · rename_i hb
      injection h with h
      subst h
      rw [eqI_eq, decide_eq_false_iff_not] at hb
      simp [binOp, Op.intDiv, hb]
  case and => simpa [binOp] using bitsI_run h
  case or => simpa [binOp] using bitsI_run h
  case xor => simpa [binOp] using bitsI_run h
  case andNot => simpa [binOp] using bitsI_run h
theorem cmpI_run {op : BinOp} {k : IntKind} {a b : Int} {r : Bool} (h : cmpI op a b = some r) (t : Nat) : (binOp op t (.int k a) (.int k b)).run P w = .ok (.bool r) w := by
  unfold cmpI at h
  cases op <;> simp only [] at h <;> first | (cases h; done) | skip
  case eql => injection h with h; subst h; simp [binOp, Op.intCmp, eqI_eq]; rfl
  case neq => injection h with h; subst h; simp [binOp, Op.intCmp, eqI_eq, notB_eq]; rfl
  case lss => injection h with h; subst h; simp [binOp, Op.intCmp, ltI_eq]
  case leq => injection h with h; subst h; simp [binOp, Op.intCmp, ltI_eq, notB_eq, ← decide_not, Int.not_lt]
  case gtr => injection h with h; subst h; simp [binOp, Op.intCmp, ltI_eq]
  case geq => injection h with h; subst h; simp [binOp, Op.intCmp, ltI_eq, notB_eq, ← decide_not, Int.not_lt]
theorem shiftI_run {op : BinOp} {k k' : IntKind} {a b r : Int} (h : shiftI op k a b = some r) : (Op.shift op k a k' b).run P w = .ok (.int k r) w := by
  unfold shiftI at h
  split at h
  · cases h
  · rename_i y
    have hy : ¬ ((y : Int) < 0) := by omega
    split at h
    · injection h with h
      subst h
      simp [Op.shift, wrapI_eq, hy]
    · injection h with h
      subst h
      simp [Op.shift, hy]
    · cases h

-- ------------------------------------------------------------------ equality
theorem eqScal_bool {a b r : Bool} (h : eqScal (.bool a) (.bool b) = some r) : r = (a == b) := by
  cases a <;> cases b <;> simp [eqScal] at h <;> subst h <;> rfl
/-- The shape of what a reference reads as. -/
def shapeA : AV → Value → Prop
  | .ptr _ _, x => ∃ p, x = .pointer (some p)
  | .nilp, x => x = .pointer none
  | .slice .., x => ∃ p : Addr × Nat × Nat, x = .slice (some p.1) p.2.1 p.2.2
  | .emp .., x => ∃ p : Addr × Nat × Nat, x = .slice (some p.1) p.2.1 p.2.2
  | .nilsl, x => x = .slice none 0 0
  | .map _, x => ∃ p, x = .map (some p)
  | .nilmap, x => x = .map none
  | .fn .., x => ∃ p : Fn × Array Value × Array Value, x = .func p.1 p.2.1 p.2.2
  | .nilfn, x => x = .nilFunc
  | _, _ => True
theorem VR.shape {v : AV} {x : Value} (h : VR E nx v x) : shapeA v x := by
  cases v with
  | slice i o l c =>
    cases c <;> simp only [VR] at h
    · exact ⟨(_, _, _), h.2⟩
    · exact ⟨(_, _, _), h.2.2⟩
  | emp => simp only [VR] at h; exact ⟨(_, _, _), h.2.2⟩
  | ptr => simp only [VR] at h; exact ⟨_, h.2⟩
  | map => simp only [VR] at h; exact ⟨_, h.2⟩
  | fn => simp only [VR] at h; obtain ⟨_, _, _, _, rfl⟩ := h; exact ⟨(_, _, _), rfl⟩
  | nilp => simpa [VR, shapeA] using h
  | nilsl => simpa [VR, shapeA] using h
  | nilmap => simpa [VR, shapeA] using h
  | nilfn => simpa [VR, shapeA] using h
  | _ => trivial
theorem eqRef_run {k : TypeDesc} {x y : AV} {r : Bool} (h : eqRef k x y = some r) {t : Nat} (hu : P.underlying t = some k) {a b : Value} (ha : VR E nx x a) (hb : VR E nx y b) (d : Nat) :
    (Op.equalIn (d + 1) t a b).run P w = .ok r w := by
  unfold eqRef at h
  split at h
  case h_1 =>
    rename_i p q
    simp only [VR] at ha hb
    subst ha hb
    rw [run_equalIn_bool w d t _ _ hu, eqScal_bool h]
  all_goals (first | (injection h with h; subst h) | (cases h; done))
  all_goals (replace ha := ha.shape; replace hb := hb.shape; simp only [shapeA] at ha hb)
  all_goals (first | subst ha | (obtain ⟨_, rfl⟩ := ha))
  all_goals (first | subst hb | (obtain ⟨_, rfl⟩ := hb))
  all_goals (simp [Op.equalIn, run_underlying hu])
theorem equalA_run : ∀ (d D : Nat) (t : Nat) (x y : AV) (r : Bool), d ≤ D → equalA P d t x y = some r → ∀ {a b : Value}, VR E nx x a → VR E nx y b → ∀ w, (Op.equalIn D t a b).run P w = .ok r w
  | 0, _, _, _, _, _, _, h, _, _, _, _, _ => by simp [equalA] at h
  | d + 1, 0, _, _, _, _, hd, _, _, _, _, _, _ => by omega
  | d + 1, D + 1, t, x, y, r, hd, h, a, b, ha, hb, w => by
    unfold equalA at h
    split at h
    · rename_i fs hu
      split at h
      · rename_i xs ys
        split at h
        · cases h
        · rename_i hs
          simp only [VR] at ha hb
          obtain ⟨us, ha, rfl⟩ := ha
          obtain ⟨vs, hb, rfl⟩ := hb
          have hfo : P.fieldsOf t = fs := by simp [Program.fieldsOf, hu]
          rw [run_equalIn_struct w D t _ _ (by rw [hfo]; exact hu) hs, hfo]
          have key : ∀ (l : List Field) (w : World), equalA.go P (equalA P d) xs ys l = some r → (Op.eqFields D us.toArray vs.toArray l).run P w = .ok r w := by
            intro l
            induction l with
            | nil => intro w hl; simp [equalA.go] at hl; subst hl; rfl
            | cons f l ih =>
              intro w hl
              simp only [equalA.go] at hl
              by_cases hn : f.name = "_"
              · rw [if_pos hn] at hl
                simp only [Op.eqFields, hn]
                simpa using ih w hl
              · rw [if_neg hn] at hl
                simp only [Op.eqFields]
                rw [if_pos hn]
                cases hp : partA P f.type xs f.offset with
                | none => rw [hp] at hl; simp at hl
                | some u =>
                  cases hq : partA P f.type ys f.offset with
                  | none => rw [hp, hq] at hl; simp at hl
                  | some v =>
                    rw [hp, hq] at hl
                    simp only [] at hl
                    obtain ⟨u', hu1, hu2⟩ := partA_run hp ha w
                    obtain ⟨v', hv1, hv2⟩ := partA_run hq hb w
                    cases he : equalA P d f.type u v with
                    | none => rw [he] at hl; simp at hl
                    | some q =>
                      rw [he] at hl
                      have := equalA_run d D f.type u v q (by omega) he hu2 hv2 w
                      cases q with
                      | true =>
                        simp only [] at hl
                        simp [hu1, hv1, this, ih w hl]
                      | false =>
                        simp only [] at hl
                        injection hl with hl
                        subst hl
                        simp [hu1, hv1, this]
          exact key _ w h
      · cases h
    · rename_i hu
      split at h
      · rename_i p q
        simp only [VR] at ha hb
        subst ha hb
        rw [run_equalIn_bool w D t _ _ hu, eqScal_bool h]
      · cases h
    · rename_i kk hu
      split at h
      · rename_i k1 p k2 q
        simp only [VR] at ha hb
        subst ha hb
        simp only [eqScal] at h
        split at h
        · rename_i hk
          injection h with h
          subst h
          have := kindEq_eq hk
          subst this
          rw [run_equalIn_int w D t _ _ _ _ hu, eqI_eq]
          rfl
        · cases h
      · cases h
    · rename_i hu
      split at h
      · simp only [VR] at ha hb
        subst ha hb
        simp only [eqScal] at h
        injection h with h
        subst h
        rw [strV, strV, run_equalIn_string w D t _ _ hu, eqS_eq]
        simp
      · cases h
    · rename_i k _ _ _ _ hu
      exact eqRef_run h hu ha hb D
    · cases h

theorem eqGuard_run {op : BinOp} (hop : op = .eql ∨ op = .neq) {t : Nat} (ox oy : Operand) (x y : Value) (hn : x ≠ .nilIface) (hm : ∀ c, x = .agg c → P.eqGuardType P.depth t = false) : (eqGuard op t ox oy x y).run P w = .ok () w := by
  rcases hop with rfl | rfl <;> cases x <;> first | (simp [eqGuard]; done) | (exact absurd rfl hn) | (cases y <;> simp [eqGuard, hm _ rfl])
def tagV : Value → Nat
  | .int .. => 1 | .float .. => 2 | .complex .. => 3 | .string _ => 4 | _ => 0
def tagA : AV → Nat
  | .int .. => 1 | .str .. => 4 | _ => 0
theorem VR.tag {v : AV} {x : Value} (h : VR E nx v x) : tagV x = tagA v := by
  cases v with
  | slice i o l c => cases c <;> simp only [VR] at h <;> first | (rw [h.2]; rfl) | (rw [h.2.2]; rfl)
  | ptr | emp | map => simp only [VR] at h; first | (rw [h.2]; rfl) | (rw [h.2.2]; rfl)
  | fn => simp only [VR] at h; obtain ⟨_, _, _, _, rfl⟩ := h; rfl
  | ifc => simp only [VR] at h; obtain ⟨_, _, rfl⟩ := h; rfl
  | tup => simp only [VR] at h; obtain ⟨_, _, rfl⟩ := h; rfl
  | agg => simp only [VR] at h; obtain ⟨_, _, rfl⟩ := h; rfl
  | str => simp only [VR, strV] at h; subst h; rfl
  | _ => simp only [VR] at h; subst h; rfl
theorem binOp_ref (t : Nat) (x y : Value) (h : ¬ (tagV x = tagV y ∧ tagV x ≠ 0)) :
    binOp .eql t x y = (do pure (.bool (← Op.equal t x y))) ∧ binOp .neq t x y = (do pure (.bool (!(← Op.equal t x y)))) := by
  cases x <;> cases y <;> first | exact ⟨rfl, rfl⟩ | (simp [tagV] at h; done)
theorem VR.noNil {v : AV} {x : Value} (h : VR E nx v x) (hv : v ≠ .nilifc) : x ≠ .nilIface := by
  intro hx
  subst hx
  cases v with
  | slice i o l c => cases c <;> simp [VR] at h
  | nilifc => exact hv rfl
  | _ => simp [VR, strV] at h
theorem VR.isAgg {v : AV} {c : Array Value} (h : VR E nx v (.agg c)) : isAggV v = true := by
  cases v with
  | agg => rfl
  | slice i o l c => cases c <;> simp [VR] at h
  | _ => simp [VR, strV] at h
theorem opBin_sound {op : BinOp} {t : Nat} {v j : AV} {x y : Value} (hx : VR E nx v x) (hy : VR E nx j y) {e : Eff} (h : opBin P op t v j = some e) (ox oy : Operand) :
    GivesV P E nx w e ((do eqGuard op t ox oy x y; binOp op t x y : Sem Value).run P w) := by
  have scal : ∀ {k k' : IntKind} {a b : Int}, (eqGuard op t ox oy (.int k a) (.int k' b)).run P w = .ok () w := by
    intro k k' a b
    cases op <;> simp [eqGuard]
  unfold opBin at h
  split at h
  · rename_i k a k' b
    simp only [VR] at hx hy
    subst hx hy
    rw [Sem.run_bind, scal, Result.andThen_ok]
    split at h
    · split at h
      · rename_i n hn
        injection h with h
        subst h
        exact GivesV.pure (x := .int k n) (by simpa [binOp] using shiftI_run hn) (by simp [VR])
      · cases h
    · split at h
      · rename_i n hn
        injection h with h
        subst h
        exact GivesV.pure (x := .int k n) (by simpa [binOp] using shiftI_run hn) (by simp [VR])
      · cases h
    · rename_i hns1 hns2
      split at h
      · rename_i hk
        have := kindEq_eq hk
        subst this
        split at h
        · rename_i n hn
          injection h with h
          subst h
          exact GivesV.pure (x := .int k n) (arithI_run hn t ⟨hns1, hns2⟩) (by simp [VR])
        · split at h
          · rename_i r hr
            injection h with h
            subst h
            exact GivesV.pure (x := .bool r) (cmpI_run hr t) (by simp [VR])
          · cases h
      · cases h
  · rename_i la a lb b
    simp only [VR] at hx hy
    subst hx hy
    have hguard : (eqGuard op t ox oy (strV la a) (strV lb b)).run P w = .ok () w := by
      cases op <;> simp [eqGuard, strV]
    rw [Sem.run_bind, hguard, Result.andThen_ok]
    split at h
    · rename_i u hu
      injection h with h
      subst h
      obtain ⟨z, h1, h2⟩ := strBin_run (P := P) (E := E) (nx := nx) (w := w) hu
      refine GivesV.pure (x := z) ?_ h2
      have : binOp op t (strV la a) (strV lb b) = Op.stringOp op ⟨(bytesL la a).toArray⟩ ⟨(bytesL lb b).toArray⟩ := by
        cases op <;> rfl
      rw [this]
      exact h1
    · cases h
  · rename_i hni hns
    have hguard : guardOk P t v = true → (op = .eql ∨ op = .neq) → (eqGuard op t ox oy x y).run P w = .ok () w := by
      intro hg hop
      refine eqGuard_run hop ox oy x y (hx.noNil ?_) ?_
      · rintro rfl
        simp [guardOk, isAggV] at hg
      · rintro c rfl
        simpa [guardOk, hx.isAgg, notB_eq] using hg
    have hbin : ∀ r, equalA P 8 t v j = some r → (binOp .eql t x y).run P w = .ok (.bool r) w ∧ (binOp .neq t x y).run P w = .ok (.bool (notB r)) w := by
      intro r hr
      have := equalA_run (E := E) (nx := nx) 8 10000 t v j r (by omega) hr hx hy w
      have hne := binOp_ref t x y (by
        rw [hx.tag, hy.tag]
        rintro ⟨h1, h2⟩
        cases v <;> simp [tagA] at h2 <;> cases j <;> simp [tagA] at h1
        · exact hni _ _ _ _ rfl rfl
        · exact hns _ _ _ _ rfl rfl)
      rw [hne.1, hne.2]
      simp [Op.equal, Op.maxDepth, this, notB_eq]
    split at h
    · split at h
      · rename_i r hg hr
        injection h with h
        subst h
        rw [Sem.run_bind, hguard hg (.inl rfl), Result.andThen_ok]
        exact GivesV.pure (hbin r hr).1 (by simp [VR])
      · cases h
    · split at h
      · rename_i r hg hr
        injection h with h
        subst h
        rw [Sem.run_bind, hguard hg (.inr rfl), Result.andThen_ok]
        exact GivesV.pure (hbin r hr).2 (by simp [VR])
      · cases h
    · cases h

theorem opUn_sound {op : UnOp} {v : AV} {x : Value} (hx : VR E nx v x) {e : Eff} (h : opUn op v = some e) : GivesV P E nx w e ((Op.unary op x).run P w) := by
  unfold opUn at h
  split at h
  · injection h with h
    subst h
    simp only [VR] at hx
    subst hx
    rename_i b
    exact GivesV.pure (x := .bool !b) (by simp [Op.unary]) (by simp [VR, notB_eq])
  · rename_i k n
    injection h with h
    subst h
    simp only [VR] at hx
    subst hx
    exact GivesV.pure (x := .int k (wrapI k (Int.sub 0 n))) (by simp [Op.unary, Op.intArith, wrapI_eq, show Int.sub 0 n = -n from Int.zero_sub n]) (by simp [VR])
  · rename_i k n
    split at h
    · rename_i r hr
      injection h with h
      subst h
      simp only [VR] at hx
      subst hx
      exact GivesV.pure (x := .int k r) (by simpa [Op.unary] using bitsI_run hr) (by simp [VR])
    · cases h
  · cases h
end
end Go.Sx

namespace Go.Sx
open Go.RowKit

section
variable {P : Program} {E : Env} {nx : Nat} {w : World}

def OVR (E : Env) (nx : Nat) : Option AV → Option Value → Prop
  | none, none => True
  | some v, some x => VR E nx v x
  | _, _ => False
theorem evO_sound {S : PT AV} {a : Act} (hS : SR E nx S a) {o : Option Operand} {r : Option AV} (h : evO S o = some r) : OVR E nx r (o.map a.eval) := by
  cases o with
  | none => simp [evO] at h; subst h; trivial
  | some x =>
    simp only [evO] at h
    split at h
    · rename_i v hv
      injection h with h
      subst h
      exact ev_sound hS hv
    · cases h
theorem bound_some {v : AV} {d i : Nat} (h : bound (some v) d = some i) {x : Value} (hx : VR E nx v x) : ∃ k, x = .int k (i : Int) := by
  unfold bound at h
  split at h
  · rename_i h'; cases h'
  · rename_i k i' h'
    injection h' with h'
    subst h'
    injection h with h
    subst h
    simp only [VR] at hx
    exact ⟨k, hx⟩
  · cases h
theorem sliceBounds_run {isS : Bool} {len cap : Nat} {lo hi mx : Option AV} {xlo xhi xmx : Option Value} (hlo : OVR E nx lo xlo) (hhi : OVR E nx hi xhi) (hmx : OVR E nx mx xmx) {a b m : Nat}
    (ha : bound lo 0 = some a) (hb : bound hi len = some b) (hm : bound mx cap = some m) (h1 : lo ≠ none → a ≤ b) (h2 : hi ≠ none → b ≤ m) (h3 : mx ≠ none → m ≤ cap) (h4 : mx ≠ none → hi ≠ none) :
    (Instr.sliceBounds isS len cap xlo xhi xmx).run P w = .ok (a, b, m) w := by
  have sb : ∀ (k : IntKind) (i y : Nat) (c : BoundsCode), i ≤ y → (Instr.sliceBound (.int k (i : Int)) y c).run P w = .ok i w := by
    intro k i y c h
    simp [Instr.sliceBound, asIntOf, h]
  cases mx with
  | none =>
    cases xmx with
    | some _ => exact hmx.elim
    | none =>
      simp [bound] at hm
      subst hm
      cases hi with
      | none =>
        cases xhi with
        | some _ => exact hhi.elim
        | none =>
          simp [bound] at hb
          subst hb
          cases lo with
          | none =>
            cases xlo with
            | some _ => exact hlo.elim
            | none => simp [bound] at ha; subst ha; simp [Instr.sliceBounds]
          | some v =>
            cases xlo with
            | none => exact hlo.elim
            | some x =>
              obtain ⟨k, rfl⟩ := bound_some ha hlo
              simp [Instr.sliceBounds, sb k a _ _ (h1 (by simp))]
      | some u =>
        cases xhi with
        | none => exact hhi.elim
        | some y =>
          obtain ⟨k', rfl⟩ := bound_some hb hhi
          have hs2 := h2 (by simp)
          cases lo with
          | none =>
            cases xlo with
            | some _ => exact hlo.elim
            | none => simp [bound] at ha; subst ha; simp [Instr.sliceBounds, sb k' b _ _ hs2]
          | some v =>
            cases xlo with
            | none => exact hlo.elim
            | some x =>
              obtain ⟨k, rfl⟩ := bound_some ha hlo
              simp [Instr.sliceBounds, sb k a _ _ (h1 (by simp)), sb k' b _ _ hs2]
  | some q =>
    cases xmx with
    | none => exact hmx.elim
    | some z =>
      obtain ⟨k'', rfl⟩ := bound_some hm hmx
      have hs3 := h3 (by simp)
      cases hi with
      | none => exact absurd rfl (h4 (by simp))
      | some u =>
        cases xhi with
        | none => exact hhi.elim
        | some y =>
          obtain ⟨k', rfl⟩ := bound_some hb hhi
          have hs2 := h2 (by simp)
          cases lo with
          | none =>
            cases xlo with
            | some _ => exact hlo.elim
            | none => simp [bound] at ha; subst ha; simp [Instr.sliceBounds, sb k' b _ _ hs2, sb k'' m _ _ hs3]
          | some v =>
            cases xlo with
            | none => exact hlo.elim
            | some x =>
              obtain ⟨k, rfl⟩ := bound_some ha hlo
              simp [Instr.sliceBounds, sb k a _ _ (h1 (by simp)), sb k' b _ _ hs2, sb k'' m _ _ hs3]

theorem sliceAt_slice {t e : Nat} (hu : P.underlying t = some (.slice e)) {A : Option Addr} {len cap n : Nat} (hn : szT P e = some n) {xlo xhi xmx : Option Value} {a b m : Nat}
    (hb : (Instr.sliceBounds true len cap xlo xhi xmx).run P w = .ok (a, b, m) w) :
    (Instr.sliceAt t (.slice A len cap) xlo xhi xmx).run P w = .ok (.slice (if m = a then A else A.map (·.add (a * n))) (b - a) (m - a)) w := by
  simp [Instr.sliceAt, run_underlying hu, Instr.slice, hb, szT_run hn]

theorem mxOk_spec {mx hi : Option AV} (h : mxOk mx hi = true) : mx ≠ none → hi ≠ none := by
  intro h1 h2
  subst h2
  cases mx with
  | none => exact h1 rfl
  | some _ => simp [mxOk] at h
theorem cutK_VR {id off n a b m : Nat} (hid : id < nx) : VR E nx (cutK id off n a b m) (.slice (if m = a then some (E.addr id off) else some (E.addr id (off + a * n))) (b - a) (m - a)) := by
  unfold cutK
  split
  · rename_i h
    have : m = a := Nat.eq_of_beq_eq_true h
    rw [if_pos this]
    simp only [VR]
    exact ⟨hid, rfl⟩
  · rename_i h
    have : m ≠ a := Nat.ne_of_beq_eq_false h
    rw [if_neg this]
    simp only [VR]
    exact ⟨hid, rfl⟩

theorem opSlice_sound {t : Nat} {v : AV} {lo hi mx : Option AV} {x : Value} {xlo xhi xmx : Option Value} (hx : VR E nx v x) (hlo : OVR E nx lo xlo) (hhi : OVR E nx hi xhi) (hmx : OVR E nx mx xmx) {e : Eff}
    (h : opSlice P t v lo hi mx = some e) : GivesV P E nx w e ((Instr.sliceAt t x xlo xhi xmx).run P w) := by
  unfold opSlice at h
  split at h
  · rename_i l n
    split at h
    · rename_i a b hu ha hb
      split at h
      · rename_i h1 h2
        injection h with h
        subst h
        simp only [VR] at hx
        subst hx
        have h1' : a ≤ b := Nat.le_of_ble_eq_true h1
        have h2' : b ≤ l := Nat.le_of_ble_eq_true h2
        cases xmx with
        | some _ => exact hmx.elim
        | none =>
          have hsz : (ByteArray.mk (bytesL l n).toArray).size = l := by simp [ByteArray.size, bytesL_length]
          have hbd := sliceBounds_run (P := P) (w := w) (isS := false) hlo hhi (mx := none) (xmx := none) trivial ha hb (cap := l) rfl (fun _ => h1') (fun _ => h2') (fun h => absurd rfl h) (fun h => absurd rfl h)
          refine GivesV.pure (x := strV (b - a) (n / 256 ^ a % 256 ^ (b - a))) ?_ ?_
          · simp [Instr.sliceAt, run_underlying hu, Instr.slice, strV, hsz, hbd, ByteArray.extract_mk, bytesL_cut l n a b h2']
          · simp only [subS, VR]
            show strV (b - a) _ = strV (b - a) (n / pow8 a % pow8 (b - a))
            rw [pow8_eq, pow8_eq]
      · cases h
    · cases h
  · rename_i id off j alt
    split at h
    · rename_i el hu
      split at h
      · rename_i n a b hn ha hb
        split at h
        · rename_i ha0 hb0
          injection h with h
          subst h
          have ha1 : a = 0 := Nat.eq_of_beq_eq_true ha0
          have hb1 : b = 0 := Nat.eq_of_beq_eq_true hb0
          subst ha1 hb1
          have hx0 := hx
          simp only [VR] at hx
          obtain ⟨h1, h2, rfl⟩ := hx
          cases xmx with
          | some _ => exact hmx.elim
          | none =>
            have hbd := sliceBounds_run (P := P) (w := w) (isS := true) hlo hhi (mx := none) (xmx := none) trivial ha hb (cap := E.cap id - j) rfl (fun _ => Nat.le_refl _) (fun _ => Nat.zero_le _) (fun h => absurd rfl h) (fun h => absurd rfl h)
            refine GivesV.pure (x := .slice (some (E.addr id (if E.cap id = j then alt else off))) 0 (E.cap id - j)) ?_ hx0
            rw [sliceAt_slice hu hn hbd]
            simp [Addr.add]
        · cases h
      · cases h
    · cases h
  · split at h
    · rename_i el hu hmo
      split at h
      · rename_i n a b m hn ha hb hm
        split at h
        · rename_i ha0 hb0 hm0
          injection h with h
          subst h
          have ha1 : a = 0 := Nat.eq_of_beq_eq_true ha0
          have hb1 : b = 0 := Nat.eq_of_beq_eq_true hb0
          have hm1 : m = 0 := Nat.eq_of_beq_eq_true hm0
          subst ha1 hb1 hm1
          simp only [VR] at hx
          subst hx
          have hbd := sliceBounds_run (P := P) (w := w) (isS := true) hlo hhi hmx ha hb hm (fun _ => Nat.le_refl _) (fun _ => Nat.le_refl _) (fun _ => Nat.le_refl _) (mxOk_spec hmo)
          refine GivesV.pure (x := .slice none 0 0) ?_ (by simp [VR])
          rw [sliceAt_slice hu hn hbd]
          simp
        · cases h
      · cases h
    · cases h
  · rename_i id off len c
    split at h
    · rename_i el hu hmo
      split at h
      · rename_i n a b m hn ha hb hm
        split at h
        · rename_i h1 h2 h3
          injection h with h
          subst h
          simp only [VR] at hx
          obtain ⟨hid, rfl⟩ := hx
          have hbd := sliceBounds_run (P := P) (w := w) (isS := true) hlo hhi hmx ha hb hm (fun _ => Nat.le_of_ble_eq_true h1) (fun _ => Nat.le_of_ble_eq_true h2) (fun _ => Nat.le_of_ble_eq_true h3) (mxOk_spec hmo)
          refine GivesV.pure ?_ (cutK_VR hid)
          rw [sliceAt_slice hu hn hbd]
          simp [Env.addr_add]
        · cases h
      · cases h
    · cases h
  · rename_i id off len j
    simp only [VR] at hx
    obtain ⟨hid, hcap, rfl⟩ := hx
    split at h
    · rename_i el hu
      cases xmx with
      | some _ => exact hmx.elim
      | none =>
        split at h
        · rename_i n a b hn ha hb
          split at h
          · rename_i h1 h2
            have h1' : a ≤ b := Nat.le_of_ble_eq_true h1
            have h2' : b ≤ len := Nat.le_of_ble_eq_true h2
            have hbd := sliceBounds_run (P := P) (w := w) (isS := true) hlo hhi (mx := none) (xmx := none) trivial ha hb (cap := E.cap id - j) rfl (fun _ => h1') (fun _ => by omega) (fun h => absurd rfl h) (fun h => absurd rfl h)
            split at h
            · rename_i ha0 hal
              injection h with h
              subst h
              have h3 : a ≠ 0 := Nat.ne_of_beq_eq_false ha0
              have h4 : ¬ a < len := fun h' => by have := Nat.ble_eq_true_of_le (Nat.succ_le_of_lt h'); rw [show Nat.ble a.succ len = Nat.blt a len from rfl, hal] at this; cases this
              refine GivesV.pure (x := .slice (some (E.addr id (if E.cap id = j + a then off else off + a * n))) 0 (E.cap id - (j + a))) ?_ ?_
              · rw [sliceAt_slice hu hn hbd]
                have e1 : (E.cap id - j = a) ↔ (E.cap id = j + a) := by omega
                have e2 : b - a = 0 := by omega
                have e3 : E.cap id - j - a = E.cap id - (j + a) := by omega
                simp only [Option.map_some, Env.addr_add, e2, e3]
                by_cases hc : E.cap id = j + a
                · rw [if_pos (e1.2 hc), if_pos hc]
                · rw [if_neg (fun h => hc (e1.1 h)), if_neg hc]
              · simp only [VR]
                exact ⟨hid, by simp only [Nat.add_eq]; omega, rfl⟩
            · rename_i hne
              injection h with h
              subst h
              have h5 : a = 0 ∨ a < len := by
                rcases Nat.eq_zero_or_pos a with h0 | h0
                · exact .inl h0
                · right
                  have hb0 : Nat.beq a 0 = false := by cases a with | zero => omega | succ a => rfl
                  cases hbl : Nat.blt a len with
                  | true => exact Nat.le_of_ble_eq_true hbl
                  | false => exact (hne hb0 hbl).elim
              refine GivesV.pure (x := .slice (some (E.addr id (off + a * n))) (b - a) (E.cap id - (j + a))) ?_ ?_
              · rw [sliceAt_slice hu hn hbd]
                have e3 : E.cap id - j - a = E.cap id - (j + a) := by omega
                simp only [Option.map_some, Env.addr_add, e3]
                by_cases hc : E.cap id - j = a
                · have : a = 0 := by omega
                  subst this
                  simp
                · rw [if_neg hc]
              · simp only [VR]
                exact ⟨hid, by simp only [Nat.add_eq, Nat.sub_eq]; omega, rfl⟩
          · cases h
        · cases h
    · rename_i el q hu
      split at h
      · rename_i n a b m hmo hn ha hb hm
        split at h
        · rename_i h1 h2 h3
          injection h with h
          subst h
          have h3' : m ≤ len := Nat.le_of_ble_eq_true h3
          have hm' : bound (some q) (E.cap id - j) = some m := by
            unfold bound at hm ⊢
            split at hm <;> simp_all
          have hbd := sliceBounds_run (P := P) (w := w) (isS := true) hlo hhi hmx ha hb hm' (fun _ => Nat.le_of_ble_eq_true h1) (fun _ => Nat.le_of_ble_eq_true h2) (fun _ => by omega) (mxOk_spec hmo)
          refine GivesV.pure ?_ (cutK_VR hid)
          rw [sliceAt_slice hu hn hbd]
          simp [Env.addr_add]
        · cases h
      · cases h
    · cases h
  · rename_i id off
    simp only [VR] at hx
    obtain ⟨hid, rfl⟩ := hx
    split at h
    · rename_i c el hu hmo
      split at h
      · rename_i n a b m hn ha hb hm
        split at h
        · rename_i h1 h2 h3
          injection h with h
          subst h
          have hbd := sliceBounds_run (P := P) (w := w) (isS := false) hlo hhi hmx ha hb hm (fun _ => Nat.le_of_ble_eq_true h1) (fun _ => Nat.le_of_ble_eq_true h2) (fun _ => Nat.le_of_ble_eq_true h3) (mxOk_spec hmo)
          refine GivesV.pure ?_ (cutK_VR hid)
          simp only [Instr.sliceAt, Sem.run_bind, run_underlying hu, Result.andThen_ok, Instr.sureAddr, Sem.run_pure, hbd, szT_run hn, Env.addr_add]
          by_cases hc : m = a
          · simp [hc]
          · simp [hc]
        · cases h
      · cases h
    · cases h
  · cases h

-- ------------------------------------------------------------------ lengths
theorem opLen_sound {get : Nat → Option AObj} (hg : GR P E nx w get) {t : Nat} {types : List Nat} {v : AV} {x : Value} (hx : VR E nx v x) {e : Eff} (h : opLen P get t v = some e) (ty : Nat) :
    GivesV P E nx w e ((Builtin.len_ (t :: types).toArray ty #[x]).run P w) := by
  unfold opLen at h
  split at h
  case h_1 =>
    rename_i l n hu
    injection h with h
    subst h
    simp only [VR] at hx
    subst hx
    have hsz : (ByteArray.mk (bytesL l n).toArray).size = l := by simp [ByteArray.size, bytesL_length]
    exact GivesV.pure (x := .int .i64 l) (by simp [Builtin.len_, run_underlying hu, strV, hsz, goInt]) (by simp [VR])
  case h_2 =>
    rename_i id off l c hu
    injection h with h
    subst h
    obtain ⟨A, cp, rfl⟩ : ∃ A cp, x = .slice A l cp := by
      cases c <;> simp only [VR] at hx
      · exact ⟨_, _, hx.2⟩
      · exact ⟨_, _, hx.2.2⟩
    exact GivesV.pure (x := .int .i64 l) (by simp [Builtin.len_, run_underlying hu, goInt]) (by simp [VR])
  case h_3 =>
    rename_i hu
    injection h with h
    subst h
    simp only [VR] at hx
    subst hx
    exact GivesV.pure (x := .int .i64 0) (by simp [Builtin.len_, run_underlying hu, goInt]) (by simp [VR])
  case h_4 =>
    rename_i hu
    injection h with h
    subst h
    simp only [VR] at hx
    obtain ⟨_, _, rfl⟩ := hx
    exact GivesV.pure (x := .int .i64 0) (by simp [Builtin.len_, run_underlying hu, goInt]) (by simp [VR])
  case h_5 =>
    rename_i n el hu
    injection h with h
    subst h
    exact GivesV.pure (x := .int .i64 n) (by simp [Builtin.len_, run_underlying hu, goInt]) (by simp [VR])
  case h_6 =>
    rename_i hu
    injection h with h
    subst h
    simp only [VR] at hx
    subst hx
    exact GivesV.pure (x := .int .i64 0) (by simp [Builtin.len_, run_underlying hu, goInt]) (by simp [VR])
  case h_7 =>
    rename_i k el id hu
    split at h
    · rename_i es clock hget
      injection h with h
      subst h
      simp only [VR] at hx
      obtain ⟨hid, rfl⟩ := hx
      obtain ⟨l, hl1, hl2⟩ := (hg _ _ hget).2
      have hlen : ∀ (es : List (AV × AV × Nat)) (l : List MapEntry), ERs E nx es l → l.length = es.length := by
        intro es
        induction es with
        | nil => intro l h; simp [ERs] at h; simp [h]
        | cons p es ih =>
          intro l h
          obtain ⟨k, v, b⟩ := p
          simp only [ERs] at h
          obtain ⟨_, _, r, _, _, h3, rfl⟩ := h
          simp [ih r h3]
      refine GivesV.pure (x := .int .i64 (lenL es)) ?_ (by simp [VR])
      simp [Builtin.len_, run_underlying hu, goInt, getObj, Sem.run, hl1, hlen _ _ hl2, lenL_eq]
    · cases h
  case h_8 => cases h
theorem opCap_sound {t : Nat} {types : List Nat} {v : AV} {x : Value} (hx : VR E nx v x) {e : Eff} (h : opCap P t v = some e) (ty : Nat) :
    GivesV P E nx w e ((Builtin.cap_ (t :: types).toArray ty #[x]).run P w) := by
  unfold opCap at h
  split at h
  · rename_i hu
    injection h with h
    subst h
    simp only [VR] at hx
    obtain ⟨_, rfl⟩ := hx
    rename_i c _
    exact GivesV.pure (x := .int .i64 c) (by simp [Builtin.cap_, run_underlying hu, goInt]) (by simp [VR])
  · rename_i hu
    injection h with h
    subst h
    simp only [VR] at hx
    subst hx
    exact GivesV.pure (x := .int .i64 0) (by simp [Builtin.cap_, run_underlying hu, goInt]) (by simp [VR])
  · cases h

end
end Go.Sx

namespace Go.Sx
open Go.RowKit

section
variable {P : Program} {E : Env} {nx : Nat} {w : World}

-- ------------------------------------------------------------------ stores, told of the world that the cells are set in
theorem setCells_obj {id e : Nat} {cs cs' new : List AV} {fz off : Nat} {mk : Bool} (h : ObjAt P E nx w id (.row e cs fz mk)) {xs : List Value} (hx : VRs E nx new xs)
    (hsp : splice cs off new = some cs') (hfz : fz ≤ off) :
    (∀ j, j < xs.length → (w.cell? ⟨(E.at_ id).1, (E.at_ id).2 + off + j, none⟩).isSome = true) ∧ (∀ j, j < xs.length → w.frozen? ⟨(E.at_ id).1, (E.at_ id).2 + off + j, none⟩ = false) ∧
    ObjAt P E nx (w.setCells (E.at_ id).1 ((E.at_ id).2 + off) xs) id (.row e cs' fz mk) := by
  obtain ⟨h1, h2, h3⟩ := splice_spec _ _ _ _ hsp
  obtain ⟨c, fr, r0, r1, r2, r3, r4⟩ := h
  have hlen : xs.length = new.length := hx.length
  have hin : ∀ j, j < xs.length → (E.at_ id).2 + off + j < c.size := fun j hj => by
    obtain ⟨x, hxx, _⟩ := r2 (off + j) cs[off + j] (by rw [nth_eq]; exact List.getElem?_eq_getElem (by omega))
    have := (Array.getElem?_eq_some_iff.1 hxx).1
    omega
  refine ⟨fun j hj => by simp [World.cell?, r0, hin j hj], fun j hj => ?_, ?_⟩
  · have := r3 ((E.at_ id).2 + off + j) (by omega) (hin j hj)
    simp [World.frozen?, r0]
    intro h5
    omega
  · have hsz : (E.at_ id).2 + off + xs.length ≤ c.size ∨ xs = [] := by
      rcases Nat.eq_zero_or_pos xs.length with h0 | h0
      · exact .inr (List.eq_nil_of_length_eq_zero h0)
      · left; have := hin (xs.length - 1) (by omega); omega
    have hrow : ∃ c', (w.setCells (E.at_ id).1 ((E.at_ id).2 + off) xs).heap[(E.at_ id).1]? = some (.cells c' e fr) ∧ c'.size = c.size ∧ ∀ k, c'[k]? = if (E.at_ id).2 + off ≤ k ∧ k < (E.at_ id).2 + off + xs.length then xs[k - ((E.at_ id).2 + off)]? else c[k]? := by
      rcases hsz with hsz | hsz
      · exact setCells_row xs _ w c r0 hsz
      · subst hsz; exact ⟨c, r0, rfl, fun k => by rw [if_neg (by simp)]⟩
    obtain ⟨c', q0, q1, q2⟩ := hrow
    refine ⟨c', fr, q0, by rw [q1, r1], fun i v hv => ?_, fun o ho1 ho2 => r3 o ho1 (by omega), r4⟩
    rw [nth_eq, h3 i] at hv
    by_cases hc : off ≤ i ∧ i < off + new.length
    · rw [if_pos hc] at hv
      obtain ⟨x, hxx, hr⟩ := hx.nth _ _ hv
      refine ⟨x, ?_, hr⟩
      rw [q2, if_pos (by omega), show (E.at_ id).2 + i - ((E.at_ id).2 + off) = i - off by omega]
      exact hxx
    · rw [if_neg hc] at hv
      obtain ⟨x, hxx, hr⟩ := r2 i v (by rw [nth_eq]; exact hv)
      exact ⟨x, by rw [q2, if_neg (by omega)]; exact hxx, hr⟩

-- ------------------------------------------------------------------ strings as cells
theorem bytesA_VRs : ∀ (l n : Nat), VRs E nx (bytesA l n) ((bytesL l n).map fun b => Value.int .u8 b.toNat)
  | 0, _ => by simp [bytesA, bytesL, VRs]
  | l + 1, n => by
    simp only [bytesA, bytesL, List.map_cons, VRs]
    refine ⟨_, _, ?_, bytesA_VRs l (n / 256), rfl⟩
    simp only [VR]
    have : (UInt8.ofNat (n % 256)).toNat = n % 256 := by simp
    rw [this]
    rfl
theorem bytesL_take (l n m : Nat) (h : m ≤ l) : (bytesL l n).take m = bytesL m n := by
  have := bytesL_cut l n 0 m h
  simp only [List.drop_zero, Nat.sub_zero, Nat.pow_zero, Nat.div_one] at this
  rw [this, bytesL_mod (Nat.le_refl _)]
/-- What is appended, as the model meets it. -/
theorem firstA_src {get : Nat → Option AObj} (hg : GR P E nx w get) {size n : Nat} {v : AV} {new : List AV} (h : firstA get size n v = some new) {x : Value} (hx : VR E nx v x) :
    ∃ xs, VRs E nx new xs ∧ (Builtin.firstCells size n x).run P w = .ok xs.toArray w ∧ (Builtin.firstCells size n x).run P w.drew = .ok xs.toArray w.drew ∧ new.length = n * size := by
  unfold firstA at h
  split at h
  · rename_i l b
    split at h
    · rename_i h1 h2
      injection h with h
      subst h
      have hs : size = 1 := Nat.eq_of_beq_eq_true h2
      have hn : n ≤ l := Nat.le_of_ble_eq_true h1
      subst hs
      simp only [VR] at hx
      subst hx
      have hcells : (ByteArray.extract ⟨(bytesL l b).toArray⟩ 0 n).data.map (fun b => Value.int .u8 b.toNat) = ((bytesL n b).map fun b => Value.int .u8 b.toNat).toArray := by
        rw [ByteArray.extract_mk]
        simp only [List.drop_zero, Nat.sub_zero, bytesL_take l b n hn]
        simp
      refine ⟨(bytesL n b).map fun b => Value.int .u8 b.toNat, bytesA_VRs n b, ?_, ?_, ?_⟩
      · simp only [Builtin.firstCells, strV, Sem.run_pure, hcells]
      · simp only [Builtin.firstCells, strV, Sem.run_pure, hcells]
      · have := (bytesA_VRs (E := E) (nx := nx) n b).length
        rw [List.length_map, bytesL_length] at this
        omega
    · cases h
  · rename_i id off l c
    split at h
    · rename_i e cs fz mk hget
      obtain ⟨hid, ho⟩ := hg _ _ hget
      obtain ⟨xs, h1, h2⟩ := ho.range h
      obtain ⟨A, cp, rfl⟩ : ∃ cp c', x = .slice (some (E.addr id off)) cp c' := by
        cases c <;> simp only [VR] at hx
        · exact ⟨_, _, hx.2⟩
        · exact ⟨_, _, hx.2.2⟩
      have hl := (sub?_spec h).1
      have hlx : xs.length = n * size := by rw [h1.length, hl]; rfl
      have hrd : ∀ j u, xs[j]? = some u → w.cell? ((E.addr id off).add j) = some u := fun j u hu => by
        rw [Env.addr_add]
        have := h2 j u hu
        rwa [Nat.add_assoc] at this
      exact ⟨xs, h1, run_firstCells_some w size n _ _ _ xs hlx hrd, run_firstCells_some w.drew size n _ _ _ xs hlx (by simpa using hrd), by rw [hl]; rfl⟩
    · cases h
  · split at h
    · injection h with h
      subst h
      simp only [VR] at hx
      subst hx
      exact ⟨[], by simp [VRs], run_firstCells_none w size 0 0 0, run_firstCells_none w.drew size 0 0 0, by simp⟩
    · cases h
  · split at h
    · injection h with h
      subst h
      simp only [VR] at hx
      obtain ⟨_, _, rfl⟩ := hx
      exact ⟨[], by simp [VRs], run_firstCells_some w size 0 _ _ _ [] (by simp) (by simp), run_firstCells_some w.drew size 0 _ _ _ [] (by simp) (by simp), by simp⟩
    · cases h
  · cases h
theorem lenA_run {v : AV} {n : Nat} (h : lenA v = some n) {x : Value} (hx : VR E nx v x) (w : World) : (Builtin.lenOf x).run P w = .ok n w := by
  unfold lenA at h
  split at h
  · rename_i l b
    injection h with h
    subst h
    simp only [VR] at hx
    subst hx
    have hsz : (ByteArray.mk (bytesL l b).toArray).size = l := by simp [ByteArray.size, bytesL_length]
    simp [Builtin.lenOf, strV, hsz]
  · rename_i id off l c
    injection h with h
    subst h
    obtain ⟨A, cp, rfl⟩ : ∃ A cp, x = .slice A l cp := by
      cases c <;> simp only [VR] at hx
      · exact ⟨_, _, hx.2⟩
      · exact ⟨_, _, hx.2.2⟩
    rfl
  · injection h with h
    subst h
    simp only [VR] at hx
    subst hx
    rfl
  · injection h with h
    subst h
    simp only [VR] at hx
    obtain ⟨_, _, rfl⟩ := hx
    rfl
  · cases h
theorem srcT_kind {t : Nat} (h : srcT P t = true) : (∃ e, P.underlying t = some (.slice e)) ∨ P.underlying t = some .string := by
  unfold srcT at h
  split at h
  · rename_i e hu; exact .inl ⟨e, hu⟩
  · rename_i hu; exact .inr hu
  · cases h

-- ------------------------------------------------------------------ append
theorem nextslice_le (n c : Nat) (h : c < n) : Builtin.nextslicecap n c ≤ 200 * n := by
  have grow : ∀ (r c : Nat), c ≤ 2 * n + 192 → Builtin.growBy n r c ≤ 2 * n + 192 := by
    intro r
    induction r with
    | zero => intro c h; exact h
    | succ r ih =>
      intro c h
      simp only [Builtin.growBy]
      split
      · exact h
      · refine ih _ ?_
        omega
  unfold Builtin.nextslicecap
  split
  · omega
  · split
    · omega
    · have := grow 4 c (by omega)
      omega
theorem fits_le {n eb : Nat} (h : fits n eb = true) : 200 * n * (eb + 1) ≤ 281474976710656 := Nat.le_of_ble_eq_true h
theorem fits_spec {n c eb : Nat} (h : fits n eb = true) (hc : c < n) : Builtin.nextslicecap n c * eb ≤ 281474976710656 := by
  have h1 := fits_le h
  have h2 := Nat.mul_le_mul (nextslice_le n c hc) (Nat.le_succ eb)
  exact Nat.le_trans h2 h1
theorem fits_small {n eb : Nat} (h : fits n eb = true) : n ≤ 281474976710656 := by
  have h1 := fits_le h
  have h2 : 200 * n * 1 ≤ 200 * n * (eb + 1) := Nat.mul_le_mul_left _ (by omega)
  omega
theorem grown_ge (w : World) (n c e : Nat) : n ≤ grownCap w n c e := by unfold grownCap; simp [Question.cut]

theorem grow_post {e : Nat} {cells : List AV} {xs : List Value} {z : Value} {size len n c : Nat} {w : World} (hs : szT P e = some size) (hzs : z.cells.size = size) (hx : VRs E nx cells xs) (hl : cells.length = (len + n) * size) (fz : Nat) (mk : Bool) :
    UPost P E nx w (E.set nx (w.heap.size, 0) (grownCap w (len + n) c e)) (w.drew.alloc (.cells (xs.toArray ++ Builtin.zeroCells z.cells (grownCap w (len + n) c e - (len + n))) e)) (.new (.row e cells fz mk)) := by
  refine newRow_post _ rfl ⟨rfl, rfl, rfl⟩ ?_ (fun i v hv => ?_) (fun o _ _ => by simp) (fun _ => .inl rfl)
  · have h1 := hx.length
    have h2 := grown_ge w (len + n) c e
    simp only [Array.size_append, List.size_toArray, h1, hl, Builtin.zeroCells, Array.size_map, Array.size_range, hzs, szT_cells hs]
    rw [← Nat.add_mul]
    congr 1
    omega
  · obtain ⟨x, h1, h2⟩ := hx.nth i v hv
    refine ⟨x, ?_, h2⟩
    rw [Array.getElem?_append]
    have : i < xs.length := (List.getElem?_eq_some_iff.1 h1).1
    rw [if_pos (by simpa using this)]
    simpa using h1
/-- A new row in the place of an old name. -/
theorem UPost.app_of_new {E' : Env} {w w' : World} {o : AObj} {id : Nat} (h : UPost P E nx w E' w' (.new o)) : UPost P E nx w E' w' (.app id o) := by
  obtain ⟨h1, h2, h3, h4, h5, h6⟩ := h
  exact ⟨h1, h3, h6, .inr ⟨h2, h4, h5⟩⟩

/-- What an append has to start from. -/
structure App (P : Program) (E : Env) (nx : Nat) (w : World) (st xt el size eb n : Nat) (new : List AV) (x : Value) (ys : List Value) : Prop where
  hu : P.underlying st = some (.slice el)
  hn : szT P el = some size
  info : ∃ i zv, P.info? el = some i ∧ i.size = size ∧ i.bytes = eb ∧ i.zero = some zv ∧ zv.cells.size = size ∧ Src P i.size xt x n ys w
  hy : VRs E nx new ys
  len : new.length = n * size
theorem App.none {st xt el size eb : Nat} {new : List AV} {x : Value} {ys : List Value} (A : App P E nx w st xt el size eb 0 new x ys) (ty : Nat) (base : Option Addr) (len cap : Nat) (h : len ≤ cap) :
    (Builtin.append_ #[st, xt] ty #[.slice base len cap, x]).run P w = .ok (.slice base len cap) w := by
  obtain ⟨i, zv, h1, h2, h3, h4, h5, h6⟩ := A.info
  have : ys = [] := List.eq_nil_of_length_eq_zero (by rw [A.hy.length, A.len, Nat.zero_mul])
  subst this
  exact run_append_nothing w st xt ty el i A.hu h1 base len cap h x h6
theorem App.grow {st xt el size eb n : Nat} {new : List AV} {x : Value} {ys : List Value} (A : App P E nx w st xt el size eb n new x ys) (ty : Nat) (base : Option Addr) (len c : Nat) (old : List AV) (olds : List Value)
    (ho : VRs E nx old olds) (hol : old.length = len * size) (hf : (Builtin.firstCells size len (.slice base len c)).run P w.drew = .ok olds.toArray w.drew) (hlt : c < len + n) (hfit : fits (len + n) eb = true) (fz : Nat) (mk : Bool) :
    ∃ w', (Builtin.append_ #[st, xt] ty #[.slice base len c, x]).run P w = .ok (.slice (some ⟨w.heap.size, 0, Option.none⟩) (len + n) (grownCap w (len + n) c el)) w' ∧
      UPost P E nx w (E.set nx (w.heap.size, 0) (grownCap w (len + n) c el)) w' (.new (.row el (app old new) fz mk)) := by
  obtain ⟨i, zv, h1, h2, h3, h4, h5, h6⟩ := A.info
  have hsm := fits_small hfit
  have hnow := run_append_grow_src w st xt ty el i zv A.hu h1 h4 base len c olds (by rw [h2]; exact hf) x n ys h6 hlt (by omega) (by rw [h3]; exact fits_spec hfit hlt)
  refine ⟨_, hnow, ?_⟩
  rw [app_eq]
  exact grow_post A.hn h5 (ho.append A.hy) (by rw [List.length_append, hol, A.len, Nat.add_mul]) fz mk
theorem grown_VR {len n c el : Nat} : VR (E.set nx (w.heap.size, 0) (grownCap w (len + n) c el)) (nx + 1) (.slice nx 0 (len + n) (.u 0)) (.slice (some ⟨w.heap.size, 0, none⟩) (len + n) (grownCap w (len + n) c el)) := by
  simp only [VR]
  refine ⟨Nat.lt_succ_self nx, ?_, ?_⟩
  · simp only [Env.set_cap]; have := grown_ge w (len + n) c el; omega
  · simp [Env.addr]
/-- The old cells, read behind a draw. -/
theorem old_cells {id e : Nat} {cs old : List AV} {fz off len size : Nat} {mk : Bool} (ho : ObjAt P E nx w id (.row e cs fz mk)) (hsub : sub? cs off (len * size) = some old) (c : Nat) :
    ∃ olds, VRs E nx old olds ∧ old.length = len * size ∧ (Builtin.firstCells size len (.slice (some (E.addr id off)) len c)).run P w.drew = .ok olds.toArray w.drew := by
  obtain ⟨olds, h1, h2⟩ := ho.range hsub
  have hl := (sub?_spec hsub).1
  have hrd : ∀ j u, olds[j]? = some u → w.cell? ((E.addr id off).add j) = some u := fun j u hu => by
    rw [Env.addr_add]
    have := h2 j u hu
    rwa [Nat.add_assoc] at this
  exact ⟨olds, h1, hl, run_firstCells_some w.drew size len _ _ _ olds (by rw [h1.length, hl]) (by simpa using hrd)⟩

theorem appK_sound {get : Nat → Option AObj} (hg : GR P E nx w get) {st xt el size eb n : Nat} {new : List AV} {x : Value} {ys : List Value} (A : App P E nx w st xt el size eb n new x ys) (ty : Nat)
    {id off len c : Nat} (hid : id < nx) {e : Eff} (h : appK get nx el eb size id off len c n new = some e) :
    GivesV P E nx w e ((Builtin.append_ #[st, xt] ty #[.slice (some (E.addr id off)) len c, x]).run P w) := by
  obtain ⟨i, zv, h1, h2, h3, h4, h5, h6⟩ := A.info
  unfold appK at h
  split at h
  · rename_i e0 cs fz mk hget
    obtain ⟨hid', ho⟩ := hg _ _ hget
    split at h
    · rename_i hle
      split at h
      · rename_i cs' hsp hfz
        injection h with h
        subst h
        have hroom : len + n ≤ c := Nat.le_of_ble_eq_true hle
        have hfz' : fz ≤ off + len * size := Nat.le_of_ble_eq_true hfz
        obtain ⟨q1, q2, q3⟩ := setCells_obj ho A.hy hsp hfz'
        have hrun := run_append_room_src w st xt ty el i A.hu h1 (E.at_ id).1 ((E.at_ id).2 + off) len c x n ys h6 hroom
          (by rw [h2]; intro j hj; have := q1 j hj; simpa [Nat.add_assoc] using this) (by rw [h2]; intro j hj; have := q2 j hj; simpa [Nat.add_assoc] using this)
        refine ⟨_, _, E, hrun, ⟨rfl, ?_, size_setCells _ _ _, fun k hk => heap_setCells_ne hk _ _ _, calm_setCells _ _ _⟩, ?_⟩
        · rw [h2]
          simpa [Nat.add_assoc] using q3
        · simp only [VR, Upd.nx]
          exact ⟨hid, rfl⟩
      · cases h
    · rename_i hle
      split at h
      · rename_i old hfit hsub
        injection h with h
        subst h
        have hlt : c < len + n := by
          rcases Nat.lt_or_ge c (len + n) with h' | h'
          · exact h'
          · have := Nat.ble_eq_true_of_le h'
            rw [show Nat.ble (len + n) c = Nat.ble (Nat.add len n) c from rfl, hle] at this
            cases this
        obtain ⟨olds, o1, o2, o3⟩ := old_cells ho hsub c
        obtain ⟨w', g1, g2⟩ := A.grow ty _ len c old olds o1 o2 o3 hlt hfit 0 false
        exact ⟨_, w', _, g1, g2, grown_VR⟩
      · cases h
  · cases h

theorem appU_sound {get : Nat → Option AObj} (hg : GR P E nx w get) {st xt el size eb n : Nat} {new : List AV} {x : Value} {ys : List Value} (A : App P E nx w st xt el size eb n new x ys) (ty : Nat)
    {id off len j : Nat} (hcap : j + len ≤ E.cap id) {base : Addr} (hbase : E.cap id ≠ j → base = E.addr id off) (hlen : len ≠ 0 → base = E.addr id off) (hn0 : n ≠ 0) {e : Eff} (h : appU get nx el eb size id off len j n new = some e) :
    GivesV P E nx w e ((Builtin.append_ #[st, xt] ty #[.slice (some base) len (E.cap id - j), x]).run P w) := by
  obtain ⟨i, zv, h1, h2, h3, h4, h5, h6⟩ := A.info
  unfold appU at h
  split at h
  · rename_i e0 cs fz mk hget
    obtain ⟨hid, ho⟩ := hg _ _ hget
    split at h
    · rename_i old he hoff hfz hsub hfit
      injection h with h
      subst h
      have he' : e0 = el := Nat.eq_of_beq_eq_true he
      subst he'
      have hoff' : off = j * size := Nat.eq_of_beq_eq_true hoff
      have hfz' : fz ≤ off + len * size := Nat.le_of_ble_eq_true hfz
      by_cases hroom : len + n ≤ E.cap id - j
      · -- in place
        have hb : base = E.addr id off := hbase (by omega)
        subst hb
        obtain ⟨c, fr, r0, r1, r2, r3, r4⟩ := ho
        have hcells := szT_cells A.hn
        rw [hcells] at r1
        have hyl : ys.length = n * size := by rw [A.hy.length, A.len]
        have hle : off + len * size + n * size ≤ E.cap id * size := by
          subst hoff'
          rw [← Nat.add_mul, ← Nat.add_mul]
          exact Nat.mul_le_mul_right size (by omega)
        have hin : ∀ k, k < ys.length → (E.at_ id).2 + off + len * size + k < c.size := fun k hk => by omega
        have hrun := run_append_room_src w st xt ty e0 i A.hu h1 (E.at_ id).1 ((E.at_ id).2 + off) len (E.cap id - j) x n ys h6 hroom
          (by rw [h2]; intro k hk; have := hin k hk; simp [World.cell?, r0, this])
          (by
            rw [h2]
            intro k hk
            have h7 := hin k hk
            have := r3 ((E.at_ id).2 + off + len * size + k) (by omega) h7
            simp [World.frozen?, r0]
            intro h8
            omega)
        obtain ⟨c', q0, q1, q2⟩ := setCells_row ys ((E.at_ id).2 + off + len * size) w c r0 (by omega)
        have hagree := Agree.set E nx ((E.at_ id).1, (E.at_ id).2 + off) (E.cap id - j)
        have hol := (sub?_spec hsub).1
        refine ⟨_, _, E.set nx ((E.at_ id).1, (E.at_ id).2 + off) (E.cap id - j), hrun, ⟨hagree, ?_, calm_setCells _ _ _, .inl ⟨by simp, size_setCells _ _ _, fun k hk => heap_setCells_ne hk _ _ _⟩⟩, ?_⟩
        · rw [h2]
          refine ⟨c', fr, by simpa using q0, ?_, fun k v hv => ?_, fun o ho1 ho2 => ?_, fun hm => ?_⟩
          · simp only [Env.set_at, Env.set_cap, q1, r1, hcells]
            subst hoff'
            have : E.cap id * size = j * size + (E.cap id - j) * size := by rw [← Nat.add_mul]; congr 1; omega
            omega
          · rw [nth_eq, app_eq, List.getElem?_append] at hv
            simp only [Env.set_at]
            rw [q2]
            split at hv
            · rename_i hk
              rw [hol] at hk
              have hk' : k < len * size := hk
              rw [if_neg (by omega)]
              rw [((sub?_spec hsub).2 k hk).1] at hv
              obtain ⟨y, hy1, hy2⟩ := r2 (off + k) v (by rw [nth_eq]; exact hv)
              exact ⟨y, by rw [show (E.at_ id).2 + off + k = (E.at_ id).2 + (off + k) by omega]; exact hy1, VR.mono hagree (Nat.le_succ nx) v y hy2⟩
            · rename_i hk
              rw [hol] at hk hv
              have hk' : ¬ k < len * size := hk
              obtain ⟨y, hy1, hy2⟩ := A.hy.nth _ _ hv
              have hlt : k - len * size < ys.length := (List.getElem?_eq_some_iff.1 hy1).1
              refine ⟨y, ?_, VR.mono hagree (Nat.le_succ nx) v y hy2⟩
              rw [if_pos (by omega), show (E.at_ id).2 + off + k - ((E.at_ id).2 + off + len * size) = k - len * size by omega]
              exact hy1
          · simp only [Env.set_at, Nat.sub_eq] at ho1
            exact r3 o (by omega) (by omega)
          · have hm' : mk = false ∧ off = 0 := by
              cases mk with
              | true => simp [orB] at hm
              | false =>
                refine ⟨rfl, ?_⟩
                simp only [orB, notB_eq, Bool.not_eq_false'] at hm
                exact Nat.eq_of_beq_eq_true hm
            obtain ⟨h7, h8⟩ := r4 hm'.1
            simp only [Env.set_at, Nat.sub_eq]
            refine ⟨by omega, ?_⟩
            rcases h8 with h8 | h8
            · exact .inl h8
            · right; omega
        · simp only [VR, Upd.nx]
          refine ⟨Nat.lt_succ_self nx, by simp only [Env.set_cap, Nat.add_eq]; omega, ?_⟩
          simp [Env.addr]
      · -- a new array
        have hb : base = E.addr id off ∨ len = 0 := by
          by_cases h7 : len = 0
          · exact .inr h7
          · exact .inl (hlen h7)
        have hof : ∃ olds, VRs E nx old olds ∧ old.length = len * size ∧ (Builtin.firstCells size len (.slice (some base) len (E.cap id - j))).run P w.drew = .ok olds.toArray w.drew := by
          rcases hb with hb | hb
          · subst hb; exact old_cells ho hsub _
          · subst hb
            have hol := (sub?_spec hsub).1
            have : old = [] := List.eq_nil_of_length_eq_zero (by simpa using hol)
            subst this
            exact ⟨[], by simp [VRs], by simp, run_firstCells_some w.drew size 0 _ _ _ [] (by simp) (by simp)⟩
        obtain ⟨olds, o1, o2, o3⟩ := hof
        obtain ⟨w', g1, g2⟩ := A.grow ty _ len (E.cap id - j) old olds o1 o2 o3 (by omega) hfit (Nat.sub fz off) (orB mk (notB (Nat.beq off 0)))
        exact ⟨_, w', _, g1, g2.app_of_new, grown_VR⟩
    · cases h
  · cases h

theorem opAppend_sound {get : Nat → Option AObj} (hg : GR P E nx w get) {types : List Nat} {s v : AV} {xs x : Value} (hs : VR E nx s xs) (hx : VR E nx v x) {e : Eff} (h : opAppend P get nx types s v = some e) (ty : Nat) :
    GivesV P E nx w e ((Builtin.append_ types.toArray ty #[xs, x]).run P w) := by
  unfold opAppend at h
  split at h
  · rename_i st xt
    split at h
    · rename_i el hu hk
      split at h
      · rename_i size eb z n hn hb hz hln
        split at h
        · rename_i new hsz hfi hzl
          split at h
          · rename_i hone
            obtain ⟨ys, hy1, hy2, hy3, hy4⟩ := firstA_src hg hfi hx
            have A : App P E nx w st xt el size eb n new x ys := by
              obtain ⟨i, hi1, hi2⟩ := szT_info hn
              obtain ⟨i', hi1', hi3⟩ := bytesT_info hb
              rw [hi1] at hi1'
              injection hi1' with hi1'
              subst hi1'
              have hz' : ∃ zv, i.zero = some zv ∧ zv.cells.size = size := by
                unfold zeroT at hz
                rw [hi1] at hz
                simp only [] at hz
                cases hzz : i.zero with
                | none => rw [hzz] at hz; simp at hz
                | some zv =>
                  refine ⟨zv, rfl, ?_⟩
                  rw [hzz] at hz
                  simp only [] at hz
                  cases ho : ofAgg zv with
                  | none => rw [ho] at hz; simp at hz
                  | some u =>
                    rw [ho] at hz
                    simp only [Option.some.injEq] at hz
                    have := (ofAgg_sound ho E nx).cells.length
                    rw [hz, ← lenL_eq z, Nat.eq_of_beq_eq_true hzl] at this
                    simpa using this
              obtain ⟨zv, hz1, hz2⟩ := hz'
              exact ⟨hu, hn, ⟨i, zv, hi1, hi2, hi3, hz1, hz2, ⟨srcT_kind hk, fun w' => lenA_run hln hx w', by rw [hi2]; exact hy2, by rw [hi2]; exact hy3, by rw [hy1.length, hy4, hi2], fun u hu => hy1.one hone u hu⟩⟩, hy1, hy4⟩
            split at h
            · -- nil
              simp only [VR] at hs
              subst hs
              unfold appNil at h
              split at h
              · rename_i hn0
                injection h with h
                subst h
                have hn0' : n = 0 := Nat.eq_of_beq_eq_true hn0
                subst hn0'
                exact GivesV.pure (A.none ty none 0 0 (Nat.le_refl _)) (by simp [VR])
              · rename_i hn0
                split at h
                · rename_i hfit
                  injection h with h
                  subst h
                  have hn0' : n ≠ 0 := Nat.ne_of_beq_eq_false hn0
                  obtain ⟨w', h1, h2⟩ := A.grow ty none 0 0 [] [] (by simp [VRs]) (by simp) (run_firstCells_none w.drew _ 0 0 0) (by omega) (by simpa using hfit) 0 false
                  rw [Nat.zero_add] at h1 h2
                  have h3 := grown_VR (E := E) (nx := nx) (w := w) (len := 0) (n := n) (c := 0) (el := el)
                  rw [Nat.zero_add] at h3
                  exact ⟨_, w', _, h1, h2, h3⟩
                · cases h
            · rename_i id off len c
              simp only [VR] at hs
              obtain ⟨hid, rfl⟩ := hs
              exact appK_sound hg A ty hid h
            · rename_i id off len j
              have hs0 := hs
              simp only [VR] at hs
              obtain ⟨hid, hcap, rfl⟩ := hs
              split at h
              · rename_i hn0
                injection h with h
                subst h
                have hn0' : n = 0 := Nat.eq_of_beq_eq_true hn0
                subst hn0'
                exact GivesV.pure (A.none ty _ len _ (by omega)) hs0
              · rename_i hn0
                exact appU_sound hg A ty hcap (fun _ => rfl) (fun _ => rfl) (Nat.ne_of_beq_eq_false hn0) h
            · rename_i id off j alt
              have hs0 := hs
              simp only [VR] at hs
              obtain ⟨hid, hcap, rfl⟩ := hs
              split at h
              · rename_i hn0
                injection h with h
                subst h
                have hn0' : n = 0 := Nat.eq_of_beq_eq_true hn0
                subst hn0'
                exact GivesV.pure (A.none ty _ 0 _ (Nat.zero_le _)) hs0
              · rename_i hn0
                exact appU_sound hg A ty (by omega) (fun hne => by rw [if_neg hne]) (fun h0 => absurd rfl h0) (Nat.ne_of_beq_eq_false hn0) h
            · cases h
          · cases h
        · cases h
      · cases h
    · cases h
  · cases h
end
end Go.Sx

namespace Go.Sx
open Go.RowKit

section
variable {P : Program} {E : Env} {nx : Nat} {w : World}

theorem opCopy_sound {get : Nat → Option AObj} (hg : GR P E nx w get) {types : List Nat} {d v : AV} {y x : Value} (hd : VR E nx d y) (hx : VR E nx v x) {e : Eff} (h : opCopy P get types d v = some e) (ty : Nat) :
    GivesV P E nx w e ((Builtin.copy_ types.toArray ty #[y, x]).run P w) := by
  unfold opCopy at h
  split at h
  · rename_i dt rest
    split at h
    · rename_i el hu
      split at h
      · rename_i size l hn hl
        split at h
        · rename_i id off dl c
          split at h
          · rename_i new e' cs fz mk hfi hget
            split at h
            · rename_i cs' hsp hfz hone
              injection h with h
              subst h
              obtain ⟨hid, ho⟩ := hg _ _ hget
              obtain ⟨ys, hy1, hy2, hy3, hy4⟩ := firstA_src hg hfi hx
              obtain ⟨cp, rfl⟩ : ∃ cp, y = .slice (some (E.addr id off)) dl cp := by
                cases c <;> simp only [VR] at hd
                · exact ⟨_, hd.2⟩
                · exact ⟨_, hd.2.2⟩
              obtain ⟨w', q1, q2, q3, q4, q5⟩ := storeCells_row (P := P) hid ho hy1 hone hsp (Nat.le_of_ble_eq_true hfz)
              refine ⟨.int .i64 (Nat.min l dl : Nat), w', E, ?_, ⟨rfl, q2, q3, q4, q5⟩, by simp [VR]⟩
              simp only [Builtin.copy_, List.size_toArray]
              simp [run_underlying hu, lenA_run hl hx, szT_run hn, hy2, q1, goInt]
            · cases h
          · cases h
        · cases h
      · cases h
    · cases h
  · cases h

theorem opMakeSlice_sound {t : Nat} {l c : AV} {x y : Value} (hx : VR E nx l x) (hy : VR E nx c y) {e : Eff} (h : opMakeSlice P nx t l c = some e) : GivesV P E nx w e ((Instr.makeSlice t x y).run P w) := by
  unfold opMakeSlice at h
  split at h
  · rename_i el kl l kc c hu
    split at h
    · rename_i n z eb hn hz hb
      split at h
      · rename_i hzl hn0 hlc hc hebl
        injection h with h
        subst h
        simp only [VR] at hx hy
        subst hx hy
        obtain ⟨i, hi1, hi2⟩ := szT_info hn
        obtain ⟨i', hi1', hi3⟩ := bytesT_info hb
        rw [hi1] at hi1'
        injection hi1' with hi1'
        subst hi1'
        obtain ⟨zv, hzi, hzr⟩ : ∃ zv, i.zero = some zv ∧ VRs E nx z zv.cells.toList := by
          unfold zeroT at hz
          rw [hi1] at hz
          simp only [] at hz
          cases hzz : i.zero with
          | none => rw [hzz] at hz; simp at hz
          | some zv =>
            refine ⟨zv, rfl, ?_⟩
            rw [hzz] at hz
            simp only [] at hz
            cases ho : ofAgg zv with
            | none => rw [ho] at hz; simp at hz
            | some u =>
              rw [ho] at hz
              simp only [Option.some.injEq] at hz
              have := (ofAgg_sound ho E nx).cells
              rwa [hz] at this
        have hzs : zv.cells.size = n := by
          have := hzr.length
          rw [← lenL_eq z, Nat.eq_of_beq_eq_true hzl] at this
          simpa using this
        have hlc' : l ≤ c := Nat.le_of_ble_eq_true hlc
        have hc' : c ≤ 4194304 := Nat.le_of_ble_eq_true hc
        have heb : eb ≤ 1048576 := Nat.le_of_ble_eq_true hebl
        have hbytes : i.bytes * c ≤ 281474976710656 := by
          rw [hi3]
          exact Nat.le_trans (Nat.mul_le_mul heb hc') (by decide)
        have hrun := run_make (P := P) w t el i zv hu hi1 hzi kl kc (l : Int) (c : Int) (by omega) (by omega) (by
          have : ((i.bytes * c : Nat) : Int) ≤ 281474976710656 := by omega
          rwa [Int.natCast_mul] at this) (by omega)
        simp only [Int.toNat_natCast] at hrun
        have hrow : VRs E nx (times z c) (madeCells zv.cells (c * i.size)).toList := by
          have := hzr.times c (c * i.size) (by simp [hzs, hi2])
          simpa [madeCells] using this
        refine ⟨_, _, E.set nx (w.heap.size, 0) c, hrun, newRow_all c rfl ⟨rfl, rfl, rfl⟩ (by rw [size_madeCells, hi2, szT_cells hn]) hrow, ?_⟩
        simp only [mkRow, VR, Upd.nx]
        exact ⟨Nat.lt_succ_self nx, by simp [Env.addr]⟩
      · cases h
    · cases h
  · cases h

-- ------------------------------------------------------------------ bytes and strings
theorem packA_spec : ∀ {l : List AV} {n : Nat}, packA l = some n → ∃ bs : List Nat, l = bs.map (fun b => AV.int .u8 (.ofNat b)) ∧ bytesL l.length n = bs.map UInt8.ofNat ∧ ∀ b ∈ bs, b < 256
  | [], n, h => by simp [packA] at h; subst h; exact ⟨[], rfl, rfl, by simp⟩
  | v :: l, n, h => by
    unfold packA at h
    split at h
    · rename_i b
      split at h
      · rename_i m hb hm
        injection h with h
        subst h
        obtain ⟨bs, h1, h2, h3⟩ := packA_spec hm
        have hb' : b < 256 := Nat.le_of_ble_eq_true hb
        refine ⟨b :: bs, by simp [h1], ?_, fun a ha => ?_⟩
        have e1 : (b + 256 * m) % 256 = b := by omega
        have e2 : (b + 256 * m) / 256 = m := by omega
        · simp only [List.length_cons, bytesL, Nat.add_eq, Nat.mul_eq, e1, e2, h2, List.map_cons]
        · rcases List.mem_cons.1 ha with rfl | ha
          · exact hb'
          · exact h3 a ha
      · cases h
    · cases h
theorem foldl_push : ∀ (ns : List Int) (r : ByteArray), ns.foldl (fun r n => r.push (UInt8.ofNat n.toNat)) r = ⟨(r.data.toList ++ ns.map fun n => UInt8.ofNat n.toNat).toArray⟩
  | [], r => by simp
  | n :: ns, r => by
    rw [List.foldl_cons, foldl_push ns]
    simp [ByteArray.push]
theorem modify_push {α : Type} (a : Array α) (x : α) (f : α → α) : (a.push x).modify a.size f = a.push (f x) := by
  apply Array.ext_getElem?
  intro i
  rw [Array.getElem?_modify, Array.getElem?_push, Array.getElem?_push]
  by_cases h : a.size = i
  · subst h; simp
  · simp [h, Ne.symm h]
theorem VRs_bytes {bs : List Nat} {l : List AV} (hl : l = bs.map (fun b => AV.int .u8 (.ofNat b))) {xs : List Value} (h : VRs E nx l xs) : xs = (bs.map fun b => ((b : Nat) : Int)).map (Value.int .u8) := by
  subst hl
  induction bs generalizing xs with
  | nil => simpa [VRs] using h
  | cons b bs ih =>
    simp only [List.map_cons, VRs] at h
    obtain ⟨x, r, h1, h2, rfl⟩ := h
    simp only [VR] at h1
    subst h1
    rw [ih h2]
    rfl

theorem strV_eq {l n : Nat} {bs : List UInt8} (h : bytesL l n = bs) : strV l n = .string ⟨bs.toArray⟩ := by rw [strV, h]
theorem lo256 {a b : Nat} (h : a < 256) : (a + 256 * b) % 256 = a := by omega
theorem hi256 {a b : Nat} (h : a < 256) : (a + 256 * b) / 256 = b := by omega
theorem encA_VR {c : Nat} (h : c < 55296) : VR E nx (encA c) (.string (Utf8.encode (c : Int))) := by
  have hv : Utf8.valid (c : Int) = true := by simp [Utf8.valid]; omega
  have blt : ∀ n, Nat.blt c n = decide (c < n) := fun n => by
    rw [Bool.eq_iff_iff, decide_eq_true_eq]
    show Nat.ble (c + 1) n = true ↔ _
    rw [Nat.ble_eq]
    omega
  unfold Utf8.encode encA
  rw [blt, blt, blt]
  simp only [hv, if_true, Int.toNat_natCast]
  by_cases h1 : c < 128
  · have h1' : c < 0x80 := h1
    rw [if_pos h1', decide_eq_true h1]
    show VR E nx (.str 1 c) _
    simp only [VR]
    have : bytesL 1 c = [UInt8.ofNat c] := by simp only [bytesL]; rw [Nat.mod_eq_of_lt (by omega)]
    rw [strV_eq this]
  · have h1' : ¬ c < 0x80 := h1
    rw [if_neg h1', decide_eq_false h1]
    by_cases h2 : c < 2048
    · have h2' : c < 0x800 := h2
      rw [if_pos h2', decide_eq_true h2]
      show VR E nx (.str 2 (192 + c / 64 + 256 * (128 + c % 64))) _
      simp only [VR]
      have : bytesL 2 (192 + c / 64 + 256 * (128 + c % 64)) = [UInt8.ofNat (0xC0 + c / 64), UInt8.ofNat (0x80 + c % 64)] := by
        simp only [bytesL]
        rw [lo256 (show 192 + c / 64 < 256 by omega), hi256 (show 192 + c / 64 < 256 by omega), Nat.mod_eq_of_lt (show 128 + c % 64 < 256 by omega)]
      rw [strV_eq this]
    · have h2' : ¬ c < 0x800 := h2
      have h3 : c < 65536 := by omega
      have h3' : c < 0x10000 := h3
      rw [if_neg h2', if_pos h3', decide_eq_false h2, decide_eq_true h3]
      show VR E nx (.str 3 (224 + c / 4096 + 256 * (128 + c / 64 % 64 + 256 * (128 + c % 64)))) _
      simp only [VR]
      have : bytesL 3 (224 + c / 4096 + 256 * (128 + c / 64 % 64 + 256 * (128 + c % 64))) = [UInt8.ofNat (0xE0 + c / 4096), UInt8.ofNat (0x80 + c / 64 % 64), UInt8.ofNat (0x80 + c % 64)] := by
        simp only [bytesL]
        rw [lo256 (show 224 + c / 4096 < 256 by omega), hi256 (show 224 + c / 4096 < 256 by omega), lo256 (show 128 + c / 64 % 64 < 256 by omega), hi256 (show 128 + c / 64 % 64 < 256 by omega), Nat.mod_eq_of_lt (show 128 + c % 64 < 256 by omega)]
      rw [strV_eq this]

theorem opConvert_sound {get : Nat → Option AObj} (hg : GR P E nx w get) {s d : Nat} {v : AV} {x : Value} (hx : VR E nx v x) {e : Eff} (h : opConvert P get nx s d v = some e) :
    GivesV P E nx w e ((convert s d x).run P w) := by
  unfold opConvert at h
  split at h
  case h_1 =>
    rename_i ds k kk n hs hd
    injection h with h
    subst h
    simp only [VR] at hx
    subst hx
    refine GivesV.pure (x := .int k (wrapI k n)) ?_ (by simp [VR])
    cases ds <;> simp [convert, run_underlying hs, run_underlying hd, Conv.intToInt, wrapI_eq]
  case h_2 =>
    rename_i ds k c hs hd
    split at h
    · rename_i hc
      injection h with h
      subst h
      have hc' : c < 55296 := Nat.le_of_ble_eq_true hc
      simp only [VR] at hx
      subst hx
      refine GivesV.pure (x := .string (Utf8.encode (c : Int))) ?_ (encA_VR hc')
      cases ds <;> simp [convert, run_underlying hs, run_underlying hd, Conv.intToString]
    · cases h
  case h_3 =>
    rename_i ds l n hs hd
    injection h with h
    subst h
    have hx0 := hx
    simp only [VR] at hx
    subst hx
    refine GivesV.pure (x := strV l n) ?_ hx0
    cases ds <;> simp [convert, run_underlying hs, run_underlying hd, strV]
  case h_4 =>
    rename_i ds el l n hs hd
    split at h
    · rename_i hu hn
      injection h with h
      subst h
      simp only [VR] at hx
      subst hx
      have hsz : (ByteArray.mk (bytesL l n).toArray).size = l := by simp [ByteArray.size, bytesL_length]
      have hcap := grown_ge w l 0 el
      refine ⟨.slice (some ⟨w.heap.size, 0, none⟩) l (grownCap w l 0 el),
        { w.drew with heap := w.heap.push (.cells (((bytesL l n).map fun b => Value.int .u8 b.toNat).toArray ++ Array.replicate (grownCap w l 0 el - l) (.int .u8 0)) el (grownCap w l 0 el, grownCap w l 0 el + 1)) },
        E.set nx (w.heap.size, 0) (grownCap w l 0 el), ?_, newRow_post _ rfl ⟨rfl, rfl, rfl⟩ ?_ ?_ ?_ (fun h => by cases h), ?_⟩
      · have hcells : (ByteArray.mk (bytesL l n).toArray).data.map (fun b => Value.int .u8 b.toNat) = ((bytesL l n).map fun b => Value.int .u8 b.toNat).toArray := by simp
        have hrun : (Conv.stringToBytes el ⟨(bytesL l n).toArray⟩).run P w = .ok (.slice (some ⟨w.heap.size, 0, none⟩) l (grownCap w l 0 el))
            { w.drew with heap := w.heap.push (.cells (((bytesL l n).map fun b => Value.int .u8 b.toNat).toArray ++ Array.replicate (grownCap w l 0 el - l) (.int .u8 0)) el (grownCap w l 0 el, grownCap w l 0 el + 1)) } := by
          have hsize : (((bytesL l n).map fun b => Value.int .u8 b.toNat).toArray ++ Array.replicate (grownCap w l 0 el - l) (Value.int .u8 0)).size = grownCap w l 0 el := by
            simp [bytesL_length]; omega
          unfold Conv.stringToBytes
          rw [hcells]
          simp only [hsz, Sem.run_bind, run_choose, Question.forced, Bool.false_eq_true, if_false, Result.andThen_ok, newRow, run_newObj, Sem.run_pure, markStringish, run_shape]
          show _ = _
          have hgc : (Question.appendCap l 0 el).cut (w.tape w.drawn (.appendCap l 0 el)) = grownCap w l 0 el := rfl
          rw [hgc]
          have hsh : (World.shape? { w with heap := w.heap.push (Obj.cells (((bytesL l n).map fun b => Value.int .u8 b.toNat).toArray ++ Array.replicate (grownCap w l 0 el - l) (Value.int .u8 0)) el), drawn := w.drawn + 1 } w.heap.size) = some (el, grownCap w l 0 el) := by
            simp only [World.shape?, Array.getElem?_push_size, hsize]
          rw [hsh]
          simp only [run_freeze, Result.andThen_ok, Sem.run_pure, World.freeze, Nat.one_ne_zero, if_false, modify_push]
          rfl
        cases ds <;> simp [convert, run_underlying hs, run_underlying hd, run_underlying hu, strV, hrun]
      · rw [szT_cells hn]
        simp [bytesL_length]; omega
      · intro i v hv
        obtain ⟨y, hy1, hy2⟩ := (bytesA_VRs (E := E) (nx := nx) l n).nth i v hv
        refine ⟨y, ?_, hy2⟩
        have : i < ((bytesL l n).map fun b => Value.int .u8 b.toNat).length := (List.getElem?_eq_some_iff.1 hy1).1
        rw [Array.getElem?_append, if_pos (by simpa using this)]
        simpa using hy1
      · intro o _ ho
        have hsize : (((bytesL l n).map fun b => Value.int .u8 b.toNat).toArray ++ Array.replicate (grownCap w l 0 el - l) (Value.int .u8 0)).size = grownCap w l 0 el := by
          simp [bytesL_length]; omega
        rw [hsize] at ho
        omega
      · have := grown_VR (E := E) (nx := nx) (w := w) (len := 0) (n := l) (c := 0) (el := el)
        rw [Nat.zero_add] at this
        exact this
    · cases h
  case h_5 =>
    rename_i el hs hd
    split at h
    · rename_i hu
      injection h with h
      subst h
      simp only [VR] at hx
      subst hx
      exact GivesV.pure (x := .string .empty) (by simp [convert, run_underlying hs, run_underlying hd, run_underlying hu, Conv.bytesToString]) (by simp [VR, strV, bytesL]; rfl)
    · cases h
  case h_6 =>
    rename_i el id off len c hs hd
    split at h
    · rename_i e' cs fz mk hu hget
      split at h
      · rename_i l hl
        split at h
        · rename_i n hp
          injection h with h
          subst h
          obtain ⟨hid, ho⟩ := hg _ _ hget
          obtain ⟨cp, rfl⟩ : ∃ cp, x = .slice (some (E.addr id off)) len cp := by
            cases c <;> simp only [VR] at hx
            · exact ⟨_, hx.2⟩
            · exact ⟨_, hx.2.2⟩
          obtain ⟨xs, hx1, hx2⟩ := ho.range hl
          obtain ⟨bs, hb1, hb2, hb3⟩ := packA_spec hp
          have hxs := VRs_bytes hb1 hx1
          have hll := (sub?_spec hl).1
          have hxl : xs.length = len := by rw [hx1.length, hll]
          have hload : (loadCells (E.addr id off) len).run P w = .ok ((bs.map fun b => ((b : Nat) : Int)).map (Value.int .u8)).toArray w := by
            rw [← hxs, ← hxl]
            exact run_loadCells_list (P := P) w _ xs fun j u hu => by
              rw [Env.addr_add]
              have := hx2 j u hu
              rwa [Nat.add_assoc] at this
          have hrun := run_bytesToString w (E.addr id off) len cp _ hload
          refine GivesV.pure (x := strV len n) ?_ (by simp [VR])
          have hstr : ((bs.map fun b => ((b : Nat) : Int)).foldl (fun r n => r.push (UInt8.ofNat n.toNat)) ByteArray.empty) = ⟨(bytesL len n).toArray⟩ := by
            rw [foldl_push, ← hll, hb2]
            congr 1
            simp [List.map_map, Function.comp_def]
          rw [hstr] at hrun
          simp [convert, run_underlying hs, run_underlying hd, run_underlying hu, hrun, strV]
        · cases h
      · cases h
    · cases h
  case h_7 => cases h

theorem minA_run {mx : Bool} : ∀ {l : List AV} {xs : List Value} {a r : AV} {x : Value}, minA mx a l = some r → VR E nx a x → VRs E nx l xs →
    ∃ y, ((xs.foldlM (if mx then Builtin.max2 else Builtin.min2) x : Sem Value)).run P w = .ok y w ∧ VR E nx r y
  | [], xs, a, r, x, h, ha, hl => by
    simp [VRs] at hl
    subst hl
    simp [minA] at h
    subst h
    exact ⟨x, rfl, ha⟩
  | b :: l, xs, a, r, x, h, ha, hl => by
    simp only [VRs] at hl
    obtain ⟨y, q, h1, h2, rfl⟩ := hl
    unfold minA at h
    split at h
    · rename_i hh; cases hh
    · rename_i k m k' n l' hh
      injection hh with hh1 hh2
      subst hh1 hh2
      simp only [VR] at ha h1
      subst ha h1
      cases mx with
      | true =>
        simp only [] at h
        rw [List.foldlM_cons]
        have hstep : ((if true = true then Builtin.max2 else Builtin.min2) (Value.int k m) (Value.int k' n)).run P w = .ok (.int k (if n > m then n else m)) w := by simp [Builtin.max2]
        rw [Sem.run_bind, hstep, Result.andThen_ok]
        rw [ltI_eq] at h
        by_cases hc : m < n
        · simp only [hc, decide_true] at h
          rw [if_pos (show n > m from hc)]
          exact minA_run h (by simp [VR]) h2
        · simp only [hc, decide_false] at h
          rw [if_neg (show ¬ n > m from hc)]
          exact minA_run h (by simp [VR]) h2
      | false =>
        simp only [] at h
        rw [List.foldlM_cons]
        have hstep : ((if false = true then Builtin.max2 else Builtin.min2) (Value.int k m) (Value.int k' n)).run P w = .ok (.int k (if n < m then n else m)) w := by simp [Builtin.min2]
        rw [Sem.run_bind, hstep, Result.andThen_ok]
        rw [ltI_eq] at h
        by_cases hc : n < m
        · simp only [hc, decide_true] at h
          rw [if_pos hc]
          exact minA_run h (by simp [VR]) h2
        · simp only [hc, decide_false] at h
          rw [if_neg hc]
          exact minA_run h (by simp [VR]) h2
    · cases h
end
end Go.Sx

namespace Go.Sx
open Go.RowKit

section
variable {P : Program} {E : Env} {nx : Nat} {w : World}

-- ------------------------------------------------------------------ maps
theorem keyEq_now {kd : TypeDesc} {a b : AV} {r : Bool} (h : keyEq kd a b = some r) {x y : Value} (hx : VR E nx a x) (hy : VR E nx b y) : Instr.sameNow kd x y = some r ∧ (r = true → Instr.sameBits 10000 y x = true) := by
  unfold keyEq at h
  split at h
  · rename_i kk k1 p k2 q
    simp only [VR] at hx hy
    subst hx hy
    simp only [eqScal] at h
    split at h
    · rename_i hk
      have := kindEq_eq hk
      subst this
      injection h with h
      subst h
      rw [eqI_eq]
      refine ⟨by simp [Instr.sameNow]; rfl, fun hr => ?_⟩
      have : p = q := of_decide_eq_true hr
      subst this
      simp [Instr.sameBits]
    · cases h
  · rename_i la p lb q
    simp only [VR, strV] at hx hy
    subst hx hy
    simp only [eqScal] at h
    injection h with h
    subst h
    rw [eqS_eq]
    have hb : ∀ u v : List UInt8, ((ByteArray.mk u.toArray) == (ByteArray.mk v.toArray)) = (u == v) := fun u v => by rw [beq_toListBytes]; simp
    refine ⟨by simp only [Instr.sameNow, hb], fun hr => ?_⟩
    have := eq_of_beq hr
    simp [Instr.sameBits, hb, this]
  · rename_i p q
    simp only [VR] at hx hy
    subst hx hy
    have := eqScal_bool h
    subst this
    refine ⟨by simp [Instr.sameNow], fun hr => ?_⟩
    have := eq_of_beq hr
    subst this
    simp [Instr.sameBits]
  · cases h
theorem findA_run {kd : TypeDesc} {k : AV} {x : Value} (hx : VR E nx k x) : ∀ {es : List (AV × AV × Nat)} {l : List MapEntry} {i : Nat} {r : Option (Nat × AV)}, findA kd k es i = some r → ERs E nx es l →
    ∃ r', Instr.findNow kd x l i = some r' ∧ (match r, r' with
      | none, none => True
      | some (j, v), some (j', y) => j' = j ∧ VR E nx v y ∧ i ≤ j ∧ (∃ e, l[j - i]? = some e ∧ Instr.sameBits 10000 e.key x = true)
      | _, _ => False)
  | [], l, i, r, h, hl => by
    simp [ERs] at hl
    subst hl
    simp [findA] at h
    subst h
    exact ⟨none, rfl, trivial⟩
  | (k', v, b) :: es, l, i, r, h, hl => by
    simp only [ERs] at hl
    obtain ⟨y, z, q, h1, h2, h3, rfl⟩ := hl
    unfold findA at h
    split at h
    · rename_i he
      injection h with h
      subst h
      obtain ⟨e1, e2⟩ := keyEq_now he hx h1
      refine ⟨some (i, z), by simp [Instr.findNow, e1], rfl, h2, Nat.le_refl _, ⟨⟨y, z, b⟩, by simp, e2 rfl⟩⟩
    · rename_i he
      obtain ⟨e1, _⟩ := keyEq_now he hx h1
      obtain ⟨r', q1, q2⟩ := findA_run hx h h3
      refine ⟨r', by simpa [Instr.findNow, e1] using q1, ?_⟩
      cases r with
      | none => cases r' with
        | none => trivial
        | some _ => exact q2.elim
      | some p =>
        cases r' with
        | none => exact q2.elim
        | some p' =>
          obtain ⟨g1, g2, g3, e, g4, g5⟩ := q2
          refine ⟨g1, g2, by have : i.succ ≤ p.1 := g3; omega, e, ?_, g5⟩
          have : i.succ ≤ p.1 := g3
          rw [show p.1 - i = (p.1 - i.succ) + 1 by omega]
          simpa using g4
    · cases h
theorem keyT_check {t : Nat} (h : keyT P t = true) {v : AV} {x : Value} (hx : VR E nx v x) {kd : TypeDesc} (hu : P.underlying t = some kd) (em : Bool) (n : Nat) : (Instr.checkKey em (n + 1) t x).run P w = .ok () w := by
  unfold keyT at h
  rw [hu] at h
  split at h
  · rename_i kk he; injection he with he; subst he; simp [Instr.checkKey, run_underlying hu]
  · rename_i he; injection he with he; subst he; simp [Instr.checkKey, run_underlying hu]
  · rename_i he; injection he with he; subst he; simp [Instr.checkKey, run_underlying hu]
  · cases h
theorem setEntry_ERs {k v : AV} {x y : Value} (hk : VR E nx k x) (hv : VR E nx v y) : ∀ {es : List (AV × AV × Nat)} {l : List MapEntry} (i : Nat), ERs E nx es l → ERs E nx (setEntry k v es i) (l.modify i fun e => { e with key := x, val := y })
  | [], l, i, h => by
    simp [ERs] at h
    subst h
    cases i <;> simp [setEntry, ERs]
  | (k', v', b) :: es, l, i, h => by
    simp only [ERs] at h
    obtain ⟨p, z, q, h1, h2, h3, rfl⟩ := h
    cases i with
    | zero => simp only [setEntry, ERs, List.modify_cons, if_true]; exact ⟨_, _, _, hk, hv, h3, by simp⟩
    | succ i => simp only [setEntry, ERs, List.modify_succ_cons]; exact ⟨_, _, _, h1, h2, setEntry_ERs hk hv i h3, rfl⟩
theorem pushE_ERs {k v : AV} {b : Nat} {x y : Value} (hk : VR E nx k x) (hv : VR E nx v y) : ∀ {es : List (AV × AV × Nat)} {l : List MapEntry}, ERs E nx es l → ERs E nx (pushE (k, v, b) es) (l ++ [⟨x, y, b⟩])
  | [], l, h => by
    simp [ERs] at h
    subst h
    simp only [pushE, ERs, List.nil_append]
    exact ⟨_, _, _, hk, hv, rfl, rfl⟩
  | (k', v', b') :: es, l, h => by
    simp only [ERs] at h
    obtain ⟨p, z, q, h1, h2, h3, rfl⟩ := h
    simp only [pushE, ERs, List.cons_append]
    exact ⟨_, _, _, h1, h2, pushE_ERs hk hv h3, rfl⟩

theorem opLookup_sound {get : Nat → Option AObj} (hg : GR P E nx w get) {t : Nat} {m k : AV} {xm xk : Value} (hm : VR E nx m xm) (hk : VR E nx k xk) {ok : Bool} {e : Eff} (h : opLookup P get t m k ok = some e) :
    GivesV P E nx w e ((Instr.lookup t xm xk ok).run P w) := by
  unfold opLookup at h
  split at h
  · rename_i kt et hu
    split at h
    · rename_i kd z hkt hkd hz
      obtain ⟨zv, hz1, hz2⟩ := zeroV_run hz
      split at h
      · rename_i es hes
        -- the entries
        have hent : ∃ l : List MapEntry, ERs E nx es l ∧ ((xm = .map none ∧ l = []) ∨ ∃ r clock, xm = .map (some r) ∧ w.heap[r]? = some (.map l.toArray clock)) := by
          split at hes
          · injection hes with hes
            subst hes
            simp only [VR] at hm
            exact ⟨[], rfl, .inl ⟨hm, rfl⟩⟩
          · rename_i id
            split at hes
            · rename_i es' clock hget
              injection hes with hes
              subst hes
              simp only [VR] at hm
              obtain ⟨l, h1, h2⟩ := (hg _ _ hget).2
              exact ⟨l, h2, .inr ⟨_, _, hm.2, h1⟩⟩
            · cases hes
          · cases hes
        obtain ⟨l, hl1, hl2⟩ := hent
        have hrun : ∀ r', Instr.findNow kd xk l 0 = some r' → (Instr.lookup t xm xk ok).run P w = (match r' with
            | some (_, v) => .ok (if ok then .tuple #[v, .bool true] else v) w
            | none => .ok (if ok then .tuple #[zv, .bool false] else zv) w) := by
          intro r' hr'
          have hfk := Go.MapKept.run_findKey (P := P) (w := w) hkd hr'
          have hck := fun em => keyT_check (w := w) hkt hk hkd em 9999
          rcases hl2 with ⟨rfl, rfl⟩ | ⟨r, clock, rfl, hr⟩
          · cases r' with
            | none => simp [Instr.lookup, run_underlying hu, hck, hfk, hz1]
            | some p => simp [Instr.lookup, run_underlying hu, hck, hfk]
          · have hgo : (getObj r).run P w = .ok (.map l.toArray clock) w := by simp [getObj, Sem.run, hr]
            cases r' with
            | none => simp [Instr.lookup, run_underlying hu, hgo, hck, hfk, hz1]
            | some p => simp [Instr.lookup, run_underlying hu, hgo, hck, hfk]
        split at h
        · rename_i j v hf
          obtain ⟨r', q1, q2⟩ := findA_run hk hf hl1
          cases r' with
          | none => exact q2.elim
          | some p =>
            obtain ⟨_, g2, _⟩ := q2
            have hr := hrun _ q1
            split at h
            · injection h with h
              subst h
              refine GivesV.pure hr ?_
              simp only [VR]
              exact ⟨[p.2, .bool true], by simp only [VRs, VR]; exact ⟨_, _, g2, ⟨_, _, rfl, rfl, rfl⟩, rfl⟩, by simp⟩
            · injection h with h
              subst h
              exact GivesV.pure hr (by simpa using g2)
        · rename_i hf
          obtain ⟨r', q1, q2⟩ := findA_run hk hf hl1
          cases r' with
          | some p => exact q2.elim
          | none =>
            have hr := hrun _ q1
            split at h
            · injection h with h
              subst h
              refine GivesV.pure hr ?_
              simp only [VR]
              exact ⟨[zv, .bool false], by simp only [VRs, VR]; exact ⟨_, _, hz2 E nx, ⟨_, _, rfl, rfl, rfl⟩, rfl⟩, by simp⟩
            · injection h with h
              subst h
              exact GivesV.pure hr (by simpa using hz2 E nx)
        · cases h
      · cases h
    · cases h
  · cases h

theorem setObj_map {r : Nat} {l : List MapEntry} {clock : Nat} (h : w.heap[r]? = some (.map l.toArray clock)) (o : Obj) : (setObj r o).run P w = .ok () { w with heap := w.heap.setIfInBounds r o } := by
  simp [setObj, Sem.run, h]
theorem opUpdate_sound {get : Nat → Option AObj} (hg : GR P E nx w get) {t : Nat} {m k v : AV} {xm xk xv : Value} (hm : VR E nx m xm) (hk : VR E nx k xk) (hv : VR E nx v xv) {e : Eff} (h : opUpdate P get t m k v = some e) :
    GivesU P E nx w e ((Instr.mapUpdate t xm xk xv).run P w) := by
  unfold opUpdate at h
  split at h
  · rename_i kt et id hu
    split at h
    · rename_i kd es clock hkt hkd hget
      obtain ⟨hid, ho⟩ := hg _ _ hget
      obtain ⟨l, h1, h2⟩ := ho
      simp only [VR] at hm
      obtain ⟨_, rfl⟩ := hm
      have hlt : (E.at_ id).1 < w.heap.size := (Array.getElem?_eq_some_iff.1 h1).1
      have post : ∀ (es' : List (AV × AV × Nat)) (l' : List MapEntry) (c' : Nat), ERs E nx es' l' →
          UPost P E nx w E { w with heap := w.heap.setIfInBounds (E.at_ id).1 (.map l'.toArray c') } (.set id (.map es' c')) := by
        intro es' l' c' hl'
        refine ⟨rfl, ⟨l', by simp [hlt], hl'⟩, by simp, fun k hk => ?_, ⟨rfl, rfl, rfl⟩⟩
        rw [Array.getElem?_setIfInBounds_ne (Ne.symm hk)]
      split at h
      · rename_i i u hf
        injection h with h
        subst h
        obtain ⟨r', q1, q2⟩ := findA_run hk hf h2
        cases r' with
        | none => exact q2.elim
        | some p =>
          obtain ⟨g1, g2, _, en, g4, g5⟩ := q2
          have hfk := Go.MapKept.run_findKey (P := P) (w := w) hkd q1
          refine ⟨_, E, ?_, post _ (l.modify i fun e => { e with key := xk, val := xv }) clock (setEntry_ERs hk hv i h2), rfl⟩
          have hp1 : p.1 = i := g1
          simp only [Nat.sub_zero] at g4
          have hkey : ((l.toArray[i]?).map (·.key)).getD xk = en.key := by simp [g4]
          unfold Instr.mapUpdate
          simp only [Sem.run_bind, run_underlying hu, Result.andThen_ok]
          have hgo : (getObj (E.at_ id).1).run P w = .ok (.map l.toArray clock) w := by simp [getObj, Sem.run, h1]
          simp only [hgo, Result.andThen_ok, keyT_check hkt hk hkd _ 9999, Sem.run_bind]
          rw [hfk]
          simp only [Result.andThen_ok, Sem.run_bind, hp1, hkey, Instr.keyThatStays, g5, if_true, Sem.run_pure]
          rw [setObj_map h1]
          congr 5
          simp
      · rename_i hf
        injection h with h
        subst h
        obtain ⟨r', q1, q2⟩ := findA_run hk hf h2
        cases r' with
        | some p => exact q2.elim
        | none =>
          have hfk := Go.MapKept.run_findKey (P := P) (w := w) hkd q1
          refine ⟨_, E, ?_, post _ (l ++ [⟨xk, xv, clock⟩]) (clock + 1) (pushE_ERs hk hv h2), rfl⟩
          unfold Instr.mapUpdate
          simp only [Sem.run_bind, run_underlying hu, Result.andThen_ok]
          have hgo : (getObj (E.at_ id).1).run P w = .ok (.map l.toArray clock) w := by simp [getObj, Sem.run, h1]
          simp only [hgo, Result.andThen_ok, keyT_check hkt hk hkd _ 9999, Sem.run_bind]
          rw [hfk]
          simp only [Result.andThen_ok]
          rw [setObj_map h1]
          congr 5
          simp
      · cases h
    · cases h
  · cases h

-- ------------------------------------------------------------------ bytes shared with strings
theorem opSliceData_sound {v : AV} {x : Value} (hx : VR E nx v x) {e : Eff} (h : opSliceData v = some e) (ts : Array TypeId) (ty : Nat) : GivesV P E nx w e ((Builtin.unsafeSliceData_ ts ty #[x]).run P w) := by
  unfold opSliceData at h
  split at h
  · injection h with h
    subst h
    simp only [VR] at hx
    subst hx
    exact GivesV.pure (x := .pointer none) rfl (by simp [VR])
  · rename_i id off len c
    split at h
    · cases h
    · rename_i hc
      injection h with h
      subst h
      simp only [VR] at hx
      obtain ⟨hid, rfl⟩ := hx
      have hc' : c ≠ 0 := Nat.ne_of_beq_eq_false hc
      exact GivesV.pure (Lib.run_unsafeSliceData_row w ts ty _ len c hc') (by simp [VR, hid])
  · rename_i id off len j
    split at h
    · cases h
    · rename_i hc
      injection h with h
      subst h
      simp only [VR] at hx
      obtain ⟨hid, hcap, rfl⟩ := hx
      have hc' : len ≠ 0 := Nat.ne_of_beq_eq_false hc
      have hc2 : E.cap id - j ≠ 0 := by omega
      exact GivesV.pure (Lib.run_unsafeSliceData_row w ts ty _ len _ hc2) (by simp [VR, hid])
  · cases h
theorem opUString_sound {get : Nat → Option AObj} (hg : GR P E nx w get) {types : List Nat} {p n : AV} {xp xn : Value} (hp : VR E nx p xp) (hn : VR E nx n xn) {e : Eff} (h : opUString P get types p n = some e) (ty : Nat) :
    GivesV P E nx w e ((Builtin.unsafeString_ types.toArray ty #[xp, xn]).run P w) := by
  unfold opUString at h
  split at h
  · rename_i pt it n
    simp only [VR] at hn
    subst hn
    split at h
    · rename_i hn0
      have hn0' : n = 0 := Nat.eq_of_beq_eq_true hn0
      subst hn0'
      obtain ⟨q, rfl⟩ : ∃ q, xp = .pointer q := by
        split at h
        · simp only [VR] at hp; exact ⟨_, hp⟩
        · simp only [VR] at hp; exact ⟨_, hp.2⟩
        · cases h
      have he : e = ⟨.str 0 0, .non⟩ := by
        split at h
        · injection h with h; exact h.symm
        · injection h with h; exact h.symm
        · cases h
      subst he
      exact GivesV.pure (Lib.run_unsafeString_none w pt it ty q) (by simp [VR, strV, bytesL]; rfl)
    · rename_i hn0
      have hn0' : n ≠ 0 := Nat.ne_of_beq_eq_false hn0
      split at h
      · rename_i id off
        split at h
        · rename_i el cs fz hget hoff
          have hoff' : off = 0 := Nat.eq_of_beq_eq_true hoff
          subst hoff'
          split at h
          · rename_i pe l hpt hel hsz hsub hle
            split at h
            · rename_i kk hpe hpk
              injection h with h
              subst h
              have hpe' : el = pe := Nat.eq_of_beq_eq_true hpe
              subst hpe'
              simp only [VR] at hp
              obtain ⟨hid, rfl⟩ := hp
              obtain ⟨_, ho⟩ := hg _ _ hget
              obtain ⟨xs, hx1, hx2⟩ := ho.range hsub
              obtain ⟨bs, hb1, hb2, hb3⟩ := packA_spec hpk
              have hxs := VRs_bytes hb1 hx1
              have hll := (sub?_spec hsub).1
              obtain ⟨c, fr, r0, r1, r2, r3, r4⟩ := ho
              obtain ⟨hb0, hfr⟩ := r4 rfl
              have hcells := szT_cells hsz
              have hin : n ≤ c.size := by
                have := (sub?_spec hsub).2 (n - 1) (by omega)
                obtain ⟨y, hy, _⟩ := r2 (0 + (n - 1)) cs[0 + (n - 1)] (by rw [nth_eq]; exact List.getElem?_eq_getElem this.2)
                have := (Array.getElem?_eq_some_iff.1 hy).1
                omega
              have hle' : n ≤ 9223372036854775807 := Nat.le_of_ble_eq_true hle
              have hbl : (bytesL n kk).length = n := bytesL_length n kk
              have haddr : E.addr id 0 = ⟨(E.at_ id).1, 0, none⟩ := by simp [Env.addr, hb0]
              have hrun := Lib.run_unsafeString_row (P := P) w pt it ty el hpt hcells (E.at_ id).1 c.size (by simp [World.shape?, r0]) (bytesL n kk) (fun h0 => by rw [h0] at hbl; simp at hbl; omega) (by omega) (by omega) (fun j x hj => by
                rw [← hll, hb2, List.getElem?_map] at hj
                cases hbj : bs[j]? with
                | none => rw [hbj] at hj; simp at hj
                | some b =>
                  rw [hbj] at hj
                  simp at hj
                  subst hj
                  have hlt := hb3 b (List.mem_of_getElem? hbj)
                  have := hx2 j (.int .u8 b) (by rw [hxs]; simp [hbj])
                  rw [Addr.add_mid]
                  rw [hb0] at this
                  rw [show (UInt8.ofNat b).toNat = b by simp; omega]
                  simpa using this)
              rw [hbl] at hrun
              refine ⟨strV n kk, w.freeze ⟨(E.at_ id).1, 0, none⟩ n, E, by rw [haddr]; exact hrun, ⟨rfl, ?_, ?_, ?_, ?_⟩, by simp [VR]⟩
              · simp only [World.freeze, hn0', if_false]
                have h5 : fz ≤ Nat.max fz n := Nat.le_max_left _ _
                have h6 : n ≤ Nat.max fz n := Nat.le_max_right _ _
                refine ⟨c, if fr.1 == fr.2 then (0, 0 + n) else (min fr.1 0, max fr.2 (0 + n)), ?_, r1, r2, ?_, ?_⟩
                · simp [Array.getElem?_modify, r0]
                · intro o ho1 ho2
                  split
                  · simp only []; omega
                  · rename_i hne
                    have : fr.1 ≠ fr.2 := fun h => hne (by simp [h])
                    simp only []
                    omega
                · intro _
                  refine ⟨hb0, .inr ?_⟩
                  split
                  · simp only []; omega
                  · rename_i hne
                    have : fr.1 ≠ fr.2 := fun h => hne (by simp [h])
                    simp only []
                    omega
              · simp [World.freeze, hn0']
              · intro k hk
                simp only [World.freeze, hn0', if_false, Array.getElem?_modify]
                rw [if_neg (Ne.symm hk)]
              · simp only [World.freeze, hn0', if_false]
                exact ⟨rfl, rfl, rfl⟩
            · cases h
          · cases h
        · cases h
      · cases h
  · cases h

-- ------------------------------------------------------------------ all operations
/-- What an operation gives, told of the model's run of it. -/
def Gives (P : Program) (E : Env) (nx : Nat) (w : World) (e : Eff) (r : Result Next) : Prop :=
  ∃ x w' E', (r = .ok (.value x) w' ∨ (r = .ok .skip w' ∧ x = undef)) ∧ UPost P E nx w E' w' e.u ∧ VR E' (e.u.nx nx) e.v x
theorem GivesV.up {e : Eff} {s : Sem Value} (h : GivesV P E nx w e (s.run P w)) : Gives P E nx w e ((s >>= fun v => Pure.pure (Next.value v)).run P w) := by
  obtain ⟨x, w', E', h1, h2, h3⟩ := h
  exact ⟨x, w', E', .inl (by simp [h1]), h2, h3⟩
theorem GivesU.up {e : Eff} {s : Sem Unit} (h : GivesU P E nx w e (s.run P w)) : Gives P E nx w e ((s >>= fun _ => Pure.pure Next.skip).run P w) := by
  obtain ⟨w', E', h1, h2, h3⟩ := h
  exact ⟨undef, w', E', .inr ⟨by simp [h1], rfl⟩, h2, by rw [h3]; simp [VR, VRs, undef]⟩
theorem Gives.plain {v : AV} {x : Value} {r : Result Next} (hr : r = .ok (.value x) w) (hv : VR E nx v x) : Gives P E nx w ⟨v, .non⟩ r :=
  ⟨x, w, E, .inl hr, ⟨rfl, rfl, Calm.refl w⟩, hv⟩

theorem opBuiltin_sound {get : Nat → Option AObj} (hg : GR P E nx w get) {b : Builtin} {types : List Nat} {args : List AV} {xs : List Value} (hx : VRs E nx args xs) {e : Eff} (h : opBuiltin P get nx b types args = some e) (ty : Nat) (cs : Array Bool) :
    Gives P E nx w e ((builtin b types.toArray ty cs xs.toArray).run P w) := by
  unfold opBuiltin at h
  split at h
  · rename_i x
    simp only [VRs] at hx
    obtain ⟨y, r, h1, h2, rfl⟩ := hx
    subst h2
    split at h
    · exact (opLen_sound hg h1 h ty).up
    · cases h
  · rename_i x
    simp only [VRs] at hx
    obtain ⟨y, r, h1, h2, rfl⟩ := hx
    subst h2
    split at h
    · exact (opCap_sound h1 h ty).up
    · cases h
  · rename_i s x
    simp only [VRs] at hx
    obtain ⟨y, r, h1, ⟨z, q, h2, h3, rfl⟩, rfl⟩ := hx
    subst h3
    exact (opAppend_sound hg h1 h2 h ty).up
  · rename_i s x
    simp only [VRs] at hx
    obtain ⟨y, r, h1, ⟨z, q, h2, h3, rfl⟩, rfl⟩ := hx
    subst h3
    exact (opCopy_sound hg h1 h2 h ty).up
  · rename_i x
    simp only [VRs] at hx
    obtain ⟨y, r, h1, h2, rfl⟩ := hx
    subst h2
    exact (opSliceData_sound h1 h _ ty).up
  · rename_i s x
    simp only [VRs] at hx
    obtain ⟨y, r, h1, ⟨z, q, h2, h3, rfl⟩, rfl⟩ := hx
    subst h3
    exact (opUString_sound hg h1 h2 h ty).up
  · rename_i x l
    split at h
    · rename_i v hv
      injection h with h
      subst h
      simp only [VRs] at hx
      obtain ⟨y, r, h1, h2, rfl⟩ := hx
      obtain ⟨z, q1, q2⟩ := minA_run (P := P) (w := w) hv h1 h2
      exact GivesV.up (s := Builtin.min_ types.toArray ty (y :: r).toArray) (GivesV.pure (x := z) (by simpa [Builtin.min_] using q1) q2)
    · cases h
  · rename_i x l
    split at h
    · rename_i v hv
      injection h with h
      subst h
      simp only [VRs] at hx
      obtain ⟨y, r, h1, h2, rfl⟩ := hx
      obtain ⟨z, q1, q2⟩ := minA_run (P := P) (w := w) hv h1 h2
      exact GivesV.up (s := Builtin.max_ types.toArray ty (y :: r).toArray) (GivesV.pure (x := z) (by simpa [Builtin.max_] using q1) q2)
    · cases h
  · cases h

theorem mapArr {α β : Type} (f : α → β) (a : Array α) : (a.toList.map f).toArray = a.map f := by rw [← Array.toList_map]
set_option maxHeartbeats 3200000 in
theorem aop_sound {get : Nat → Option AObj} (hg : GR P E nx w get) {S : PT AV} {a : Act} (hS : SR E nx S a) (o : Oper) {e : Eff} (h : aop P get nx o.op S = some e) : Gives P E nx w e ((execOp a.eval o).run P w) := by
  obtain ⟨dst, op, ty, pos, after, guard⟩ := o
  simp only [] at h
  unfold aop at h
  split at h
  · -- move
    split at h
    · rename_i v hv
      injection h with h
      subst h
      exact Gives.plain rfl (ev_sound hS hv)
    · cases h
  · split at h
    · rename_i v hv
      injection h with h
      subst h
      exact Gives.plain rfl (ev_sound hS hv)
    · cases h
  · -- pick
    rename_i c p q
    split at h
    · rename_i hc
      have hb := ev_sound hS hc
      simp only [VR] at hb
      split at h
      · rename_i v hv
        injection h with h
        subst h
        exact Gives.plain (x := a.eval p) (by simp [execOp, hb, asBool]) (ev_sound hS hv)
      · cases h
    · rename_i hc
      have hb := ev_sound hS hc
      simp only [VR] at hb
      split at h
      · rename_i v hv
        injection h with h
        subst h
        exact Gives.plain (x := a.eval q) (by simp [execOp, hb, asBool]) (ev_sound hS hv)
      · cases h
    · cases h
  · exact (opAlloc_sound h).up
  · split at h
    · rename_i v hv
      exact (opBox_sound (ev_sound hS hv) h).up
    · cases h
  · rename_i t ps
    split at h
    · rename_i l hl
      have := evP_sound hS hl
      exact (opBuild_sound (ps := ps.map fun p => (p.1, a.eval p.2)) (by simpa using this) h).up
    · cases h
  · rename_i t n ps
    split at h
    · rename_i l hl
      have := evP_sound hS hl
      exact (opBuildSlice_sound (ps := ps.map fun p => (p.1, a.eval p.2)) (by simpa using this) h).up
    · cases h
  · split at h
    · rename_i v hv
      exact (opLoad_sound hg h (ev_sound hS hv)).up
    · cases h
  · split at h
    · rename_i p v hp hv
      exact (opStore_sound hg h (ev_sound hS hp) (ev_sound hS hv)).up
    · cases h
  · -- nilCheck
    rename_i x
    split at h
    · rename_i i off hv
      injection h with h
      subst h
      have hr := ev_sound hS hv
      have hr0 := hr
      simp only [VR] at hr
      refine Gives.plain (x := a.eval x) ?_ hr0
      rw [hr.2]
      simp [execOp, hr.2]
    · rename_i f p q hv
      injection h with h
      subst h
      have hr := ev_sound hS hv
      have hr0 := hr
      simp only [VR] at hr
      obtain ⟨xs, ys, _, _, hr⟩ := hr
      refine Gives.plain (x := a.eval x) ?_ hr0
      rw [hr]
      simp [execOp, hr]
    · cases h
  · rename_i op t x y ty'
    split at h
    · rename_i p q hp hq
      exact (opBin_sound (ev_sound hS hp) (ev_sound hS hq) h x y).up
    · cases h
  · split at h
    · rename_i p hp
      exact (opUn_sound (ev_sound hS hp) h).up
    · cases h
  · split at h
    · rename_i p hp
      exact (opConvert_sound hg (ev_sound hS hp) h).up
    · cases h
  · -- makeFunc
    rename_i f first caps
    split at h
    · rename_i p q hp hq
      injection h with h
      subst h
      have h1 := evs_sound hS hp
      have h2 := evs_sound hS hq
      refine Gives.plain (x := .func (.func f) (first.map a.eval) (caps.map a.eval)) (by simp [execOp, Instr.makeFunc]) ?_
      simp only [VR]
      exact ⟨_, _, h1, h2, by rw [mapArr, mapArr]⟩
    · cases h
  · -- makeMap
    injection h with h
    subst h
    refine ⟨.map (some w.heap.size), { w with heap := w.heap.push (.map #[] 0) }, E.set nx (w.heap.size, 0) 0, .inl (by simp [execOp, Instr.makeMap]), ⟨Agree.set _ _ _ _, by simp, ⟨[], by simp, rfl⟩, by simp, fun j hj => by simp only []; rw [Array.getElem?_push, if_neg (by omega)], ⟨rfl, rfl, rfl⟩⟩, ?_⟩
    simp only [VR, Upd.nx]
    exact ⟨Nat.lt_succ_self nx, by simp⟩
  · split at h
    · rename_i p q hp hq
      exact (opMakeSlice_sound (ev_sound hS hp) (ev_sound hS hq) h).up
    · cases h
  · split at h
    · rename_i v l r m hv hl hr hm
      exact (opSlice_sound (ev_sound hS hv) (evO_sound hS hl) (evO_sound hS hr) (evO_sound hS hm) h).up
    · cases h
  · split at h
    · rename_i v hv
      exact (opFieldAddr_sound (ev_sound hS hv) h).up
    · cases h
  · split at h
    · rename_i v hv
      exact (opField_sound (ev_sound hS hv) h).up
    · cases h
  · split at h
    · rename_i p q hp hq
      exact (opIndexAddr_sound (ev_sound hS hp) (ev_sound hS hq) h).up
    · cases h
  · split at h
    · rename_i p q hp hq
      exact (opIndex_sound (ev_sound hS hp) (ev_sound hS hq) h).up
    · cases h
  · split at h
    · rename_i p q hp hq
      exact (opLookup_sound hg (ev_sound hS hp) (ev_sound hS hq) h).up
    · cases h
  · split at h
    · rename_i p q r hp hq hr
      exact (opUpdate_sound hg (ev_sound hS hp) (ev_sound hS hq) (ev_sound hS hr) h).up
    · cases h
  · split at h
    · rename_i p q r hp hq hr
      exact (opUpdate_sound hg (ev_sound hS hp) (ev_sound hS hq) (ev_sound hS hr) h).up
    · cases h
  · -- extract
    rename_i t i
    split at h
    · rename_i l hv
      rw [nth_eq] at h
      split at h
      · rename_i v hn
        injection h with h
        subst h
        have hr := ev_sound hS hv
        simp only [VR] at hr
        obtain ⟨xs, h1, h2⟩ := hr
        obtain ⟨y, hy, hyr⟩ := h1.nth _ _ hn
        refine Gives.plain (x := y) ?_ hyr
        simp [execOp, Instr.extract, h2, hy]
      · cases h
    · cases h
  · -- a call of a builtin
    rename_i c
    split at h
    · rename_i b hb
      split at h
      · rename_i l hl
        have := evs_sound hS hl
        have key : ∀ cs, Gives P E nx w e ((builtin b c.argTypes ty cs (c.args.map a.eval)).run P w) := fun cs => by
          have h3 := opBuiltin_sound hg this h ty cs
          rw [mapArr] at h3
          simpa using h3
        have hex : ∃ cs, execOp a.eval { dst := dst, op := .call c, type := ty, pos := pos, after := after, guard := guard } = builtin b c.argTypes ty cs (c.args.map a.eval) := by
          refine ⟨c.args.map fun | .const _ => true | _ => false, ?_⟩
          simp only [execOp, resolve, hb]
          rfl
        obtain ⟨cs, hcs⟩ := hex
        rw [hcs]
        exact key cs
      · cases h
    · cases h
  · cases h
end
end Go.Sx

namespace Go.Sx
open Go.RowKit

variable {P : Program}

/-- The runner's blocks stand in the world, each in a block of its own. -/
structure Rep (P : Program) (E : Env) (H : Hp) (w : World) : Prop where
  objs : GR P E H.next w H.m.get
  sep : ∀ i j oi oj, H.m.get i = some oi → H.m.get j = some oj → (E.at_ i).1 = (E.at_ j).1 → i = j

/-- A name that may have been written: not an elder one, or one of the log. -/
def Hit (H H' : Hp) (y : Nat) : Prop := H.lim ≤ y ∨ y ∈ H'.log

/-- What a stretch of code did. -/
structure Tr (E : Env) (H : Hp) (w : World) (E' : Env) (H' : Hp) (w' : World) : Prop where
  agree : Agree E E' H.next
  next : H.next ≤ H'.next
  lim : H'.lim = H.lim
  log : ∀ i, i ∈ H.log → i ∈ H'.log
  logd : ∀ i, i ∈ H'.log → i ∈ H.log ∨ (i < H.lim ∧ ((∃ o, H.m.get i = some o) ∨ H.next ≤ i))
  keep : ∀ i o, H'.m.get i = some o → i < H.next → ∃ o', H.m.get i = some o'
  same : ∀ i, i < H.next → ¬ Hit H H' i → H'.m.get i = H.m.get i
  fresh : ∀ i o, H'.m.get i = some o → H.next ≤ i → w.heap.size ≤ (E'.at_ i).1 ∨ ∃ y o', H.m.get y = some o' ∧ (E.at_ y).1 = (E'.at_ i).1 ∧ Hit H H' y
  frame : ∀ b, b < w.heap.size → w'.heap[b]? = w.heap[b]? ∨ ∃ y o', H.m.get y = some o' ∧ (E.at_ y).1 = b ∧ Hit H H' y
  size : w.heap.size ≤ w'.heap.size
  calm : Calm w w'

theorem Tr.refl (E : Env) (H : Hp) (w : World) (hn : ∀ i o, H.m.get i = some o → i < H.next) : Tr E H w E H w :=
  ⟨Agree.refl _ _, Nat.le_refl _, rfl, fun _ h => h, fun _ h => .inl h, fun i o h _ => ⟨o, h⟩, fun _ _ _ => rfl, fun i o h hi => absurd (hn i o h) (by omega), fun _ _ => .inl rfl, Nat.le_refl _, Calm.refl _⟩

theorem Tr.trans {E1 E2 E3 : Env} {H1 H2 H3 : Hp} {w1 w2 w3 : World} (a : Tr E1 H1 w1 E2 H2 w2) (b : Tr E2 H2 w2 E3 H3 w3) : Tr E1 H1 w1 E3 H3 w3 := by
  have hit2 : ∀ y, Hit H1 H2 y → Hit H1 H3 y := fun y h => h.imp id (b.log y)
  have hit3 : ∀ y, Hit H2 H3 y → Hit H1 H3 y := fun y h => by
    rcases h with h | h
    · exact .inl (a.lim ▸ h)
    · exact .inr h
  -- what a block of H2's is in terms of H1
  have back : ∀ y o, H2.m.get y = some o → Hit H2 H3 y → w1.heap.size ≤ (E2.at_ y).1 ∨ ∃ z o', H1.m.get z = some o' ∧ (E1.at_ z).1 = (E2.at_ y).1 ∧ Hit H1 H3 z := by
    intro y o hy hh
    rcases Nat.lt_or_ge y H1.next with h | h
    · obtain ⟨o', ho'⟩ := a.keep y o hy h
      exact .inr ⟨y, o', ho', by rw [(a.agree y h).1], hit3 y hh⟩
    · rcases a.fresh y o hy h with h1 | ⟨z, o', h1, h2, h3⟩
      · exact .inl h1
      · exact .inr ⟨z, o', h1, h2, hit2 z h3⟩
  refine ⟨a.agree.trans b.agree a.next, Nat.le_trans a.next b.next, b.lim.trans a.lim, fun i h => b.log i (a.log i h), ?_, ?_, ?_, ?_, ?_, Nat.le_trans a.size b.size, a.calm.trans b.calm⟩
  · intro i h
    rcases b.logd i h with h1 | ⟨h1, h2⟩
    · exact a.logd i h1
    · right
      refine ⟨a.lim ▸ h1, ?_⟩
      rcases h2 with ⟨o, ho⟩ | h2
      · rcases Nat.lt_or_ge i H1.next with h3 | h3
        · exact .inl (a.keep i o ho h3)
        · exact .inr h3
      · exact .inr (Nat.le_trans a.next h2)
  · intro i o h hi
    obtain ⟨o', ho'⟩ := b.keep i o h (Nat.lt_of_lt_of_le hi a.next)
    exact a.keep i o' ho' hi
  · intro i hi hh
    rw [b.same i (Nat.lt_of_lt_of_le hi a.next) (fun h => hh (hit3 i h)), a.same i hi (fun h => hh (hit2 i h))]
  · intro i o h hi
    rcases Nat.lt_or_ge i H2.next with h2 | h2
    · obtain ⟨o', ho'⟩ := b.keep i o h h2
      rw [(b.agree i h2).1]
      rcases a.fresh i o' ho' hi with h3 | ⟨y, o'', h3, h4, h5⟩
      · exact .inl h3
      · exact .inr ⟨y, o'', h3, h4, hit2 y h5⟩
    · rcases b.fresh i o h h2 with h3 | ⟨y, o', h3, h4, h5⟩
      · exact .inl (Nat.le_trans a.size h3)
      · rcases back y o' h3 h5 with h6 | ⟨z, o'', h6, h7, h8⟩
        · exact .inl (h4 ▸ h6)
        · exact .inr ⟨z, o'', h6, h7.trans h4, h8⟩
  · intro k hk
    rcases b.frame k (Nat.lt_of_lt_of_le hk a.size) with h | ⟨y, o', h1, h2, h3⟩
    · rcases a.frame k hk with h' | ⟨y, o', h1, h2, h3⟩
      · exact .inl (h.trans h')
      · exact .inr ⟨y, o', h1, h2, hit2 y h3⟩
    · rcases back y o' h1 h3 with h6 | ⟨z, o'', h6, h7, h8⟩
      · rw [h2] at h6; omega
      · exact .inr ⟨z, o'', h6, h7.trans h2, h8⟩

-- ------------------------------------------------------------------ one effect
theorem blt_eq (a b : Nat) : Nat.blt a b = decide (a < b) := by
  rw [Bool.eq_iff_iff, decide_eq_true_eq]
  show Nat.ble (a + 1) b = true ↔ _
  rw [Nat.ble_eq]
  omega
theorem memN_dec (l : List Nat) (k : Nat) : memN l k = decide (k ∈ l) := by rw [Bool.eq_iff_iff, decide_eq_true_eq, memN_eq]
@[simp] theorem Upd.onto_next (H : Hp) (u : Upd) : (u.onto H).next = u.nx H.next := by cases u <;> rfl
@[simp] theorem Upd.onto_lim (H : Hp) (u : Upd) : (u.onto H).lim = H.lim := by cases u <;> rfl
theorem layH_log {id : Nat} {o : Option AObj} {H : Hp} (i : Nat) (h : i ∈ H.log) : i ∈ (layH id o H).log := by
  simp only [layH]; split <;> simp [h]
theorem layH_logd {id : Nat} {o : Option AObj} {H : Hp} {oo : AObj} (hoo : H.m.get id = some oo) (i : Nat) (h : i ∈ (layH id o H).log) : i ∈ H.log ∨ (i < H.lim ∧ ((∃ o, H.m.get i = some o) ∨ H.next ≤ i)) := by
  simp only [layH] at h
  split at h
  · rename_i hc
    rcases List.mem_cons.1 h with rfl | h
    · exact .inr ⟨hc.1, .inl ⟨oo, hoo⟩⟩
    · exact .inl h
  · exact .inl h
theorem layH_hit {id : Nat} {o : Option AObj} {H : Hp} : H.lim ≤ id ∨ id ∈ (layH id o H).log := by
  simp only [layH]
  by_cases h1 : id < H.lim
  · right
    by_cases h2 : id ∈ H.log
    · rw [if_neg (by simp [h2])]; exact h2
    · rw [if_pos ⟨h1, h2⟩]; simp
  · exact .inl (by omega)

theorem eff_step {E E' : Env} {H : Hp} {w w' : World} (hr : Rep P E H w) {u : Upd} (hu : UPost P E H.next w E' w' u) (hon : ∀ id, u.on = some id → ∃ o, H.m.get id = some o) :
    Rep P E' (u.onto H) w' ∧ Tr E H w E' (u.onto H) w' := by
  have hlt : ∀ i o, H.m.get i = some o → i < H.next := fun i o h => (hr.objs i o h).1
  have hblk : ∀ i o, H.m.get i = some o → (E.at_ i).1 < w.heap.size := fun i o h => (hr.objs i o h).2.lt
  cases u with
  | non =>
    obtain ⟨rfl, h1, h2⟩ := hu
    refine ⟨⟨fun i o h => ⟨hlt i o h, (hr.objs i o h).2.mono (hlt i o h) (Agree.refl _ _) (Nat.le_refl _) (by rw [h1])⟩, hr.sep⟩, ?_⟩
    exact ⟨Agree.refl _ _, Nat.le_refl _, rfl, fun _ h => h, fun _ h => .inl h, fun i o h _ => ⟨o, h⟩, fun _ _ _ => rfl, fun i o h hi => absurd (hlt i o h) (by omega), fun b _ => .inl (by rw [h1]), by rw [h1]; exact Nat.le_refl _, h2⟩
  | new o =>
    obtain ⟨h1, h2, h3, h4, h5, h6⟩ := hu
    have hget : ∀ i, (newH o H).m.get i = if i = H.next then some o else H.m.get i := fun i => PT.get_put _ _ _ _
    refine ⟨⟨fun i p h => ?_, fun i j oi oj hi hj he => ?_⟩, ?_⟩
    · have h' : (newH o H).m.get i = some p := h
      rw [hget] at h'
      split at h'
      · rename_i hi
        subst hi
        injection h' with h'
        subst h'
        exact ⟨Nat.lt_succ_self _, h3⟩
      · exact ⟨Nat.lt_succ_of_lt (hlt i p h'), (hr.objs i p h').2.mono (hlt i p h') h1 (Nat.le_succ _) (h5 _ (hblk i p h'))⟩
    · have hi' : (newH o H).m.get i = some oi := hi
      have hj' : (newH o H).m.get j = some oj := hj
      rw [hget] at hi' hj'
      split at hi'
      · rename_i hi0
        split at hj'
        · rename_i hj0; rw [hi0, hj0]
        · rename_i hj0
          rw [hi0, h2, (h1 j (hlt j oj hj')).1] at he
          have := hblk j oj hj'
          omega
      · rename_i hi0
        split at hj'
        · rename_i hj0
          rw [hj0, h2, (h1 i (hlt i oi hi')).1] at he
          have := hblk i oi hi'
          omega
        · rename_i hj0
          rw [(h1 i (hlt i oi hi')).1, (h1 j (hlt j oj hj')).1] at he
          exact hr.sep i j oi oj hi' hj' he
    · refine ⟨h1, Nat.le_succ _, rfl, fun _ h => h, fun _ h => .inl h, fun i p h hi => ?_, fun i hi _ => ?_, fun i p h hi => ?_, fun b hb => .inl (h5 b hb), by rw [h4]; omega, h6⟩
      · have h' : (newH o H).m.get i = some p := h
        rw [hget, if_neg (by omega)] at h'
        exact ⟨p, h'⟩
      · show (newH o H).m.get i = _
        rw [hget, if_neg (by omega)]
      · have h' : (newH o H).m.get i = some p := h
        rw [hget] at h'
        split at h'
        · rename_i hi0
          left; rw [hi0, h2]; exact Nat.le_refl _
        · exact absurd (hlt i p h') (by omega)
  | set id o =>
    obtain ⟨rfl, h1, h2, h3, h4⟩ := hu
    obtain ⟨oo, hoo⟩ := hon id rfl
    have hget : ∀ i, (layH id (some o) H).m.get i = if i = id then some o else H.m.get i := fun i => PT.get_put _ _ _ _
    have hne : ∀ i p, H.m.get i = some p → i ≠ id → (E'.at_ i).1 ≠ (E'.at_ id).1 := fun i p h hi he => hi (hr.sep i id p oo h hoo he)
    have hin : ∀ i p, (layH id (some o) H).m.get i = some p → ∃ p', H.m.get i = some p' := fun i p h => by
      rw [hget] at h
      split at h
      · rename_i hi; subst hi; exact ⟨oo, hoo⟩
      · exact ⟨p, h⟩
    refine ⟨⟨fun i p h => ?_, fun i j oi oj hi hj he => ?_⟩, ?_⟩
    · have h' : (layH id (some o) H).m.get i = some p := h
      rw [hget] at h'
      split at h'
      · rename_i hi
        subst hi
        injection h' with h'
        subst h'
        exact ⟨hlt i oo hoo, h1⟩
      · rename_i hi
        exact ⟨hlt i p h', (hr.objs i p h').2.mono (hlt i p h') (Agree.refl _ _) (Nat.le_refl _) (h3 _ (hne i p h' hi))⟩
    · obtain ⟨pi, hpi⟩ := hin i oi hi
      obtain ⟨pj, hpj⟩ := hin j oj hj
      exact hr.sep i j pi pj hpi hpj he
    · refine ⟨Agree.refl _ _, Nat.le_refl _, rfl, fun i h => layH_log i h, fun i h => layH_logd hoo i h, fun i p h _ => hin i p h, fun i hi hh => ?_, fun i p h hi => ?_, fun b hb => ?_, by rw [h2]; exact Nat.le_refl _, h4⟩
      · show (layH id (some o) H).m.get i = _
        rw [hget, if_neg (fun e => hh (by subst e; exact layH_hit))]
      · obtain ⟨p', hp'⟩ := hin i p h
        exact absurd (hlt i p' hp') (by omega)
      · by_cases hbe : b = (E'.at_ id).1
        · exact .inr ⟨id, oo, hoo, hbe.symm, layH_hit⟩
        · exact .inl (h3 b hbe)
  | app id o =>
    obtain ⟨h1, h2, h3, h4⟩ := hu
    obtain ⟨oo, hoo⟩ := hon id rfl
    have hid := hlt id oo hoo
    have hget : ∀ i, (newH o (layH id none H)).m.get i = if i = H.next then some o else if i = id then none else H.m.get i := fun i => by
      show (PT.put _ _ _).get i = _
      rw [PT.get_put]
      show (if i = H.next then some o else (H.m.put id none).get i) = _
      rw [PT.get_put]
    have hne : ∀ i p, H.m.get i = some p → i ≠ id → (E.at_ i).1 ≠ (E.at_ id).1 := fun i p h hi he => hi (hr.sep i id p oo h hoo he)
    have hsame : ∀ i p, H.m.get i = some p → i ≠ id → w'.heap[(E.at_ i).1]? = w.heap[(E.at_ i).1]? := fun i p h' hi => by
      rcases h4 with ⟨_, _, h⟩ | ⟨_, _, h⟩
      · exact h _ (hne i p h' hi)
      · exact h _ (hblk i p h')
    have hnb : ∀ i p, H.m.get i = some p → i ≠ id → (E'.at_ H.next).1 ≠ (E.at_ i).1 := fun i p h hi he => by
      rcases h4 with ⟨h5, _, _⟩ | ⟨h5, _, _⟩
      · exact hne i p h hi (by rw [← he, h5])
      · have := hblk i p h; omega
    refine ⟨⟨fun i p h => ?_, fun i j oi oj hi hj he => ?_⟩, ?_⟩
    · have h' : (newH o (layH id none H)).m.get i = some p := h
      rw [hget] at h'
      split at h'
      · rename_i hi
        subst hi
        injection h' with h'
        subst h'
        exact ⟨Nat.lt_succ_self _, h2⟩
      · split at h'
        · cases h'
        · rename_i hi
          exact ⟨Nat.lt_succ_of_lt (hlt i p h'), (hr.objs i p h').2.mono (hlt i p h') h1 (Nat.le_succ _) (hsame i p h' hi)⟩
    · have hi' : (newH o (layH id none H)).m.get i = some oi := hi
      have hj' : (newH o (layH id none H)).m.get j = some oj := hj
      rw [hget] at hi' hj'
      split at hi'
      · rename_i hi0
        split at hj'
        · rename_i hj0; rw [hi0, hj0]
        · split at hj'
          · cases hj'
          · rename_i hj0
            rw [hi0, (h1 j (hlt j oj hj')).1] at he
            exact absurd he (hnb j oj hj' hj0)
      · split at hi'
        · cases hi'
        · rename_i hi0
          split at hj'
          · rename_i hj0
            rw [hj0, (h1 i (hlt i oi hi')).1] at he
            exact absurd he.symm (hnb i oi hi' hi0)
          · split at hj'
            · cases hj'
            · rw [(h1 i (hlt i oi hi')).1, (h1 j (hlt j oj hj')).1] at he
              exact hr.sep i j oi oj hi' hj' he
    · have hhit : Hit H (newH o (layH id none H)) id := layH_hit (o := none)
      refine ⟨h1, Nat.le_succ _, rfl, fun i h => layH_log (o := none) i h, fun i h => layH_logd (o := none) hoo i h, fun i p h hi => ?_, fun i hi hh => ?_, fun i p h hi => ?_, fun b hb => ?_, ?_, h3⟩
      · have h' : (newH o (layH id none H)).m.get i = some p := h
        rw [hget, if_neg (by omega)] at h'
        split at h'
        · cases h'
        · exact ⟨p, h'⟩
      · show (newH o (layH id none H)).m.get i = _
        rw [hget, if_neg (by omega), if_neg (fun e => hh (by subst e; exact hhit))]
      · have h' : (newH o (layH id none H)).m.get i = some p := h
        rw [hget] at h'
        split at h'
        · rename_i hi0
          rcases h4 with ⟨h5, _, _⟩ | ⟨h5, _, _⟩
          · exact .inr ⟨id, oo, hoo, by rw [hi0, h5], hhit⟩
          · left; rw [hi0, h5]; exact Nat.le_refl _
        · split at h'
          · cases h'
          · exact absurd (hlt i p h') (by omega)
      · rcases h4 with ⟨_, _, h5⟩ | ⟨_, _, h5⟩
        · by_cases hbe : b = (E.at_ id).1
          · exact .inr ⟨id, oo, hoo, hbe.symm, hhit⟩
          · exact .inl (h5 b hbe)
        · exact .inl (h5 b hb)
      · rcases h4 with ⟨_, h5, _⟩ | ⟨_, h5, _⟩ <;> rw [h5] <;> omega


/-- What a function that is told did to the world: as an operation, and blocks of no name may have grown. -/
def GPost (P : Program) (E : Env) (nx : Nat) (w : World) (E' : Env) (w' : World) : Upd → Prop
  | .non => E' = E ∧ w.heap.size ≤ w'.heap.size ∧ (∀ k, k < w.heap.size → w'.heap[k]? = w.heap[k]?) ∧ Calm w w'
  | .new o => Agree E E' nx ∧ w.heap.size ≤ (E'.at_ nx).1 ∧ ObjAt P E' (nx + 1) w' nx o ∧ w.heap.size ≤ w'.heap.size ∧ (∀ k, k < w.heap.size → w'.heap[k]? = w.heap[k]?) ∧ Calm w w'
  | .set id o => E' = E ∧ ObjAt P E nx w' id o ∧ w.heap.size ≤ w'.heap.size ∧ (∀ k, k < w.heap.size → k ≠ (E.at_ id).1 → w'.heap[k]? = w.heap[k]?) ∧ Calm w w'
  | .app _ _ => False
theorem geff_step {E E' : Env} {H : Hp} {w w' : World} (hr : Rep P E H w) {u : Upd} (hu : GPost P E H.next w E' w' u) (hon : ∀ id, u.on = some id → ∃ o, H.m.get id = some o) :
    Rep P E' (u.onto H) w' ∧ Tr E H w E' (u.onto H) w' := by
  have hlt : ∀ i o, H.m.get i = some o → i < H.next := fun i o h => (hr.objs i o h).1
  have hblk : ∀ i o, H.m.get i = some o → (E.at_ i).1 < w.heap.size := fun i o h => (hr.objs i o h).2.lt
  cases u with
  | non =>
    obtain ⟨rfl, h0, h1, h2⟩ := hu
    refine ⟨⟨fun i o h => ⟨hlt i o h, (hr.objs i o h).2.mono (hlt i o h) (Agree.refl _ _) (Nat.le_refl _) (h1 _ (hblk i o h))⟩, hr.sep⟩, ?_⟩
    exact ⟨Agree.refl _ _, Nat.le_refl _, rfl, fun _ h => h, fun _ h => .inl h, fun i o h _ => ⟨o, h⟩, fun _ _ _ => rfl, fun i o h hi => absurd (hlt i o h) (by omega), fun b hb => .inl (h1 b hb), h0, h2⟩
  | new o =>
    obtain ⟨h1, h2, h3, h4, h5, h6⟩ := hu
    have hget : ∀ i, (newH o H).m.get i = if i = H.next then some o else H.m.get i := fun i => PT.get_put _ _ _ _
    refine ⟨⟨fun i p h => ?_, fun i j oi oj hi hj he => ?_⟩, ?_⟩
    · have h' : (newH o H).m.get i = some p := h
      rw [hget] at h'
      split at h'
      · rename_i hi
        subst hi
        injection h' with h'
        subst h'
        exact ⟨Nat.lt_succ_self _, h3⟩
      · exact ⟨Nat.lt_succ_of_lt (hlt i p h'), (hr.objs i p h').2.mono (hlt i p h') h1 (Nat.le_succ _) (h5 _ (hblk i p h'))⟩
    · have hi' : (newH o H).m.get i = some oi := hi
      have hj' : (newH o H).m.get j = some oj := hj
      rw [hget] at hi' hj'
      split at hi'
      · rename_i hi0
        split at hj'
        · rename_i hj0; rw [hi0, hj0]
        · rename_i hj0
          rw [hi0, (h1 j (hlt j oj hj')).1] at he
          have := hblk j oj hj'
          omega
      · rename_i hi0
        split at hj'
        · rename_i hj0
          rw [hj0, (h1 i (hlt i oi hi')).1] at he
          have := hblk i oi hi'
          omega
        · rename_i hj0
          rw [(h1 i (hlt i oi hi')).1, (h1 j (hlt j oj hj')).1] at he
          exact hr.sep i j oi oj hi' hj' he
    · refine ⟨h1, Nat.le_succ _, rfl, fun _ h => h, fun _ h => .inl h, fun i p h hi => ?_, fun i hi _ => ?_, fun i p h hi => ?_, fun b hb => .inl (h5 b hb), h4, h6⟩
      · have h' : (newH o H).m.get i = some p := h
        rw [hget, if_neg (by omega)] at h'
        exact ⟨p, h'⟩
      · show (newH o H).m.get i = _
        rw [hget, if_neg (by omega)]
      · have h' : (newH o H).m.get i = some p := h
        rw [hget] at h'
        split at h'
        · rename_i hi0
          left; rw [hi0]; exact h2
        · exact absurd (hlt i p h') (by omega)
  | set id o =>
    obtain ⟨rfl, h1, h2, h3, h4⟩ := hu
    obtain ⟨oo, hoo⟩ := hon id rfl
    have hget : ∀ i, (layH id (some o) H).m.get i = if i = id then some o else H.m.get i := fun i => PT.get_put _ _ _ _
    have hne : ∀ i p, H.m.get i = some p → i ≠ id → (E'.at_ i).1 ≠ (E'.at_ id).1 := fun i p h hi he => hi (hr.sep i id p oo h hoo he)
    have hin : ∀ i p, (layH id (some o) H).m.get i = some p → ∃ p', H.m.get i = some p' := fun i p h => by
      rw [hget] at h
      split at h
      · rename_i hi; subst hi; exact ⟨oo, hoo⟩
      · exact ⟨p, h⟩
    refine ⟨⟨fun i p h => ?_, fun i j oi oj hi hj he => ?_⟩, ?_⟩
    · have h' : (layH id (some o) H).m.get i = some p := h
      rw [hget] at h'
      split at h'
      · rename_i hi
        subst hi
        injection h' with h'
        subst h'
        exact ⟨hlt i oo hoo, h1⟩
      · rename_i hi
        exact ⟨hlt i p h', (hr.objs i p h').2.mono (hlt i p h') (Agree.refl _ _) (Nat.le_refl _) (h3 _ (hblk i p h') (hne i p h' hi))⟩
    · obtain ⟨pi, hpi⟩ := hin i oi hi
      obtain ⟨pj, hpj⟩ := hin j oj hj
      exact hr.sep i j pi pj hpi hpj he
    · refine ⟨Agree.refl _ _, Nat.le_refl _, rfl, fun i h => layH_log i h, fun i h => layH_logd hoo i h, fun i p h _ => hin i p h, fun i hi hh => ?_, fun i p h hi => ?_, fun b hb => ?_, h2, h4⟩
      · show (layH id (some o) H).m.get i = _
        rw [hget, if_neg (fun e => hh (by subst e; exact layH_hit))]
      · obtain ⟨p', hp'⟩ := hin i p h
        exact absurd (hlt i p' hp') (by omega)
      · by_cases hbe : b = (E'.at_ id).1
        · exact .inr ⟨id, oo, hoo, hbe.symm, layH_hit⟩
        · exact .inl (h3 b hb hbe)
  | app id o => exact hu.elim
end Go.Sx

namespace Go.Sx
open Go.RowKit

section
variable {P : Program} {get : Nat → Option AObj} {nx : Nat}

/-- What an operation turns stands among the blocks that it was given. -/
def On (get : Nat → Option AObj) (e : Eff) : Prop := ∀ id, e.u.on = some id → ∃ o, get id = some o
theorem On.none {e : Eff} (h : e.u.on = none) : On get e := fun id hi => by rw [h] at hi; cases hi
theorem opStore_on {t : Nat} {a x : AV} {e : Eff} (h : opStore P get t a x = some e) : On get e := by
  unfold opStore at h
  (repeat' split at h) <;> first
    | (cases h; done)
    | (injection h with h; subst h; intro id hi; simp only [Upd.on, Option.some.injEq] at hi; subst hi; exact ⟨_, by assumption⟩)
theorem appK_on {e0 eb size id off len c n : Nat} {new : List AV} {e : Eff} (h : appK get nx e0 eb size id off len c n new = some e) : On get e := by
  unfold appK at h
  (repeat' split at h) <;> first
    | (cases h; done)
    | (injection h with h; subst h; intro id hi; simp only [Upd.on, Option.some.injEq] at hi; subst hi; exact ⟨_, by assumption⟩)
    | (injection h with h; subst h; exact On.none rfl)
theorem appU_on {e0 eb size id off len c n : Nat} {new : List AV} {e : Eff} (h : appU get nx e0 eb size id off len c n new = some e) : On get e := by
  unfold appU at h
  (repeat' split at h) <;> first
    | (cases h; done)
    | (injection h with h; subst h; intro id hi; simp only [Upd.on, Option.some.injEq] at hi; subst hi; exact ⟨_, by assumption⟩)
theorem opAppend_on {ts : List Nat} {s x : AV} {e : Eff} (h : opAppend P get nx ts s x = some e) : On get e := by
  unfold opAppend appNil at h
  (repeat' split at h) <;> first
    | (cases h; done)
    | exact appK_on h
    | exact appU_on h
    | (injection h with h; subst h; exact On.none rfl)
theorem opCopy_on {ts : List Nat} {s x : AV} {e : Eff} (h : opCopy P get ts s x = some e) : On get e := by
  unfold opCopy at h
  (repeat' split at h) <;> first
    | (cases h; done)
    | (injection h with h; subst h; intro id hi; simp only [Upd.on, Option.some.injEq] at hi; subst hi; exact ⟨_, by assumption⟩)
theorem opUpdate_on {t : Nat} {m k v : AV} {e : Eff} (h : opUpdate P get t m k v = some e) : On get e := by
  unfold opUpdate at h
  (repeat' split at h) <;> first
    | (cases h; done)
    | (injection h with h; subst h; intro id hi; simp only [Upd.on, Option.some.injEq] at hi; subst hi; exact ⟨_, by assumption⟩)
theorem opUString_on {ts : List Nat} {p n : AV} {e : Eff} (h : opUString P get ts p n = some e) : On get e := by
  unfold opUString at h
  (repeat' split at h) <;> first
    | (cases h; done)
    | (injection h with h; subst h; intro id hi; simp only [Upd.on, Option.some.injEq] at hi; subst hi; exact ⟨_, by assumption⟩)
    | (injection h with h; subst h; exact On.none rfl)
theorem opLen_on {t : Nat} {x : AV} {e : Eff} (h : opLen P get t x = some e) : On get e := by
  unfold opLen at h
  (repeat' split at h) <;> first | (cases h; done) | (injection h with h; subst h; exact On.none rfl)
theorem opCap_on {t : Nat} {x : AV} {e : Eff} (h : opCap P t x = some e) : On get e := by
  unfold opCap at h
  (repeat' split at h) <;> first | (cases h; done) | (injection h with h; subst h; exact On.none rfl)
theorem opSliceData_on {x : AV} {e : Eff} (h : opSliceData x = some e) : On get e := by
  unfold opSliceData at h
  (repeat' split at h) <;> first | (cases h; done) | (injection h with h; subst h; exact On.none rfl)
theorem opBuiltin_on {b : Builtin} {ts : List Nat} {l : List AV} {e : Eff} (h : opBuiltin P get nx b ts l = some e) : On get e := by
  unfold opBuiltin at h
  (repeat' split at h) <;> first
    | (cases h; done) | exact opLen_on h | exact opCap_on h | exact opAppend_on h | exact opCopy_on h | exact opSliceData_on h | exact opUString_on h
    | (injection h with h; subst h; exact On.none rfl)
theorem opLoad_on {t : Nat} {x : AV} {e : Eff} (h : opLoad P get t x = some e) : On get e := by
  unfold opLoad at h
  (repeat' split at h) <;> first | (cases h; done) | (injection h with h; subst h; exact On.none rfl)
theorem opAlloc_on {t : Nat} {e : Eff} (h : opAlloc P nx t = some e) : On get e := by
  unfold opAlloc at h
  (repeat' split at h) <;> first | (cases h; done) | (injection h with h; subst h; exact On.none rfl)
theorem opBox_on {t : Nat} {x : AV} {e : Eff} (h : opBox P nx t x = some e) : On get e := by
  unfold opBox at h
  (repeat' split at h) <;> first | (cases h; done) | (injection h with h; subst h; exact On.none rfl)
theorem opBuild_on {t : Nat} {x : List (Nat × AV)} {e : Eff} (h : opBuild P t x = some e) : On get e := by
  unfold opBuild at h
  (repeat' split at h) <;> first | (cases h; done) | (injection h with h; subst h; exact On.none rfl)
theorem opBuildSlice_on {t n : Nat} {x : List (Nat × AV)} {e : Eff} (h : opBuildSlice P nx t n x = some e) : On get e := by
  unfold opBuildSlice at h
  (repeat' split at h) <;> first | (cases h; done) | (injection h with h; subst h; exact On.none rfl)
theorem opField_on {t n : Nat} {x : AV} {e : Eff} (h : opField P t x n = some e) : On get e := by
  unfold opField at h
  (repeat' split at h) <;> first | (cases h; done) | (injection h with h; subst h; exact On.none rfl)
theorem opFieldAddr_on {t n : Nat} {x : AV} {e : Eff} (h : opFieldAddr P t x n = some e) : On get e := by
  unfold opFieldAddr at h
  (repeat' split at h) <;> first | (cases h; done) | (injection h with h; subst h; exact On.none rfl)
theorem opIndexAddr_on {t : Nat} {x y : AV} {e : Eff} (h : opIndexAddr P t x y = some e) : On get e := by
  unfold opIndexAddr at h
  (repeat' split at h) <;> first | (cases h; done) | (injection h with h; subst h; exact On.none rfl)
theorem opIndex_on {t : Nat} {x y : AV} {e : Eff} (h : opIndex P t x y = some e) : On get e := by
  unfold opIndex at h
  (repeat' split at h) <;> first | (cases h; done) | (injection h with h; subst h; exact On.none rfl)
theorem opSlice_on {t : Nat} {x : AV} {lo hi mx : Option AV} {e : Eff} (h : opSlice P t x lo hi mx = some e) : On get e := by
  unfold opSlice at h
  (repeat' split at h) <;> first | (cases h; done) | (injection h with h; subst h; exact On.none rfl)
theorem opLookup_on {t : Nat} {x y : AV} {ok : Bool} {e : Eff} (h : opLookup P get t x y ok = some e) : On get e := by
  unfold opLookup at h
  (repeat' split at h) <;> first | (cases h; done) | (injection h with h; subst h; exact On.none rfl)
theorem opConvert_on {s d : Nat} {x : AV} {e : Eff} (h : opConvert P get nx s d x = some e) : On get e := by
  unfold opConvert at h
  (repeat' split at h) <;> first | (cases h; done) | (injection h with h; subst h; exact On.none rfl)
theorem opMakeSlice_on {t : Nat} {x y : AV} {e : Eff} (h : opMakeSlice P nx t x y = some e) : On get e := by
  unfold opMakeSlice at h
  (repeat' split at h) <;> first | (cases h; done) | (injection h with h; subst h; exact On.none rfl)
theorem opBin_on {op : BinOp} {t : Nat} {x y : AV} {e : Eff} (h : opBin P op t x y = some e) : On get e := by
  unfold opBin at h
  (repeat' split at h) <;> first | (cases h; done) | (injection h with h; subst h; exact On.none rfl)
theorem opUn_on {op : UnOp} {x : AV} {e : Eff} (h : opUn op x = some e) : On get e := by
  unfold opUn at h
  (repeat' split at h) <;> first | (cases h; done) | (injection h with h; subst h; exact On.none rfl)
set_option maxHeartbeats 1600000 in
theorem aop_on {o : Op} {S : PT AV} {e : Eff} (h : aop P get nx o S = some e) : On get e := by
  unfold aop at h
  split at h
  all_goals (repeat' split at h)
  all_goals first
    | (cases h; done) | exact opAlloc_on h | exact opBox_on h | exact opBuild_on h | exact opBuildSlice_on h | exact opLoad_on h | exact opStore_on h | exact opBin_on h | exact opUn_on h | exact opConvert_on h
    | exact opMakeSlice_on h | exact opSlice_on h | exact opFieldAddr_on h | exact opField_on h | exact opIndexAddr_on h | exact opIndex_on h | exact opLookup_on h | exact opUpdate_on h | exact opBuiltin_on h
    | (injection h with h; subst h; exact On.none rfl)
end

-- ------------------------------------------------------------------ slots
section
variable {E : Env} {nx : Nat}
theorem SR.put {S : PT AV} {a : Act} (hS : SR E nx S a) {d : Nat} (hd : d < a.tmps.size) {v : AV} {x : Value} (hv : VR E nx v x) : SR E nx (S.put d (some v)) (a.put (some d) x) := by
  intro t u ht
  rw [PT.get_put] at ht
  simp only [Act.put]
  by_cases h : t = d
  · subst h
    rw [if_pos rfl] at ht
    injection ht with ht
    subst ht
    exact ⟨x, by simp [hd], hv⟩
  · rw [if_neg h] at ht
    obtain ⟨y, hy, hr⟩ := hS t u ht
    exact ⟨y, by rw [Array.getElem?_setIfInBounds_ne (Ne.symm h)]; exact hy, hr⟩
theorem SR.mono {E' : Env} {nx' : Nat} {S : PT AV} {a : Act} (hS : SR E nx S a) (ha : Agree E E' nx) (hn : nx ≤ nx') : SR E' nx' S a := fun t v h =>
  let ⟨x, hx, hr⟩ := hS t v h; ⟨x, hx, VR.mono ha hn v x hr⟩
theorem putS_sound {nt : Nat} {dst : Option Nat} {v : AV} {S S' : PT AV} (h : putS nt dst v S = some S') {a : Act} (hS : SR E nx S a) (hnt : nt ≤ a.tmps.size) {x : Value} (hv : VR E nx v x) : SR E nx S' (a.put dst x) := by
  unfold putS at h
  split at h
  · injection h with h; subst h; exact hS
  · split at h
    · injection h with h
      subst h
      exact hS.put (by omega) hv
    · cases h
theorem Act.put_size (a : Act) (dst : Option Nat) (x : Value) : (a.put dst x).tmps.size = a.tmps.size := by cases dst <;> simp [Act.put]
theorem Act.put_defers' (a : Act) (dst : Option Nat) (x : Value) : (a.put dst x).defers = a.defers := by cases dst <;> rfl
theorem dstAt_eq : ∀ (l : List Oper) (k : Nat), dstAt l k = (l[k]?).bind (·.dst)
  | [], _ => rfl
  | o :: l, 0 => rfl
  | o :: l, k + 1 => by simpa [dstAt] using dstAt_eq l k
theorem undef_VR : VR E nx (.tup []) undef := by simp [VR, VRs, undef]
/-- The slots of a list, told of the model's. -/
def SRon (E : Env) (nx : Nat) (rs : List Nat) (S : PT AV) (a : Act) : Prop := ∀ t, t ∈ rs → ∀ v, S.get t = some v → ∃ x, a.tmps[t]? = some x ∧ VR E nx v x
theorem wantedA_sound {ops : Array Oper} {o : Oper} {S : PT AV} {b : Bool} (h : wantedA ops.toList o.guard S = some b) {a : Act} (hS : ∀ j want t, o.guard = some (j, want) → dstAt ops.toList j = some t → ∀ v, S.get t = some v → ∃ x, a.tmps[t]? = some x ∧ VR E nx v x) :
    Region.wanted o (yielded ops a.tmps) = b := by
  unfold wantedA at h
  unfold Region.wanted
  split at h
  · rename_i hg
    injection h with h
    subst h
    rw [hg]
  · rename_i j want hg
    rw [hg]
    simp only []
    split at h
    · rename_i hd
      injection h with h
      subst h
      rw [dstAt_eq] at hd
      simp only [Array.getElem?_toList] at hd
      simp [yielded, hd]
    · rename_i t hd
      have hd' := hd
      rw [dstAt_eq] at hd
      simp only [Array.getElem?_toList] at hd
      split at h
      · rename_i b' hb
        injection h with h
        subst h
        obtain ⟨x, hx, hr⟩ := hS j want t hg hd' _ hb
        simp only [VR] at hr
        subst hr
        simp only [yielded, hd, Option.bind_some, hx]
        cases b' <;> cases want <;> rfl
      · rename_i l hb
        injection h with h
        subst h
        obtain ⟨x, hx, hr⟩ := hS j want t hg hd' _ hb
        simp only [VR] at hr
        obtain ⟨xs, _, rfl⟩ := hr
        simp only [yielded, hd, Option.bind_some, hx]
        rfl
      · cases h
end
end Go.Sx

namespace Go.Sx
open Go.RowKit

-- ------------------------------------------------------------------ a loop taken round by round
def LoopN (P : Program) (c : Code) (Q : Exit → Act → World → Prop) : Nat → Act → World → Prop
  | 0 => fun _ _ => False
  | n + 1 => fun a w => c.wp P (Exit.then (LoopN P c Q n) Q) a w
open Classical in
theorem loopN {P : Program} {c : Code} {Q : Exit → Act → World → Prop} (n : Nat) {a : Act} {w : World} (h : LoopN P c Q n a w) : (Code.loop c).wp P Q a w := by
  have least : ∀ (a : Act) (w : World) (n : Nat), LoopN P c Q n a w → ∃ m, LoopN P c Q m a w ∧ ∀ k, LoopN P c Q k a w → m ≤ k := by
    intro a w n
    induction n using Nat.strongRecOn with
    | _ n ih =>
      intro hn
      by_cases hx : ∃ k, k < n ∧ LoopN P c Q k a w
      · obtain ⟨k, hk, h'⟩ := hx
        exact ih k hk h'
      · exact ⟨n, hn, fun k hk => Nat.le_of_not_lt fun hlt => hx ⟨k, hlt, hk⟩⟩
  let μ : Act → World → Nat := fun a w => if hh : ∃ m, LoopN P c Q m a w ∧ ∀ k, LoopN P c Q k a w → m ≤ k then Classical.choose hh else 0
  refine wp_loop (fun a w => ∃ n, LoopN P c Q n a w) μ ⟨n, h⟩ ?_
  rintro a w ⟨n, hn⟩
  have hh := least a w n hn
  have hμ : μ a w = Classical.choose hh := dif_pos hh
  obtain ⟨hm, hmin⟩ := Classical.choose_spec hh
  rw [← hμ] at hm hmin
  cases hmu : μ a w with
  | zero => rw [hmu] at hm; exact hm.elim
  | succ m =>
    rw [hmu] at hm
    refine wp_mono (c := c) hm ?_
    intro e a' w' hq
    cases e with
    | normal =>
      refine ⟨⟨m, hq⟩, ?_⟩
      have hh' := least a' w' m hq
      have hμ' : μ a' w' = Classical.choose hh' := dif_pos hh'
      have := (Classical.choose_spec hh').2 m hq
      rw [← hμ'] at this
      omega
    | exit id => exact hq
    | goto l => exact hq
    | ret => exact hq
    | panic ch => exact hq
    | outgrown => exact hq
theorem then_mono {N N' : Act → World → Prop} {Q Q' : Exit → Act → World → Prop} (hn : ∀ a w, N a w → N' a w) (hq : ∀ e a w, Q e a w → Q' e a w) (e : Exit) (a : Act) (w : World) (h : Exit.then N Q e a w) : Exit.then N' Q' e a w := by
  cases e with
  | normal => exact hn a w h
  | _ => exact hq _ a w h
theorem LoopN.mono {P : Program} {c : Code} {Q Q' : Exit → Act → World → Prop} (hq : ∀ e a w, Q e a w → Q' e a w) : ∀ (n : Nat) (a : Act) (w : World), LoopN P c Q n a w → LoopN P c Q' n a w
  | 0, _, _, h => h
  | n + 1, _, _, h => wp_mono (c := c) h (then_mono (fun a w => LoopN.mono hq n a w) hq)

-- ------------------------------------------------------------------ what is taken as told
/-- A call of a function, whether it has a body or the model runs it by itself. -/
def CallsF (P : Program) (f : Nat) (xs : Array Value) (w : World) (R : Value → World → Prop) : Prop :=
  match (callFunc f xs).run P w with
  | .ok (.value v) w' => R v w'
  | .ok (.enter g ys) w' => Calls P g ys w' fun
    | .returned v, w'' => R v w''
    | _, _ => False
  | _ => False
theorem CallsF.mono {P : Program} {f : Nat} {xs : Array Value} {w : World} {R R' : Value → World → Prop} (h : CallsF P f xs w R) (hr : ∀ v w', R v w' → R' v w') : CallsF P f xs w R' := by
  unfold CallsF at *
  split at h
  · exact hr _ _ h
  · refine Calls.mono h fun e w'' he => ?_
    cases e with
    | returned v => exact hr _ _ he
    | panicked c => exact he.elim
    | outgrown => exact he.elim
  · exact h.elim
/-- A contract of a function with a body. -/
theorem CallsF.of_calls {P : Program} {f : Nat} {fn : Func} (hf : P.funcs[f]? = some fn) (hn : (fn.name == "runtime.NumGoroutine") = false) (hb : fn.body.isNone = false) {xs : Array Value} {w : World} {R : Value → World → Prop}
    (h : Calls P f xs w fun | .returned v, w' => R v w' | _, _ => False) : CallsF P f xs w R := by
  have hrun : (callFunc f xs).run P w = .ok (.enter f xs) w := by
    unfold callFunc
    simp only [Sem.run_bind, run_program, Result.andThen_ok, hf, hn, hb, Bool.false_eq_true, if_false, Sem.run_pure]
  unfold CallsF
  rw [hrun]
  exact h

structure Given (P : Program) (fnAt : Nat → Option Func) (orc : Orc) (big : Big) : Prop where
  mixed : P.follows .mixedOrders = true
  fn : ∀ f fn, fnAt f = some fn → P.funcs[f]? = some fn ∧ (fn.name == "runtime.NumGoroutine") = false
  orc : ∀ f args get nx e, orc f args get nx = some e → On get e ∧ ∀ E w xs, VRs E nx args xs → GR P E nx w get →
    CallsF P f xs.toArray w fun x w' => ∃ E', GPost P E nx w E' w' e.u ∧ VR E' (e.u.nx nx) e.v x
  big : ∀ f args H v H', big f args H = some (v, H') → ∀ E w xs, Rep P E H w → VRs E H.next args xs →
    CallsF P f xs.toArray w fun x w' => ∃ E', Rep P E' H' w' ∧ Tr E H w E' H' w' ∧ VR E' H'.next v x

def AX.conc : AX → Exit
  | .normal => .normal
  | .exit id => .exit id
  | .ret => .ret
/-- What a stretch of code leaves behind. -/
def After (P : Program) (E : Env) (H : Hp) (w : World) (a : Act) (x : AX) (S' : PT AV) (H' : Hp) : Exit → Act → World → Prop := fun ex a' w' =>
  ex = x.conc ∧ a'.tmps.size = a.tmps.size ∧ a'.defers = [] ∧ ∃ E', Rep P E' H' w' ∧ Tr E H w E' H' w' ∧ SR E' H'.next S' a'
/-- 'wp', a loop's by its rounds, so many at most. -/
def WP (P : Program) (m : Nat) (c : Code) (Q : Exit → Act → World → Prop) (a : Act) (w : World) : Prop := match c with
  | .loop b => LoopN P b Q m a w
  | c => c.wp P Q a w
theorem WP.wp {P : Program} {m : Nat} {c : Code} {Q : Exit → Act → World → Prop} {a : Act} {w : World} (h : WP P m c Q a w) : c.wp P Q a w := by
  unfold WP at h
  split at h
  · exact loopN m h
  · exact h
/-- A runner of code that tells the truth. -/
def Sound (P : Program) (ih : Run) : Prop := ∀ nt c S H x S' H', ih nt c S H = .ok x S' H' → ∃ m, ∀ E a w, Rep P E H w → SR E H.next S a → nt ≤ a.tmps.size → a.defers = [] → WP P m c (After P E H w a x S' H') a w
theorem Sound.wp {P : Program} {ih : Run} (hS : Sound P ih) {nt : Nat} {c : Code} {S S' : PT AV} {H H' : Hp} {x : AX} (h : ih nt c S H = .ok x S' H') (E : Env) (a : Act) (w : World) (hr : Rep P E H w) (hs : SR E H.next S a) (hnt : nt ≤ a.tmps.size) (hd : a.defers = []) :
    c.wp P (After P E H w a x S' H') a w := let ⟨_, hm⟩ := hS _ _ _ _ _ _ _ h; (hm E a w hr hs hnt hd).wp

section
variable {P : Program} {fnAt : Nat → Option Func} {orc : Orc} {big : Big}

-- ------------------------------------------------------------------ calls
theorem fromArgs_get : ∀ (l : List AV) (k : Nat) (S : PT AV) (t : Nat), (fromArgs l k S).get t = if k ≤ t ∧ t < k + l.length then l[t - k]? else S.get t
  | [], k, S, t => by simp [fromArgs]; intro h1 h2; omega
  | v :: l, k, S, t => by
    rw [fromArgs, fromArgs_get l (k + 1) _ t, PT.get_put]
    by_cases h : k + 1 ≤ t ∧ t < k + 1 + l.length
    · rw [if_pos h, if_pos (by simp; omega), show t - k = (t - (k + 1)) + 1 by omega, List.getElem?_cons_succ]
    · rw [if_neg h]
      by_cases ht : t = k
      · subst ht; simp
      · rw [if_neg ht, if_neg (by simp; omega)]
theorem args_SR {E : Env} {nx : Nat} {args : List AV} {xs : List Value} (h : VRs E nx args xs) (n : Nat) : SR E nx (fromArgs args 0 .nil) { tmps := xs.toArray ++ Array.replicate n undef, defers := [] } := by
  intro t v ht
  rw [fromArgs_get] at ht
  split at ht
  · obtain ⟨x, hx, hr⟩ := h.nth _ _ ht
    rw [Nat.sub_zero] at hx
    have : t < xs.length := (List.getElem?_eq_some_iff.1 hx).1
    exact ⟨x, by rw [Array.getElem?_append, if_pos (by simpa using this)]; simpa using hx, hr⟩
  · simp [PT.get] at ht
/-- A result, read. -/
def resF (tmps : Array Value) : ResultVar → Sem Value
  | .tmp t => Pure.pure (tmps.getD t undef)
  | .cell c t => do loadVar t (← asAddr (tmps.getD c undef))
theorem results_run {fn : Func} {tmps : Array Value} {w : World} {ys : List Value} (h : (fn.results.toList.mapM (resF tmps)).run P w = .ok ys w) :
    (results fn tmps).run P w = .ok (if hs : ys.toArray.size = 1 then ys.toArray[0] else .tuple ys.toArray) w := by
  have he : results fn tmps = (fn.results.mapM (resF tmps) >>= fun vs => Pure.pure (if hs : vs.size = 1 then vs[0] else .tuple vs)) := rfl
  rw [he, Array.mapM_eq_mapM_toList]
  simp only [Sem.run_bind, Sem.run_map, h, Result.andThen_ok, Sem.run_pure]
theorem resultsA_run {E : Env} {H : Hp} {w : World} (hr : Rep P E H w) {S : PT AV} {a : Act} (hS : SR E H.next S a) : ∀ {rs : List ResultVar} {l : List AV}, resultsA P H.m.get S rs = some l →
    ∃ xs, (rs.mapM (resF a.tmps)).run P w = .ok xs w ∧ VRs E H.next l xs
  | [], l, h => by simp [resultsA] at h; subst h; exact ⟨[], rfl, by simp [VRs]⟩
  | .tmp t :: rs, l, h => by
    simp only [resultsA] at h
    split at h
    · rename_i v r hv hrs
      injection h with h
      subst h
      obtain ⟨xs, h1, h2⟩ := resultsA_run hr hS hrs
      obtain ⟨x, hx, hxr⟩ := hS t v hv
      refine ⟨x :: xs, ?_, by simp only [VRs]; exact ⟨x, xs, hxr, h2, rfl⟩⟩
      rw [List.mapM_cons]
      simp only [Sem.run_bind, Sem.run_pure, Result.andThen_ok, h1, resF]
      simp [hx]
    · cases h
  | .cell c t :: rs, l, h => by
    simp only [resultsA] at h
    split at h
    · rename_i id off hc
      split at h
      · rename_i e cs fz mk hget
        split at h
        · rename_i v r hv hrs
          injection h with h
          subst h
          obtain ⟨xs, h1, h2⟩ := resultsA_run hr hS hrs
          obtain ⟨x, hx, hxr⟩ := hS c _ hc
          simp only [VR] at hxr
          obtain ⟨_, rfl⟩ := hxr
          obtain ⟨y, hy, hyr⟩ := partA_load (hr.objs _ _ hget).2 hv
          refine ⟨y :: xs, ?_, by simp only [VRs]; exact ⟨y, xs, hyr, h2, rfl⟩⟩
          rw [List.mapM_cons]
          have hasd : (asAddr (a.tmps.getD c undef)).run P w = .ok (E.addr id off) w := by
            rw [show a.tmps.getD c undef = .pointer (some (E.addr id off)) by simp [hx]]
            rfl
          simp only [Sem.run_bind, resF, hasd, Result.andThen_ok, hy, h1, Sem.run_pure]
        · cases h
      · cases h
    · cases h
theorem oneOf_VR {E : Env} {nx : Nat} {l : List AV} {xs : List Value} (h : VRs E nx l xs) : VR E nx (oneOf l) (if hs : xs.toArray.size = 1 then xs.toArray[0] else .tuple xs.toArray) := by
  unfold oneOf
  split
  · rename_i v
    simp only [VRs] at h
    obtain ⟨x, r, h1, rfl, rfl⟩ := h
    simpa using h1
  · rename_i hne
    have hl := h.length
    rw [dif_neg]
    · simp only [VR]; exact ⟨xs, h, rfl⟩
    · intro hs
      simp at hs
      rw [hl] at hs
      obtain ⟨v, hv⟩ := List.length_eq_one_iff.1 hs
      exact hne v hv
theorem callR_sound (hG : Given P fnAt orc big) {ih : Run} (hS : Sound P ih) {f : Nat} {args : List AV} {H H' : Hp} {v : AV} (h : callR P fnAt orc big ih f args H = some (v, H')) {E : Env} {w : World} (hr : Rep P E H w) {xs : List Value} (hx : VRs E H.next args xs) :
    CallsF P f xs.toArray w fun x w' => ∃ E', Rep P E' H' w' ∧ Tr E H w E' H' w' ∧ VR E' H'.next v x := by
  unfold callR at h
  split at h
  · rename_i e he
    rw [openH_eq] at h
    injection h with h
    injection h with h1 h2
    subst h1 h2
    obtain ⟨hon, hc⟩ := hG.orc _ _ _ _ _ he
    refine (hc E w xs hx hr.objs).mono ?_
    rintro x w' ⟨E', hu, hv⟩
    obtain ⟨q1, q2⟩ := geff_step hr hu hon
    exact ⟨E', q1, q2, by rw [Upd.onto_next]; exact hv⟩
  · split at h
    · rename_i v' H'' hb
      rw [openH_eq] at h
      injection h with h
      injection h with h1 h2
      subst h1 h2
      exact hG.big _ _ _ _ _ hb E w xs hr hx
    split at h
    · rename_i fn hfn
      obtain ⟨hf, hn⟩ := hG.fn f fn hfn
      split at h
      · rename_i code hb
        split at h
        · rename_i x S' H1 hrun
          obtain ⟨hx0, l, hl, rfl, rfl⟩ : (x = .normal ∨ x = .ret) ∧ ∃ l, resultsA P H1.m.get S' fn.results.toList = some l ∧ v = oneOf l ∧ H' = H1 := by
            cases x with
            | exit _ => cases h
            | normal =>
              simp only [] at h
              split at h
              · rename_i l hl
                injection h with h
                injection h with h1 h2
                exact ⟨.inl rfl, l, hl, h1.symm, h2.symm⟩
              · cases h
            | ret =>
              simp only [] at h
              split at h
              · rename_i l hl
                injection h with h
                injection h with h1 h2
                exact ⟨.inr rfl, l, hl, h1.symm, h2.symm⟩
              · cases h
          refine CallsF.of_calls hf hn (by simp [hb]) ?_
          have hlen := hx.length
          refine calls_of_wp hf hb ?_
          have hwp := hS.wp hrun E { tmps := xs.toArray ++ Array.replicate (fn.ntmps - xs.toArray.size) undef, defers := [] } w hr (args_SR hx _) (by simp; omega) rfl
          refine wp_mono hwp ?_
          rintro ex a' w' ⟨h1, h2, h3, E', h4, h5, h6⟩
          have hres : ∃ y, (results fn a'.tmps).run P w' = .ok y w' ∧ VR E' H'.next (oneOf l) y := by
            obtain ⟨ys, q1, q2⟩ := resultsA_run h4 h6 hl
            exact ⟨_, results_run q1, oneOf_VR q2⟩
          rcases hx0 with rfl | rfl
          · subst h1
            obtain ⟨y, q1, q2⟩ := hres
            exact ⟨h3, y, q1, E', h4, h5, q2⟩
          · subst h1
            obtain ⟨y, q1, q2⟩ := hres
            exact ⟨h3, y, q1, E', h4, h5, q2⟩
        · cases h
      · cases h
    · cases h

-- ------------------------------------------------------------------ one operation
theorem callOf_spec {o : Oper} {S : PT AV} {f : Nat} {args : List AV} (h : callOf o.op S = some (some (f, args))) {E : Env} {nx : Nat} {a : Act} (hS : SR E nx S a) :
    ∃ xs, VRs E nx args xs ∧ execOp a.eval o = callFunc f xs.toArray := by
  obtain ⟨dst, op, ty, pos, after, guard⟩ := o
  simp only [] at h
  unfold callOf at h
  split at h
  · rename_i k
    split at h
    · rename_i fo hfo
      split at h
      · rename_i f' first caps args' hf hargs
        injection h with h
        injection h with h
        injection h with h1 h2
        subst h1 h2
        have hr := ev_sound hS hf
        simp only [VR] at hr
        obtain ⟨ps, qs, h1, h2, h3⟩ := hr
        have h4 := evs_sound hS hargs
        refine ⟨ps ++ (k.args.toList.map a.eval ++ qs), by rw [app_eq, app_eq]; exact h1.append (h4.append h2), ?_⟩
        simp only [execOp, resolve, hfo, h3, Deferred.ofValue]
        show invoke (.fn (.func f') qs.toArray) (ps.toArray ++ k.args.map a.eval) = _
        simp only [invoke]
        congr 1
        rw [← mapArr]
        simp
      · cases h
    · cases h
  · cases h
theorem opR_sound (hG : Given P fnAt orc big) {ih : Run} (hS : Sound P ih) {o : Oper} {S : PT AV} {H H' : Hp} {v : AV} (h : opR P fnAt orc big ih o.op S H = some (v, H')) {E : Env} {a : Act} {w : World} (hr : Rep P E H w) (hs : SR E H.next S a)
    {K : Act → World → Prop} {Q : Exit → Act → World → Prop} (hK : ∀ x w' E', Rep P E' H' w' → Tr E H w E' H' w' → VR E' H'.next v x → K (a.put o.dst x) w') : o.wp P a w K Q := by
  unfold opR at h
  unfold Oper.wp
  split at h
  · rename_i f args hc
    obtain ⟨xs, hx, he⟩ := callOf_spec hc hs
    have hcall := callR_sound hG hS h hr hx
    rw [he]
    unfold CallsF at hcall
    split at hcall
    · rename_i y w' hrun
      rw [hrun]
      obtain ⟨E', q1, q2, q3⟩ := hcall
      exact hK y w' E' q1 q2 q3
    · rename_i g ys w' hrun
      rw [hrun]
      refine Calls.mono hcall fun e w'' he => ?_
      cases e with
      | returned y =>
        obtain ⟨E', q1, q2, q3⟩ := he
        exact hK y w'' E' q1 q2 q3
      | panicked c => exact he.elim
      | outgrown => exact he.elim
    · exact hcall.elim
  · split at h
    · rename_i e he
      rw [openH_eq] at h
      injection h with h
      injection h with h1 h2
      subst h1 h2
      obtain ⟨x, w', E', q1, q2, q3⟩ := aop_sound hr.objs hs o he
      obtain ⟨p1, p2⟩ := eff_step hr q2 (aop_on he)
      have := hK x w' E' p1 p2 (by rw [Upd.onto_next]; exact q3)
      rcases q1 with q1 | ⟨q1, rfl⟩
      · rw [q1]; exact this
      · rw [q1]; exact this
    · cases h
  · cases h

-- ------------------------------------------------------------------ a plain region
theorem opsR_sound (hG : Given P fnAt orc big) {ih : Run} (hS : Sound P ih) {nt : Nat} {ops : Array Oper} {S' : PT AV} {H' : Hp} {Q : Exit → Act → World → Prop} : ∀ (k : Nat) (S : PT AV) (H : Hp), opsR P fnAt orc big ih nt ops.toList (ops.toList.drop k) S H = some (S', H') →
    ∀ (E : Env) (a : Act) (w : World), Rep P E H w → SR E H.next S a → nt ≤ a.tmps.size →
    (∀ a' w' E', Rep P E' H' w' → Tr E H w E' H' w' → SR E' H'.next S' a' → a'.tmps.size = a.tmps.size → a'.defers = a.defers → Q .normal a' w') →
    wpOps P ops Q (List.range' k (ops.size - k)) a w := by
  intro k
  induction hn : ops.size - k generalizing k with
  | zero =>
    intro S H h E a w hr hs hnt hq
    rw [List.drop_eq_nil_of_le (by simp; omega)] at h
    simp only [opsR, Option.some.injEq, Prod.mk.injEq] at h
    obtain ⟨rfl, rfl⟩ := h
    simp only [List.range'_zero, wpOps]
    exact hq a w E hr (Tr.refl E H w fun i o h => (hr.objs i o h).1) hs rfl rfl
  | succ n ihn =>
    intro S H h E a w hr hs hnt hq
    have hk : k < ops.size := by omega
    rw [List.drop_eq_getElem_cons (by simpa using hk)] at h
    rw [List.range'_succ, wpOps_cons]
    unfold wpOp
    have hget : ops[k]? = some ops[k] := Array.getElem?_eq_getElem hk
    simp only [hget]
    simp only [Array.getElem_toList, opsR] at h
    split at h
    · rename_i hw
      have hwant := wantedA_sound (E := E) (nx := H.next) hw (a := a) (fun j want t _ _ v hv => hs t v hv)
      rw [hwant, if_pos rfl]
      split at h
      · rename_i v H1 hop
        split at h
        · rename_i S1 hput
          left
          refine opR_sound hG hS hop hr hs fun x w' E' q1 q2 q3 => ?_
          refine ihn (k + 1) (by omega) S1 H1 h E' (a.put ops[k].dst x) w' q1 (putS_sound hput (hs.mono q2.agree q2.next) hnt q3) (by rw [Act.put_size]; exact hnt) ?_
          intro a' w'' E'' p1 p2 p3 p4 p5
          exact hq a' w'' E'' p1 (q2.trans p2) p3 (by rw [p4, Act.put_size]) (by rw [p5, Act.put_defers'])
        · cases h
      · cases h
    · rename_i hw
      have hwant := wantedA_sound (E := E) (nx := H.next) hw (a := a) (fun j want t _ _ v hv => hs t v hv)
      rw [hwant]
      simp only [Bool.false_eq_true, if_false]
      split at h
      · rename_i S1 hput
        refine ihn (k + 1) (by omega) S1 H h E (a.put ops[k].dst undef) w hr (putS_sound hput hs hnt undef_VR) (by rw [Act.put_size]; exact hnt) ?_
        intro a' w'' E'' p1 p2 p3 p4 p5
        exact hq a' w'' E'' p1 p2 p3 (by rw [p4, Act.put_size]) (by rw [p5, Act.put_defers'])
      · cases h
    · cases h

/-- What is told of a region that draws its order. -/
def DrawSound (P : Program) (fnAt : Nat → Option Func) (orc : Orc) (big : Big) (ih : Run) : Prop := ∀ (nt : Nat) (ops : Array Oper) (S : PT AV) (H : Hp) (S' : PT AV) (H' : Hp), slotsOk ops.toList = true → drawR P fnAt orc big ih nt ops.toList (masksOf ops.toList) ops.toList 0 S H [] [] = some (S', H') →
  ∀ (E : Env) (a : Act) (w : World), Rep P E H w → SR E H.next S a → nt ≤ a.tmps.size → ∀ (id : Nat) (Q : Exit → Act → World → Prop),
    (∀ a' w' E', Rep P E' H' w' → Tr E H w E' H' w' → SR E' H'.next S' a' → a'.tmps.size = a.tmps.size → a'.defers = a.defers → Q .normal a' w') → (Code.region id ops true).wp P Q a w

-- ------------------------------------------------------------------ code
theorem After.of {E1 E2 : Env} {H1 H2 H3 : Hp} {w1 w2 : World} {a1 a2 : Act} {x : AX} {S3 : PT AV} (ht : Tr E1 H1 w1 E2 H2 w2) (hs : a2.tmps.size = a1.tmps.size) (e : Exit) (a : Act) (w : World) (h : After P E2 H2 w2 a2 x S3 H3 e a w) : After P E1 H1 w1 a1 x S3 H3 e a w := by
  obtain ⟨h1, h2, h3, E', h4, h5, h6⟩ := h
  exact ⟨h1, h2.trans hs, h3, E', h4, ht.trans h5, h6⟩
theorem codeR_wp (hG : Given P fnAt orc big) {ih : Run} (hS : Sound P ih) (hD : DrawSound P fnAt orc big ih) {nt : Nat} {c : Code} (hc : ∀ b, c ≠ .loop b) {S S' : PT AV} {H H' : Hp} {x : AX} (h : codeR P fnAt orc big ih nt c S H = .ok x S' H')
    (E : Env) (a : Act) (w : World) (hr : Rep P E H w) (hs : SR E H.next S a) (hnt : nt ≤ a.tmps.size) (hd : a.defers = []) : c.wp P (After P E H w a x S' H') a w := by
  have hlt : ∀ i o, H.m.get i = some o → i < H.next := fun i o h => (hr.objs i o h).1
  have here : ∀ y, After P E H w a y S H y.conc a w := fun y => ⟨rfl, rfl, hd, E, hr, Tr.refl E H w hlt, hs⟩
  unfold codeR at h
  split at h
  · injection h with h1 h2 h3; subst h1 h2 h3; exact wp_skip (here .normal)
  · injection h with h1 h2 h3; subst h1 h2 h3; exact wp_label (here .normal)
  · rename_i id ops draw
    split at h
    · split at h
      · rename_i S1 H1 hop
        injection h with h1 h2 h3
        subst h1 h2 h3
        refine wp_region ?_
        have := opsR_sound hG hS (Q := After P E H w a .normal S1 H1) 0 S H (by simpa using hop) E a w hr hs hnt (fun a' w' E' q1 q2 q3 q4 q5 => ⟨rfl, q4, by rw [q5, hd], E', q1, q2, q3⟩)
        rw [List.range_eq_range']
        simpa using this
      · cases h
    · split at h
      · rename_i hok
        split at h
        · rename_i S1 H1 hop
          injection h with h1 h2 h3
          subst h1 h2 h3
          exact hD nt ops S H S1 H1 hok hop E a w hr hs hnt id _ (fun a' w' E' q1 q2 q3 q4 q5 => ⟨rfl, q4, by rw [q5, hd], E', q1, q2, q3⟩)
        · cases h
      · cases h
  · rename_i c1 c2
    split at h
    · rename_i y S1 H1 h1
      refine wp_seq (wp_mono (hS.wp h1 E a w hr hs hnt hd) ?_)
      rintro e a1 w1 ⟨q0, q1, q2, E1, q3, q4, q5⟩
      cases y with
      | normal =>
        subst q0
        simp only [] at h
        exact wp_mono (hS.wp h E1 a1 w1 q3 q5 (by omega) q2) (After.of q4 q1)
      | exit i =>
        simp only [] at h
        injection h with h2 h3 h4
        subst q0 h2 h3 h4
        exact ⟨rfl, q1, q2, E1, q3, q4, q5⟩
      | ret =>
        simp only [] at h
        injection h with h2 h3 h4
        subst q0 h2 h3 h4
        exact ⟨rfl, q1, q2, E1, q3, q4, q5⟩
    · cases h
  · rename_i xo c1 c2
    split at h
    · rename_i hv
      have hb := ev_sound hs hv
      simp only [VR] at hb
      exact wp_cond_true hb (hS.wp h E a w hr hs hnt hd)
    · rename_i hv
      have hb := ev_sound hs hv
      simp only [VR] at hb
      exact wp_cond_false hb (hS.wp h E a w hr hs hnt hd)
    · cases h
  · rename_i id c1
    split at h
    · rename_i y S1 H1 h1
      refine wp_block (wp_mono (hS.wp h1 E a w hr hs hnt hd) ?_)
      rintro e a1 w1 ⟨q0, q1, q2, E1, q3, q4, q5⟩
      cases y with
      | normal =>
        simp only [] at h
        injection h with h2 h3 h4
        subst q0 h2 h3 h4
        exact ⟨rfl, q1, q2, E1, q3, q4, q5⟩
      | ret =>
        simp only [] at h
        injection h with h2 h3 h4
        subst q0 h2 h3 h4
        exact ⟨rfl, q1, q2, E1, q3, q4, q5⟩
      | exit i =>
        simp only [] at h
        subst q0
        show Exit.inBlock id _ (.exit i) a1 w1
        unfold Exit.inBlock
        split at h
        · rename_i hi
          injection h with h2 h3 h4
          subst h2 h3 h4
          simp only [Nat.eq_of_beq_eq_true hi, if_true]
          exact ⟨rfl, q1, q2, E1, q3, q4, q5⟩
        · rename_i hi
          injection h with h2 h3 h4
          subst h2 h3 h4
          simp only [Nat.ne_of_beq_eq_false hi, if_false]
          exact ⟨rfl, q1, q2, E1, q3, q4, q5⟩
    · cases h
  · rename_i c1
    exact absurd rfl (hc c1)
  · injection h with h1 h2 h3; subst h1 h2 h3; exact wp_exit (here (.exit _))
  · injection h with h1 h2 h3; subst h1 h2 h3; exact wp_ret (here .ret)
  · cases h
theorem codeR_sound (hG : Given P fnAt orc big) {ih : Run} (hS : Sound P ih) (hD : DrawSound P fnAt orc big ih) : Sound P (codeR P fnAt orc big ih) := by
  intro nt c S H x S' H' h
  by_cases hl : ∃ b, c = .loop b
  · obtain ⟨c1, rfl⟩ := hl
    unfold codeR at h
    simp only [] at h
    split at h
    · rename_i y S1 H1 h1
      cases y with
      | normal =>
        simp only [] at h
        obtain ⟨m, hm⟩ := hS _ _ _ _ _ _ _ h
        refine ⟨m + 1, fun E a w hr hs hnt hd => wp_mono (hS.wp h1 E a w hr hs hnt hd) ?_⟩
        rintro e a1 w1 ⟨q0, q1, q2, E1, q3, q4, q5⟩
        subst q0
        exact LoopN.mono (After.of q4 q1) m a1 w1 (hm E1 a1 w1 q3 q5 (by omega) q2)
      | exit i =>
        simp only [] at h
        injection h with h2 h3 h4
        subst h2 h3 h4
        refine ⟨1, fun E a w hr hs hnt hd => wp_mono (hS.wp h1 E a w hr hs hnt hd) ?_⟩
        rintro e a1 w1 ⟨q0, q⟩
        subst q0
        exact ⟨rfl, q⟩
      | ret =>
        simp only [] at h
        injection h with h2 h3 h4
        subst h2 h3 h4
        refine ⟨1, fun E a w hr hs hnt hd => wp_mono (hS.wp h1 E a w hr hs hnt hd) ?_⟩
        rintro e a1 w1 ⟨q0, q⟩
        subst q0
        exact ⟨rfl, q⟩
    · cases h
  · refine ⟨0, fun E a w hr hs hnt hd => ?_⟩
    have hw := codeR_wp hG hS hD (fun b hb => hl ⟨b, hb⟩) h E a w hr hs hnt hd
    unfold WP
    split
    · rename_i b; exact absurd ⟨b, rfl⟩ hl
    · exact hw
end
end Go.Sx
end
