/-
  finalize.Continues at the example: discs read off the runner's blocks.
-/
import Derived.Test.YtiekfipjbmdkpaaGreatDoorHb
noncomputable section
namespace Go.Proofs.YtiekfipjbmdkpaaGreatDoor
open Go.RowKit
namespace Sx
open Go.Sx
set_option maxRecDepth 100000
/-- The first cells as sessions. -/
def sesA : List AV → Nat → Option (List Fi.Se)
  | _, 0 => some []
  | l, k + 1 => match l with
    | .int .i64 s :: .int .i64 c :: .bool b :: r => (match sesA r k with
      | some t => some (⟨s, c, b⟩ :: t)
      | none => none)
    | _ => none
theorem sesA_spec : ∀ {l : List AV} {k : Nat} {t : List Fi.Se}, sesA l k = some t → t.length = k ∧ ∀ (j : Nat) (p : Fi.Se), t[j]? = some p → nth l (j * 3) = some (.int .i64 p.start) ∧ nth l (j * 3 + 1) = some (.int .i64 p.count) ∧ nth l (j * 3 + 2) = some (.bool p.closed)
  | l, 0, t, h => by
    simp only [sesA, Option.some.injEq] at h
    subst h
    exact ⟨rfl, fun j p hj => by simp at hj⟩
  | l, k + 1, t, h => by
    unfold sesA at h
    split at h
    · rename_i s c b r
      split at h
      · rename_i t' ht'
        injection h with h
        subst h
        obtain ⟨h1, h2⟩ := sesA_spec ht'
        refine ⟨by simp [h1], fun j p hj => ?_⟩
        cases j with
        | zero => simp only [List.getElem?_cons_zero, Option.some.injEq] at hj; subst hj; exact ⟨rfl, rfl, rfl⟩
        | succ j =>
          simp only [List.getElem?_cons_succ] at hj
          obtain ⟨q1, q2, q3⟩ := h2 j p hj
          rw [show (j + 1) * 3 = j * 3 + 1 + 1 + 1 by omega, show j * 3 + 1 + 1 + 1 + 1 = (j * 3 + 1) + 1 + 1 + 1 by omega, show j * 3 + 1 + 1 + 1 + 2 = (j * 3 + 2) + 1 + 1 + 1 by omega]
          exact ⟨q1, q2, q3⟩
      · cases h
    · cases h
def capOk (l : Nat) : Cap → Bool
  | .k n => Nat.ble l n
  | .u _ => true
theorem capOk_spec {l : Nat} {c : Cap} (h : capOk l c = true) : ∀ n, c = .k n → l ≤ n := fun n hn => by
  subst hn
  exact Nat.le_of_ble_eq_true h
/-- A disc, as the runner has it. -/
def discA (m : PT AObj) : AV → Option (List (Nat × Nat) × List Fi.Se)
  | .agg [.slice i o l c, .slice j p k d] => (match m.get i, m.get j with
    | some (.row _ cs _ _), some (.row _ ds _ _) => (match strsA (dropL cs o) l, sesA (dropL ds p) k, capOk l c, capOk k d, Nat.ble l 4096, Nat.ble k 16 with
      | some a, some s, true, true, true, true => some (a, s)
      | _, _, _, _, _, _ => none)
    | _, _ => none)
  | _ => none
theorem discA_spec {E : Env} {H : Hp} {w : World} (hr : Rep Tryz.prog E H w) {v : AV} {a : List (Nat × Nat)} {s : List Fi.Se} (h : discA H.m v = some (a, s)) {x : Value} (hx : VR E H.next v x) :
    ∃ y z, x = .agg #[y, z] ∧ Lm.Strs w y (a.map strB) ∧ Fi.Sess w z s ∧ a.length ≤ 4096 ∧ s.length ≤ 16 := by
  unfold discA at h
  split at h
  · rename_i i o l c j p k d
    split at h
    · rename_i e1 cs f1 m1 e2 ds f2 m2 hg1 hg2
      split at h
      · rename_i a' s' h1 h2 h3 h4 h5 h6
        injection h with h
        injection h with ha hs
        subst ha hs
        simp only [VR, VRs] at hx
        obtain ⟨_, ⟨y, _, hy, ⟨z, _, hz, rfl, rfl⟩, rfl⟩, rfl⟩ := hx
        obtain ⟨n1, q1⟩ := strsA_spec h1
        obtain ⟨n2, q2⟩ := sesA_spec h2
        obtain ⟨b1, p1, c1, rfl, k1, k2, k3⟩ := slice_row hr (E := E) hg1 (i := i) (o := o) (l := l) (c := c) (by simp only [VR]; exact hy) (capOk_spec h3)
        obtain ⟨b2, p2, c2, rfl, k4, k5, k6⟩ := slice_row hr (E := E) hg2 (i := j) (o := p) (l := k) (c := d) (by simp only [VR]; exact hz) (capOk_spec h4)
        have h5 := Nat.le_of_ble_eq_true h5
        have h6 := Nat.le_of_ble_eq_true h6
        refine ⟨_, _, rfl, ?_, ?_, by omega, by omega⟩
        · refine ⟨_, c1, by rw [Lm.strs_length, List.length_map, n1], by rw [Lm.strs_length, List.length_map, n1]; exact k1, by rw [Lm.strs_length, List.length_map, n1]; unfold maxLen; omega, fun _ => ⟨b1, p1, rfl, k2, fun t u hu => ?_⟩⟩
          have ht : t < a'.length := by
            have := (List.getElem?_eq_some_iff.1 hu).1
            rwa [Lm.strs_length, List.length_map] at this
          have hq := q1 t a'[t] (List.getElem?_eq_getElem ht)
          rw [nth_drop] at hq
          obtain ⟨y, hy1, hy2⟩ := k3 t _ hq
          rw [hy1]
          simp only [VR, strV] at hy2
          rw [← hu, hy2]
          simp [Lm.strs, List.getElem?_eq_getElem ht, strB]
        · refine ⟨_, c2, by rw [n2], by rw [n2]; exact k4, by rw [n2]; unfold maxLen; omega, fun _ => ⟨b2, p2, rfl, k5, fun t ht q u hu => ?_⟩⟩
          have hg : s'.getD t Fi.se0 = s'[t] := by rw [List.getD_eq_getElem?_getD, List.getElem?_eq_getElem ht, Option.getD_some]
          dsimp only at hu
          rw [hg] at hu
          obtain ⟨r1, r2, r3⟩ := q2 t s'[t] (List.getElem?_eq_getElem ht)
          rw [nth_drop] at r1 r2 r3
          have hq : q < 3 := (List.getElem?_eq_some_iff.1 hu).1
          have h3 : q = 0 ∨ q = 1 ∨ q = 2 := by omega
          rcases h3 with rfl | rfl | rfl
          · obtain ⟨y, hy1, hy2⟩ := k6 _ _ r1
            simp only [VR] at hy2
            simp only [Fi.seC, List.getElem?_cons_zero, Option.some.injEq] at hu
            rw [show p2 + t * 3 + 0 = p2 + t * 3 by omega, hy1, hy2, ← hu]
          · obtain ⟨y, hy1, hy2⟩ := k6 _ _ r2
            simp only [VR] at hy2
            simp only [Fi.seC, List.getElem?_cons_zero, List.getElem?_cons_succ, Option.some.injEq] at hu
            rw [show p2 + t * 3 + 1 = p2 + (t * 3 + 1) by omega, hy1, hy2, ← hu]
          · obtain ⟨y, hy1, hy2⟩ := k6 _ _ r3
            simp only [VR] at hy2
            simp only [Fi.seC, List.getElem?_cons_zero, List.getElem?_cons_succ, Option.some.injEq] at hu
            rw [show p2 + t * 3 + 2 = p2 + (t * 3 + 2) by omega, hy1, hy2, ← hu]
      · cases h
    · cases h
  · cases h
def okA : List (Nat × Nat) → Bool
  | [] => true
  | (n, b) :: r => (match Nat.beq n 2048, Nat.beq n 0, Nat.beq n 1, Nat.beq (Nat.mod b 256) 33 with
    | true, _, _, _ => okA r
    | _, true, _, _ => okA r
    | _, _, true, true => okA r
    | _, _, _, _ => false)
theorem okA_spec : ∀ {l : List (Nat × Nat)}, okA l = true → (l.map strB).all Lm.okB = true
  | [], _ => rfl
  | (n, b) :: r, h => by
    unfold okA at h
    have step : okA r = true ∧ Lm.okB (strB (n, b)) = true := by
      rw [Lm.okB_cases]
      split at h
      · rename_i h1
        refine ⟨h, .inr (.inr ?_)⟩
        have := Nat.eq_of_beq_eq_true h1
        simp [strB, ByteArray.size, bytesL_length, this]
      · rename_i h1 _
        refine ⟨h, .inl ?_⟩
        have := Nat.eq_of_beq_eq_true h1
        subst this
        rfl
      · rename_i h1 h2 _ _
        refine ⟨h, .inr (.inl ?_)⟩
        have h1 := Nat.eq_of_beq_eq_true h1
        have h2 := Nat.eq_of_beq_eq_true h2
        subst h1
        have h2 : b % 256 = 33 := h2
        simp only [strB, bytesL]
        rw [h2]
        rfl
      · cases h
    rw [List.map_cons, List.all_cons, step.2, okA_spec step.1]
    rfl
def noClosed : List Fi.Se → Bool
  | [] => true
  | s :: r => (match s.closed with
    | true => false
    | false => noClosed r)
theorem noClosed_spec : ∀ {l : List Fi.Se}, noClosed l = true → ∀ i, (l.getD i Fi.se0).closed = true → False
  | [], _, i, h => by simp [Fi.se0] at h
  | s :: r, h, i, hi => by
    unfold noClosed at h
    split at h
    · cases h
    · rename_i hs
      cases i with
      | zero => simp [List.getD] at hi; rw [hi] at hs; cases hs
      | succ i => exact noClosed_spec h i (by simpa [List.getD] using hi)
def vA (a : List (Nat × Nat)) (s : List Fi.Se) : Bool := match okA a with
  | true => Fi.sesOk s
  | false => false
theorem vA_spec {a : List (Nat × Nat)} {s : List Fi.Se} (ha : a.length ≤ 4096) (hs : s.length ≤ 16) (h : vA a s = true) : Fi.validD (a.map strB) s = true := by
  unfold vA at h
  split at h
  · rename_i h1
    unfold Fi.validD Lm.validI
    rw [okA_spec h1, h, List.length_map, decide_eq_true ha, decide_eq_true hs]
    rfl
  · cases h
/-- The check that a disc continues another one. -/
def contChk (c : Cut) : Bool := match c.args with
  | [x, y] => (match discA (ofM c.m) x, discA (ofM c.m) y with
    | some (a, s), some (b, t) => (match vA a s, vA b t, noClosed t, eqV x y with
      | true, true, true, _ => true
      | true, true, _, true => true
      | _, _, _, _ => false)
    | _, _ => false)
  | _ => false
theorem cont_cut (c : Cut) (hf : c.f = 5) (hout : c.out = []) (hlog : c.log = []) (hnx : c.nx' = c.nx) (hv : c.v = .bool true) (h : contChk c = true) : c.True Tryz.prog := by
  refine Cut.true_plain hout hlog hnx fun E w xs hr hx => ?_
  rw [hf, hv]
  refine runs' Tryz.func5 (by kernel_rfl) (by kernel_rfl) _ _ _ ?_
  unfold contChk at h
  split at h
  · rename_i x y hargs
    rw [hargs] at hx
    simp only [VRs] at hx
    obtain ⟨x', _, hx', ⟨y', _, hy', rfl, rfl⟩, rfl⟩ := hx
    split at h
    · rename_i a s b t h1 h2
      obtain ⟨v1, s1, rfl, g1, g2, g3, g4⟩ := discA_spec hr (v := x) h1 hx'
      obtain ⟨v2, s2, rfl, g5, g6, g7, g8⟩ := discA_spec hr (v := y) h2 hy'
      have hc : Fi.contD (a.map strB) s (b.map strB) t = true := by
        split at h
        · rename_i k1 k2 k3
          refine Fi.contD_true (vA_spec g3 g4 k1) (vA_spec g7 g8 k2) (fun i _ hi => (noClosed_spec k3 i hi).elim) fun z hz => ?_
          obtain ⟨i, _, hi, _⟩ := Fi.closedTo_mem.1 hz
          exact (noClosed_spec k3 i hi).elim
        · rename_i k1 k2 k3 _
          have he := eqV_eq _ _ k3
          subst he
          rw [h1] at h2
          injection h2 with h2
          injection h2 with ha hs
          subst ha hs
          exact Fi.contD_true (vA_spec g3 g4 k1) (vA_spec g3 g4 k1) (fun i hi _ => ⟨hi, rfl⟩) fun z _ q _ _ => rfl
        · cases h
      refine (continues_any _ _ _ _ _ _ _ _ w g1 g2 g5 g6).mono ?_
      rintro e w' ⟨rfl, hb⟩
      rw [hc]
      exact ⟨hb, by simp [VR]⟩
    · cases h
  · cases h
end Sx
end Go.Proofs.YtiekfipjbmdkpaaGreatDoor
end
