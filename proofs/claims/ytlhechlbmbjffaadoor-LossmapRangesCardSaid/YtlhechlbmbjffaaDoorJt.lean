/-
  lossmap.Combine.
-/
import Derived.Laws.OwnMore
import Derived.Test.YtlhechlbmbjffaaDoorJo
namespace Go.Proofs.YtlhechlbmbjffaaDoor
open Go.RowKit
namespace Lm
/-- One block of a combination: the elder one stands, unless it is not readable and the newer one says more. -/
def mix (a b : ByteArray) : ByteArray := if a.size ≠ 2048 ∧ (b.size = 2048 ∨ a = ⟨#[]⟩) then b else a
/-- One more image in a combination. -/
def mergeR : List ByteArray → List ByteArray → List ByteArray
  | [], x => x
  | o, [] => o
  | a :: o, b :: x => mix a b :: mergeR o x
def combR (ims : List (List ByteArray)) : List ByteArray := ims.foldl mergeR []
def combE (ims : List (List ByteArray)) : Int := if ims.all validI = false then 1 else if 16 < ims.length then 7 else 0
theorem mergeR_nil (o : List ByteArray) : mergeR o [] = o := by cases o <;> rfl
theorem mergeR_len : ∀ (o x : List ByteArray), (mergeR o x).length = max o.length x.length
  | [], x => by simp [mergeR]
  | a :: o, [] => by simp [mergeR]
  | a :: o, b :: x => by
    have := mergeR_len o x
    simp only [mergeR, List.length_cons]
    omega
theorem mergeR_put (o x : List ByteArray) (h : o.length ≤ x.length) (b : ByteArray) : mergeR o (x ++ [b]) = mergeR o x ++ [b] := by
  induction o generalizing x with
  | nil => rfl
  | cons a o ih =>
    cases x with
    | nil => simp at h
    | cons y x =>
      simp only [List.cons_append, mergeR]
      rw [ih x (by simpa using h)]
theorem mergeR_at (o x : List ByteArray) (h : x.length < o.length) (b : ByteArray) : (mergeR o x).getD x.length ⟨#[]⟩ = o.getD x.length ⟨#[]⟩ ∧ mergeR o (x ++ [b]) = (mergeR o x).set x.length (mix (o.getD x.length ⟨#[]⟩) b) := by
  induction x generalizing o with
  | nil =>
    cases o with
    | nil => simp at h
    | cons a o => simp [mergeR, mergeR_nil]
  | cons y x ih =>
    cases o with
    | nil => simp at h
    | cons a o =>
      have := ih o (by simpa using h)
      simp only [List.cons_append, mergeR, List.length_cons, List.getD_cons_succ, List.set_cons_succ]
      exact ⟨this.1, by rw [this.2]⟩
/-- A slice of images. -/
structure Imgs (w : World) (v : Value) (vs : List Value) (ims : List (List ByteArray)) : Prop where
  row : Kit.Row w v vs
  len : vs.length = ims.length
  el : ∀ i, i < ims.length → Strs w (vs.getD i (.slice none 0 0)) (ims.getD i [])
theorem Imgs.below {w w' : World} {v : Value} {vs : List Value} {ims : List (List ByteArray)} (h : Imgs w v vs ims) (hb : Below w.heap.size w w') : Imgs w' v vs ims := ⟨h.row.below hb, h.len, fun i hi => (h.el i hi).below hb⟩
theorem Imgs.cell {w : World} {v : Value} {vs : List Value} {ims : List (List ByteArray)} (h : Imgs w v vs ims) {j : Nat} (hj : j < ims.length) : ∃ b o c, v = .slice (some ⟨b, o, none⟩) ims.length c ∧ b < w.heap.size ∧ w.cell? ⟨b, o + j, none⟩ = some (vs.getD j (.slice none 0 0)) := by
  obtain ⟨A, c, rfl, h1, h2, h3⟩ := h.row
  have hl := h.len
  obtain ⟨b, o, rfl, hb, hc⟩ := h3 (by omega)
  exact ⟨b, o, c, by rw [hl], hb, hc j _ (by simp [List.getD, List.getElem?_eq_getElem (show j < vs.length by omega)])⟩
theorem Imgs.shape {w : World} {v : Value} {vs : List Value} {ims : List (List ByteArray)} (h : Imgs w v vs ims) : ∃ A c, v = .slice A ims.length c ∧ ims.length ≤ c ∧ c ≤ maxLen := by
  obtain ⟨A, c, rfl, h1, h2, h3⟩ := h.row
  have hl := h.len
  exact ⟨A, c, by rw [hl], by omega, h2⟩
theorem Strs.shape {w : World} {v : Value} {l : List ByteArray} (h : Strs w v l) : ∃ A c, v = .slice A l.length c ∧ l.length ≤ c ∧ c ≤ maxLen := by
  obtain ⟨A, c, rfl, h1, h2, h3⟩ := h
  rw [strs_length] at *
  exact ⟨A, c, rfl, h1, h2⟩
/-- The first image that is not valid. -/
def IdxB (ims : List (List ByteArray)) (r : Int) : Prop := (r = -1 ∧ ims.all validI = true) ∨ (0 ≤ r ∧ r ≤ ims.length ∧ ims.all validI = false)
end Lm

set_option maxHeartbeats 1600000 in
set_option maxRecDepth 100000 in
/-- Combine$1. -/
theorem isB_any (v : Value) (l : List ByteArray) (w : World) (hm : Lm.Strs w v l) :
    Calls Tryd.prog 41 #[v] w fun e w' => e = .returned (.bool (!Lm.validI l)) ∧ Below w.heap.size w w' := by
  have CV := Lib.hid (valid_any v l w hm)
  obtain ⟨A, c, rfl, _, _⟩ := hm.shape
  clear hm
  go_enter Tryd.func41, Tryd.ntmps41
  go_wp2_with fail
  with_reducible refine CV.out.mono ?_
  rintro e w2 ⟨rfl, hb2⟩
  go_wp2_with fail
  go_ret
  exact ⟨rfl, hb2⟩

set_option maxHeartbeats 1600000 in
set_option maxRecDepth 100000 in
/-- slices.IndexFunc of Combine$1. -/
theorem indexB_any (v : Value) (vs : List Value) (ims : List (List ByteArray)) (w : World) (hm : Lm.Imgs w v vs ims) :
    Calls Tryd.prog 55 #[v, .func (.func 41) #[] #[]] w fun e w' => ∃ r : Int, e = .returned (.int .i64 r) ∧ Lm.IdxB ims r ∧ Below w.heap.size w w' := by
  have HM := Lib.hid hm
  obtain ⟨A, c, rfl, hlc, hcm⟩ := hm.shape
  clear hm
  unfold maxLen at hcm
  go_enter Tryd.func55, Tryd.ntmps55
  go_wp2_with fail
  go_loopw [5, 8] (fun _ iv wr => ∃ j : Nat, j ≤ ims.length ∧ iv = .int .i64 j ∧ Hid ((ims.take j).all Lm.validI = true) ∧ Below w.heap.size w wr) (fun _ iv _ => ims.length - (intOf iv).toNat)
  case atStart => exact ⟨0, by omega, rfl, Lib.hid rfl, Below.refl _ _⟩
  case round =>
    obtain ⟨j, hj, rfl, HA, hbw⟩ := hrel
    by_cases hlt : j < ims.length
    · obtain ⟨b, o, c', hv, hbl, hc⟩ := HM.out.cell hlt
      obtain ⟨rfl, _, rfl⟩ : A = some ⟨b, o, none⟩ ∧ ims.length = ims.length ∧ c = c' := by simpa using hv
      clear hv
      have q0 := (hbw.cell (p := ⟨b, o + j, none⟩) hbl).trans hc
      have hel := (HM.out.el j hlt).below hbw
      have CP := Lib.hid (isB_any _ _ wr hel)
      have HY := Lib.hid (fun h => Lm.all_snoc (p := Lm.validI) (d := []) hlt HA.out h)
      have HN := Lib.hid (fun h => Lm.all_fail (p := Lm.validI) (l := ims) (d := []) hlt h)
      obtain ⟨A2, c2, hv2, _, _⟩ := Lm.Strs.shape hel
      rw [hv2] at q0 CP
      clear hc hel hv2
      generalize ims.getD j [] = x at *
      cases hp : Lm.validI x with
      | true =>
        have HNX := Lib.hid (HY.out hp)
        rw [hp] at CP
        clear hp HY HN
        go_wp2_with fail
        with_reducible refine CP.out.mono ?_
        rintro e w2 ⟨rfl, hb2⟩
        go_wp2_with fail
        go_roundw
        case rel => exact ⟨j + 1, by omega, by go_num, HNX, hbw.trans (hb2.mono hbw.size)⟩
        case measure => simp [intOf]; omega
      | false =>
        have HNX := Lib.hid (HN.out hp)
        rw [hp] at CP
        clear hp HY HN
        go_wp2_with fail
        with_reducible refine CP.out.mono ?_
        rintro e w2 ⟨rfl, hb2⟩
        go_wp2_with fail
        go_ret
        exact ⟨_, rfl, .inr ⟨by omega, by omega, HNX.out⟩, hbw.trans (hb2.mono hbw.size)⟩
    · obtain rfl : j = ims.length := by omega
      have ha := HA.out
      rw [List.take_length] at ha
      have HH := Lib.hid ha
      clear ha
      go_wp2_with fail
      go_ret
      exact ⟨_, rfl, .inl ⟨rfl, HH.out⟩, hbw⟩

set_option maxHeartbeats 1600000 in
set_option maxRecDepth 100000 in
/-- slices.ContainsFunc of Combine$1. -/
theorem containsB_any (v : Value) (vs : List Value) (ims : List (List ByteArray)) (w : World) (hm : Lm.Imgs w v vs ims) :
    Calls Tryd.prog 40 #[v, .func (.func 41) #[] #[]] w fun e w' => e = .returned (.bool (!ims.all Lm.validI)) ∧ Below w.heap.size w w' := by
  have CI := Lib.hid (indexB_any v vs ims w hm)
  obtain ⟨A, c, rfl, hlc, hcm⟩ := hm.shape
  clear hm
  go_enter Tryd.func40, Tryd.ntmps40
  go_wp2_with fail
  with_reducible refine CI.out.mono ?_
  rintro e w2 ⟨r, rfl, hr, hb2⟩
  have e1 : decide (0 ≤ r) = !ims.all Lm.validI := by
    rcases hr with ⟨rfl, h⟩ | ⟨h0, h1, h⟩
    · rw [h]; rfl
    · rw [h]; exact decide_eq_true h0
  clear hr
  go_wp2_with fail
  go_ret
  rw [← e1]
  exact ⟨rfl, hb2⟩
end Go.Proofs.YtlhechlbmbjffaaDoor
