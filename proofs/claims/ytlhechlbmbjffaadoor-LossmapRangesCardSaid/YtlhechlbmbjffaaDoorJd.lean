/-
  The walks through lossmap.Bytes and few.
-/
import Derived.Test.YtlhechlbmbjffaaDoorJc
namespace Go.Proofs.YtlhechlbmbjffaaDoor
open Go.RowKit
namespace Lm
theorem bytesR_snoc {l : List L} {j : Nat} (h : j < l.length) : bytesR (l.take (j + 1)) = bytesR (l.take j) + max (l.getD j l0).len 0 := by
  unfold bytesR
  rw [List.take_succ_eq_append_getElem h, List.map_append, List.sum_append]
  simp [List.getD, h]
theorem bytesR_bd {l : List L} {b : Int} (h : ∀ x ∈ l, x.len ≤ b) (hb : 0 ≤ b) : 0 ≤ bytesR l ∧ bytesR l ≤ b * l.length := by
  induction l with
  | nil => exact ⟨Int.le_refl _, by simp [bytesR]⟩
  | cons x t ih =>
    have h1 := h x (by simp)
    have h2 := ih (fun y hy => h y (by simp [hy]))
    have e : bytesR (x :: t) = max x.len 0 + bytesR t := by simp [bytesR]
    rw [e]
    simp only [List.length_cons, Int.natCast_succ, Int.mul_add, Int.mul_one]
    omega
end Lm

set_option maxHeartbeats 3200000 in
set_option maxRecDepth 100000 in
/-- lossmap.Bytes, of losses of a bounded size. -/
theorem bytes_any (v : Value) (l : List Lm.L) (w : World) (hm : Lm.Losses w v l) (hb : ∀ x ∈ l, 0 ≤ x.len ∧ x.len ≤ 1048576) (hl : l.length ≤ 1048576) :
    Calls Tryd.prog 17 #[v] w fun e w' => e = .returned (.int .i64 (Lm.bytesR l)) ∧ Below w.heap.size w w' := by
  have HBB := Lib.hid hb
  obtain ⟨A, c, rfl, hlc, hcm, hce⟩ := hm
  have HCE := Lib.hid hce
  unfold maxLen at hcm
  clear hce hb
  go_enter Tryd.func17, Tryd.ntmps17
  go_wp2_with fail
  go_loopw [3, 5, 8] (fun sv _ iv wr => ∃ j : Nat, j ≤ l.length ∧ iv = .int .i64 j ∧ sv = .int .i64 (Lm.bytesR (l.take j)) ∧ Below w.heap.size w wr) (fun _ _ iv _ => l.length - (intOf iv).toNat)
  case atStart => exact ⟨0, by omega, rfl, rfl, Below.refl _ _⟩
  case round =>
    obtain ⟨j, hj, rfl, rfl, hbw⟩ := hrel
    by_cases hlt : j < l.length
    · obtain ⟨b, o, rfl, hbl, hc⟩ := HCE.out (by omega)
      obtain ⟨c0, c1, c2⟩ := Lm.three (c0 := .string (l.getD j Lm.l0).path) (c1 := .int .i64 (l.getD j Lm.l0).off) (c2 := .int .i64 (l.getD j Lm.l0).len) rfl hbl hbw (hc j hlt)
      have hx := HBB.out (l.getD j Lm.l0) (by simp [List.getD, hlt])
      have hs := Lm.bytesR_bd (l := l.take j) (b := 1048576) (fun x hx => (HBB.out x (List.mem_of_mem_take hx)).2) (by omega)
      have hln : ((l.take j).length : Int) ≤ 1048576 := by rw [List.length_take]; omega
      have HS := Lib.hid (Lm.bytesR_snoc hlt)
      have HBW := Lib.hid (hbw.alloc hbw.size (.cells #[.string (l.getD j Lm.l0).path, .int .i64 (l.getD j Lm.l0).off, .int .i64 (l.getD j Lm.l0).len] 35))
      clear hc hbw
      have hs2 : Lm.bytesR (l.take j) ≤ 1048576 * 1048576 := by omega
      obtain ⟨hs1, _⟩ := hs
      generalize Lm.bytesR (l.take j) = q at *
      generalize l.getD j Lm.l0 = x at *
      obtain ⟨pa, off, ln⟩ := x
      simp only [] at *
      clear hln
      go_wp2_with fail
      go_roundw
      case rel => exact ⟨j + 1, by omega, by go_num, by rw [HS.out], HBW.out⟩
      case measure => simp [intOf]; omega
    · obtain rfl : j = l.length := by omega
      rw [List.take_length]
      go_wp2_with fail
      go_ret
      exact ⟨rfl, hbw⟩
namespace Lm
def bytesF (l : List F) : Int := (l.map fun x => max x.len 0).sum
theorem bytesF_snoc {l : List F} {j : Nat} (h : j < l.length) : bytesF (l.take (j + 1)) = bytesF (l.take j) + max (l.getD j f0).len 0 := by
  unfold bytesF
  rw [List.take_succ_eq_append_getElem h, List.map_append, List.sum_append]
  simp [List.getD, h]
theorem bytesF_bd {l : List F} {b : Int} (h : ∀ x ∈ l, x.len ≤ b) (hb : 0 ≤ b) : 0 ≤ bytesF l ∧ bytesF l ≤ b * l.length := by
  induction l with
  | nil => exact ⟨Int.le_refl _, by simp [bytesF]⟩
  | cons x t ih =>
    have h1 := h x (by simp)
    have h2 := ih (fun y hy => h y (by simp [hy]))
    have e : bytesF (x :: t) = max x.len 0 + bytesF t := by simp [bytesF]
    rw [e]
    simp only [List.length_cons, Int.natCast_succ, Int.mul_add, Int.mul_one]
    omega
/-- What small images and extents are. -/
structure Small (img : List ByteArray) (fs : List F) : Prop where
  images : img.length ≤ 700
  files : fs.length ≤ 50
  each : ∀ j, j < fs.length → (fs.getD j f0).path.size ≤ 500 ∧ (fs.getD j f0).len ≤ 1048576
  sum : bytesF fs ≤ 524288
/-- What few answers. -/
def FewP (img : List ByteArray) (fs : List F) (w : World) (e : Ending) (w' : World) : Prop := ∃ b : Bool, e = .returned (.bool b) ∧ (b = true → Small img fs) ∧ Below w.heap.size w w'
theorem FewP.no {img : List ByteArray} {fs : List F} {w w' : World} {e : Ending} (he : e = .returned (.bool false)) (h : Below w.heap.size w w') : FewP img fs w e w' := ⟨false, he, (fun h => by cases h), h⟩
theorem FewP.yes {img : List ByteArray} {fs : List F} {w w' : World} {e : Ending} (he : e = .returned (.bool true)) (hm : Small img fs) (h : Below w.heap.size w w') : FewP img fs w e w' := ⟨true, he, (fun _ => hm), h⟩
end Lm

set_option maxHeartbeats 6400000 in
set_option maxRecDepth 100000 in
/-- few. -/
theorem few_any (v u : Value) (img : List ByteArray) (fs : List Lm.F) (w : World) (hm : Lm.Strs w v img) (hf : Lm.Files w u fs) :
    Calls Tryd.prog 8 #[v, u] w (Lm.FewP img fs w) := by
  obtain ⟨A, c, rfl, hlc, hcm, _⟩ := hm
  obtain ⟨B, d, rfl, hld, hdm, hce⟩ := hf
  have HCE := Lib.hid hce
  rw [Lm.strs_length] at *
  unfold maxLen at hdm hcm
  clear hce
  by_cases h1 : 700 < img.length
  · have d0 : decide (700 < img.length) = true := decide_eq_true h1
    have d1 : decide (700 < (img.length : Int)) = true := decide_eq_true (by omega)
    go_enter Tryd.func8, Tryd.ntmps8
    go_wp2_with fail
    go_ret
    exact Lm.FewP.no rfl (Below.refl _ _)
  have d0 : decide (700 < img.length) = false := decide_eq_false h1
  have d1 : decide (700 < (img.length : Int)) = false := decide_eq_false (by omega)
  by_cases h2 : 50 < fs.length
  · have d2 : decide (50 < fs.length) = true := decide_eq_true h2
    have d3 : decide (50 < (fs.length : Int)) = true := decide_eq_true (by omega)
    go_enter Tryd.func8, Tryd.ntmps8
    go_wp2_with fail
    go_ret
    exact Lm.FewP.no rfl (Below.refl _ _)
  have d2 : decide (50 < fs.length) = false := decide_eq_false h2
  have d3 : decide (50 < (fs.length : Int)) = false := decide_eq_false (by omega)
  have hl50 : (fs.length : Int) ≤ 50 := by omega
  have HI := Lib.hid (show img.length ≤ 700 by omega)
  have HF := Lib.hid (show fs.length ≤ 50 by omega)
  clear h1 h2
  go_enter Tryd.func8, Tryd.ntmps8
  go_wp2_with fail
  clear d0 d1 d2 d3
  go_loopw [5, 7, 18] (fun sv _ iv wr => ∃ j : Nat, j ≤ fs.length ∧ iv = .int .i64 j ∧ sv = .int .i64 (Lm.bytesF (fs.take j)) ∧ Hid (∀ k, k < j → (fs.getD k Lm.f0).path.size ≤ 500 ∧ (fs.getD k Lm.f0).len ≤ 1048576) ∧ Below w.heap.size w wr) (fun _ _ iv _ => fs.length - (intOf iv).toNat)
  case atStart => exact ⟨0, by omega, rfl, rfl, Lib.hid (fun k hk => by omega), Below.refl _ _⟩
  case round =>
    obtain ⟨j, hj, rfl, rfl, HK, hbw⟩ := hrel
    have hsb := Lm.bytesF_bd (l := fs.take j) (b := 1048576) (fun x hx => by
      obtain ⟨k, hk, rfl⟩ := List.getElem_of_mem hx
      rw [List.length_take] at hk
      have := (HK.out k (by omega)).2
      simpa [List.getD, show k < fs.length by omega] using this) (by omega)
    have hln : ((fs.take j).length : Int) ≤ 50 := by rw [List.length_take]; omega
    have hs2 : Lm.bytesF (fs.take j) ≤ 1048576 * 50 := by omega
    obtain ⟨hs1, _⟩ := hsb
    clear hln
    by_cases hlt : j < fs.length
    · obtain ⟨b, o, rfl, hbl, hc⟩ := HCE.out (by omega)
      obtain ⟨c0, c1, c2⟩ := Lm.three (c0 := .string (fs.getD j Lm.f0).path) (c1 := .int .i64 (fs.getD j Lm.f0).start) (c2 := .int .i64 (fs.getD j Lm.f0).len) rfl hbl hbw (hc j hlt)
      have HS := Lib.hid (Lm.bytesF_snoc hlt)
      have HBW := Lib.hid (hbw.alloc hbw.size (.cells #[.string (fs.getD j Lm.f0).path, .int .i64 (fs.getD j Lm.f0).start, .int .i64 (fs.getD j Lm.f0).len] 41))
      have HN := Lib.hid (show (fs.getD j Lm.f0).path.size ≤ 500 ∧ (fs.getD j Lm.f0).len ≤ 1048576 → ∀ k, k < j + 1 → (fs.getD k Lm.f0).path.size ≤ 500 ∧ (fs.getD k Lm.f0).len ≤ 1048576 from fun h k hk => by
        by_cases hkj : k = j
        · subst hkj; exact h
        · exact HK.out k (by omega))
      clear hc hbw
      generalize Lm.bytesF (fs.take j) = q at *
      generalize fs.getD j Lm.f0 = x at *
      obtain ⟨pa, st, ln⟩ := x
      simp only [] at *
      by_cases g1 : 500 < pa.size
      · have e1 : decide (500 < pa.size) = true := decide_eq_true g1
        have e2 : decide (500 < (pa.size : Int)) = true := decide_eq_true (by omega)
        clear g1
        go_wp2_with fail
        go_ret
        exact Lm.FewP.no rfl HBW.out
      have e1 : decide (500 < pa.size) = false := decide_eq_false g1
      have e2 : decide (500 < (pa.size : Int)) = false := decide_eq_false (by omega)
      by_cases g2 : 1048576 < ln
      · have e3 : decide (1048576 < ln) = true := decide_eq_true g2
        clear g1 g2
        go_wp2_with fail
        go_ret
        exact Lm.FewP.no rfl HBW.out
      have e3 : decide (1048576 < ln) = false := decide_eq_false g2
      have HNX := Lib.hid (HN.out ⟨by omega, by omega⟩)
      have g2' : ln ≤ 1048576 := by omega
      clear g1 g2 HN
      go_wp2_with fail
      go_roundw
      case rel => exact ⟨j + 1, by omega, by go_num, by rw [HS.out], HNX, HBW.out⟩
      case measure => simp [intOf]; omega
    · obtain rfl : j = fs.length := by omega
      rw [List.take_length] at *
      by_cases g : Lm.bytesF fs ≤ 524288
      · have HR := Lib.hid (show Lm.Small img fs from ⟨HI.out, HF.out, HK.out, g⟩)
        have e : decide (Lm.bytesF fs ≤ 524288) = true := decide_eq_true g
        clear g
        generalize Lm.bytesF fs = q at *
        go_wp2_with fail
        go_ret
        exact Lm.FewP.yes rfl HR.out hbw
      · have e : decide (Lm.bytesF fs ≤ 524288) = false := decide_eq_false g
        clear g
        generalize Lm.bytesF fs = q at *
        go_wp2_with fail
        go_ret
        exact Lm.FewP.no rfl hbw
end Go.Proofs.YtlhechlbmbjffaaDoor
