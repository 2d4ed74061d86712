/-
  slices.IndexFunc and ContainsFunc over extents, asked for a path.
-/
import Derived.Test.YtlhechlbmbjffaaDoorJe
namespace Go.Proofs.YtlhechlbmbjffaaDoor
open Go.RowKit
namespace Lm
def isN (q : ByteArray) (f : F) : Bool := !decide (f.path = q)
/-- The first extent of a path. -/
def IdxP (fs : List F) (q : ByteArray) (r : Int) : Prop := (r = -1 ∧ fs.all (isN q) = true) ∨ ∃ j : Nat, j < fs.length ∧ r = j ∧ (fs.take j).all (isN q) = true ∧ isN q (fs.getD j f0) = false
end Lm

set_option maxHeartbeats 1600000 in
set_option maxRecDepth 100000 in
/-- masterdisc/lossmap.Lost$1. -/
theorem isL_any (x : Lm.F) (g : Nat) (q : ByteArray) (w : World) (hg : w.cell? ⟨g, 0, none⟩ = some (.string q)) :
    Calls Tryd.prog 28 #[.agg #[.string x.path, .int .i64 x.start, .int .i64 x.len], .pointer (some ⟨g, 0, none⟩)] w fun e w' => e = .returned (.bool (!Lm.isN q x)) ∧ Below w.heap.size w w' := by
  obtain ⟨pa, st, ln⟩ := x
  have hgl := World.block_lt_of_cell? _ _ hg
  have e1 : (!Lm.isN q ⟨pa, st, ln⟩) = (pa.toList == q.toList) := by
    unfold Lm.isN
    rw [Bool.not_not]
    by_cases h : pa = q
    · subst h
      simp
    · have h2 : pa.toList ≠ q.toList := fun e => h (by
        rw [Lib.toList_data, Lib.toList_data] at e
        cases pa; cases q
        simp at e
        rw [e])
      rw [beq_eq_false_iff_ne.2 h2]
      simp [h]
  rw [e1]
  simp only [] at *
  have h1 := (Below.heap_alloc w (.cells #[.string pa, .int .i64 st, .int .i64 ln] 41) g hgl)
  have hg1 := (World.cell?_of_block (w := w) (a := ⟨g, 0, none⟩) h1).trans hg
  have hp1 : (w.alloc (.cells #[.string pa, .int .i64 st, .int .i64 ln] 41)).cell? ⟨w.heap.size, 0, none⟩ = some (.string pa) := by
    rw [World.cell?_alloc_at _ _ _ _ (by simp)]
    simp
  clear h1 hg e1
  go_enter Tryd.func28, Tryd.ntmps28
  go_wp2_with fail
  try go_region
  all_goals try go_wp2_with fail
  all_goals go_ret
  all_goals first | exact ⟨rfl, (Below.refl _ w).alloc (Nat.le_refl _) _⟩ | exact ⟨rfl, Kit.Below.drewN ((Below.refl _ w).alloc (Nat.le_refl _) _) _⟩

set_option maxHeartbeats 1600000 in
set_option maxRecDepth 100000 in
/-- slices.IndexFunc of masterdisc/lossmap.Lost$1. -/
theorem indexL_any (v : Value) (fs : List Lm.F) (g : Nat) (q : ByteArray) (w : World) (hm : Lm.Files w v fs) (hg : 0 < fs.length → w.cell? ⟨g, 0, none⟩ = some (.string q)) :
    Calls Tryd.prog 27 #[v, .func (.func 28) #[] #[.pointer (some ⟨g, 0, none⟩)]] w fun e w' => ∃ r : Int, e = .returned (.int .i64 r) ∧ Lm.IdxP fs q r ∧ Below w.heap.size w w' := by
  have HG := Lib.hid hg
  obtain ⟨A, c, rfl, hlc, hcm, hcells⟩ := hm
  have HCE := Lib.hid hcells
  clear hcells hg
  unfold maxLen at hcm
  go_enter Tryd.func27, Tryd.ntmps27
  go_wp2_with fail
  go_loopw [5, 8] (fun _ iv wr => ∃ j : Nat, j ≤ fs.length ∧ iv = .int .i64 j ∧ Hid ((fs.take j).all (Lm.isN q) = true) ∧ Below w.heap.size w wr) (fun _ iv _ => fs.length - (intOf iv).toNat)
  case atStart => exact ⟨0, by omega, rfl, Lib.hid rfl, Below.refl _ _⟩
  case round =>
    obtain ⟨j, hj, rfl, HA, hbw⟩ := hrel
    by_cases hlt : j < fs.length
    · obtain ⟨b, o, rfl, hbl, hc⟩ := HCE.out (by omega)
      have q0 := (hbw.cell (p := ⟨b, o + j * 3 + 0, none⟩) hbl).trans (hc j hlt 0 _ rfl)
      have q1 := (hbw.cell (p := ⟨b, o + j * 3 + 1, none⟩) hbl).trans (hc j hlt 1 _ rfl)
      have q2 := (hbw.cell (p := ⟨b, o + j * 3 + 2, none⟩) hbl).trans (hc j hlt 2 _ rfl)
      have hgw := HG.out (by omega)
      have CP := Lib.hid (isL_any (fs.getD j Lm.f0) g q wr ((hbw.cell (p := ⟨g, 0, none⟩) (World.block_lt_of_cell? _ _ hgw)).trans hgw))
      have hall := Lm.all_snoc (p := Lm.isN q) (d := Lm.f0) hlt HA.out
      have HX := Lib.hid (show ∀ y, y = fs.getD j Lm.f0 → Lm.isN q y = false → Lm.IdxP fs q j from fun y hy hq => .inr ⟨j, hlt, rfl, HA.out, hy ▸ hq⟩)
      clear hc hgw
      generalize hx : fs.getD j Lm.f0 = x at *
      have HXX := Lib.hid (HX.out x rfl)
      clear hx HX
      simp only [Nat.add_zero] at q0
      cases hp : Lm.isN q x with
      | true =>
        have HN := Lib.hid (hall hp)
        rw [hp] at CP
        clear hp hall HXX
        obtain ⟨pa, st, ln⟩ := x
        simp only [Lm.fC] at *
        go_wp2_with fail
        with_reducible refine CP.out.mono ?_
        rintro e w2 ⟨rfl, hb2⟩
        go_wp2_with fail
        go_roundw
        case rel => exact ⟨j + 1, by omega, by go_num, HN, hbw.trans (hb2.mono hbw.size)⟩
        case measure => simp [intOf]; omega
      | false =>
        have HN := Lib.hid (HXX.out hp)
        rw [hp] at CP
        clear hp hall HXX
        obtain ⟨pa, st, ln⟩ := x
        simp only [Lm.fC] at *
        go_wp2_with fail
        with_reducible refine CP.out.mono ?_
        rintro e w2 ⟨rfl, hb2⟩
        go_wp2_with fail
        go_ret
        exact ⟨_, rfl, HN.out, hbw.trans (hb2.mono hbw.size)⟩
    · obtain rfl : j = fs.length := by omega
      have ha := HA.out
      rw [List.take_length] at ha
      have HH := Lib.hid ha
      clear ha
      go_wp2_with fail
      go_ret
      exact ⟨_, rfl, .inl ⟨rfl, HH.out⟩, hbw⟩

set_option maxHeartbeats 1600000 in
set_option maxRecDepth 100000 in
/-- masterdisc/lossmap.Recover$1. -/
theorem isR_any (x : Lm.F) (g : Nat) (q : ByteArray) (w : World) (hg : w.cell? ⟨g, 0, none⟩ = some (.string q)) :
    Calls Tryd.prog 34 #[.agg #[.string x.path, .int .i64 x.start, .int .i64 x.len], .pointer (some ⟨g, 0, none⟩)] w fun e w' => e = .returned (.bool (!Lm.isN q x)) ∧ Below w.heap.size w w' := by
  obtain ⟨pa, st, ln⟩ := x
  have hgl := World.block_lt_of_cell? _ _ hg
  have e1 : (!Lm.isN q ⟨pa, st, ln⟩) = (pa.toList == q.toList) := by
    unfold Lm.isN
    rw [Bool.not_not]
    by_cases h : pa = q
    · subst h
      simp
    · have h2 : pa.toList ≠ q.toList := fun e => h (by
        rw [Lib.toList_data, Lib.toList_data] at e
        cases pa; cases q
        simp at e
        rw [e])
      rw [beq_eq_false_iff_ne.2 h2]
      simp [h]
  rw [e1]
  simp only [] at *
  have h1 := (Below.heap_alloc w (.cells #[.string pa, .int .i64 st, .int .i64 ln] 41) g hgl)
  have hg1 := (World.cell?_of_block (w := w) (a := ⟨g, 0, none⟩) h1).trans hg
  have hp1 : (w.alloc (.cells #[.string pa, .int .i64 st, .int .i64 ln] 41)).cell? ⟨w.heap.size, 0, none⟩ = some (.string pa) := by
    rw [World.cell?_alloc_at _ _ _ _ (by simp)]
    simp
  clear h1 hg e1
  go_enter Tryd.func34, Tryd.ntmps34
  go_wp2_with fail
  try go_region
  all_goals try go_wp2_with fail
  all_goals go_ret
  all_goals first | exact ⟨rfl, (Below.refl _ w).alloc (Nat.le_refl _) _⟩ | exact ⟨rfl, Kit.Below.drewN ((Below.refl _ w).alloc (Nat.le_refl _) _) _⟩

set_option maxHeartbeats 1600000 in
set_option maxRecDepth 100000 in
/-- slices.IndexFunc of masterdisc/lossmap.Recover$1. -/
theorem indexR_any (v : Value) (fs : List Lm.F) (g : Nat) (q : ByteArray) (w : World) (hm : Lm.Files w v fs) (hg : 0 < fs.length → w.cell? ⟨g, 0, none⟩ = some (.string q)) :
    Calls Tryd.prog 27 #[v, .func (.func 34) #[] #[.pointer (some ⟨g, 0, none⟩)]] w fun e w' => ∃ r : Int, e = .returned (.int .i64 r) ∧ Lm.IdxP fs q r ∧ Below w.heap.size w w' := by
  have HG := Lib.hid hg
  obtain ⟨A, c, rfl, hlc, hcm, hcells⟩ := hm
  have HCE := Lib.hid hcells
  clear hcells hg
  unfold maxLen at hcm
  go_enter Tryd.func27, Tryd.ntmps27
  go_wp2_with fail
  go_loopw [5, 8] (fun _ iv wr => ∃ j : Nat, j ≤ fs.length ∧ iv = .int .i64 j ∧ Hid ((fs.take j).all (Lm.isN q) = true) ∧ Below w.heap.size w wr) (fun _ iv _ => fs.length - (intOf iv).toNat)
  case atStart => exact ⟨0, by omega, rfl, Lib.hid rfl, Below.refl _ _⟩
  case round =>
    obtain ⟨j, hj, rfl, HA, hbw⟩ := hrel
    by_cases hlt : j < fs.length
    · obtain ⟨b, o, rfl, hbl, hc⟩ := HCE.out (by omega)
      have q0 := (hbw.cell (p := ⟨b, o + j * 3 + 0, none⟩) hbl).trans (hc j hlt 0 _ rfl)
      have q1 := (hbw.cell (p := ⟨b, o + j * 3 + 1, none⟩) hbl).trans (hc j hlt 1 _ rfl)
      have q2 := (hbw.cell (p := ⟨b, o + j * 3 + 2, none⟩) hbl).trans (hc j hlt 2 _ rfl)
      have hgw := HG.out (by omega)
      have CP := Lib.hid (isR_any (fs.getD j Lm.f0) g q wr ((hbw.cell (p := ⟨g, 0, none⟩) (World.block_lt_of_cell? _ _ hgw)).trans hgw))
      have hall := Lm.all_snoc (p := Lm.isN q) (d := Lm.f0) hlt HA.out
      have HX := Lib.hid (show ∀ y, y = fs.getD j Lm.f0 → Lm.isN q y = false → Lm.IdxP fs q j from fun y hy hq => .inr ⟨j, hlt, rfl, HA.out, hy ▸ hq⟩)
      clear hc hgw
      generalize hx : fs.getD j Lm.f0 = x at *
      have HXX := Lib.hid (HX.out x rfl)
      clear hx HX
      simp only [Nat.add_zero] at q0
      cases hp : Lm.isN q x with
      | true =>
        have HN := Lib.hid (hall hp)
        rw [hp] at CP
        clear hp hall HXX
        obtain ⟨pa, st, ln⟩ := x
        simp only [Lm.fC] at *
        go_wp2_with fail
        with_reducible refine CP.out.mono ?_
        rintro e w2 ⟨rfl, hb2⟩
        go_wp2_with fail
        go_roundw
        case rel => exact ⟨j + 1, by omega, by go_num, HN, hbw.trans (hb2.mono hbw.size)⟩
        case measure => simp [intOf]; omega
      | false =>
        have HN := Lib.hid (HXX.out hp)
        rw [hp] at CP
        clear hp hall HXX
        obtain ⟨pa, st, ln⟩ := x
        simp only [Lm.fC] at *
        go_wp2_with fail
        with_reducible refine CP.out.mono ?_
        rintro e w2 ⟨rfl, hb2⟩
        go_wp2_with fail
        go_ret
        exact ⟨_, rfl, HN.out, hbw.trans (hb2.mono hbw.size)⟩
    · obtain rfl : j = fs.length := by omega
      have ha := HA.out
      rw [List.take_length] at ha
      have HH := Lib.hid ha
      clear ha
      go_wp2_with fail
      go_ret
      exact ⟨_, rfl, .inl ⟨rfl, HH.out⟩, hbw⟩

set_option maxHeartbeats 1600000 in
set_option maxRecDepth 100000 in
/-- slices.ContainsFunc of Recover$1. -/
theorem containsR_any (v : Value) (fs : List Lm.F) (g : Nat) (q : ByteArray) (w : World) (hm : Lm.Files w v fs) (hg : 0 < fs.length → w.cell? ⟨g, 0, none⟩ = some (.string q)) :
    Calls Tryd.prog 33 #[v, .func (.func 34) #[] #[.pointer (some ⟨g, 0, none⟩)]] w fun e w' => e = .returned (.bool (!fs.all (Lm.isN q))) ∧ Below w.heap.size w w' := by
  have CI := Lib.hid (indexR_any v fs g q w hm hg)
  obtain ⟨A, c, rfl, _, _, _⟩ := hm
  clear hg
  go_enter Tryd.func33, Tryd.ntmps33
  go_wp2_with fail
  with_reducible refine CI.out.mono ?_
  rintro e w2 ⟨r, rfl, hr, hb2⟩
  have HR := Lib.hid hr
  have e1 : (decide (0 ≤ r)) = !fs.all (Lm.isN q) := by
    rcases HR.out with ⟨h1, h2⟩ | ⟨j, h1, h2, h3, h4⟩
    · rw [h2, h1]; rfl
    · rw [Lm.all_fail h1 h4, h2]
      simp
  have HE := Lib.hid e1
  clear hr e1
  go_wp2_with fail
  go_ret
  first | exact ⟨by rw [← HE.out]; rfl, hb2⟩ | exact ⟨congrArg (fun b => Ending.returned (.bool b)) (by rw [← HE.out]; simp [GE.ge]), hb2⟩
end Go.Proofs.YtlhechlbmbjffaaDoor
