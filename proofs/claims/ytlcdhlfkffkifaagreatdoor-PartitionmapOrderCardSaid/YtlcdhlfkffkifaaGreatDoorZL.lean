/-
  The walks through the reference's FewMaps, and Ints of equal lists.
-/
import Derived.Test.YtlcdhlfkffkifaaGreatDoorZB
namespace Go.Proofs.YtlcdhlfkffkifaaGreatDoor
open Go.RowKit

namespace Pm
/-- Few maps, as a Bool. -/
def fewB (l : List M) : Bool := l.all (fun x => decide (x.tables.length ≤ 8)) && decide (l.length ≤ 8)
theorem few_of {l : List M} (h : fewB l = true) : Few l := by
  unfold fewB at h
  rw [Bool.and_eq_true, decide_eq_true_eq] at h
  refine ⟨h.2, fun j hj => ?_⟩
  have := List.all_eq_true.1 h.1 (l.getD j none) (by simp [List.getD, hj])
  simpa using this
end Pm

set_option maxHeartbeats 3200000 in
set_option maxRecDepth 100000 in
/-- masterdiscref37.FewMaps. -/
theorem fewMaps_any (v : Value) (l : List Pm.M) (T : Nat → Value) (w : World) (hm : Pm.MapsAt w v l T) :
    Calls Tryz.prog 10 #[v] w fun e w' => e = .returned (.bool (Pm.fewB l)) ∧ w = w' := by
  have HM := Lib.hid hm
  obtain ⟨A, c, rfl, hlc, hcm, hcells⟩ := hm.row
  have HCE := Lib.hid hcells
  clear hcells hm
  unfold maxLen at hcm
  have hl63 : l.length ≤ 9223372036854775807 := by omega
  go_enter Tryz.func10, Tryz.ntmps10
  go_wp2_with fail
  go_loop [3] (fun iv => ∃ j : Nat, j ≤ l.length ∧ iv = .int .i64 j ∧ Hid ((l.take j).all (fun x => decide (x.tables.length ≤ 8)) = true)) (fun iv => l.length - (intOf iv).toNat)
  case atStart => exact ⟨0, by omega, rfl, Lib.hid rfl⟩
  case round =>
    obtain ⟨j, hj, rfl, HA⟩ := hrel
    by_cases hlt : j < l.length
    · obtain ⟨b, o, rfl, hbl, hc⟩ := HCE.out (by omega)
      obtain ⟨_, _, c2, _, _, _⟩ := Pm.six hbl (Below.refl _ w) (hc j hlt)
      have hr := HM.out.tabs j hlt
      have hall := all_snocM (p := fun x => decide (x.tables.length ≤ 8)) hlt HA.out
      have hfail := all_failM (p := fun x => decide (x.tables.length ≤ 8)) hlt
      clear hc
      generalize l.getD j Pm.none = x at *
      generalize T j = tv at *
      obtain ⟨⟨A', c', rfl, _, hcm', _⟩, _⟩ := hr
      rw [Kit.izs_length] at *
      generalize x.tables.length = tn at *
      by_cases h8 : tn ≤ 8
      · have HN := Lib.hid (hall (decide_eq_true h8))
        have d8 : decide (8 < (tn : Int)) = false := decide_eq_false (by omega)
        have d8' : ¬ (8 < (tn : Int)) := by omega
        clear hall hfail
        go_wp2_with fail
        go_round
        case rel => exact ⟨j + 1, by omega, by go_num, HN⟩
        case measure => simp [intOf]; omega
      · have HN := Lib.hid (show Pm.fewB l = false by unfold Pm.fewB; rw [hfail (decide_eq_false h8)]; rfl)
        have d8 : decide (8 < (tn : Int)) = true := decide_eq_true (by omega)
        have d8' : 8 < (tn : Int) := by omega
        clear hall hfail
        go_wp2_with fail
        go_ret
        rw [HN.out]
        exact ⟨rfl, rfl⟩
    · obtain rfl : j = l.length := by omega
      have ha := HA.out
      rw [List.take_length] at ha
      by_cases h4 : l.length ≤ 8
      · have HH := Lib.hid (show Pm.fewB l = true by unfold Pm.fewB; rw [ha, decide_eq_true h4]; rfl)
        have d4 : decide ((l.length : Int) ≤ 8) = true := decide_eq_true (by omega)
        clear ha
        go_wp2_with fail
        go_ret
        rw [HH.out]
        exact ⟨rfl, rfl⟩
      · have HH := Lib.hid (show Pm.fewB l = false by unfold Pm.fewB; rw [decide_eq_false h4]; simp)
        have d4 : decide ((l.length : Int) ≤ 8) = false := decide_eq_false (by omega)
        clear ha
        go_wp2_with fail
        go_ret
        rw [HH.out]
        exact ⟨rfl, rfl⟩

set_option maxHeartbeats 3200000 in
set_option maxRecDepth 100000 in
/-- masterdiscref01.Ints of equal lists. -/
theorem rInts_same (v1 v2 : Value) (zs : List Int) (w : World) (h1 : Kit.RowS w v1 (Kit.izs zs)) (h2 : Kit.RowS w v2 (Kit.izs zs)) :
    Calls Tryz.prog 33 #[v1, v2] w fun e w' => e = .returned (.bool true) ∧ ∃ n, w' = w.drewN n := by
  have H1 := Lib.hid h1.1
  have H2 := Lib.hid h2.1
  obtain ⟨⟨A1, c1, rfl, hl1, hm1, _⟩, _⟩ := h1
  obtain ⟨⟨A2, c2, rfl, hl2, hm2, _⟩, _⟩ := h2
  rw [Kit.izs_length] at *
  unfold maxLen at hm1 hm2
  have hne : ((zs.length : Int) != (zs.length : Int)) = false := by simp
  go_enter Tryz.func33, Tryz.ntmps33
  go_wp2_with fail
  go_loopw [5] (fun iv wr => ∃ j q : Nat, j ≤ zs.length ∧ iv = .int .i64 j ∧ wr = w.drewN q) (fun iv _ => zs.length - (intOf iv).toNat)
  case atStart => exact ⟨0, 0, by omega, rfl, rfl⟩
  case round =>
    obtain ⟨j, q, hj, rfl, rfl⟩ := hrel
    by_cases hlt : j < zs.length
    · obtain ⟨b1, o1, c1', hv1, _, g1⟩ := H1.out.at_izs hlt
      obtain ⟨b2, o2, c2', hv2, _, g2⟩ := H2.out.at_izs hlt
      obtain ⟨rfl, _, rfl⟩ : A1 = some ⟨b1, o1, none⟩ ∧ zs.length = zs.length ∧ c1 = c1' := by simpa using hv1
      obtain ⟨rfl, _, rfl⟩ : A2 = some ⟨b2, o2, none⟩ ∧ zs.length = zs.length ∧ c2 = c2' := by simpa using hv2
      clear hv1 hv2
      generalize zs.getD j 0 = x at *
      have hlt' : (j : Int) < (zs.length : Int) := by omega
      have hxx : (x != x) = false := by simp
      go_wp2_with fail
      go_quiet (fail)
      go_wp2_with fail
      go_roundw
      case rel => exact ⟨j + 1, q + nq, by omega, by go_num, rfl⟩
      case measure => simp [intOf]; omega
    · obtain rfl : j = zs.length := by omega
      go_wp2_with fail
      go_ret
      exact ⟨rfl, q, rfl⟩
end Go.Proofs.YtlcdhlfkffkifaaGreatDoor

/-
  The walk through the reference's SameMaps of equal lists.
-/
namespace Go.Proofs.YtlcdhlfkffkifaaGreatDoor
open Go.RowKit

set_option maxHeartbeats 6400000 in
set_option maxRecDepth 100000 in
/-- masterdiscref37.SameMaps of equal lists. -/
theorem sameMaps_any (v1 v2 : Value) (l : List Pm.M) (T1 T2 : Nat → Value) (w : World) (h1 : Pm.MapsAt w v1 l T1) (h2 : Pm.MapsAt w v2 l T2) :
    Calls Tryz.prog 15 #[v1, v2] w fun e w' => e = .returned (.bool true) ∧ Below w.heap.size w w' := by
  have H1 := Lib.hid h1
  have H2 := Lib.hid h2
  obtain ⟨A1, c1, rfl, hl1, hm1, hce1⟩ := h1.row
  obtain ⟨A2, c2, rfl, hl2, hm2, hce2⟩ := h2.row
  have HC1 := Lib.hid hce1
  have HC2 := Lib.hid hce2
  clear hce1 hce2 h1 h2
  unfold maxLen at hm1 hm2
  have hne : ((l.length : Int) != (l.length : Int)) = false := by simp
  go_enter Tryz.func15, Tryz.ntmps15
  go_wp2_with fail
  go_loopw [5] (fun iv wr => ∃ j : Nat, j ≤ l.length ∧ iv = .int .i64 j ∧ Below w.heap.size w wr) (fun iv _ => l.length - (intOf iv).toNat)
  case atStart => exact ⟨0, by omega, rfl, Below.refl _ _⟩
  case round =>
    obtain ⟨j, hj, rfl, hbw⟩ := hrel
    by_cases hlt : j < l.length
    · obtain ⟨b1, o1, rfl, hb1, g1⟩ := HC1.out (by omega)
      obtain ⟨b2, o2, rfl, hb2, g2⟩ := HC2.out (by omega)
      obtain ⟨c10, c11, c12, c13, c14, c15⟩ := Pm.six hb1 hbw (g1 j hlt)
      obtain ⟨c20, c21, c22, c23, c24, c25⟩ := Pm.six hb2 hbw (g2 j hlt)
      have hr1 := (H1.out.tabs j hlt).below hbw
      have hr2 := (H2.out.tabs j hlt).below hbw
      clear g1 g2
      generalize T1 j = t1 at *
      generalize T2 j = t2 at *
      generalize l.getD j Pm.none = x at *
      have CI := Lib.hid (fun n => rInts_same t1 t2 x.tables (wr.drewN n) hr1 hr2)
      obtain ⟨⟨A1', c1', rfl, _, _, _⟩, _⟩ := hr1
      obtain ⟨⟨A2', c2', rfl, _, _, _⟩, _⟩ := hr2
      obtain ⟨k, n, t, f, m, b⟩ := x
      simp only [] at *
      have hlt' : (j : Int) < (l.length : Int) := by omega
      have n1 : (k != k) = false := by simp
      have n2 : (n != n) = false := by simp
      have n3 : (f != f) = false := by simp
      have n4 : (m != m) = false := by simp
      have n5 : (b != b) = false := by simp
      go_wp2_with fail
      refine wp_region_quiet_lit (by kernel_rfl) (by kernel_rfl) ?_
      repeat (first | go_big_quiet_skip | (go_big_quiet_want; go_big_quiet_op; first | go_big_quiet_on | (apply Exists.intro; refine ⟨fun _ => ?_, ?_⟩; (exact Calls.quiet_of (CI.out _)); go_big_quiet_on)))
      refine wpQuiet_nil ?_
      intro wq hw'
      obtain ⟨nq, hw''⟩ := hw'
      have HB2 := Lib.hid (show Below w.heap.size w wq by rw [hw'']; exact Kit.Below.drewN hbw nq)
      clear hw''
      go_wp2_with fail
      go_roundw
      case rel => exact ⟨j + 1, by omega, by go_num, HB2.out⟩
      case measure => simp [intOf]; omega
    · obtain rfl : j = l.length := by omega
      go_wp2_with fail
      go_ret
      exact ⟨rfl, hbw⟩
end Go.Proofs.YtlcdhlfkffkifaaGreatDoor
