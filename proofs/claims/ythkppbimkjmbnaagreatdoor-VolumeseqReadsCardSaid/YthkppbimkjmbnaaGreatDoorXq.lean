/-
  The walk through VolumeseqReads.
-/
import Derived.Test.YthkppbimkjmbnaaGreatDoorXp
import Derived.Test.YthkppbimkjmbnaaGreatDoorZf
namespace Go.Proofs.YthkppbimkjmbnaaGreatDoor
set_option linter.unusedVariables false
open Go.RowKit Go.Maps
open Vs (bs by_)

namespace Vs
def smallB (l : List ByteArray) (m : Nat) : Bool := decide (l.length ≤ m) && l.all (fun s => decide (s.size ≤ 2100))
theorem small_false {l : List ByteArray} {m j : Nat} (h : j < l.length) (hs : ¬ (l.getD j ⟨#[]⟩).size ≤ 2100) : smallB l m = false := by
  unfold smallB
  rw [Bool.and_eq_false_iff]
  refine .inr ?_
  rw [List.all_eq_false]
  refine ⟨l[j], List.getElem_mem h, ?_⟩
  simp only [List.getD_eq_getElem?_getD, List.getElem?_eq_getElem h, Option.getD_some] at hs
  simpa using hs
theorem small_true {l : List ByteArray} {m : Nat} (h : ∀ i, i < l.length → (l.getD i ⟨#[]⟩).size ≤ 2100) : smallB l m = decide (l.length ≤ m) := by
  unfold smallB
  have : l.all (fun s => decide (s.size ≤ 2100)) = true := by
    rw [List.all_eq_true]
    intro s hs
    obtain ⟨j, hj, rfl⟩ := List.mem_iff_getElem.1 hs
    have := h j hj
    simp only [List.getD_eq_getElem?_getD, List.getElem?_eq_getElem hj, Option.getD_some] at this
    exact decide_eq_true this
  rw [this, Bool.and_true]
theorem small_of {l : List ByteArray} {m : Nat} (h : smallB l m = true) (j : Nat) (hj : j < l.length) : (l.getD j ⟨#[]⟩).size ≤ 2100 :=
  Classical.byContradiction fun g => by rw [small_false hj g] at h; cases h
end Vs

set_option maxHeartbeats 1600000 in
set_option maxRecDepth 100000 in
/-- masterdiscref36.Small. -/
theorem r36Small_any (v : Value) (l : List ByteArray) (m : Nat) (K : Int) (hK : K = (m : Int)) (w : World) (hv : Kit.Row w v (Vs.strs l)) :
    Calls Tryz.prog 25 #[v, .int .i64 K] w fun e w' => e = .returned (.bool (Vs.smallB l m)) ∧ w = w' := by
  subst hK
  have HV := Lib.hid hv
  have HSF := Lib.hid (fun j h hs => Vs.small_false (l := l) (m := m) (j := j) h hs)
  have HST := Lib.hid (fun h => Vs.small_true (l := l) (m := m) h)
  obtain ⟨A, c, rfl, hlc, hcm, _⟩ := hv
  rw [Vs.strs_len] at *
  unfold maxLen at hcm
  generalize Vs.smallB l m = R at *
  go_enter Tryz.func25, Tryz.ntmps25
  go_wp2_with fail
  go_loop [5] (fun iv => ∃ j : Nat, j ≤ l.length ∧ iv = .int .i64 j ∧ Hid (∀ i, i < j → (l.getD i ⟨#[]⟩).size ≤ 2100)) (fun iv => l.length - (intOf iv).toNat)
  case atStart => exact ⟨0, Nat.zero_le _, rfl, Lib.hid (fun i h => by omega)⟩
  case round =>
    obtain ⟨j, hj, rfl, HA⟩ := hrel
    by_cases hlt : j < l.length
    · obtain ⟨A', c', hv', -, -, hcells⟩ := HV.out
      rw [Vs.strs_len] at hv' hcells
      obtain ⟨bb, o, rfl, hb, hc⟩ := hcells (by omega)
      obtain ⟨rfl, rfl⟩ : A = some ⟨bb, o, none⟩ ∧ c = c' := by simpa using hv'
      have q0 : w.cell? ⟨bb, o + j, none⟩ = some (.string (l.getD j ⟨#[]⟩)) := hc j _ (by simp [Vs.strs, List.getD, hlt])
      have HA2 := Lib.hid (fun (h : (l.getD j ⟨#[]⟩).size ≤ 2100) => show ∀ i, i < j + 1 → (l.getD i ⟨#[]⟩).size ≤ 2100 from fun i hi => by
        by_cases e : i = j
        · subst e; exact h
        · exact HA.out i (by omega))
      have HF2 := Lib.hid (HSF.out j hlt)
      clear hv' hcells hc HA HSF HST
      generalize l.getD j ⟨#[]⟩ = s at *
      by_cases hs : s.size ≤ 2100
      · have d1 : decide ((2100 : Int) < (s.size : Int)) = false := decide_eq_false (by omega)
        have HA3 := Lib.hid (HA2.out hs)
        clear HA2 hs HF2
        go_wp2_with fail
        go_round
        case rel => exact ⟨j + 1, by omega, by go_num, HA3⟩
        case measure => simp [intOf]; omega
      · have d1 : decide ((2100 : Int) < (s.size : Int)) = true := decide_eq_true (by omega)
        obtain rfl := HF2.out hs
        clear HA2 hs HF2
        go_wp2_with fail
        go_ret
        first | exact ⟨rfl, rfl⟩ | rfl
    · obtain rfl : j = l.length := by omega
      obtain rfl := HST.out (fun i hi => HA.out i hi)
      clear HA HST HSF
      go_wp2_with fail
      go_ret
      first | exact ⟨rfl, rfl⟩ | rfl | (refine ⟨?_, rfl⟩; simp)

set_option maxHeartbeats 12800000 in
set_option maxRecDepth 100000 in
/-- VolumeseqReads. -/
theorem lawReads_any (v : Value) (l : List ByteArray) (loc : Int) (w : World) (m : Int) (hv : Kit.Row w v (Vs.strs l)) (hT : Lib.Utf8Tabs 1 2 w) (hM : w.cell? ⟨0, 0, none⟩ = some (.int .i64 m)) :
    Calls Tryz.prog 5 #[v, .int .i64 loc] w fun e w' => e = .returned (.bool true) ∧ Below w.heap.size w w' := by
  have HT := Lib.hid hT
  have HM := Lib.hid hM
  have CA := Lib.hid (fun W h1 h2 => awake_any W m h1 h2)
  have CM := Lib.hid (fun W (h : Below w.heap.size w W) => r36Small_any v l 40 40 rfl W (hv.below h))
  have CP := Lib.hid (fun W (h : Below w.heap.size w W) (hs : ∀ j, j < l.length → (l.getD j ⟨#[]⟩).size ≤ 2100) => pseq_any v l loc W m (hv.below h) (Kit.tabs_below HT.out h) ((h.cell (p := ⟨0, 0, none⟩) (World.block_lt_of_cell? _ _ HM.out)).trans HM.out) (fun j hj => Nat.le_trans (hs j hj) (by decide)))
  have CQ := Lib.hid (fun W (h : Below w.heap.size w W) (hs : ∀ j, j < l.length → (l.getD j ⟨#[]⟩).size ≤ 2100) => rpseq_any v l loc W (hv.below h) (fun j hj => Nat.le_trans (hs j hj) (by decide)))
  obtain ⟨X, hX⟩ : ∃ X, X = Vs.dC (Vs.parR l loc).1.1 := ⟨_, rfl⟩
  have HXE := Lib.hid hX
  have HX1 := Lib.hid (show X.all (·.oneCell') = true by rw [hX]; exact Vs.dC_one _)
  have HXI := Lib.hid (show (Tryz.prog.info? 46).map (·.size) = some X.size by rw [hX]; exact Vs.zC_info)
  have HEQ := Lib.hid (show ∀ W : World, (Op.equalIn 10000 46 (.agg X) (.agg X)).run Tryz.prog W = .ok true W from fun W => by rw [hX]; exact eqIn_refl _ W)
  have HXZ := Lib.hid (show Vs.zC.size = X.size by rw [hX]; rfl)
  rw [← hX] at CP CQ
  generalize (Vs.parR l loc).1.2 = pi at *
  generalize (Vs.parR l loc).2 = pe at *
  obtain ⟨Z, hZ⟩ : ∃ Z, Z = Vs.zC := ⟨_, rfl⟩
  have HZL := Lib.hid (show (#[.string ⟨#[]⟩, .string ⟨#[]⟩, .string ⟨#[]⟩, .string ⟨#[]⟩, .string ⟨#[]⟩, .int .i64 0, .int .i64 0, .int .i64 0, .int .i64 0, .int .i64 0, .int .i64 0, .int .i64 0, .int .i64 0, .int .i64 0, .int .i64 0, .string ⟨#[]⟩, .int .i64 0, .int .i64 0, .int .i64 0, .int .i64 0, .int .i64 0, .int .i64 0] : Array Value) = Z from hZ.symm)
  have HZX := Lib.hid (show Z.size = X.size by rw [hZ]; exact HXZ.out)
  have HS0 := Lib.hid (fun (W : World) => Vs.row_put (heap_alloc_new W (.cells Z 46)) HZX.out)
  have HST := Lib.hid (fun (W : World) => show (W.alloc (.cells #[.string ⟨#[]⟩, .string ⟨#[]⟩, .string ⟨#[]⟩, .string ⟨#[]⟩, .string ⟨#[]⟩, .int .i64 0, .int .i64 0, .int .i64 0, .int .i64 0, .int .i64 0, .int .i64 0, .int .i64 0, .int .i64 0, .int .i64 0, .int .i64 0, .string ⟨#[]⟩, .int .i64 0, .int .i64 0, .int .i64 0, .int .i64 0, .int .i64 0, .int .i64 0] 46)).there W.heap.size 0 X.size from Vs.row_there (heap_alloc_new W _) (by rw [← HXZ.out]; rfl))
  clear hZ hT hM hX
  obtain ⟨A, c, rfl, _⟩ := hv
  rw [Vs.strs_len] at *
  go_enter Tryz.func5, Tryz.ntmps5
  go_wp2_with fail
  with_reducible refine (CA.out _ HT.out HM.out).mono ?_
  rintro e w1 ⟨rfl, hb1⟩
  have HB1 := Lib.hid hb1
  clear hb1 CA HT HM
  go_wp2_with fail
  with_reducible refine (CM.out _ HB1.out).mono ?_
  rintro e wx ⟨rfl, hx⟩
  subst hx
  clear CM
  have HSM := Lib.hid (fun h => Vs.small_of (l := l) (m := 40) h)
  generalize Vs.smallB l 40 = b at *
  cases b with
  | false =>
    go_wp2_with fail
    go_ret
    exact ⟨rfl, HB1.out⟩
  | true =>
  have HS := Lib.hid (HSM.out rfl)
  go_wp2_with fail
  with_reducible refine (CP.out _ HB1.out HS.out).mono ?_
  rintro e w2 ⟨rfl, hb2⟩
  have HB2 := Lib.hid (HB1.out.trans (hb2.mono HB1.out.size))
  clear hb2 CP HSM
  go_upto_region 6 with (refine wpList_store_mid rfl 46 _ _ rfl w2.heap.size 0 X (by rfl) (by rfl) (HST.out w2) HXI.out HX1.out ?_)
  rw [HZL.out]
  have HB3 := Lib.hid (Vs.below_put HB2.out.size X.toList 0 _ (HB2.out.alloc HB2.out.size (.cells Z 46)))
  have HN3 := Lib.hid (HS0.out w2)
  generalize ((w2.alloc (.cells Z 46)).setCells w2.heap.size 0 X.toList) = w3 at *
  generalize w2.heap.size = g2 at *
  go_wp2_with fail
  with_reducible refine (CQ.out _ HB3.out HS.out).mono ?_
  rintro e w4 ⟨rfl, hb4⟩
  have HB4 := Lib.hid (HB3.out.trans (hb4.mono HB3.out.size))
  have HN4 := Lib.hid ((hb4.block g2 (Array.getElem?_eq_some_iff.1 HN3.out).1).trans HN3.out)
  clear hb4 CQ HB3 HN3
  go_upto_region 7 with (refine wpList_store_mid rfl 46 _ _ rfl w4.heap.size 0 X (by rfl) (by rfl) (HST.out w4) HXI.out HX1.out ?_)
  rw [HZL.out]
  have hg2 : g2 < w4.heap.size := (Array.getElem?_eq_some_iff.1 HN4.out).1
  have HB5 := Lib.hid (Vs.below_put HB4.out.size X.toList 0 _ (HB4.out.alloc HB4.out.size (.cells Z 46)))
  have HN5 := Lib.hid (HS0.out w4)
  have HM5 := Lib.hid (Vs.heap_put_other X.toList 0 (Nat.ne_of_lt hg2) ((((Below.refl w4.heap.size w4).alloc (Nat.le_refl _) (.cells Z 46)).block g2 hg2).trans HN4.out))
  clear hg2
  generalize ((w4.alloc (.cells Z 46)).setCells w4.heap.size 0 X.toList) = w5 at *
  generalize w4.heap.size = g4 at *
  have HL1 := Lib.hid (Vs.box_load _ HXE.out HM5.out)
  have HL2 := Lib.hid (Vs.box_load _ HXE.out HN5.out)
  go_wp2_with (first | (refine wpList_load_at 46 _ rfl g2 0 rfl _ HL1.out (by rfl) ?_) | (refine wpList_load_at 46 _ rfl g4 0 rfl _ HL2.out (by rfl) ?_) | (refine wpList_eqD _ _ _ rfl X (by rfl) (by rfl) (HEQ.out _) (by rfl) ?_))
  go_ret
  exact ⟨rfl, HB5.out⟩
end Go.Proofs.YthkppbimkjmbnaaGreatDoor
