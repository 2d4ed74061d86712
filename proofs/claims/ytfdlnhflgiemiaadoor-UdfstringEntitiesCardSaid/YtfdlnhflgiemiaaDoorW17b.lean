/-
  The walk through charset.Text.
-/
import Derived.Test.YtfdlnhflgiemiaaDoorW17
namespace Go.Proofs.YtfdlnhflgiemiaaDoor
open Go.RowKit

theorem runeCells_char (n : Int) (h : Cs.isChar n = true) : Lib.runeCells n = Kit.bytes (Cs.enc n) := by
  have hc := (Cs.isChar_iff n).1 h
  have e1 : Kit.bytes (Cs.enc n) = (Cs.encZ n).map (Value.int .u8) := by
    rw [← Cs.enc_toNat n (by omega) (by omega)]
    simp [Kit.bytes]
  rw [e1]
  unfold Lib.runeCells Lib.encodeRuneZ Cs.encZ
  repeat' split
  all_goals first | rfl | (exfalso; omega)

set_option maxHeartbeats 1600000 in
set_option maxRecDepth 100000 in
/-- charset.Text. -/
theorem text_any (v : Value) (zs : List Int) (w : World) (hr : Kit.Row w v (Kit.izs zs)) (hw : ∀ z ∈ zs, -9223372036854775808 ≤ z ∧ z ≤ 9223372036854775807) :
    Calls Tryd.prog 44 #[v] w fun e w' => e = .returned (.tuple #[.string ⟨(Cs.textR zs).1.toArray⟩, .int .i64 (Cs.textR zs).2]) ∧ Below w.heap.size w w' := by
  obtain ⟨A, c, rfl, hlc, hcm, hcell⟩ := hr
  rw [Kit.izs_length] at hlc hcell ⊢
  unfold maxLen at hcm
  by_cases hl : zs.length ≤ 21845
  case neg =>
    have hl' : (21845 : Int) < (zs.length : Int) := by omega
    have HR := Lib.hid (Cs.textR_long (zs := zs) (by omega))
    go_enter Tryd.func44, Tryd.ntmps44
    go_wp2_with fail
    go_ret2
    rw [HR.out]
    exact ⟨rfl, Below.refl _ _⟩
  case pos =>
  have hl' : ¬ (21845 : Int) < (zs.length : Int) := by omega
  have HC := Lib.hid hcell
  have HW := Lib.hid hw
  clear hcell hw
  go_enter Tryd.func44, Tryd.ntmps44
  go_wp2_with fail
  go_loopw [12] (fun iv wr => ∃ j : Nat, j ≤ zs.length ∧ iv = .int .i64 j ∧ (zs.take j).all Cs.isChar = true ∧ Lib.IsBuilderF 50 5 w.heap.size w.heap.size (Lib.byteCells ((zs.take j).flatMap Cs.enc)) wr ∧ Below w.heap.size w wr) (fun iv _ => zs.length - (intOf iv).toNat)
  case atStart => exact ⟨0, by omega, rfl, rfl, Lib.IsBuilderF.of (Lib.fresh_isBuilder _ _ w), (Below.refl _ _).alloc (Nat.le_refl _) _⟩
  case round =>
    obtain ⟨j, hj, rfl, hall, hbd, hbw⟩ := hrel
    have HBD := Lib.hid hbd
    have HALL := Lib.hid hall
    clear hbd hall
    have hsz := hbw.size
    by_cases hlt : j < zs.length
    · obtain ⟨b, o, rfl, hbl, hce⟩ := HC.out (by omega)
      have hcj : wr.cell? ⟨b, o + j, none⟩ = some (.int .i64 (zs.getD j 0)) := by
        rw [hbw.cell (p := ⟨b, o + j, none⟩) hbl]
        exact hce j _ (by simp [Kit.izs, List.getD, hlt])
      clear hce
      have hmem : zs.getD j 0 ∈ zs := by simp [List.getD, hlt]
      obtain ⟨hz0, hz1⟩ := HW.out _ hmem
      have HFL := Lib.hid (Cs.flat_take hlt)
      have hfl := Cs.flat_len (zs.take j)
      rw [List.length_take, Nat.min_eq_left hj] at hfl
      have HLN := Lib.hid hfl
      clear hmem hfl
      have cC := fun W => character_any (zs.getD j 0) W
      by_cases hic : Cs.isChar (zs.getD j 0) = true
      · have hb := (Cs.isChar_iff _).1 hic
        have HAL := Lib.hid (Cs.all_take hlt HALL.out hic)
        have hrc := runeCells_char _ hic
        generalize zs.getD j 0 = z at *
        rw [hic] at cC
        have CC := Lib.hid cC
        have cB := fun W h1 h2 => Tryd.yWriteRune w.heap.size w.heap.size (Lib.byteCells ((zs.take j).flatMap Cs.enc)) z (by omega) (by omega) W h1 (by simp only [Lib.byteCells, List.length_map]; have := HLN.out; omega) h2
        rw [hrc] at cB
        have CB := Lib.hid cB
        clear cC hic hrc cB
        have hz2 : 32 ≤ z := hb.1
        have hz3 : z ≤ 65533 := hb.2.1
        clear hb hz0 hz1
        go_wp2_with fail
        with_reducible refine (CC.out _).mono ?_
        rintro e w3 ⟨rfl, rfl⟩
        go_wp2_with fail
        with_reducible refine (CB.out _ HBD.out hsz).mono ?_
        rintro e w3 ⟨rfl, hb3, hb3', _⟩
        have HB3 := Lib.hid hb3
        clear hb3
        go_wp2_with fail
        go_roundw
        case rel => exact ⟨j + 1, by omega, by go_num, HAL.out, by
          have h := HB3.out
          rw [HFL.out]
          exact .inr (by simpa [Lib.byteCells, Kit.bytes] using h), hbw.trans hb3'⟩
        case measure => simp [intOf]; omega
      · have hic' : Cs.isChar (zs.getD j 0) = false := by simpa using hic
        have HR := Lib.hid (Cs.textR_no (by omega) hlt hic')
        generalize zs.getD j 0 = z at *
        rw [hic'] at cC
        have CC := Lib.hid cC
        clear cC hic hic'
        go_wp2_with fail
        with_reducible refine (CC.out _).mono ?_
        rintro e w3 ⟨rfl, rfl⟩
        go_wp2_with fail
        go_ret2
        rw [HR.out]
        exact ⟨rfl, hbw⟩
    · obtain rfl : j = zs.length := by omega
      have hal := HALL.out
      rw [List.take_length] at hal
      have HR := Lib.hid (Cs.textR_ok (by omega) hal)
      have hbd := HBD.out
      rw [List.take_length] at hbd
      have HB := Lib.hid hbd
      clear hbd hal
      go_wp2_with fail
      with_reducible refine (Tryd.Builder_String_any_f w.heap.size w.heap.size _ _ HB.out hsz).mono ?_
      rintro e w3 ⟨rfl, _, hb3⟩
      go_wp2_with fail
      go_ret2
      rw [HR.out]
      exact ⟨rfl, hbw.trans hb3⟩
end Go.Proofs.YtfdlnhflgiemiaaDoor
