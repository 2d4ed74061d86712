/-
  The walk through the reference's Text.
-/
import Derived.Test.YtdcknfdileomoaaDoorStep
import Derived.Test.YtdcknfdileomoaaDoorW17b
import Derived.Test.YtdcknfdileomoaaDoorR17
import Derived.Test.YtdcknfdileomoaaDoorKit2
namespace Go.Proofs.YtdcknfdileomoaaDoor
open Go.RowKit

theorem enc_le3 (n : Int) : (Cs.enc n).length ≤ 3 := by
  unfold Cs.enc Cs.encZ
  rw [List.length_map]
  split
  · simp
  · split <;> simp

set_option maxHeartbeats 3200000 in
set_option maxRecDepth 100000 in
/-- masterdiscref17.Text. -/
theorem rText_any (v : Value) (zs : List Int) (w : World) (hr : Kit.Row w v (Kit.izs zs)) (hw : ∀ z ∈ zs, -9223372036854775808 ≤ z ∧ z ≤ 9223372036854775807) :
    Calls Tryd.prog 15 #[v] w fun e w' => e = .returned (.tuple #[.string ⟨(Cs.textR zs).1.toArray⟩, .int .i64 (Cs.textR zs).2]) ∧ Below w.heap.size w w' := by
  obtain ⟨A, c, rfl, hlc, hcm, hcell⟩ := hr
  rw [Kit.izs_length] at hlc hcell ⊢
  unfold maxLen at hcm
  by_cases hl : zs.length ≤ 21845
  case neg =>
    have hl' : (21845 : Int) < (zs.length : Int) := by omega
    have HR := Lib.hid (Cs.textR_long (zs := zs) (by omega))
    go_enter Tryd.func15, Tryd.ntmps15
    go_wp2_with fail
    go_ret2
    rw [HR.out]
    exact ⟨rfl, Below.refl _ _⟩
  case pos =>
  have hl' : ¬ (21845 : Int) < (zs.length : Int) := by omega
  obtain ⟨i0, hi, hq0, hq1, hq2⟩ := info_parts byteInfo
  have HC := Lib.hid hcell
  have HW := Lib.hid hw
  clear hcell hw
  go_enter Tryd.func15, Tryd.ntmps15
  go_wp2_with fail
  go_loopw [5, 4] (fun iv ov wr => ∃ j m : Nat, j ≤ zs.length ∧ iv = .int .i64 j ∧ Hid ((zs.take j).all Cs.isChar = true) ∧ wr.ownsRow w.heap.size 5 1 ov m (Kit.bytes ((zs.take j).flatMap Cs.enc)) ∧ m ≤ 3 * j ∧ Below w.heap.size w wr) (fun iv _ _ => zs.length - (intOf iv).toNat)
  case atStart => exact ⟨0, 0, by omega, rfl, Lib.hid rfl, World.ownsRow_nil _ _ _ _, by omega, Below.refl _ _⟩
  case round =>
    obtain ⟨j, m, hj, rfl, HALL, hown, hm, hbw⟩ := hrel
    have HOWN := Lib.hid hown
    clear hown
    have hsz := hbw.size
    by_cases hlt : j < zs.length
    · obtain ⟨b, o, rfl, hbl, hce⟩ := HC.out (by omega)
      have hcj : wr.cell? ⟨b, o + j, none⟩ = some (.int .i64 (zs.getD j 0)) := by
        rw [hbw.cell (p := ⟨b, o + j, none⟩) hbl]
        exact hce j _ (by simp [Kit.izs, List.getD, hlt])
      clear hce
      have hmem : zs.getD j 0 ∈ zs := by simp [List.getD, hlt]
      obtain ⟨hz0, hz1⟩ := HW.out _ hmem
      have HFL := Lib.hid (Cs.flat_take hlt)
      clear hmem
      have cC := fun W => rCharacter_any (zs.getD j 0) W
      by_cases hic : Cs.isChar (zs.getD j 0) = true
      · have hb := (Cs.isChar_iff _).1 hic
        have HAL := Lib.hid (Cs.all_take hlt HALL.out hic)
        have cE := fun W => rEncode_any (zs.getD j 0) W (by omega) (by omega)
        have hel := enc_le3 (zs.getD j 0)
        generalize zs.getD j 0 = z at *
        generalize Cs.enc z = en at *
        rw [hic] at cC
        have CC := Lib.hid cC
        have CE := Lib.hid cE
        clear cC cE hic hb
        have hels : (⟨en.toArray⟩ : ByteArray).size ≤ 3 := by simp [ByteArray.size]; exact hel
        go_wp2_with fail
        with_reducible refine (CC.out _).mono ?_
        rintro e w3 ⟨rfl, rfl⟩
        go_wp2_with fail
        with_reducible refine (CE.out _).mono ?_
        rintro e w4 ⟨rfl, hb4⟩
        have hszs := Nat.le_trans hsz hb4.size
        go_wp2_with (at_builtin; refine Lib.wpList_append_own_string _ rfl _ _ 47 9 rfl w.heap.size 5 i0 Tryd.underlying47 Tryd.underlying9 hi hq0 hq1 hq2 _ m _ rfl (Kit.own_below HOWN.out hb4) ⟨en.toArray⟩ rfl ?c1 ?c2 hszs ?_)
        case c1 => unfold maxLen; omega
        case c2 => omega
        intro v' w5 hown' hg _
        have hb5 : Below w.heap.size w4 w5 := (Below.refl _ _).grown hg hszs (fun k hk => (HOWN.out.lt k hk).1)
        have HOWN' := Lib.hid hown'
        clear hown' hg
        go_wp2_with fail
        go_roundw
        case rel => exact ⟨j + 1, m + (⟨en.toArray⟩ : ByteArray).size, by omega, by go_num, HAL, by
          rw [HFL.out, Kit.bytes_append]
          exact HOWN'.out, by omega, hbw.trans ((hb4.mono hsz).trans hb5)⟩
        case measure => simp [intOf]; omega
      · have hic' : Cs.isChar (zs.getD j 0) = false := by simpa using hic
        have HR := Lib.hid (Cs.textR_no (by omega) hlt hic')
        generalize zs.getD j 0 = z at *
        rw [hic'] at cC
        have CC := Lib.hid cC
        clear cC hic hic'
        go_wp2_with fail
        with_reducible refine (CC.out _).mono ?_
        rintro e w3 ⟨rfl, rfl⟩
        go_wp2_with fail
        go_ret2
        rw [HR.out]
        exact ⟨rfl, hbw⟩
    · obtain rfl : j = zs.length := by omega
      have hal := HALL.out
      rw [List.take_length] at hal
      have HR := Lib.hid (Cs.textR_ok (by omega) hal)
      have hcv := Kit.str_own HOWN.out
      rw [List.take_length] at hcv
      clear hal
      go_wp2_with fail
      go_ret2
      rw [HR.out]
      exact ⟨rfl, hbw⟩
end Go.Proofs.YtdcknfdileomoaaDoor
