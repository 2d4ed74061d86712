/-
  The walk through charset.FromUcs2.
-/
import Derived.Test.YtdcknfdileomoaaDoorKit2
import Derived.Test.YtdcknfdileomoaaDoorDn
import Derived.Test.YtdcknfdileomoaaDoorW17b
namespace Go.Proofs.YtdcknfdileomoaaDoor
open Go.RowKit

theorem or_two (x y : Int) (hx0 : 0 ≤ x) (hx : x % 256 = 0) (hx1 : x < 9223372036854775808) (h0 : 0 ≤ y) (h1 : y < 256) : bits .or .i64 x y = x + y :=
  bits_join .i64 63 (by decide) (fun n h0 h1 => IntWalk.i64_in _ (by omega)) 8 x y hx0 hx hx1 h0 h1 (by omega)

set_option maxHeartbeats 1600000 in
set_option maxRecDepth 100000 in
/-- charset.FromUcs2. -/
theorem from_any (d : ByteArray) (w : World) (hs : d.size ≤ 9223372036854775807) :
    Calls Tryd.prog 29 #[.string d] w fun e w' => e = .returned (.tuple #[.string ⟨(Cs.fromR d.data.toList).1.toArray⟩, .int .i64 (Cs.fromR d.data.toList).2]) ∧ Below w.heap.size w w' := by
  have hdl := Kit.len_size d
  by_cases h1 : 65536 < d.size
  · have HR := Lib.hid (Cs.fromR_long (l := d.data.toList) (by omega))
    have h1' : (65536 : Int) < (d.size : Int) := by omega
    clear hdl h1
    go_enter Tryd.func29, Tryd.ntmps29
    go_wp2_with fail
    go_ret2
    rw [HR.out]
    exact ⟨rfl, Below.refl _ _⟩
  have h1' : ¬ (65536 : Int) < (d.size : Int) := by omega
  by_cases h2 : d.size % 2 = 1
  · have HR := Lib.hid (Cs.fromR_odd (l := d.data.toList) (by omega) (by omega))
    have h2' : ((d.size : Int) % 2 != 0) = true := by rw [bne_iff_ne]; omega
    clear hdl h1 h2
    go_enter Tryd.func29, Tryd.ntmps29
    go_wp2_with fail
    go_ret2
    rw [HR.out]
    exact ⟨rfl, Below.refl _ _⟩
  have h2' : ((d.size : Int) % 2 != 0) = false := by rw [bne_eq_false_iff_eq]; omega
  have HOK := Lib.hid (fun ns h => Cs.fromR_ok (l := d.data.toList) (ns := ns) (by omega) (by omega) h)
  have HNO := Lib.hid (fun h => Cs.fromR_no (l := d.data.toList) (by omega) (by omega) h)
  have HEV := Lib.hid h2
  have HDL := Lib.hid hdl
  have hd65 : d.size ≤ 65536 := by omega
  clear hdl h1 h2
  go_enter Tryd.func29, Tryd.ntmps29
  go_wp2_with fail
  clear h2'
  go_loopw [5] (fun iv wr => ∃ (i : Nat) (ns : List Nat), iv = .int .i64 i ∧ Hid (Cs.DoneZ d.data.toList i ns) ∧ i ≤ d.size ∧ Lib.IsBuilderF 49 5 w.heap.size w.heap.size (Lib.byteCells (Cs.text ns)) wr ∧ Below w.heap.size w wr) (fun iv _ => d.size - (intOf iv).toNat)
  case atStart => exact ⟨0, [], rfl, Lib.hid (Cs.DoneZ.start (by have := HEV.out; have := HDL.out; omega)), by omega, Lib.IsBuilderF.of (Lib.fresh_isBuilder _ _ w), (Below.refl _ _).alloc (Nat.le_refl _) _⟩
  case round =>
    obtain ⟨i, ns, rfl, HD, hid, hbd, hbw⟩ := hrel
    have HBD := Lib.hid hbd
    clear hbd
    have hsz := hbw.size
    by_cases hlt : i < d.size
    · have hi1 : i + 1 < d.size := by have := HD.out.ev; have := HDL.out; omega
      have hu := fun u h => HD.out.step (u := u) (by rw [HDL.out]; exact hlt) h
      have hf := fun u h => HD.out.fail (u := u) (by rw [HDL.out]; exact hlt) h
      have b0 := Kit.byt_get d i hlt
      have b1 := Kit.byt_get d (i + 1) hi1
      have l0 := Cs.byt_lt d.data.toList i
      have l1 := Cs.byt_lt d.data.toList (i + 1)
      generalize Cs.byt d.data.toList i = z0 at *
      generalize Cs.byt d.data.toList (i + 1) = z1 at *
      have HU := Lib.hid (hu _ rfl)
      have HF := Lib.hid (hf _ rfl)
      have hfew := HD.out.few
      have o2 := or_two ((z0 : Int) * 256) (z1 : Int) (by omega) (by omega) (by omega) (by omega) (by omega)
      have cC := fun W => character_any ((z0 : Int) * 256 + (z1 : Int)) W
      clear hu hf
      by_cases hic : Cs.isChar ((z0 : Int) * 256 + (z1 : Int)) = true
      · have hcast : ((z0 * 256 + z1 : Nat) : Int) = (z0 : Int) * 256 + (z1 : Int) := by omega
        have HDN := Lib.hid (HU.out (by rw [hcast]; exact hic))
        have htx := Cs.text_snoc ns (z0 * 256 + z1)
        rw [hcast] at htx
        have HTX := Lib.hid htx
        have hrc := runeCells_char _ hic
        have htl := Cs.text_len ns
        rw [hic] at cC
        have CC := Lib.hid cC
        have cB := fun W h1 h2 => Tryd.yWriteRune w.heap.size w.heap.size (Lib.byteCells (Cs.text ns)) ((z0 : Int) * 256 + (z1 : Int)) (by omega) (by omega) W h1 (by simp only [Lib.byteCells, List.length_map]; omega) h2
        rw [hrc] at cB
        have CB := Lib.hid cB
        clear htx hrc cC cB hic htl hcast
        go_wp2_with fail
        go_quiet (fail)
        have hbq := Kit.Below.drewN hbw nq
        have HBQ := Lib.hid (Kit.builder_below HBD.out (Kit.below_drewN (B := wr.heap.size) nq))
        have hszq := hbq.size
        generalize wr.drewN nq = wq at hbq HBQ hszq ⊢
        go_wp2_with fail
        with_reducible refine (CC.out _).mono ?_
        rintro e w3 ⟨rfl, rfl⟩
        go_wp2_with fail
        with_reducible refine (CB.out _ HBQ.out hszq).mono ?_
        rintro e w3 ⟨rfl, hb3, hb3', _⟩
        have HB3 := Lib.hid hb3
        clear hb3
        go_wp2_with fail
        go_roundw
        case rel => exact ⟨i + 2, ns ++ [z0 * 256 + z1], by go_num, HDN, by omega, by
          have h := HB3.out
          rw [HTX.out]
          exact .inr (by simpa [Lib.byteCells, Kit.bytes] using h), hbq.trans hb3'⟩
        case measure => simp [intOf]; omega
      · have hic' : Cs.isChar ((z0 : Int) * 256 + (z1 : Int)) = false := by simpa using hic
        have hcast : ((z0 * 256 + z1 : Nat) : Int) = (z0 : Int) * 256 + (z1 : Int) := by omega
        have HR := Lib.hid (HNO.out (HF.out (by rw [hcast]; exact hic')))
        rw [hic'] at cC
        have CC := Lib.hid cC
        clear cC hic hic' hcast
        go_wp2_with fail
        go_quiet (fail)
        have hbq := Kit.Below.drewN hbw nq
        generalize wr.drewN nq = wq at hbq ⊢
        go_wp2_with fail
        with_reducible refine (CC.out _).mono ?_
        rintro e w3 ⟨rfl, rfl⟩
        go_wp2_with fail
        go_ret2
        rw [HR.out]
        exact ⟨rfl, hbq⟩
    · obtain rfl : i = d.size := by omega
      have hD := HD.out
      rw [← HDL.out] at hD
      have HR := Lib.hid (HOK.out ns hD)
      clear hD
      go_wp2_with fail
      with_reducible refine (Tryd.Builder_String_any_f w.heap.size w.heap.size _ _ HBD.out hsz).mono ?_
      rintro e w3 ⟨rfl, _, hb3⟩
      go_wp2_with fail
      go_ret2
      rw [HR.out]
      exact ⟨rfl, hbw.trans hb3⟩
end Go.Proofs.YtdcknfdileomoaaDoor
