/-
  The walks through the reference's FromUcs2, WideField and WideTrim.
-/
import Derived.Test.YtdcknfdileomoaaDoorG4
import Derived.Test.YtdcknfdileomoaaDoorF2
import Derived.Test.YtdcknfdileomoaaDoorR17b
namespace Go.Proofs.YtdcknfdileomoaaDoor
open Go.RowKit

theorem enc_len3 (n : Int) : (Cs.enc n).length ≤ 3 := by
  rw [Cs.enc_length]
  split
  · omega
  · split <;> omega

set_option maxHeartbeats 1600000 in
set_option maxRecDepth 100000 in
/-- masterdiscref17.FromUcs2. -/
theorem rFrom_any (d : ByteArray) (w : World) (hs : d.size ≤ 9223372036854775807) :
    Calls Tryd.prog 30 #[.string d] w fun e w' => e = .returned (.tuple #[.string ⟨(Cs.fromR d.data.toList).1.toArray⟩, .int .i64 (Cs.fromR d.data.toList).2]) ∧ Below w.heap.size w w' := by
  have hdl := Kit.len_size d
  by_cases h1 : 65536 < d.size
  · have HR := Lib.hid (Cs.fromR_long (l := d.data.toList) (by omega))
    have h1' : (65536 : Int) < (d.size : Int) := by omega
    clear hdl h1
    go_enter Tryd.func30, Tryd.ntmps30
    go_wp2_with fail
    go_ret2
    rw [HR.out]
    exact ⟨rfl, Below.refl _ _⟩
  have h1' : ¬ (65536 : Int) < (d.size : Int) := by omega
  by_cases h2 : d.size % 2 = 1
  · have HR := Lib.hid (Cs.fromR_odd (l := d.data.toList) (by omega) (by omega))
    have h2' : ((d.size : Int) % 2 == 1) = true := by rw [beq_iff_eq]; omega
    clear hdl h1 h2
    go_enter Tryd.func30, Tryd.ntmps30
    go_wp2_with fail
    go_ret2
    rw [HR.out]
    exact ⟨rfl, Below.refl _ _⟩
  have h2' : ((d.size : Int) % 2 == 1) = false := by rw [beq_eq_false_iff_ne]; omega
  have HOK := Lib.hid (fun ns h => Cs.fromR_ok (l := d.data.toList) (ns := ns) (by omega) (by omega) h)
  have HNO := Lib.hid (fun h => Cs.fromR_no (l := d.data.toList) (by omega) (by omega) h)
  have HEV := Lib.hid h2
  have HDL := Lib.hid hdl
  have hd65 : d.size ≤ 65536 := by omega
  obtain ⟨i0, hi, hz0, hz1, hz2⟩ := info_parts byteInfo
  clear hdl h1 h2
  go_enter Tryd.func30, Tryd.ntmps30
  go_wp2_with fail
  clear h2'
  go_loopw [5, 4] (fun iv ov wr => ∃ (i m : Nat) (ns : List Nat), iv = .int .i64 i ∧ Hid (Cs.DoneZ d.data.toList i ns) ∧ i ≤ d.size ∧ wr.ownsRow w.heap.size 5 1 ov m (Kit.bytes (Cs.text ns)) ∧ m ≤ 3 * i ∧ Below w.heap.size w wr) (fun iv _ _ => d.size - (intOf iv).toNat)
  case atStart => exact ⟨0, 0, [], rfl, Lib.hid (Cs.DoneZ.start (by have := HEV.out; have := HDL.out; omega)), by omega, World.ownsRow_nil _ _ _ _, by omega, Below.refl _ _⟩
  case round =>
    obtain ⟨i, m, ns, rfl, HD, hid, hown, hm, hbw⟩ := hrel
    have HOWN := Lib.hid hown
    clear hown
    have hsz := hbw.size
    by_cases hlt : i < d.size
    · have hi1 : i + 1 < d.size := by have := HD.out.ev; have := HDL.out; omega
      have hu := fun u h => HD.out.step (u := u) (by rw [HDL.out]; exact hlt) h
      have hf := fun u h => HD.out.fail (u := u) (by rw [HDL.out]; exact hlt) h
      have b0 := Kit.byt_get d i hlt
      have b1 := Kit.byt_get d (i + 1) hi1
      have l0 := Cs.byt_lt d.data.toList i
      have l1 := Cs.byt_lt d.data.toList (i + 1)
      generalize Cs.byt d.data.toList i = z0 at *
      generalize Cs.byt d.data.toList (i + 1) = z1 at *
      have HU := Lib.hid (hu _ rfl)
      have HF := Lib.hid (hf _ rfl)
      have cC := fun W => rCharacter_any ((z0 : Int) * 256 + (z1 : Int)) W
      have cE := fun W => rEncode_any ((z0 : Int) * 256 + (z1 : Int)) W (by omega) (by omega)
      have hcast : ((z0 * 256 + z1 : Nat) : Int) = (z0 : Int) * 256 + (z1 : Int) := by omega
      clear hu hf
      by_cases hic : Cs.isChar ((z0 : Int) * 256 + (z1 : Int)) = true
      · have HDN := Lib.hid (HU.out (by rw [hcast]; exact hic))
        have htx := Cs.text_snoc ns (z0 * 256 + z1)
        rw [hcast] at htx
        have HTX := Lib.hid htx
        have hel := enc_len3 ((z0 : Int) * 256 + (z1 : Int))
        rw [hic] at cC
        have CC := Lib.hid cC
        have CE := Lib.hid cE
        generalize hen : Cs.enc ((z0 : Int) * 256 + (z1 : Int)) = en at *
        clear htx cC cE hic hcast hen
        go_wp2_with fail
        go_quiet (fail)
        have hbq := Kit.Below.drewN hbw nq
        have HOQ := Lib.hid (Kit.own_below HOWN.out (Kit.below_drewN (B := wr.heap.size) nq))
        have hszq := hbq.size
        generalize wr.drewN nq = wq at hbq HOQ hszq ⊢
        go_wp2_with fail
        with_reducible refine (CC.out _).mono ?_
        rintro e w3 ⟨rfl, rfl⟩
        go_wp2_with fail
        with_reducible refine (CE.out _).mono ?_
        rintro e w4 ⟨rfl, hb4⟩
        have hszs := Nat.le_trans hszq hb4.size
        have hels : (⟨en.toArray⟩ : ByteArray).size ≤ 3 := by simp [ByteArray.size]; exact hel
        go_wp2_with (at_builtin; refine Lib.wpList_append_own_string _ rfl _ _ 47 9 rfl w.heap.size 5 i0 Tryd.underlying47 Tryd.underlying9 hi hz0 hz1 hz2 _ m _ rfl (Kit.own_below HOQ.out hb4) ⟨en.toArray⟩ rfl ?c1 ?c2 hszs ?_)
        case c1 => unfold maxLen; omega
        case c2 => omega
        intro v' w5 hown' hg _
        have hb5 : Below w.heap.size w4 w5 := (Below.refl _ _).grown hg hszs (fun k hk => (HOQ.out.lt k hk).1)
        have HOWN' := Lib.hid hown'
        clear hown' hg
        go_wp2_with fail
        go_roundw
        case rel => exact ⟨i + 2, m + (⟨en.toArray⟩ : ByteArray).size, ns ++ [z0 * 256 + z1], by go_num, HDN, by omega, by
          rw [HTX.out, Kit.bytes_append]
          exact HOWN'.out, by omega, hbq.trans ((hb4.mono hszq).trans hb5)⟩
        case measure => simp [intOf]; omega
      · have hic' : Cs.isChar ((z0 : Int) * 256 + (z1 : Int)) = false := by simpa using hic
        have HR := Lib.hid (HNO.out (HF.out (by rw [hcast]; exact hic')))
        rw [hic'] at cC
        have CC := Lib.hid cC
        clear cC hic hic' hcast cE
        go_wp2_with fail
        go_quiet (fail)
        have hbq := Kit.Below.drewN hbw nq
        generalize wr.drewN nq = wq at hbq ⊢
        go_wp2_with fail
        with_reducible refine (CC.out _).mono ?_
        rintro e w3 ⟨rfl, rfl⟩
        go_wp2_with fail
        go_ret2
        rw [HR.out]
        exact ⟨rfl, hbq⟩
    · obtain rfl : i = d.size := by omega
      have hD := HD.out
      rw [← HDL.out] at hD
      have HR := Lib.hid (HOK.out ns hD)
      have hcv := Kit.str_own HOWN.out
      clear hD
      go_wp2_with fail
      go_ret2
      rw [HR.out]
      exact ⟨rfl, hbw⟩
end Go.Proofs.YtdcknfdileomoaaDoor
