/-
  The walk through the reference's Expand.
-/
import Derived.Test.YtfdlnhflgiemiaaDoorV2
import Derived.Test.YtfdlnhflgiemiaaDoorU3
namespace Go.Proofs.YtfdlnhflgiemiaaDoor
open Go.RowKit

set_option maxHeartbeats 1600000 in
set_option maxRecDepth 100000 in
/-- masterdiscref32.Expand behind its checks. -/
theorem vExpand_body (d : ByteArray) (size : Nat) (w : World) (hd : d.size ≤ 65536) (h1 : 1 ≤ d.size) (hsz : size = 1 ∨ size = 2) (hb : Cs.byt d.data.toList 0 = 8 * size) (hev : (d.size - 1) % size = 0) :
    Calls Tryd.prog 14 #[.string d] w fun e w' => e = .returned (.tuple #[.string ⟨(Cs.expandR d.data.toList).1.toArray⟩, .int .i64 (Cs.expandR d.data.toList).2]) ∧ Below w.heap.size w w' := by
  have HBT := Lib.hid hb
  have HEV := Lib.hid hev
  have b0 := Kit.byt_get d 0 (by omega)
  have hb' : ((Cs.byt d.data.toList 0 : Nat) : Int) = 8 * size := by omega
  have hd' : ¬ (65536 : Int) < (d.size : Int) := by omega
  have hne := Kit.not_empty d (by omega)
  have hz : (0 : Int) < (d.size : Int) := by omega
  rcases hsz with rfl | rfl
  · have e1 : (((Cs.byt d.data.toList 0 : Nat) : Int) != 8) = false := by rw [bne_eq_false_iff_eq]; omega
    have e2 : (((d.size : Int) - 1) % 1 != 0) = false := by rw [bne_eq_false_iff_eq]; omega
    go_enter Tryd.func14, Tryd.ntmps14
    go_wp2_with fail
    go_loopw [6, 5] (fun iv lv wr => ∃ (i : Nat) (ns : List Nat), iv = .int .i64 i ∧ Hid (Done d.data.toList 1 i ns) ∧ 1 ≤ i ∧ i ≤ d.size ∧ wr.ownsRow w.heap.size 3 1 lv ns.length (Kit.ints ns) ∧ Below w.heap.size w wr) (fun iv _ _ => d.size - (intOf iv).toNat)
    case atStart => exact ⟨1, [], rfl, Lib.hid (Done.start (by simpa using h1) (by simpa using hev)), by omega, h1, Kit.own_nil w _, (Below.refl _ _).alloc (Nat.le_refl _) _⟩
    case round =>
      obtain ⟨i, ns, rfl, HD, hi1, hid, hown, hbw⟩ := hrel
      have HOWN := Lib.hid hown
      clear hown b0 hb' hb e1 e2
      have hsz := hbw.size
      by_cases hlt : i < d.size
      · have hdl : d.data.toList.length = d.size := Kit.len_size d
        have hik : i + 1 ≤ d.size := by have := HD.out.ev; omega
        have hu := fun h => HD.out.step (size := 1) (by omega) (by omega) rfl h
        have hf := fun h => HD.out.fail (size := 1) (by omega) (by omega) rfl h
        have hlt' : (i : Int) < (d.size : Int) := by omega
        have bi := Kit.byt_get d i hlt
        have l0 := Cs.byt_lt d.data.toList i
        rw [if_pos rfl] at hu hf
        generalize hz0 : Cs.byt d.data.toList i = z0 at *
        have hfew := HD.out.few
        have HU := Lib.hid hu
        have HF := Lib.hid hf
        clear hu hf
        have HZ0 := Lib.hid hz0
        clear hz0
        have cC := fun W => vCharacter_any (z0 : Int) W
        by_cases hic : Cs.isChar (z0 : Int) = true
        · have hbd := (Cs.isChar_iff _).1 hic
          have HDN := Lib.hid (HU.out (by exact hic))
          rw [hic] at cC
          have CC := Lib.hid cC
          clear cC hic hbd
          go_wp2_with fail
          with_reducible refine (CC.out _).mono ?_
          rintro e w3 ⟨rfl, rfl⟩
          go_wp2_with (at_builtin; refine Kit.app intInfo rfl (by decide) rfl _ _ 41 rfl Tryd.underlying41 w.heap.size _ _ _ rfl HOWN.out [_] 1 1 rfl rfl (Kit.one1 rfl) ?c1 hsz ?_)
          case c1 => omega
          intro v' w4 hown' hb4
          have HOWN' := Lib.hid hown'
          clear hown'
          go_wp2_with fail
          go_roundw
          case rel => exact ⟨i + 1, ns ++ [z0], by go_num, HDN, by omega, hik, by
            have h := HOWN'.out
            rw [Kit.ints_append]
            simpa [Kit.ints] using h, hbw.trans hb4⟩
          case measure => simp [intOf]; omega
        · have hic' : Cs.isChar (z0 : Int) = false := by simpa using hic
          rw [hic'] at cC
          have CC := Lib.hid cC
          have hall := HF.out (by exact hic')
          have hR := Cs.expandR_units (size := 1) (by omega) (by omega) (by omega) HBT.out (by rw [hdl]; exact HEV.out)
          rw [if_neg (by rw [hall]; simp)] at hR
          have HR := Lib.hid hR
          clear cC hic hic' hall hR
          go_wp2_with fail
          with_reducible refine (CC.out _).mono ?_
          rintro e w3 ⟨rfl, rfl⟩
          go_wp2_with fail
          go_ret2
          rw [HR.out]
          exact ⟨rfl, hbw⟩
      · obtain rfl : i = d.size := by omega
        have hdl : d.data.toList.length = d.size := Kit.len_size d
        have hD := HD.out
        rw [← hdl] at hD
        have hun := hD.done
        have hR := Cs.expandR_units (size := 1) (by omega) (by omega) (by omega) HBT.out (by rw [hdl]; exact HEV.out)
        rw [hun, if_pos hD.all] at hR
        have HR := Lib.hid hR
        have h655 : ∀ c ∈ ns, c ≤ 65535 := fun c hc => by
          have := Cs.isChar_le (List.all_eq_true.1 hD.all c hc)
          omega
        have hnl : ns.length ≤ 65536 := by have := hD.few; omega
        have CU := Lib.hid (fun v W hr => utf8_any v ns W hr h655 hnl)
        clear hun hD hR h655
        go_wp2_with fail
        with_reducible refine (CU.out _ _ (Kit.Row.of_own HOWN.out)).mono ?_
        rintro e w3 ⟨rfl, hb3⟩
        go_wp2_with fail
        go_ret2
        rw [HR.out]
        exact ⟨rfl, hbw.trans (hb3.mono hsz)⟩
  · have e1 : (((Cs.byt d.data.toList 0 : Nat) : Int) != 8) = true := by rw [bne_iff_ne]; omega
    have e2 : (((Cs.byt d.data.toList 0 : Nat) : Int) != 16) = false := by rw [bne_eq_false_iff_eq]; omega
    have e3 : (((d.size : Int) - 1) % 2 != 0) = false := by rw [bne_eq_false_iff_eq]; omega
    go_enter Tryd.func14, Tryd.ntmps14
    go_wp2_with fail
    go_loopw [6, 5] (fun iv lv wr => ∃ (i : Nat) (ns : List Nat), iv = .int .i64 i ∧ Hid (Done d.data.toList 2 i ns) ∧ 1 ≤ i ∧ i ≤ d.size ∧ wr.ownsRow w.heap.size 3 1 lv ns.length (Kit.ints ns) ∧ Below w.heap.size w wr) (fun iv _ _ => d.size - (intOf iv).toNat)
    case atStart => exact ⟨1, [], rfl, Lib.hid (Done.start (by simpa using h1) (by simpa using hev)), by omega, h1, Kit.own_nil w _, (Below.refl _ _).alloc (Nat.le_refl _) _⟩
    case round =>
      obtain ⟨i, ns, rfl, HD, hi1, hid, hown, hbw⟩ := hrel
      have HOWN := Lib.hid hown
      clear hown b0 hb' hb e1 e2 e3
      have hsz := hbw.size
      by_cases hlt : i < d.size
      · have hdl : d.data.toList.length = d.size := Kit.len_size d
        have hik : i + 2 ≤ d.size := by have := HD.out.ev; omega
        have hu := fun h => HD.out.step (size := 2) (by omega) (by omega) rfl h
        have hf := fun h => HD.out.fail (size := 2) (by omega) (by omega) rfl h
        have hlt' : (i : Int) < (d.size : Int) := by omega
        have bi := Kit.byt_get d i hlt
        have hi1 : i + 1 < d.size := by omega
        have bi1 := Kit.byt_get d (i + 1) hi1
        have l0 := Cs.byt_lt d.data.toList i
        rw [if_neg (by decide)] at hu hf
        have l1 := Cs.byt_lt d.data.toList (i + 1)
        generalize hz0 : Cs.byt d.data.toList i = z0 at *
        generalize hz1 : Cs.byt d.data.toList (i + 1) = z1 at *
        have hfew := HD.out.few
        have HU := Lib.hid hu
        have HF := Lib.hid hf
        clear hu hf
        have HZ0 := Lib.hid hz0
        have HZ1 := Lib.hid hz1
        clear hz0 hz1
        have cC := fun W => vCharacter_any (256 * (z0 : Int) + (z1 : Int)) W
        by_cases hic : Cs.isChar (256 * (z0 : Int) + (z1 : Int)) = true
        · have hbd := (Cs.isChar_iff _).1 hic
          have hcast : ((z0 * 256 + z1 : Nat) : Int) = 256 * (z0 : Int) + (z1 : Int) := by omega
          have HDN := Lib.hid (HU.out (by rw [hcast]; exact hic))
          rw [hic] at cC
          have CC := Lib.hid cC
          clear cC hic hbd
          go_wp2_with fail
          with_reducible refine (CC.out _).mono ?_
          rintro e w3 ⟨rfl, rfl⟩
          go_wp2_with (at_builtin; refine Kit.app intInfo rfl (by decide) rfl _ _ 41 rfl Tryd.underlying41 w.heap.size _ _ _ rfl HOWN.out [_] 1 1 rfl rfl (Kit.one1 rfl) ?c1 hsz ?_)
          case c1 => omega
          intro v' w4 hown' hb4
          have HOWN' := Lib.hid hown'
          clear hown'
          go_wp2_with fail
          go_roundw
          case rel => exact ⟨i + 2, ns ++ [z0 * 256 + z1], by go_num, HDN, by omega, hik, by
            have h := HOWN'.out
            rw [show (256 * (z0 : Int) + (z1 : Int)) = ((z0 * 256 + z1 : Nat) : Int) by omega] at h
            rw [Kit.ints_append]
            simpa [Kit.ints] using h, hbw.trans hb4⟩
          case measure => simp [intOf]; omega
        · have hic' : Cs.isChar (256 * (z0 : Int) + (z1 : Int)) = false := by simpa using hic
          rw [hic'] at cC
          have CC := Lib.hid cC
          have hcast : ((z0 * 256 + z1 : Nat) : Int) = 256 * (z0 : Int) + (z1 : Int) := by omega
          have hall := HF.out (by rw [hcast]; exact hic')
          have hR := Cs.expandR_units (size := 2) (by omega) (by omega) (by omega) HBT.out (by rw [hdl]; exact HEV.out)
          rw [if_neg (by rw [hall]; simp)] at hR
          have HR := Lib.hid hR
          clear cC hic hic' hall hR
          go_wp2_with fail
          with_reducible refine (CC.out _).mono ?_
          rintro e w3 ⟨rfl, rfl⟩
          go_wp2_with fail
          go_ret2
          rw [HR.out]
          exact ⟨rfl, hbw⟩
      · obtain rfl : i = d.size := by omega
        have hdl : d.data.toList.length = d.size := Kit.len_size d
        have hD := HD.out
        rw [← hdl] at hD
        have hun := hD.done
        have hR := Cs.expandR_units (size := 2) (by omega) (by omega) (by omega) HBT.out (by rw [hdl]; exact HEV.out)
        rw [hun, if_pos hD.all] at hR
        have HR := Lib.hid hR
        have h655 : ∀ c ∈ ns, c ≤ 65535 := fun c hc => by
          have := Cs.isChar_le (List.all_eq_true.1 hD.all c hc)
          omega
        have hnl : ns.length ≤ 65536 := by have := hD.few; omega
        have CU := Lib.hid (fun v W hr => utf8_any v ns W hr h655 hnl)
        clear hun hD hR h655
        go_wp2_with fail
        with_reducible refine (CU.out _ _ (Kit.Row.of_own HOWN.out)).mono ?_
        rintro e w3 ⟨rfl, hb3⟩
        go_wp2_with fail
        go_ret2
        rw [HR.out]
        exact ⟨rfl, hbw.trans (hb3.mono hsz)⟩

set_option maxHeartbeats 1600000 in
set_option maxRecDepth 100000 in
/-- masterdiscref32.Expand. -/
theorem vExpand_any (d : ByteArray) (w : World) (hs : d.size ≤ 9223372036854775807) :
    Calls Tryd.prog 14 #[.string d] w fun e w' => e = .returned (.tuple #[.string ⟨(Cs.expandR d.data.toList).1.toArray⟩, .int .i64 (Cs.expandR d.data.toList).2]) ∧ Below w.heap.size w w' := by
  have hdl := Kit.len_size d
  by_cases hl : d.size ≤ 65536
  case neg =>
    have hR : Cs.expandR d.data.toList = ([], 7) := if_pos (by omega)
    have HR := Lib.hid hR
    have hl' : (65536 : Int) < (d.size : Int) := by omega
    clear hR hdl
    go_enter Tryd.func14, Tryd.ntmps14
    go_wp2_with fail
    go_ret2
    rw [HR.out]
    exact ⟨rfl, Below.refl _ _⟩
  case pos =>
  have hl' : ¬ (65536 : Int) < (d.size : Int) := by omega
  by_cases h0 : d.size = 0
  · have hR : Cs.expandR d.data.toList = ([], 0) := by
      unfold Cs.expandR
      rw [if_neg (by omega), if_pos (by omega)]
    have HR := Lib.hid hR
    have he := Kit.is_empty d h0
    clear hR hdl h0
    go_enter Tryd.func14, Tryd.ntmps14
    go_wp2_with fail
    go_ret2
    rw [HR.out]
    exact ⟨rfl, Below.refl _ _⟩
  have hz : (0 : Int) < (d.size : Int) := by omega
  have he := Kit.not_empty d (by omega)
  have hpos : 0 < d.size := by omega
  have b0 := Kit.byt_get d 0 hpos
  by_cases h8 : Cs.byt d.data.toList 0 = 8
  · exact vExpand_body d 1 w hl (by omega) (.inl rfl) h8 (mod_one _)
  by_cases h16 : Cs.byt d.data.toList 0 = 16
  · by_cases hev : (d.size - 1) % 2 = 0
    · exact vExpand_body d 2 w hl (by omega) (.inr rfl) h16 hev
    · have hR : Cs.expandR d.data.toList = ([], 3) := by
        unfold Cs.expandR
        rw [if_neg (by omega), if_neg (by omega), if_pos (by omega)]
      have HR := Lib.hid hR
      have e1 : (((Cs.byt d.data.toList 0 : Nat) : Int) != 8) = true := by rw [bne_iff_ne]; omega
      have e2 : (((Cs.byt d.data.toList 0 : Nat) : Int) != 16) = false := by rw [bne_eq_false_iff_eq]; omega
      have e3 : (((Cs.byt d.data.toList 0 : Nat) : Int) == 16) = true := by rw [beq_iff_eq]; omega
      have e4 : (((d.size : Int) - 1) % 2 != 0) = true := by rw [bne_iff_ne]; omega
      have hb' : ((Cs.byt d.data.toList 0 : Nat) : Int) = 16 := by omega
      clear hR hdl h8 h16 hev h0
      go_enter Tryd.func14, Tryd.ntmps14
      go_wp2_with fail
      go_ret2
      rw [HR.out]
      exact ⟨rfl, Below.refl _ _⟩
  · have hR : Cs.expandR d.data.toList = ([], 3) := by
      unfold Cs.expandR
      rw [if_neg (by omega), if_neg (by omega), if_pos (by omega)]
    have HR := Lib.hid hR
    have e1 : (((Cs.byt d.data.toList 0 : Nat) : Int) != 8) = true := by rw [bne_iff_ne]; omega
    have e2 : (((Cs.byt d.data.toList 0 : Nat) : Int) != 16) = true := by rw [bne_iff_ne]; omega
    clear hR hdl h8 h16 h0
    go_enter Tryd.func14, Tryd.ntmps14
    go_wp2_with fail
    go_ret2
    rw [HR.out]
    exact ⟨rfl, Below.refl _ _⟩

end Go.Proofs.YtfdlnhflgiemiaaDoor
