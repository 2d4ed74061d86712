/-
  The walk through udfstring.Expand.
-/
import Derived.Test.YthkppbimkjmbnaaGreatDoorZI
namespace Go.Proofs.YthkppbimkjmbnaaGreatDoor
open Go.RowKit

set_option maxHeartbeats 400000 in
/-- udfstring.character. -/
theorem uCharacter_any (n : Int) (w : World) : Calls Tryz.prog 221 #[.int .i32 n] w fun e w' => e = .returned (.bool (Cs.isChar n)) ∧ w = w' := by
  by_cases h1 : 32 ≤ n <;> by_cases h2 : n ≤ 65533 <;> by_cases h3 : n < 55296 <;> by_cases h4 : 57343 < n
  all_goals
    go_enter Tryz.func221, Tryz.ntmps221
    go_wp2
    go_ret
    refine ⟨congrArg (fun b => Ending.returned (.bool b)) ?_, rfl⟩
    unfold Cs.isChar
    simp [*]

structure Done (d : List UInt8) (size : Nat) (i : Nat) (ns : List Nat) : Prop where
  le : i ≤ d.length
  ev : (d.length - i) % size = 0
  split : Cs.units size (d.drop 1) = ns ++ Cs.units size (d.drop i)
  all : Cs.allChars ns = true
  few : ns.length ≤ i

theorem units_drop (d : List UInt8) (size i : Nat) (hs : size = 1 ∨ size = 2) (hi : i < d.length) (hev : (d.length - i) % size = 0) :
    Cs.units size (d.drop i) = (if size = 1 then Cs.byt d i else Cs.byt d i * 256 + Cs.byt d (i + 1)) :: Cs.units size (d.drop (i + size)) := by
  have e0 : (d[i]'hi).toNat = Cs.byt d i := by simp [Cs.byt, List.getD, hi]
  rcases hs with rfl | rfl
  · rw [List.drop_eq_getElem_cons hi, if_pos rfl, ← e0]
    cases hd : d.drop (i + 1) with
    | nil => simp [Cs.units]
    | cons b t => simp [Cs.units]
  · have hi1 : i + 1 < d.length := by omega
    have e1 : (d[i + 1]'hi1).toNat = Cs.byt d (i + 1) := by simp [Cs.byt, List.getD, hi1]
    rw [List.drop_eq_getElem_cons hi, List.drop_eq_getElem_cons hi1, if_neg (by decide), ← e0, ← e1]
    simp [Cs.units]

theorem Done.step {d : List UInt8} {size i u : Nat} {ns : List Nat} (h : Done d size i ns) (hs : size = 1 ∨ size = 2) (hi : i < d.length) (hu : (if size = 1 then Cs.byt d i else Cs.byt d i * 256 + Cs.byt d (i + 1)) = u) (hc : Cs.isChar (u : Int) = true) :
    Done d size (i + size) (ns ++ [u]) := by
  have hu' := units_drop d size i hs hi h.ev
  rw [hu] at hu'
  have hev := h.ev
  have hle := h.le
  have hfew := h.few
  refine ⟨?_, ?_, ?_, ?_, ?_⟩
  · rcases hs with rfl | rfl <;> omega
  · rcases hs with rfl | rfl <;> omega
  · rw [h.split, hu']; simp
  · have := h.all
    unfold Cs.allChars at this ⊢
    rw [List.all_append, this]
    simp [hc]
  · rw [List.length_append, List.length_singleton]
    rcases hs with rfl | rfl <;> omega

theorem Done.start {d : List UInt8} {size : Nat} (h1 : 1 ≤ d.length) (hev : (d.length - 1) % size = 0) : Done d size 1 [] :=
  ⟨h1, hev, rfl, rfl, by simp⟩

theorem Done.fail {d : List UInt8} {size i u : Nat} {ns : List Nat} (h : Done d size i ns) (hs : size = 1 ∨ size = 2) (hi : i < d.length) (hu : (if size = 1 then Cs.byt d i else Cs.byt d i * 256 + Cs.byt d (i + 1)) = u) (hc : Cs.isChar (u : Int) = false) :
    Cs.allChars (Cs.units size (d.drop 1)) = false := by
  rw [h.split, units_drop d size i hs hi h.ev, hu]
  unfold Cs.allChars
  rw [List.all_append]
  simp [hc]

theorem Done.done {d : List UInt8} {size : Nat} {ns : List Nat} (h : Done d size d.length ns) : Cs.units size (d.drop 1) = ns := by
  rw [h.split]
  simp [Cs.units]

theorem extract_size2 (d : ByteArray) (i k : Nat) (h : i + k ≤ d.size) : (d.extract i (i + k)).size = k := by
  simp; omega
theorem extract_byt (d : ByteArray) (i k j : Nat) (hj : j < k) : Cs.byt (d.extract i (i + k)).data.toList j = Cs.byt d.data.toList (i + j) := by
  unfold Cs.byt
  rw [Lib.extract_data]
  simp [List.getD, List.getElem?_drop, hj]

set_option maxHeartbeats 1600000 in
set_option maxRecDepth 100000 in
/-- udfstring.Expand behind its checks. -/
theorem expand_body (d : ByteArray) (size : Nat) (w : World) (hd : d.size ≤ 65536) (h1 : 1 ≤ d.size) (hsz : size = 1 ∨ size = 2) (hb : Cs.byt d.data.toList 0 = 8 * size) (hev : (d.size - 1) % size = 0) :
    Calls Tryz.prog 161 #[.string d] w fun e w' => e = .returned (.tuple #[.string ⟨(Cs.expandR d.data.toList).1.toArray⟩, .int .i64 (Cs.expandR d.data.toList).2]) ∧ Below w.heap.size w w' := by
  have HBT := Lib.hid hb
  have HEV := Lib.hid hev
  have b0 := Kit.byt_get d 0 (by omega)
  have hb' : ((Cs.byt d.data.toList 0 : Nat) : Int) = 8 * size := by omega
  have hd' : ¬ (65536 : Int) < (d.size : Int) := by omega
  have hne := Kit.not_empty d (by omega)
  have hz : (0 : Int) < (d.size : Int) := by omega
  rcases hsz with rfl | rfl
  · have e1 : (((Cs.byt d.data.toList 0 : Nat) : Int) != 8) = false := by rw [bne_eq_false_iff_eq]; omega
    have e2 : (((Cs.byt d.data.toList 0 : Nat) : Int) == 16) = false := by rw [beq_eq_false_iff_ne]; omega
    go_enter Tryz.func161, Tryz.ntmps161
    go_wp2_with fail
    go_loopw [6] (fun iv wr => ∃ (i : Nat) (ns : List Nat), iv = .int .i64 i ∧ Hid (Done d.data.toList 1 i ns) ∧ 1 ≤ i ∧ i ≤ d.size ∧ Lib.IsBuilderF 170 5 w.heap.size w.heap.size (Lib.byteCells (Cs.text ns)) wr ∧ Below w.heap.size w wr) (fun iv _ => d.size - (intOf iv).toNat)
    case atStart => exact ⟨1, [], rfl, Lib.hid (Done.start (by simpa using h1) (by simpa using hev)), by omega, h1, Lib.IsBuilderF.of (Lib.fresh_isBuilder _ _ w), (Below.refl _ _).alloc (Nat.le_refl _) _⟩
    case round =>
      obtain ⟨i, ns, rfl, HD, hi1, hid, hbd, hbw⟩ := hrel
      have HBD := Lib.hid hbd
      clear hbd b0 hb' hb e1 e2
      have hsz := hbw.size
      by_cases hlt : i < d.size
      · have hdl : d.data.toList.length = d.size := Kit.len_size d
        have hik : i + 1 ≤ d.size := by have := HD.out.ev; omega
        have hu := fun h => HD.out.step (size := 1) (by omega) (by omega) rfl h
        have hf := fun h => HD.out.fail (size := 1) (by omega) (by omega) rfl h
        have hlt' : (i : Int) < (d.size : Int) := by omega
        obtain ⟨x, hx⟩ : ∃ x, d.extract i (i + 1) = x := ⟨_, rfl⟩
        have hxs : x.size = 1 := by rw [← hx]; exact extract_size2 d i 1 hik
        obtain ⟨cap, W1, hcv, hbW, hsW, hcap, hcells⟩ := Kit.str_bytes wr x
        rw [hxs] at hcv hcap hcells
        have hc0 := hcells 0 (by omega)
        rw [← hx, extract_byt d i 1 0 (by decide)] at hc0
        simp only [Nat.add_zero] at hc0
        have l0 := Cs.byt_lt d.data.toList i
        rw [if_pos rfl] at hu hf
        generalize hz0 : Cs.byt d.data.toList i = z0 at *
        clear hcells hxs
        have hfew := HD.out.few
        have HBW := Lib.hid hbW
        have HU := Lib.hid hu
        have HF := Lib.hid hf
        clear hu hf hbW
        have o1 := Kit.or8 0 (z0 : Int) (by decide) (by decide) (by decide) (by omega) (by omega)
        simp only [Int.zero_add] at o1
        have cC := fun W => uCharacter_any (z0 : Int) W
        go_wp2_with fail
        refine wp_loop_rounds 2 ?_
        rw [rounds_succ]
        go_wp2_with fail
        rw [rounds_succ]
        go_wp2_with fail
        by_cases hic : Cs.isChar (z0 : Int) = true
        · have hbd := (Cs.isChar_iff _).1 hic
          have hd' := HU.out (by exact hic)
          have htx := Cs.text_snoc ns (z0)
          skip
          have HTX := Lib.hid htx
          have hrc := runeCells_char _ hic
          have htl := Cs.text_len ns
          have HDN := Lib.hid hd'
          rw [hic] at cC
          have CC := Lib.hid cC
          have cB := fun W h1 h2 => Tryz.yWriteRune w.heap.size w.heap.size (Lib.byteCells (Cs.text ns)) (z0 : Int) (by omega) (by omega) W h1 (by simp only [Lib.byteCells, List.length_map]; omega) h2
          rw [hrc] at cB
          have CB := Lib.hid cB
          have HB := Lib.hid hbd
          have HZ0 := Lib.hid hz0
          clear hd' htx hrc cC cB hic hbd htl hz0
          with_reducible refine (CC.out _).mono ?_
          rintro e w3 ⟨rfl, rfl⟩
          go_wp2_with fail
          with_reducible refine (CB.out _ (Kit.builder_below HBD.out HBW.out) (by omega)).mono ?_
          rintro e w3 ⟨rfl, hb3, hb3', _⟩
          have HB3 := Lib.hid hb3
          clear hb3
          go_wp2_with fail
          go_roundw
          case rel => exact ⟨i + 1, ns ++ [z0], by go_num, HDN, by omega, hik, by
            have h := HB3.out
            rw [HTX.out]
            exact .inr (by simpa [Lib.byteCells, Kit.bytes] using h), hbw.trans ((HBW.out.mono hsz).trans hb3')⟩
          case measure => simp [intOf]; omega
        · have hic' : Cs.isChar (z0 : Int) = false := by simpa using hic
          rw [hic'] at cC
          have CC := Lib.hid cC
          have hall := HF.out (by exact hic')
          have hR := Cs.expandR_units (size := 1) (by omega) (by omega) (by omega) HBT.out (by rw [hdl]; exact HEV.out)
          rw [if_neg (by rw [hall]; simp)] at hR
          have HR := Lib.hid hR
          clear cC hic hic' hall hR
          with_reducible refine (CC.out _).mono ?_
          rintro e w3 ⟨rfl, rfl⟩
          go_wp2_with fail
          go_ret2
          rw [HR.out]
          exact ⟨rfl, hbw.trans (HBW.out.mono hsz)⟩
      · obtain rfl : i = d.size := by omega
        have hdl : d.data.toList.length = d.size := Kit.len_size d
        have hD := HD.out
        rw [← hdl] at hD
        have hun := hD.done
        have hR := Cs.expandR_units (size := 1) (by omega) (by omega) (by omega) HBT.out (by rw [hdl]; exact HEV.out)
        rw [hun, if_pos hD.all] at hR
        have HR := Lib.hid hR
        clear hun hD hR
        go_wp2_with fail
        with_reducible refine (Tryz.Builder_String_any_f w.heap.size w.heap.size _ _ HBD.out hsz).mono ?_
        rintro e w3 ⟨rfl, _, hb3⟩
        go_wp2_with fail
        go_ret2
        rw [HR.out]
        exact ⟨rfl, hbw.trans hb3⟩
  · have e1 : (((Cs.byt d.data.toList 0 : Nat) : Int) != 8) = true := by rw [bne_iff_ne]; omega
    have e2 : (((Cs.byt d.data.toList 0 : Nat) : Int) != 16) = false := by rw [bne_eq_false_iff_eq]; omega
    have e3 : (((Cs.byt d.data.toList 0 : Nat) : Int) == 16) = true := by rw [beq_iff_eq]; omega
    have e4 : ((d.size : Int) % 2 == 0) = false := by rw [beq_eq_false_iff_ne]; omega
    go_enter Tryz.func161, Tryz.ntmps161
    go_wp2_with fail
    go_loopw [6] (fun iv wr => ∃ (i : Nat) (ns : List Nat), iv = .int .i64 i ∧ Hid (Done d.data.toList 2 i ns) ∧ 1 ≤ i ∧ i ≤ d.size ∧ Lib.IsBuilderF 170 5 w.heap.size w.heap.size (Lib.byteCells (Cs.text ns)) wr ∧ Below w.heap.size w wr) (fun iv _ => d.size - (intOf iv).toNat)
    case atStart => exact ⟨1, [], rfl, Lib.hid (Done.start (by simpa using h1) (by simpa using hev)), by omega, h1, Lib.IsBuilderF.of (Lib.fresh_isBuilder _ _ w), (Below.refl _ _).alloc (Nat.le_refl _) _⟩
    case round =>
      obtain ⟨i, ns, rfl, HD, hi1, hid, hbd, hbw⟩ := hrel
      have HBD := Lib.hid hbd
      clear hbd b0 hb' hb e1 e2 e3 e4
      have hsz := hbw.size
      by_cases hlt : i < d.size
      · have hdl : d.data.toList.length = d.size := Kit.len_size d
        have hik : i + 2 ≤ d.size := by have := HD.out.ev; omega
        have hu := fun h => HD.out.step (size := 2) (by omega) (by omega) rfl h
        have hf := fun h => HD.out.fail (size := 2) (by omega) (by omega) rfl h
        have hlt' : (i : Int) < (d.size : Int) := by omega
        obtain ⟨x, hx⟩ : ∃ x, d.extract i (i + 2) = x := ⟨_, rfl⟩
        have hxs : x.size = 2 := by rw [← hx]; exact extract_size2 d i 2 hik
        obtain ⟨cap, W1, hcv, hbW, hsW, hcap, hcells⟩ := Kit.str_bytes wr x
        rw [hxs] at hcv hcap hcells
        have hc0 := hcells 0 (by omega)
        rw [← hx, extract_byt d i 2 0 (by decide)] at hc0
        simp only [Nat.add_zero] at hc0
        have hc1 := hcells 1 (by omega)
        rw [← hx, extract_byt d i 2 1 (by decide)] at hc1
        have l0 := Cs.byt_lt d.data.toList i
        have l1 := Cs.byt_lt d.data.toList (i + 1)
        rw [if_neg (by decide)] at hu hf
        generalize hz0 : Cs.byt d.data.toList i = z0 at *
        generalize hz1 : Cs.byt d.data.toList (i + 1) = z1 at *
        clear hcells hxs
        have hfew := HD.out.few
        have HBW := Lib.hid hbW
        have HU := Lib.hid hu
        have HF := Lib.hid hf
        clear hu hf hbW
        have o1 := Kit.or8 0 (z0 : Int) (by decide) (by decide) (by decide) (by omega) (by omega)
        simp only [Int.zero_add] at o1
        have o2 := Kit.or8 ((z0 : Int) * 256) (z1 : Int) (by omega) (by omega) (by omega) (by omega) (by omega)
        have cC := fun W => uCharacter_any ((z0 : Int) * 256 + (z1 : Int)) W
        go_wp2_with fail
        refine wp_loop_rounds 3 ?_
        rw [rounds_succ]
        go_wp2_with fail
        rw [rounds_succ]
        go_wp2_with fail
        rw [rounds_succ]
        go_wp2_with fail
        by_cases hic : Cs.isChar ((z0 : Int) * 256 + (z1 : Int)) = true
        · have hbd := (Cs.isChar_iff _).1 hic
          have hcast : ((z0 * 256 + z1 : Nat) : Int) = (z0 : Int) * 256 + (z1 : Int) := by omega
          have hd' := HU.out (by rw [hcast]; exact hic)
          have htx := Cs.text_snoc ns (z0 * 256 + z1)
          rw [hcast] at htx
          have HTX := Lib.hid htx
          have hrc := runeCells_char _ hic
          have htl := Cs.text_len ns
          have HDN := Lib.hid hd'
          rw [hic] at cC
          have CC := Lib.hid cC
          have cB := fun W h1 h2 => Tryz.yWriteRune w.heap.size w.heap.size (Lib.byteCells (Cs.text ns)) ((z0 : Int) * 256 + (z1 : Int)) (by omega) (by omega) W h1 (by simp only [Lib.byteCells, List.length_map]; omega) h2
          rw [hrc] at cB
          have CB := Lib.hid cB
          have HB := Lib.hid hbd
          have HZ0 := Lib.hid hz0
          clear hd' htx hrc cC cB hic hbd htl hz0
          with_reducible refine (CC.out _).mono ?_
          rintro e w3 ⟨rfl, rfl⟩
          go_wp2_with fail
          with_reducible refine (CB.out _ (Kit.builder_below HBD.out HBW.out) (by omega)).mono ?_
          rintro e w3 ⟨rfl, hb3, hb3', _⟩
          have HB3 := Lib.hid hb3
          clear hb3
          go_wp2_with fail
          go_roundw
          case rel => exact ⟨i + 2, ns ++ [z0 * 256 + z1], by go_num, HDN, by omega, hik, by
            have h := HB3.out
            rw [HTX.out]
            exact .inr (by simpa [Lib.byteCells, Kit.bytes] using h), hbw.trans ((HBW.out.mono hsz).trans hb3')⟩
          case measure => simp [intOf]; omega
        · have hic' : Cs.isChar ((z0 : Int) * 256 + (z1 : Int)) = false := by simpa using hic
          rw [hic'] at cC
          have CC := Lib.hid cC
          have hcast : ((z0 * 256 + z1 : Nat) : Int) = (z0 : Int) * 256 + (z1 : Int) := by omega
          have hall := HF.out (by rw [hcast]; exact hic')
          have hR := Cs.expandR_units (size := 2) (by omega) (by omega) (by omega) HBT.out (by rw [hdl]; exact HEV.out)
          rw [if_neg (by rw [hall]; simp)] at hR
          have HR := Lib.hid hR
          clear cC hic hic' hall hR
          with_reducible refine (CC.out _).mono ?_
          rintro e w3 ⟨rfl, rfl⟩
          go_wp2_with fail
          go_ret2
          rw [HR.out]
          exact ⟨rfl, hbw.trans (HBW.out.mono hsz)⟩
      · obtain rfl : i = d.size := by omega
        have hdl : d.data.toList.length = d.size := Kit.len_size d
        have hD := HD.out
        rw [← hdl] at hD
        have hun := hD.done
        have hR := Cs.expandR_units (size := 2) (by omega) (by omega) (by omega) HBT.out (by rw [hdl]; exact HEV.out)
        rw [hun, if_pos hD.all] at hR
        have HR := Lib.hid hR
        clear hun hD hR
        go_wp2_with fail
        with_reducible refine (Tryz.Builder_String_any_f w.heap.size w.heap.size _ _ HBD.out hsz).mono ?_
        rintro e w3 ⟨rfl, _, hb3⟩
        go_wp2_with fail
        go_ret2
        rw [HR.out]
        exact ⟨rfl, hbw.trans hb3⟩
end Go.Proofs.YthkppbimkjmbnaaGreatDoor

/-
  The walks through udfstring.Expand (whole), sized, Fit, Dstring and ParseDstring.
-/
namespace Go.Proofs.YthkppbimkjmbnaaGreatDoor
open Go.RowKit

theorem mod_one (n : Nat) : n % 1 = 0 := by omega

set_option maxHeartbeats 1600000 in
set_option maxRecDepth 100000 in
/-- udfstring.Expand. -/
theorem expand_any (d : ByteArray) (w : World) (hs : d.size ≤ 9223372036854775807) :
    Calls Tryz.prog 161 #[.string d] w fun e w' => e = .returned (.tuple #[.string ⟨(Cs.expandR d.data.toList).1.toArray⟩, .int .i64 (Cs.expandR d.data.toList).2]) ∧ Below w.heap.size w w' := by
  have hdl := Kit.len_size d
  by_cases hl : d.size ≤ 65536
  case neg =>
    have hR : Cs.expandR d.data.toList = ([], 7) := if_pos (by omega)
    have HR := Lib.hid hR
    have hl' : (65536 : Int) < (d.size : Int) := by omega
    clear hR hdl
    go_enter Tryz.func161, Tryz.ntmps161
    go_wp2_with fail
    go_ret2
    rw [HR.out]
    exact ⟨rfl, Below.refl _ _⟩
  case pos =>
  have hl' : ¬ (65536 : Int) < (d.size : Int) := by omega
  by_cases h0 : d.size = 0
  · have hR : Cs.expandR d.data.toList = ([], 0) := by
      unfold Cs.expandR
      rw [if_neg (by omega), if_pos (by omega)]
    have HR := Lib.hid hR
    have he := Kit.is_empty d h0
    clear hR hdl h0
    go_enter Tryz.func161, Tryz.ntmps161
    go_wp2_with fail
    go_ret2
    rw [HR.out]
    exact ⟨rfl, Below.refl _ _⟩
  have hz : (0 : Int) < (d.size : Int) := by omega
  have he := Kit.not_empty d (by omega)
  have hpos : 0 < d.size := by omega
  have b0 := Kit.byt_get d 0 hpos
  by_cases h8 : Cs.byt d.data.toList 0 = 8
  · exact expand_body d 1 w hl (by omega) (.inl rfl) h8 (mod_one _)
  by_cases h16 : Cs.byt d.data.toList 0 = 16
  · by_cases hev : (d.size - 1) % 2 = 0
    · exact expand_body d 2 w hl (by omega) (.inr rfl) h16 hev
    · have hR : Cs.expandR d.data.toList = ([], 3) := by
        unfold Cs.expandR
        rw [if_neg (by omega), if_neg (by omega), if_pos (by omega)]
      have HR := Lib.hid hR
      have e1 : (((Cs.byt d.data.toList 0 : Nat) : Int) != 8) = true := by rw [bne_iff_ne]; omega
      have e2 : (((Cs.byt d.data.toList 0 : Nat) : Int) != 16) = false := by rw [bne_eq_false_iff_eq]; omega
      have e3 : (((Cs.byt d.data.toList 0 : Nat) : Int) == 16) = true := by rw [beq_iff_eq]; omega
      have e4 : ((d.size : Int) % 2 == 0) = true := by rw [beq_iff_eq]; omega
      clear hR hdl h8 h16 hev h0
      go_enter Tryz.func161, Tryz.ntmps161
      go_wp2_with fail
      go_ret2
      rw [HR.out]
      exact ⟨rfl, Below.refl _ _⟩
  · have hR : Cs.expandR d.data.toList = ([], 3) := by
      unfold Cs.expandR
      rw [if_neg (by omega), if_neg (by omega), if_pos (by omega)]
    have HR := Lib.hid hR
    have e1 : (((Cs.byt d.data.toList 0 : Nat) : Int) != 8) = true := by rw [bne_iff_ne]; omega
    have e2 : (((Cs.byt d.data.toList 0 : Nat) : Int) != 16) = true := by rw [bne_iff_ne]; omega
    clear hR hdl h8 h16 h0
    go_enter Tryz.func161, Tryz.ntmps161
    go_wp2_with fail
    go_ret2
    rw [HR.out]
    exact ⟨rfl, Below.refl _ _⟩

set_option maxHeartbeats 400000 in
/-- udfstring.sized. -/
theorem sized_any (n : Int) (w : World) : Calls Tryz.prog 160 #[.int .i64 n] w fun e w' => e = .returned (.bool (Cs.sized n)) ∧ w = w' := by
  by_cases h1 : 2 ≤ n <;> by_cases h2 : n ≤ 255
  all_goals
    go_enter Tryz.func160, Tryz.ntmps160
    go_wp2
    go_ret
    refine ⟨congrArg (fun b => Ending.returned (.bool b)) ?_, rfl⟩
    unfold Cs.sized
    simp [*]

theorem sized_iff (n : Int) : Cs.sized n = true ↔ 2 ≤ n ∧ n ≤ 255 := by simp [Cs.sized]

set_option maxHeartbeats 1600000 in
set_option maxRecDepth 100000 in
/-- udfstring.ParseDstring. -/
theorem parse_any (f : ByteArray) (w : World) (hs : f.size ≤ 9223372036854775807) :
    Calls Tryz.prog 107 #[.string f] w fun e w' => e = .returned (.tuple #[.string ⟨(Cs.parseR f.data.toList).1.toArray⟩, .int .i64 (Cs.parseR f.data.toList).2]) ∧ Below w.heap.size w w' := by
  have hdl := Kit.len_size f
  have cS := fun W => sized_any (f.size : Int) W
  by_cases hz : Cs.sized (f.size : Int) = true
  case neg =>
    have hz' : Cs.sized (f.size : Int) = false := by simpa using hz
    have hR : Cs.parseR f.data.toList = ([], 1) := if_pos (by rw [hdl]; exact hz')
    have HR := Lib.hid hR
    rw [hz'] at cS
    have CS := Lib.hid cS
    clear hR hdl cS hz hz'
    go_enter Tryz.func107, Tryz.ntmps107
    go_wp2_with fail
    with_reducible refine (CS.out _).mono ?_
    rintro e w3 ⟨rfl, rfl⟩
    go_wp2_with fail
    go_ret2
    rw [HR.out]
    exact ⟨rfl, Below.refl _ _⟩
  case pos =>
  have h25 := (sized_iff _).1 hz
  have hR0 : Cs.parseR f.data.toList = if f.size - 1 < Cs.byt f.data.toList (f.size - 1) then ([], 10) else Cs.expandR (f.data.toList.take (Cs.byt f.data.toList (f.size - 1))) := by
    unfold Cs.parseR
    rw [if_neg (by rw [hdl, hz]; simp), hdl]
  rw [hz] at cS
  have CS := Lib.hid cS
  have hpos : f.size - 1 < f.size := by omega
  have bl := Kit.byt_get f (f.size - 1) hpos
  have lb := Cs.byt_lt f.data.toList (f.size - 1)
  have cE := fun W h => expand_any (f.extract 0 (Cs.byt f.data.toList (f.size - 1))) W h
  have hidx : ((f.size : Int) - 1).toNat = f.size - 1 := by omega
  generalize hn : Cs.byt f.data.toList (f.size - 1) = n at *
  by_cases hc : f.size - 1 < n
  · have HR := Lib.hid (hR0.trans (if_pos hc))
    have hc' : (f.size : Int) - 1 < (n : Int) := by omega
    clear hR0 hdl cS hz hn cE hc
    obtain ⟨hl2, hu2⟩ := h25
    go_enter Tryz.func107, Tryz.ntmps107
    go_wp2_with fail
    with_reducible refine (CS.out _).mono ?_
    rintro e w3 ⟨rfl, rfl⟩
    go_wp2_with fail
    go_ret2
    rw [HR.out]
    exact ⟨rfl, Below.refl _ _⟩
  · have HR := Lib.hid (hR0.trans (if_neg hc))
    have hc' : ¬ (f.size : Int) - 1 < (n : Int) := by omega
    have hc2 : (n : Int) ≤ (f.size : Int) := by omega
    have hex : (f.extract 0 n).data.toList = f.data.toList.take n := by rw [Lib.extract_data]; simp
    rw [hex] at cE
    have CE := Lib.hid (fun W => cE W (by simp; omega))
    clear hR0 hdl cS hz hn cE hc hex
    obtain ⟨hl2, hu2⟩ := h25
    go_enter Tryz.func107, Tryz.ntmps107
    go_wp2_with fail
    with_reducible refine (CS.out _).mono ?_
    rintro e w3 ⟨rfl, rfl⟩
    go_wp2_with fail
    with_reducible refine (CE.out _).mono ?_
    rintro e w4 ⟨rfl, hb4⟩
    go_wp2_with fail
    go_ret2
    rw [HR.out]
    exact ⟨rfl, hb4⟩
end Go.Proofs.YthkppbimkjmbnaaGreatDoor

/-
  The walk through udfstring.Fit.
-/
namespace Go.Proofs.YthkppbimkjmbnaaGreatDoor
open Go.RowKit

theorem row_take {w : World} {A : Option Addr} {c : Nat} {cs : List Nat} {k : Nat} (h : Kit.Row w (.slice A cs.length c) (Kit.ints cs)) (hk : k ≤ cs.length) : Kit.Row w (.slice A k c) (Kit.izs ((cs.take k).map fun (n : Nat) => (n : Int))) := by
  obtain ⟨A', c', he, h1, h2, h3⟩ := h
  injection he with e1 e2 e3
  subst e1; subst e3
  rw [Kit.ints_length] at h1 h3
  refine ⟨A, c, ?_, ?_, h2, fun h0 => ?_⟩
  · rw [Kit.izs_length, List.length_map, List.length_take, Nat.min_eq_left hk]
  · rw [Kit.izs_length, List.length_map, List.length_take]; omega
  · rw [Kit.izs_length, List.length_map, List.length_take, Nat.min_eq_left hk] at h0
    obtain ⟨b, o, e, hl, hc⟩ := h3 (by omega)
    refine ⟨b, o, e, hl, fun j u hu => hc j u ?_⟩
    simp only [Kit.izs, Kit.ints, List.getElem?_map, List.getElem?_take] at hu ⊢
    split at hu
    · simpa using hu
    · simp at hu

set_option maxHeartbeats 1600000 in
set_option maxRecDepth 100000 in
/-- udfstring.Fit. -/
theorem fit_any (s : ByteArray) (size : Int) (w : World) (hT : Lib.Utf8Tabs 1 2 w) (hs : s.size ≤ 9223372036854775807) :
    Calls Tryz.prog 131 #[.string s, .int .i64 size] w fun e w' => e = .returned (.string ⟨(Cs.fitR s.data.toList size).toArray⟩) ∧ Below w.heap.size w w' := by
  have cC := characters_any s w hT hs
  have cS := fun W => sized_any size W
  by_cases h0 : (Cs.charsR s.data.toList).2 = 0
  case neg =>
    have HR := Lib.hid (Cs.fitR_no (l := s.data.toList) (size := size) (fun h => h0 h.1))
    generalize (Cs.charsR s.data.toList).1 = cs at *
    generalize (Cs.charsR s.data.toList).2 = er at *
    have h0'' : (er != 0) = true := by rw [bne_iff_ne]; exact h0
    have CC := Lib.hid cC
    clear cC cS h0
    go_enter Tryz.func131, Tryz.ntmps131
    go_wp2_with fail
    with_reducible refine CC.out.mono ?_
    rintro e w2 ⟨v, rfl, _, hb2⟩
    go_wp2_with fail
    go_ret
    rw [HR.out]
    exact ⟨rfl, hb2⟩
  case pos =>
  obtain ⟨hl, hch⟩ := Cs.charsR_zero h0
  have hs1 : ¬ (65536 : Int) < (s.size : Int) := by simp at hl; omega
  by_cases hz : Cs.sized size = true
  case neg =>
    have HR := Lib.hid (Cs.fitR_no (l := s.data.toList) (size := size) (fun h => hz h.2))
    have hz' : Cs.sized size = false := by simpa using hz
    rw [hz'] at cS
    rw [h0] at cC
    generalize (Cs.charsR s.data.toList).1 = cs at *
    have CC := Lib.hid cC
    have CS := Lib.hid cS
    clear cC cS h0 hz hz' hl hch
    go_enter Tryz.func131, Tryz.ntmps131
    go_wp2_with fail
    with_reducible refine CC.out.mono ?_
    rintro e w2 ⟨v, rfl, _, hb2⟩
    go_wp2_with fail
    with_reducible refine (CS.out _).mono ?_
    rintro e w3 ⟨rfl, rfl⟩
    go_wp2_with fail
    go_ret
    rw [HR.out]
    exact ⟨rfl, hb2⟩
  case pos =>
  have hR := Cs.fitR_ok h0 hz
  obtain ⟨hz2, hz255⟩ := (sized_iff _).1 hz
  rw [hz] at cS
  rw [h0] at cC
  have hall := Cs.chars_all hch
  generalize (Cs.charsR s.data.toList).1 = cs at *
  obtain ⟨m, rfl⟩ : ∃ m : Nat, size = m := ⟨size.toNat, by omega⟩
  rw [Int.toNat_natCast] at hR
  have HR := Lib.hid hR
  have HALL := Lib.hid hall
  have CC := Lib.hid cC
  have CS := Lib.hid cS
  have hcl : cs.length ≤ 65536 := by have := (Cs.chars_len hch).1; omega
  have HT := Lib.hid hT
  clear cC cS h0 hz hl hch hR hall hT
  go_enter Tryz.func131, Tryz.ntmps131
  go_wp2_with fail
  with_reducible refine CC.out.mono ?_
  rintro e w2 ⟨v, rfl, hown, hb2⟩
  have hrow := Kit.Row.of_own hown
  clear hown
  obtain ⟨A, c, rfl⟩ : ∃ A c, v = .slice A cs.length c := by
    obtain ⟨A, c, e, _⟩ := hrow
    rw [Kit.ints_length] at e
    exact ⟨A, c, e⟩
  have hlc : cs.length ≤ c ∧ c ≤ 9223372036854775807 := by
    obtain ⟨A', c', he, h1, h2, _⟩ := hrow
    injection he with _ _ e3
    rw [Kit.ints_length] at h1
    unfold maxLen at h2
    omega
  obtain ⟨hlc1, hlc2⟩ := hlc
  have HROW := Lib.hid hrow
  clear hrow
  go_wp2_with fail
  with_reducible refine (CS.out _).mono ?_
  rintro e w3 ⟨rfl, rfl⟩
  go_wp2_with fail
  go_loopw [7] (fun nv wr => ∃ k : Nat, nv = .int .i64 k ∧ k ≤ cs.length ∧ k ≤ m ∧ Hid (Cs.fitN cs m (min cs.length m) = Cs.fitN cs m k) ∧ Below w2.heap.size w2 wr) (fun nv _ => (intOf nv).toNat)
  case atStart => exact ⟨min cs.length m, congrArg (Value.int .i64) (by omega), by omega, by omega, Lib.hid rfl, Below.refl _ _⟩
  case round =>
    obtain ⟨k, rfl, hkl, hkm, HF, hbw⟩ := hrel
    have hszw := hbw.size
    by_cases hk0 : 0 < k
    · obtain ⟨n, rfl⟩ : ∃ n, k = n + 1 := ⟨k - 1, by omega⟩
      have hk0' : (0 : Int) < ((n + 1 : Nat) : Int) := by omega
      have hkc : ((n + 1 : Nat) : Int) ≤ (c : Int) := by omega
      have hall := Cs.allChars_take HALL.out (n + 1)
      have hlen : (cs.take (n + 1)).length ≤ 255 := by rw [List.length_take]; omega
      have cX := fun W hr => text_any (.slice A (n + 1) c) ((cs.take (n + 1)).map fun (x : Nat) => (x : Int)) W hr (by
        intro z hz
        obtain ⟨x, hx, rfl⟩ := List.mem_map.1 hz
        have := Cs.isChar_le (List.all_eq_true.1 hall x hx)
        omega)
      rw [Cs.text_textR _ hall (by omega)] at cX
      have htl := Cs.text_len (cs.take (n + 1))
      have cP := fun W hT => compress_any ⟨(Cs.text (cs.take (n + 1))).toArray⟩ W hT (by simp only [ByteArray.size, List.size_toArray]; omega)
      rw [Cs.compress_text _ hall hlen] at cP
      have CX := Lib.hid cX
      have CP := Lib.hid cP
      have hyes := Cs.fitN_yes (cs := cs) (size := m) (n := n)
      have hno := Cs.fitN_no (cs := cs) (size := m) (n := n)
      have hsql := Cs.squeeze_len_le (cs.take (n + 1))
      have HQ := Lib.hid (show (⟨(Cs.squeeze (cs.take (n + 1))).toArray⟩ : ByteArray).size = (Cs.squeeze (cs.take (n + 1))).length by simp [ByteArray.size])
      by_cases hq : ((Cs.squeeze (cs.take (n + 1))).length : Int) ≤ m - 1
      · have HY := Lib.hid (hyes hq)
        clear hyes hno cX cP hall
        go_wp2_with fail
        with_reducible refine (CX.out _ (row_take (HROW.out.below hbw) hkl)).mono ?_
        rintro e w4 ⟨rfl, hb4⟩
        go_wp2_with fail
        with_reducible refine (CP.out _ (Kit.tabs_below HT.out (hb2.trans ((hbw.trans (hb4.mono hszw)).mono hb2.size)))).mono ?_
        rintro e w5 ⟨rfl, hb5⟩
        go_wp2_with fail
        go_ret
        rw [HR.out, HF.out, HY.out]
        exact ⟨rfl, hb2.trans ((hbw.trans ((hb4.mono hszw).trans (hb5.mono (Nat.le_trans hszw hb4.size)))).mono hb2.size)⟩
      · have HN := Lib.hid (hno hq)
        clear hyes hno cX cP hall
        go_wp2_with fail
        with_reducible refine (CX.out _ (row_take (HROW.out.below hbw) hkl)).mono ?_
        rintro e w4 ⟨rfl, hb4⟩
        go_wp2_with fail
        with_reducible refine (CP.out _ (Kit.tabs_below HT.out (hb2.trans ((hbw.trans (hb4.mono hszw)).mono hb2.size)))).mono ?_
        rintro e w5 ⟨rfl, hb5⟩
        go_wp2_with fail
        go_roundw
        case rel => exact ⟨n, by go_num, by omega, by omega, Lib.hid (HF.out.trans HN.out), hbw.trans ((hb4.mono hszw).trans (hb5.mono (Nat.le_trans hszw hb4.size)))⟩
        case measure => simp [intOf]
    · obtain rfl : k = 0 := by omega
      go_wp2_with fail
      go_ret
      rw [HR.out, HF.out]
      exact ⟨rfl, hb2.trans (hbw.mono hb2.size)⟩
end Go.Proofs.YthkppbimkjmbnaaGreatDoor
