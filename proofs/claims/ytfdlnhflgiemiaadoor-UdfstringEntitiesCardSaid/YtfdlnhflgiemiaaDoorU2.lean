/-
  The walk through udfstring.Expand.
-/
import Derived.Test.YtfdlnhflgiemiaaDoorU1
namespace Go.Proofs.YtfdlnhflgiemiaaDoor
open Go.RowKit

set_option maxHeartbeats 400000 in
/-- udfstring.character. -/
theorem uCharacter_any (n : Int) (w : World) : Calls Tryd.prog 36 #[.int .i32 n] w fun e w' => e = .returned (.bool (Cs.isChar n)) ∧ w = w' := by
  by_cases h1 : 32 ≤ n <;> by_cases h2 : n ≤ 65533 <;> by_cases h3 : n < 55296 <;> by_cases h4 : 57343 < n
  all_goals
    go_enter Tryd.func36, Tryd.ntmps36
    go_wp2
    go_ret
    refine ⟨congrArg (fun b => Ending.returned (.bool b)) ?_, rfl⟩
    unfold Cs.isChar
    simp [*]

/-- What the loop of Expand has done: the numbers 'done' are read, the rest stands behind. -/
structure Done (d : List UInt8) (size : Nat) (i : Nat) (ns : List Nat) : Prop where
  le : i ≤ d.length
  ev : (d.length - i) % size = 0
  split : Cs.units size (d.drop 1) = ns ++ Cs.units size (d.drop i)
  all : Cs.allChars ns = true
  few : ns.length ≤ i

theorem units_drop (d : List UInt8) (size i : Nat) (hs : size = 1 ∨ size = 2) (hi : i < d.length) (hev : (d.length - i) % size = 0) :
    Cs.units size (d.drop i) = (if size = 1 then Cs.byt d i else Cs.byt d i * 256 + Cs.byt d (i + 1)) :: Cs.units size (d.drop (i + size)) := by
  have e0 : (d[i]'hi).toNat = Cs.byt d i := by simp [Cs.byt, List.getD, hi]
  rcases hs with rfl | rfl
  · rw [List.drop_eq_getElem_cons hi, if_pos rfl, ← e0]
    cases hd : d.drop (i + 1) with
    | nil => simp [Cs.units]
    | cons b t => simp [Cs.units]
  · have hi1 : i + 1 < d.length := by omega
    have e1 : (d[i + 1]'hi1).toNat = Cs.byt d (i + 1) := by simp [Cs.byt, List.getD, hi1]
    rw [List.drop_eq_getElem_cons hi, List.drop_eq_getElem_cons hi1, if_neg (by decide), ← e0, ← e1]
    simp [Cs.units]

theorem Done.step {d : List UInt8} {size i u : Nat} {ns : List Nat} (h : Done d size i ns) (hs : size = 1 ∨ size = 2) (hi : i < d.length) (hu : (if size = 1 then Cs.byt d i else Cs.byt d i * 256 + Cs.byt d (i + 1)) = u) (hc : Cs.isChar (u : Int) = true) :
    Done d size (i + size) (ns ++ [u]) := by
  have hu' := units_drop d size i hs hi h.ev
  rw [hu] at hu'
  have hev := h.ev
  have hle := h.le
  have hfew := h.few
  refine ⟨?_, ?_, ?_, ?_, ?_⟩
  · rcases hs with rfl | rfl <;> omega
  · rcases hs with rfl | rfl <;> omega
  · rw [h.split, hu']; simp
  · have := h.all
    unfold Cs.allChars at this ⊢
    rw [List.all_append, this]
    simp [hc]
  · rw [List.length_append, List.length_singleton]
    rcases hs with rfl | rfl <;> omega

theorem Done.start {d : List UInt8} {size : Nat} (h1 : 1 ≤ d.length) (hev : (d.length - 1) % size = 0) : Done d size 1 [] :=
  ⟨h1, hev, rfl, rfl, by simp⟩

theorem Done.fail {d : List UInt8} {size i u : Nat} {ns : List Nat} (h : Done d size i ns) (hs : size = 1 ∨ size = 2) (hi : i < d.length) (hu : (if size = 1 then Cs.byt d i else Cs.byt d i * 256 + Cs.byt d (i + 1)) = u) (hc : Cs.isChar (u : Int) = false) :
    Cs.allChars (Cs.units size (d.drop 1)) = false := by
  rw [h.split, units_drop d size i hs hi h.ev, hu]
  unfold Cs.allChars
  rw [List.all_append]
  simp [hc]

theorem Done.done {d : List UInt8} {size : Nat} {ns : List Nat} (h : Done d size d.length ns) : Cs.units size (d.drop 1) = ns := by
  rw [h.split]
  simp [Cs.units]

theorem extract_size2 (d : ByteArray) (i k : Nat) (h : i + k ≤ d.size) : (d.extract i (i + k)).size = k := by
  simp; omega
theorem extract_byt (d : ByteArray) (i k j : Nat) (hj : j < k) : Cs.byt (d.extract i (i + k)).data.toList j = Cs.byt d.data.toList (i + j) := by
  unfold Cs.byt
  rw [Lib.extract_data]
  simp [List.getD, List.getElem?_drop, hj]

set_option maxHeartbeats 1600000 in
set_option maxRecDepth 100000 in
/-- udfstring.Expand behind its checks. -/
theorem expand_body (d : ByteArray) (size : Nat) (w : World) (hd : d.size ≤ 65536) (h1 : 1 ≤ d.size) (hsz : size = 1 ∨ size = 2) (hb : Cs.byt d.data.toList 0 = 8 * size) (hev : (d.size - 1) % size = 0) :
    Calls Tryd.prog 13 #[.string d] w fun e w' => e = .returned (.tuple #[.string ⟨(Cs.expandR d.data.toList).1.toArray⟩, .int .i64 (Cs.expandR d.data.toList).2]) ∧ Below w.heap.size w w' := by
  have HBT := Lib.hid hb
  have HEV := Lib.hid hev
  have b0 := Kit.byt_get d 0 (by omega)
  have hb' : ((Cs.byt d.data.toList 0 : Nat) : Int) = 8 * size := by omega
  have hd' : ¬ (65536 : Int) < (d.size : Int) := by omega
  have hne := Kit.not_empty d (by omega)
  have hz : (0 : Int) < (d.size : Int) := by omega
  rcases hsz with rfl | rfl
  · have e1 : (((Cs.byt d.data.toList 0 : Nat) : Int) != 8) = false := by rw [bne_eq_false_iff_eq]; omega
    have e2 : (((Cs.byt d.data.toList 0 : Nat) : Int) == 16) = false := by rw [beq_eq_false_iff_ne]; omega
    go_enter Tryd.func13, Tryd.ntmps13
    go_wp2_with fail
    go_loopw [6] (fun iv wr => ∃ (i : Nat) (ns : List Nat), iv = .int .i64 i ∧ Hid (Done d.data.toList 1 i ns) ∧ 1 ≤ i ∧ i ≤ d.size ∧ Lib.IsBuilderF 50 5 w.heap.size w.heap.size (Lib.byteCells (Cs.text ns)) wr ∧ Below w.heap.size w wr) (fun iv _ => d.size - (intOf iv).toNat)
    case atStart => exact ⟨1, [], rfl, Lib.hid (Done.start (by simpa using h1) (by simpa using hev)), by omega, h1, Lib.IsBuilderF.of (Lib.fresh_isBuilder _ _ w), (Below.refl _ _).alloc (Nat.le_refl _) _⟩
    case round =>
      obtain ⟨i, ns, rfl, HD, hi1, hid, hbd, hbw⟩ := hrel
      have HBD := Lib.hid hbd
      clear hbd b0 hb' hb e1 e2
      have hsz := hbw.size
      by_cases hlt : i < d.size
      · have hdl : d.data.toList.length = d.size := Kit.len_size d
        have hik : i + 1 ≤ d.size := by have := HD.out.ev; omega
        have hu := fun h => HD.out.step (size := 1) (by omega) (by omega) rfl h
        have hf := fun h => HD.out.fail (size := 1) (by omega) (by omega) rfl h
        have hlt' : (i : Int) < (d.size : Int) := by omega
        obtain ⟨x, hx⟩ : ∃ x, d.extract i (i + 1) = x := ⟨_, rfl⟩
        have hxs : x.size = 1 := by rw [← hx]; exact extract_size2 d i 1 hik
        obtain ⟨cap, W1, hcv, hbW, hsW, hcap, hcells⟩ := Kit.str_bytes wr x
        rw [hxs] at hcv hcap hcells
        have hc0 := hcells 0 (by omega)
        rw [← hx, extract_byt d i 1 0 (by decide)] at hc0
        simp only [Nat.add_zero] at hc0
        have l0 := Cs.byt_lt d.data.toList i
        rw [if_pos rfl] at hu hf
        generalize hz0 : Cs.byt d.data.toList i = z0 at *
        clear hcells hxs
        have hfew := HD.out.few
        have HBW := Lib.hid hbW
        have HU := Lib.hid hu
        have HF := Lib.hid hf
        clear hu hf hbW
        have o1 := Kit.or8 0 (z0 : Int) (by decide) (by decide) (by decide) (by omega) (by omega)
        simp only [Int.zero_add] at o1
        have cC := fun W => uCharacter_any (z0 : Int) W
        go_wp2_with fail
        refine wp_loop_rounds 2 ?_
        rw [rounds_succ]
        go_wp2_with fail
        rw [rounds_succ]
        go_wp2_with fail
        by_cases hic : Cs.isChar (z0 : Int) = true
        · have hbd := (Cs.isChar_iff _).1 hic
          have hd' := HU.out (by exact hic)
          have htx := Cs.text_snoc ns (z0)
          skip
          have HTX := Lib.hid htx
          have hrc := runeCells_char _ hic
          have htl := Cs.text_len ns
          have HDN := Lib.hid hd'
          rw [hic] at cC
          have CC := Lib.hid cC
          have cB := fun W h1 h2 => Tryd.yWriteRune w.heap.size w.heap.size (Lib.byteCells (Cs.text ns)) (z0 : Int) (by omega) (by omega) W h1 (by simp only [Lib.byteCells, List.length_map]; omega) h2
          rw [hrc] at cB
          have CB := Lib.hid cB
          have HB := Lib.hid hbd
          have HZ0 := Lib.hid hz0
          clear hd' htx hrc cC cB hic hbd htl hz0
          with_reducible refine (CC.out _).mono ?_
          rintro e w3 ⟨rfl, rfl⟩
          go_wp2_with fail
          with_reducible refine (CB.out _ (Kit.builder_below HBD.out HBW.out) (by omega)).mono ?_
          rintro e w3 ⟨rfl, hb3, hb3', _⟩
          have HB3 := Lib.hid hb3
          clear hb3
          go_wp2_with fail
          go_roundw
          case rel => exact ⟨i + 1, ns ++ [z0], by go_num, HDN, by omega, hik, by
            have h := HB3.out
            rw [HTX.out]
            exact .inr (by simpa [Lib.byteCells, Kit.bytes] using h), hbw.trans ((HBW.out.mono hsz).trans hb3')⟩
          case measure => simp [intOf]; omega
        · have hic' : Cs.isChar (z0 : Int) = false := by simpa using hic
          rw [hic'] at cC
          have CC := Lib.hid cC
          have hall := HF.out (by exact hic')
          have hR := Cs.expandR_units (size := 1) (by omega) (by omega) (by omega) HBT.out (by rw [hdl]; exact HEV.out)
          rw [if_neg (by rw [hall]; simp)] at hR
          have HR := Lib.hid hR
          clear cC hic hic' hall hR
          with_reducible refine (CC.out _).mono ?_
          rintro e w3 ⟨rfl, rfl⟩
          go_wp2_with fail
          go_ret2
          rw [HR.out]
          exact ⟨rfl, hbw.trans (HBW.out.mono hsz)⟩
      · obtain rfl : i = d.size := by omega
        have hdl : d.data.toList.length = d.size := Kit.len_size d
        have hD := HD.out
        rw [← hdl] at hD
        have hun := hD.done
        have hR := Cs.expandR_units (size := 1) (by omega) (by omega) (by omega) HBT.out (by rw [hdl]; exact HEV.out)
        rw [hun, if_pos hD.all] at hR
        have HR := Lib.hid hR
        clear hun hD hR
        go_wp2_with fail
        with_reducible refine (Tryd.Builder_String_any_f w.heap.size w.heap.size _ _ HBD.out hsz).mono ?_
        rintro e w3 ⟨rfl, _, hb3⟩
        go_wp2_with fail
        go_ret2
        rw [HR.out]
        exact ⟨rfl, hbw.trans hb3⟩
  · have e1 : (((Cs.byt d.data.toList 0 : Nat) : Int) != 8) = true := by rw [bne_iff_ne]; omega
    have e2 : (((Cs.byt d.data.toList 0 : Nat) : Int) != 16) = false := by rw [bne_eq_false_iff_eq]; omega
    have e3 : (((Cs.byt d.data.toList 0 : Nat) : Int) == 16) = true := by rw [beq_iff_eq]; omega
    have e4 : ((d.size : Int) % 2 == 0) = false := by rw [beq_eq_false_iff_ne]; omega
    go_enter Tryd.func13, Tryd.ntmps13
    go_wp2_with fail
    go_loopw [6] (fun iv wr => ∃ (i : Nat) (ns : List Nat), iv = .int .i64 i ∧ Hid (Done d.data.toList 2 i ns) ∧ 1 ≤ i ∧ i ≤ d.size ∧ Lib.IsBuilderF 50 5 w.heap.size w.heap.size (Lib.byteCells (Cs.text ns)) wr ∧ Below w.heap.size w wr) (fun iv _ => d.size - (intOf iv).toNat)
    case atStart => exact ⟨1, [], rfl, Lib.hid (Done.start (by simpa using h1) (by simpa using hev)), by omega, h1, Lib.IsBuilderF.of (Lib.fresh_isBuilder _ _ w), (Below.refl _ _).alloc (Nat.le_refl _) _⟩
    case round =>
      obtain ⟨i, ns, rfl, HD, hi1, hid, hbd, hbw⟩ := hrel
      have HBD := Lib.hid hbd
      clear hbd b0 hb' hb e1 e2 e3 e4
      have hsz := hbw.size
      by_cases hlt : i < d.size
      · have hdl : d.data.toList.length = d.size := Kit.len_size d
        have hik : i + 2 ≤ d.size := by have := HD.out.ev; omega
        have hu := fun h => HD.out.step (size := 2) (by omega) (by omega) rfl h
        have hf := fun h => HD.out.fail (size := 2) (by omega) (by omega) rfl h
        have hlt' : (i : Int) < (d.size : Int) := by omega
        obtain ⟨x, hx⟩ : ∃ x, d.extract i (i + 2) = x := ⟨_, rfl⟩
        have hxs : x.size = 2 := by rw [← hx]; exact extract_size2 d i 2 hik
        obtain ⟨cap, W1, hcv, hbW, hsW, hcap, hcells⟩ := Kit.str_bytes wr x
        rw [hxs] at hcv hcap hcells
        have hc0 := hcells 0 (by omega)
        rw [← hx, extract_byt d i 2 0 (by decide)] at hc0
        simp only [Nat.add_zero] at hc0
        have hc1 := hcells 1 (by omega)
        rw [← hx, extract_byt d i 2 1 (by decide)] at hc1
        have l0 := Cs.byt_lt d.data.toList i
        have l1 := Cs.byt_lt d.data.toList (i + 1)
        rw [if_neg (by decide)] at hu hf
        generalize hz0 : Cs.byt d.data.toList i = z0 at *
        generalize hz1 : Cs.byt d.data.toList (i + 1) = z1 at *
        clear hcells hxs
        have hfew := HD.out.few
        have HBW := Lib.hid hbW
        have HU := Lib.hid hu
        have HF := Lib.hid hf
        clear hu hf hbW
        have o1 := Kit.or8 0 (z0 : Int) (by decide) (by decide) (by decide) (by omega) (by omega)
        simp only [Int.zero_add] at o1
        have o2 := Kit.or8 ((z0 : Int) * 256) (z1 : Int) (by omega) (by omega) (by omega) (by omega) (by omega)
        have cC := fun W => uCharacter_any ((z0 : Int) * 256 + (z1 : Int)) W
        go_wp2_with fail
        refine wp_loop_rounds 3 ?_
        rw [rounds_succ]
        go_wp2_with fail
        rw [rounds_succ]
        go_wp2_with fail
        rw [rounds_succ]
        go_wp2_with fail
        by_cases hic : Cs.isChar ((z0 : Int) * 256 + (z1 : Int)) = true
        · have hbd := (Cs.isChar_iff _).1 hic
          have hcast : ((z0 * 256 + z1 : Nat) : Int) = (z0 : Int) * 256 + (z1 : Int) := by omega
          have hd' := HU.out (by rw [hcast]; exact hic)
          have htx := Cs.text_snoc ns (z0 * 256 + z1)
          rw [hcast] at htx
          have HTX := Lib.hid htx
          have hrc := runeCells_char _ hic
          have htl := Cs.text_len ns
          have HDN := Lib.hid hd'
          rw [hic] at cC
          have CC := Lib.hid cC
          have cB := fun W h1 h2 => Tryd.yWriteRune w.heap.size w.heap.size (Lib.byteCells (Cs.text ns)) ((z0 : Int) * 256 + (z1 : Int)) (by omega) (by omega) W h1 (by simp only [Lib.byteCells, List.length_map]; omega) h2
          rw [hrc] at cB
          have CB := Lib.hid cB
          have HB := Lib.hid hbd
          have HZ0 := Lib.hid hz0
          clear hd' htx hrc cC cB hic hbd htl hz0
          with_reducible refine (CC.out _).mono ?_
          rintro e w3 ⟨rfl, rfl⟩
          go_wp2_with fail
          with_reducible refine (CB.out _ (Kit.builder_below HBD.out HBW.out) (by omega)).mono ?_
          rintro e w3 ⟨rfl, hb3, hb3', _⟩
          have HB3 := Lib.hid hb3
          clear hb3
          go_wp2_with fail
          go_roundw
          case rel => exact ⟨i + 2, ns ++ [z0 * 256 + z1], by go_num, HDN, by omega, hik, by
            have h := HB3.out
            rw [HTX.out]
            exact .inr (by simpa [Lib.byteCells, Kit.bytes] using h), hbw.trans ((HBW.out.mono hsz).trans hb3')⟩
          case measure => simp [intOf]; omega
        · have hic' : Cs.isChar ((z0 : Int) * 256 + (z1 : Int)) = false := by simpa using hic
          rw [hic'] at cC
          have CC := Lib.hid cC
          have hcast : ((z0 * 256 + z1 : Nat) : Int) = (z0 : Int) * 256 + (z1 : Int) := by omega
          have hall := HF.out (by rw [hcast]; exact hic')
          have hR := Cs.expandR_units (size := 2) (by omega) (by omega) (by omega) HBT.out (by rw [hdl]; exact HEV.out)
          rw [if_neg (by rw [hall]; simp)] at hR
          have HR := Lib.hid hR
          clear cC hic hic' hall hR
          with_reducible refine (CC.out _).mono ?_
          rintro e w3 ⟨rfl, rfl⟩
          go_wp2_with fail
          go_ret2
          rw [HR.out]
          exact ⟨rfl, hbw.trans (HBW.out.mono hsz)⟩
      · obtain rfl : i = d.size := by omega
        have hdl : d.data.toList.length = d.size := Kit.len_size d
        have hD := HD.out
        rw [← hdl] at hD
        have hun := hD.done
        have hR := Cs.expandR_units (size := 2) (by omega) (by omega) (by omega) HBT.out (by rw [hdl]; exact HEV.out)
        rw [hun, if_pos hD.all] at hR
        have HR := Lib.hid hR
        clear hun hD hR
        go_wp2_with fail
        with_reducible refine (Tryd.Builder_String_any_f w.heap.size w.heap.size _ _ HBD.out hsz).mono ?_
        rintro e w3 ⟨rfl, _, hb3⟩
        go_wp2_with fail
        go_ret2
        rw [HR.out]
        exact ⟨rfl, hbw.trans hb3⟩
end Go.Proofs.YtfdlnhflgiemiaaDoor
