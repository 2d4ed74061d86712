/-
  slices.ContainsFunc of no words, slices.Grow, slices.Concat of two and of three slices of ints.
-/
import Derived.Test.YthkppbimkjmbnaaGreatDoorZK
import Derived.Test.YthkppbimkjmbnaaGreatDoorZA
import Derived.Test.YthkppbimkjmbnaaGreatDoorZB
import Derived.Lib.Walk
import Derived.Lib.SliceRun
import Derived.Test.YthkppbimkjmbnaaGreatDoorZz
import Derived.Lib.AppendZerosOnto
import Derived.Test.YthkppbimkjmbnaaGreatDoorZO
namespace Go.Proofs.YthkppbimkjmbnaaGreatDoor
set_option linter.unusedVariables false
open Go.RowKit
/-- Is there one that is no word? -/
def Vs.badW (zs : List Int) : Bool := zs.any fun n => !Vs.word n
theorem any_snocF {α : Type} [Inhabited α] {p : α → Bool} {l : List α} {i : Nat} (hi : i < l.length) (h : (l.take i).any p = false) (hp : p (l.getD i default) = false) : (l.take (i + 1)).any p = false := by
  rw [List.take_succ_eq_append_getElem hi, List.any_append, h]
  simp [List.getD, hi] at hp
  simp [hp]
theorem any_hit {α : Type} [Inhabited α] {p : α → Bool} {l : List α} {i : Nat} (hi : i < l.length) (hp : p (l.getD i default) = true) : l.any p = true := by
  rw [List.any_eq_true]
  exact ⟨l.getD i default, by simp [List.getD, hi], hp⟩

set_option maxHeartbeats 1600000 in
/-- information$1. -/
theorem notWord_any (n : Int) (w : World) : Calls Tryz.prog 163 #[.int .i64 n] w fun e w' => e = .returned (.bool (!Vs.word n)) ∧ w = w' := by
  have CW := Lib.hid (fun W => word_any n W)
  generalize Vs.word n = b at *
  go_enter Tryz.func163, Tryz.ntmps163
  go_wp2_with fail
  with_reducible refine (CW.out _).mono ?_
  rintro e w2 ⟨rfl, rfl⟩
  go_wp2_with fail
  go_ret
  exact ⟨rfl, rfl⟩

set_option maxHeartbeats 1600000 in
set_option maxRecDepth 100000 in
/-- slices.IndexFunc over ints, asked for what is no word. -/
theorem indexInts_any (v : Value) (zs : List Int) (w : World) (hr : Kit.Row w v (Kit.izs zs)) (hl : zs.length ≤ 9223372036854775807) :
    Calls Tryz.prog 223 #[v, .func (.func 163) #[] #[]] w fun e w' => ∃ r : Int, e = .returned (.int .i64 r) ∧ -1 ≤ r ∧ (0 ≤ r ↔ Vs.badW zs = true) ∧ w = w' := by
  have HRow := Lib.hid hr
  obtain ⟨A, c, rfl, hlc, hcm, _⟩ := hr
  rw [Kit.izs_length] at *
  unfold maxLen at hcm
  go_enter Tryz.func223, Tryz.ntmps223
  go_wp2_with fail
  go_loop [5, 8] (fun _ iv => ∃ j : Nat, j ≤ zs.length ∧ iv = .int .i64 j ∧ Hid ((zs.take j).any (fun n => !Vs.word n) = false)) (fun _ iv => zs.length - (intOf iv).toNat)
  case atStart => exact ⟨0, by omega, rfl, Lib.hid rfl⟩
  case round =>
    obtain ⟨j, hj, rfl, HA⟩ := hrel
    by_cases hlt : j < zs.length
    · obtain ⟨b, o, c', hv, hbw, hcj⟩ := HRow.out.at_izs hlt
      obtain ⟨rfl, _, rfl⟩ : A = some ⟨b, o, none⟩ ∧ zs.length = zs.length ∧ c = c' := by simpa using hv
      clear hv
      have CP := Lib.hid (fun W => notWord_any (zs.getD j 0) W)
      cases hp : Vs.word (zs.getD j 0) with
      | true =>
        have HN := Lib.hid (any_snocF (p := fun n => !Vs.word n) hlt HA.out (by simpa [hp] using hp))
        rw [hp] at CP
        clear hp
        generalize zs.getD j 0 = x at *
        go_wp2_with fail
        with_reducible refine (CP.out _).mono ?_
        rintro e w2 ⟨rfl, rfl⟩
        go_wp2_with fail
        go_round
        case rel => exact ⟨j + 1, by omega, by go_num, HN⟩
        case measure => simp [intOf]; omega
      | false =>
        have HN := Lib.hid (show Vs.badW zs = true from any_hit (p := fun n => !Vs.word n) hlt (by simpa [hp] using hp))
        rw [hp] at CP
        clear hp
        generalize zs.getD j 0 = x at *
        go_wp2_with fail
        with_reducible refine (CP.out _).mono ?_
        rintro e w2 ⟨rfl, rfl⟩
        go_wp2_with fail
        go_ret
        exact ⟨_, rfl, by omega, ⟨fun _ => HN.out, fun _ => by omega⟩, rfl⟩
    · obtain rfl : j = zs.length := by omega
      have ha := HA.out
      rw [List.take_length] at ha
      have HH := Lib.hid (show Vs.badW zs = false from ha)
      clear ha
      go_wp2_with fail
      go_ret
      exact ⟨_, rfl, by decide, ⟨fun h => absurd h (by decide), fun h => by rw [HH.out] at h; cases h⟩, rfl⟩

set_option maxHeartbeats 1600000 in
set_option maxRecDepth 100000 in
/-- slices.ContainsFunc over ints, asked for what is no word. -/
theorem containsInts_any (v : Value) (zs : List Int) (w : World) (hr : Kit.Row w v (Kit.izs zs)) (hl : zs.length ≤ 9223372036854775807) :
    Calls Tryz.prog 162 #[v, .func (.func 163) #[] #[]] w fun e w' => e = .returned (.bool (Vs.badW zs)) ∧ w = w' := by
  have CI := Lib.hid (indexInts_any v zs w hr hl)
  obtain ⟨A, c, rfl, _, _, _⟩ := hr
  cases hp : Vs.badW zs with
  | true =>
    rw [hp] at CI
    go_enter Tryz.func162, Tryz.ntmps162
    go_wp2_with fail
    with_reducible refine CI.out.mono ?_
    rintro e w2 ⟨r, rfl, hr, hi, rfl⟩
    have hr0 : 0 ≤ r := hi.2 (by first | rfl | trivial)
    clear hi
    go_wp2_with fail
    go_ret
    first | exact ⟨rfl, rfl⟩ | (refine ⟨congrArg (fun b => Ending.returned (.bool b)) ?_, rfl⟩; simp <;> omega)
  | false =>
    rw [hp] at CI
    go_enter Tryz.func162, Tryz.ntmps162
    go_wp2_with fail
    with_reducible refine CI.out.mono ?_
    rintro e w2 ⟨r, rfl, hr, hi, rfl⟩
    have hr0 : r < 0 := by
      rcases Int.lt_or_le r 0 with h | h
      · exact h
      · have := hi.1 h; cases this
    clear hi
    go_wp2_with fail
    go_ret
    first | exact ⟨rfl, rfl⟩ | (refine ⟨congrArg (fun b => Ending.returned (.bool b)) ?_, rfl⟩; simp <;> omega)

set_option maxHeartbeats 1600000 in
set_option maxRecDepth 100000 in
/-- slices.Grow of the nil slice. -/
theorem grow_any (n : Nat) (h1 : 1 ≤ n) (h2 : n ≤ 17592186044416) (w : World) : Calls Tryz.prog 164 #[.slice none 0 0, .int .i64 (n : Int)] w fun e w' => ∃ v', e = .returned v' ∧ w'.ownsRow w.heap.size 3 1 v' 0 [] ∧ Below w.heap.size w w' := by
  obtain ⟨i0, hi, hz0, hz1, hz2⟩ := info_parts intInfo
  have hrz : ∀ ty, (Builtin.append_ #[34, 3] ty #[.slice none 0 0, .int .i64 (n : Int)]).run Tryz.prog w =
      .ok (.slice (some ⟨w.heap.size, 0, none⟩) n (grownCap w n 0 3)) (w.drew.alloc (.cells (#[] ++ Builtin.zeroCells (Value.int .i64 0).cells n ++ Builtin.zeroCells (Value.int .i64 0).cells (grownCap w n 0 3 - n)) 3)) := fun ty => by
    have h := Lib.run_append_grow_zeros (P := Tryz.prog) w 34 3 ty 3 i0 (.int .i64 0) .i64 .i64 Tryz.underlying34 Tryz.underlying3 hi hz0 none 0 0 [] (run_firstCells_none w.drew i0.size 0 0 0) n (by omega) (by omega) (by omega) (by omega)
      (by rw [hz2]; omega) (by rw [Nat.zero_add]; exact growslice_fits (by omega) (by rw [hz2]; omega))
    simpa using h
  have hGn : n ≤ grownCap w n 0 3 := grownCap_ge w _ _ _
  have hGm := grownCap_le_maxLen w n 0 3 (by unfold maxLen; omega)
  obtain ⟨G, hG⟩ : ∃ G, G = grownCap w n 0 3 := ⟨_, rfl⟩
  rw [← hG] at hrz hGn hGm
  have hG63 : G ≤ 9223372036854775807 := by unfold maxLen at hGm; omega
  have hcz : (#[] ++ Builtin.zeroCells (Value.int .i64 0).cells n ++ Builtin.zeroCells (Value.int .i64 0).cells (G - n)).size = G := by
    simp [Builtin.zeroCells, Value.cells]; omega
  generalize #[] ++ Builtin.zeroCells (Value.int .i64 0).cells n ++ Builtin.zeroCells (Value.int .i64 0).cells (G - n) = C at *
  clear hG
  have HGm := Lib.hid hGm
  have HC := Lib.hid hcz
  clear hGm hcz
  go_enter Tryz.func164, Tryz.ntmps164
  go_wp2_with (at_builtin; refine Lib.wpList_append_run _ rfl _ _ _ _ rfl _ _ rfl rfl _ _ (hrz _) ?_)
  go_ret
  exact ⟨_, rfl, ⟨by simp, .inr ⟨w.heap.size, G, C, rfl, Nat.le_refl _, heap_alloc_new w _, by omega, HGm.out, by rw [HC.out]; omega, by simp⟩⟩, ((Below.refl _ w).alloc (Nat.le_refl _) _).drew⟩

set_option maxHeartbeats 3200000 in
set_option maxRecDepth 100000 in
/-- slices.Concat of two slices of ints. -/
theorem concat_any (b : Nat) (v1 v2 : Value) (xs ys : List Int) (w : World) (hb : b < w.heap.size) (hc0 : w.cell? ⟨b, 0, none⟩ = some v1) (hc1 : w.cell? ⟨b, 1, none⟩ = some v2)
    (h1 : Kit.RowS w v1 (Kit.izs xs)) (h2 : Kit.RowS w v2 (Kit.izs ys)) (hl : xs.length + ys.length ≤ 17592186044416) (hp : 1 ≤ xs.length + ys.length) :
    Calls Tryz.prog 109 #[.slice (some ⟨b, 0, none⟩) 2 2] w fun e w' => ∃ v', e = .returned v' ∧ w'.ownsRow w.heap.size 3 1 v' (xs.length + ys.length) (Kit.izs (xs ++ ys)) ∧ Below w.heap.size w w' := by
  have cg := fun W => grow_any (xs.length + ys.length) hp hl W
  simp only [Int.natCast_add] at cg
  have CG := Lib.hid cg
  clear cg
  have H1 := Lib.hid h1
  have H2 := Lib.hid h2
  obtain ⟨⟨A1, c1, rfl, hl1, hm1, _⟩, _⟩ := h1
  obtain ⟨⟨A2, c2, rfl, hl2, hm2, _⟩, _⟩ := h2
  rw [Kit.izs_length] at *
  unfold maxLen at hm1 hm2
  go_enter Tryz.func109, Tryz.ntmps109
  go_wp2_with fail
  go_loop [3, 5, 11] (fun nv _ iv => ∃ j : Nat, j ≤ 2 ∧ iv = .int .i64 j ∧ nv = .int .i64 (if j = 0 then 0 else if j = 1 then xs.length else xs.length + ys.length : Nat)) (fun _ _ iv => 2 - (intOf iv).toNat)
  case atStart => exact ⟨0, by omega, rfl, rfl⟩
  case round =>
    obtain ⟨j, hj, rfl, rfl⟩ := hrel
    have hj3 : j = 0 ∨ j = 1 ∨ j = 2 := by omega
    rcases hj3 with rfl | rfl | rfl
    · rw [if_pos rfl]
      go_wp2_with fail
      go_round
      case rel => exact ⟨1, by omega, by first | rfl | go_num, by simp⟩
      case measure => simp [intOf]
    · rw [if_neg (by omega), if_pos rfl]
      go_wp2_with fail
      go_round
      case rel => exact ⟨2, by omega, by first | rfl | go_num, by simp⟩
      case measure => simp [intOf]
    · rw [if_neg (by omega), if_neg (by omega)]
      go_wp2_with fail
      with_reducible refine (CG.out _).mono ?_
      rintro e w3 ⟨v3, rfl, hown3, hb3⟩
      obtain ⟨HC0, HC1, HB3, HO3⟩ : Hid (w3.cell? ⟨b, 0, none⟩ = some (.slice A1 xs.length c1)) ∧ Hid (w3.cell? ⟨b, 1, none⟩ = some (.slice A2 ys.length c2)) ∧ Hid (Below w.heap.size w w3) ∧ Hid (w3.ownsRow w.heap.size 3 1 v3 0 []) :=
        ⟨(hb3.cell (p := ⟨b, 0, none⟩) hb).trans hc0, (hb3.cell (p := ⟨b, 1, none⟩) hb).trans hc1, hb3, hown3⟩
      clear hc0 hc1 hown3 hb3
      go_wp2_with fail
      go_loopw [6, 8, 27] (fun nv _ iv wr => ∃ j : Nat, j ≤ 2 ∧ iv = .int .i64 j ∧ wr.ownsRow w.heap.size 3 1 nv (if j = 0 then 0 else if j = 1 then xs.length else xs.length + ys.length) (if j = 0 then [] else if j = 1 then Kit.izs xs else Kit.izs (xs ++ ys)) ∧ Below w.heap.size w wr) (fun _ _ iv _ => 2 - (intOf iv).toNat)
      case atStart => exact ⟨0, by omega, rfl, HO3.out, HB3.out⟩
      case round =>
        obtain ⟨j, hj, rfl, hown, hbw⟩ := hrel
        have HOWN := Lib.hid hown
        clear hown
        have hsz := hbw.size
        have hj3 : j = 0 ∨ j = 1 ∨ j = 2 := by omega
        rcases hj3 with rfl | rfl | rfl
        · have hc := (hbw.cell (p := ⟨b, 0, none⟩) hb).trans ((HB3.out.cell (p := ⟨b, 0, none⟩) hb).symm.trans HC0.out)
          have HR1 := Lib.hid (H1.out.below hbw)
          rw [if_pos rfl, if_pos rfl] at HOWN
          clear hj
          go_wp2_with (at_builtin; refine Kit.appRow intInfo rfl (by decide) rfl _ _ 34 rfl Tryz.underlying34 w.heap.size _ _ _ rfl HOWN.out _ _ rfl HR1.out (Kit.one_izs _) ?c1 hsz ?_)
          case c1 => rw [Kit.izs_length]; omega
          intro v' w4 hown' hb4
          simp only [Kit.izs_length] at hown'
          have HO4 := Lib.hid hown'
          clear hown'
          go_wp2_with fail
          go_roundw
          case rel => exact ⟨1, by omega, by first | rfl | go_num, HO4.out, hbw.trans hb4⟩
          case measure => simp [intOf]
        · have hc := (hbw.cell (p := ⟨b, 1, none⟩) hb).trans ((HB3.out.cell (p := ⟨b, 1, none⟩) hb).symm.trans HC1.out)
          have HR1 := Lib.hid (H2.out.below hbw)
          rw [if_neg (by omega), if_pos rfl, if_neg (by omega), if_pos rfl] at HOWN
          clear hj
          go_wp2_with (at_builtin; refine Kit.appRow intInfo rfl (by decide) rfl _ _ 34 rfl Tryz.underlying34 w.heap.size _ _ _ rfl HOWN.out _ _ rfl HR1.out (Kit.one_izs _) ?c2 hsz ?_)
          case c2 => rw [Kit.izs_length]; omega
          intro v' w4 hown' hb4
          simp only [Kit.izs_length, ← Kit.izs_append] at hown'
          have HO4 := Lib.hid hown'
          clear hown'
          go_wp2_with fail
          go_roundw
          case rel => exact ⟨2, by omega, by first | rfl | go_num, HO4.out, hbw.trans hb4⟩
          case measure => simp [intOf]
        · rw [if_neg (by omega), if_neg (by omega), if_neg (by omega), if_neg (by omega)] at HOWN
          go_wp2_with fail
          go_ret
          exact ⟨_, rfl, HOWN.out, hbw⟩

set_option maxHeartbeats 3200000 in
set_option maxRecDepth 100000 in
/-- slices.Concat of three slices of ints. -/
theorem concat3_any (b : Nat) (v1 v2 v3 : Value) (xs ys us : List Int) (w : World) (hb : b < w.heap.size) (hc0 : w.cell? ⟨b, 0, none⟩ = some v1) (hc1 : w.cell? ⟨b, 1, none⟩ = some v2) (hc2 : w.cell? ⟨b, 2, none⟩ = some v3)
    (h1 : Kit.RowS w v1 (Kit.izs xs)) (h2 : Kit.RowS w v2 (Kit.izs ys)) (h3 : Kit.RowS w v3 (Kit.izs us)) (hl : xs.length + ys.length + us.length ≤ 17592186044416) (hp : 1 ≤ xs.length + ys.length + us.length) :
    Calls Tryz.prog 109 #[.slice (some ⟨b, 0, none⟩) 3 3] w fun e w' => ∃ v', e = .returned v' ∧ w'.ownsRow w.heap.size 3 1 v' (xs.length + ys.length + us.length) (Kit.izs (xs ++ ys ++ us)) ∧ Below w.heap.size w w' := by
  have cg := fun W => grow_any (xs.length + ys.length + us.length) hp hl W
  simp only [Int.natCast_add] at cg
  have CG := Lib.hid cg
  clear cg
  have H1 := Lib.hid h1
  have H2 := Lib.hid h2
  have H3 := Lib.hid h3
  obtain ⟨⟨A1, c1, rfl, hl1, hm1, _⟩, _⟩ := h1
  obtain ⟨⟨A2, c2, rfl, hl2, hm2, _⟩, _⟩ := h2
  obtain ⟨⟨A3, c3, rfl, hl3, hm3, _⟩, _⟩ := h3
  rw [Kit.izs_length] at *
  unfold maxLen at hm1 hm2 hm3
  go_enter Tryz.func109, Tryz.ntmps109
  go_wp2_with fail
  go_loop [3, 5, 11] (fun nv _ iv => ∃ j : Nat, j ≤ 3 ∧ iv = .int .i64 j ∧ nv = .int .i64 (if j = 0 then 0 else if j = 1 then xs.length else if j = 2 then xs.length + ys.length else xs.length + ys.length + us.length : Nat)) (fun _ _ iv => 3 - (intOf iv).toNat)
  case atStart => exact ⟨0, by omega, rfl, rfl⟩
  case round =>
    obtain ⟨j, hj, rfl, rfl⟩ := hrel
    have hj3 : j = 0 ∨ j = 1 ∨ j = 2 ∨ j = 3 := by omega
    rcases hj3 with rfl | rfl | rfl | rfl
    · rw [if_pos rfl]
      go_wp2_with fail
      go_round
      case rel => exact ⟨1, by omega, by first | rfl | go_num, by simp⟩
      case measure => simp [intOf]
    · rw [if_neg (by omega), if_pos rfl]
      go_wp2_with fail
      go_round
      case rel => exact ⟨2, by omega, by first | rfl | go_num, by simp⟩
      case measure => simp [intOf]
    · rw [if_neg (by omega), if_neg (by omega), if_pos rfl]
      go_wp2_with fail
      go_round
      case rel => exact ⟨3, by omega, by first | rfl | go_num, by simp⟩
      case measure => simp [intOf]
    · rw [if_neg (by omega), if_neg (by omega), if_neg (by omega)]
      go_wp2_with fail
      with_reducible refine (CG.out _).mono ?_
      rintro e w3 ⟨v3, rfl, hown3, hb3⟩
      obtain ⟨HC0, HC1, HC2, HB3, HO3⟩ : Hid (w3.cell? ⟨b, 0, none⟩ = some (.slice A1 xs.length c1)) ∧ Hid (w3.cell? ⟨b, 1, none⟩ = some (.slice A2 ys.length c2)) ∧ Hid (w3.cell? ⟨b, 2, none⟩ = some (.slice A3 us.length c3)) ∧ Hid (Below w.heap.size w w3) ∧ Hid (w3.ownsRow w.heap.size 3 1 v3 0 []) :=
        ⟨(hb3.cell (p := ⟨b, 0, none⟩) hb).trans hc0, (hb3.cell (p := ⟨b, 1, none⟩) hb).trans hc1, (hb3.cell (p := ⟨b, 2, none⟩) hb).trans hc2, hb3, hown3⟩
      clear hc0 hc1 hc2 hown3 hb3
      go_wp2_with fail
      go_loopw [6, 8, 27] (fun nv _ iv wr => ∃ j : Nat, j ≤ 3 ∧ iv = .int .i64 j ∧ wr.ownsRow w.heap.size 3 1 nv (if j = 0 then 0 else if j = 1 then xs.length else if j = 2 then xs.length + ys.length else xs.length + ys.length + us.length) (if j = 0 then [] else if j = 1 then Kit.izs xs else if j = 2 then Kit.izs (xs ++ ys) else Kit.izs (xs ++ ys ++ us)) ∧ Below w.heap.size w wr) (fun _ _ iv _ => 3 - (intOf iv).toNat)
      case atStart => exact ⟨0, by omega, rfl, HO3.out, HB3.out⟩
      case round =>
        obtain ⟨j, hj, rfl, hown, hbw⟩ := hrel
        have HOWN := Lib.hid hown
        clear hown
        have hsz := hbw.size
        have hj3 : j = 0 ∨ j = 1 ∨ j = 2 ∨ j = 3 := by omega
        rcases hj3 with rfl | rfl | rfl | rfl
        · have hc := (hbw.cell (p := ⟨b, 0, none⟩) hb).trans ((HB3.out.cell (p := ⟨b, 0, none⟩) hb).symm.trans HC0.out)
          have HR1 := Lib.hid (H1.out.below hbw)
          rw [if_pos rfl, if_pos rfl] at HOWN
          clear hj
          go_wp2_with (at_builtin; refine Kit.appRow intInfo rfl (by decide) rfl _ _ 34 rfl Tryz.underlying34 w.heap.size _ _ _ rfl HOWN.out _ _ rfl HR1.out (Kit.one_izs _) ?c0 hsz ?_)
          case c0 => rw [Kit.izs_length]; omega
          intro v' w4 hown' hb4
          simp only [Kit.izs_length] at hown'
          have HO4 := Lib.hid hown'
          clear hown'
          go_wp2_with fail
          go_roundw
          case rel => exact ⟨1, by omega, by first | rfl | go_num, HO4.out, hbw.trans hb4⟩
          case measure => simp [intOf]
        · have hc := (hbw.cell (p := ⟨b, 1, none⟩) hb).trans ((HB3.out.cell (p := ⟨b, 1, none⟩) hb).symm.trans HC1.out)
          have HR1 := Lib.hid (H2.out.below hbw)
          rw [if_neg (by omega), if_pos rfl, if_neg (by omega), if_pos rfl] at HOWN
          clear hj
          go_wp2_with (at_builtin; refine Kit.appRow intInfo rfl (by decide) rfl _ _ 34 rfl Tryz.underlying34 w.heap.size _ _ _ rfl HOWN.out _ _ rfl HR1.out (Kit.one_izs _) ?c1 hsz ?_)
          case c1 => rw [Kit.izs_length]; omega
          intro v' w4 hown' hb4
          simp only [Kit.izs_length, ← Kit.izs_append] at hown'
          have HO4 := Lib.hid hown'
          clear hown'
          go_wp2_with fail
          go_roundw
          case rel => exact ⟨2, by omega, by first | rfl | go_num, HO4.out, hbw.trans hb4⟩
          case measure => simp [intOf]
        · have hc := (hbw.cell (p := ⟨b, 2, none⟩) hb).trans ((HB3.out.cell (p := ⟨b, 2, none⟩) hb).symm.trans HC2.out)
          have HR1 := Lib.hid (H3.out.below hbw)
          rw [if_neg (by omega), if_neg (by omega), if_pos rfl, if_neg (by omega), if_neg (by omega), if_pos rfl] at HOWN
          clear hj
          go_wp2_with (at_builtin; refine Kit.appRow intInfo rfl (by decide) rfl _ _ 34 rfl Tryz.underlying34 w.heap.size _ _ _ rfl HOWN.out _ _ rfl HR1.out (Kit.one_izs _) ?c2 hsz ?_)
          case c2 => rw [Kit.izs_length]; omega
          intro v' w4 hown' hb4
          simp only [Kit.izs_length, ← Kit.izs_append] at hown'
          have HO4 := Lib.hid hown'
          clear hown'
          go_wp2_with fail
          go_roundw
          case rel => exact ⟨3, by omega, by first | rfl | go_num, HO4.out, hbw.trans hb4⟩
          case measure => simp [intOf]
        · rw [if_neg (by omega), if_neg (by omega), if_neg (by omega), if_neg (by omega), if_neg (by omega), if_neg (by omega)] at HOWN
          go_wp2_with fail
          go_ret
          exact ⟨_, rfl, HOWN.out, hbw⟩
end Go.Proofs.YthkppbimkjmbnaaGreatDoor

/-
  The walk through volumeseq.information; slices.Concat of two empty slices.
-/
namespace Go.Proofs.YthkppbimkjmbnaaGreatDoor
set_option linter.unusedVariables false
open Go.RowKit
open Vs (bs by_)
namespace Vs
/-- The cells of an integrity descriptor's contents, their lists as slices. -/
def inC (i : In) (vf vz : Value) : Array Value := #[.int .i64 i.time, .bool i.closed, .int .i64 i.unique, vf, vz, .int .i64 i.files, .int .i64 i.folders]
theorem okIn_bad (i : In) : okIn i = (isTime i.time && (decide (i.free.length = i.size.length) && (decide (i.free.length ≤ 8) && !badW (i.free ++ i.size ++ [i.files, i.folders, i.unique])))) := by
  unfold okIn badW
  rw [← List.append_assoc, List.all_eq_not_any_not]
end Vs

set_option maxHeartbeats 6400000 in
set_option maxRecDepth 100000 in
/-- information. -/
theorem information_any (i : Vs.In) (vf vz : Value) (w : World) (hf : Kit.RowS w vf (Kit.izs i.free)) (hz : Kit.RowS w vz (Kit.izs i.size)) (hlf : i.free.length ≤ 100000) (hlz : i.size.length ≤ 100000) :
    Calls Tryz.prog 108 #[.agg (Vs.inC i vf vz)] w fun e w' => e = .returned (.bool (Vs.okIn i)) ∧ Below w.heap.size w w' := by
  have HOK := Lib.hid (Vs.okIn_bad i)
  have CT := Lib.hid (fun W => timed_any i.time W)
  have HF := Lib.hid hf
  have HZ := Lib.hid hz
  obtain ⟨⟨Af, cf, rfl, hcf, hmf, _⟩, _⟩ := hf
  obtain ⟨⟨Az, cz, rfl, hcz, hmz, _⟩, _⟩ := hz
  simp only [Kit.izs_length] at *
  obtain ⟨tm, cl, u, fr, sz, fi, fo⟩ := i
  unfold Vs.inC
  simp only [] at *
  generalize Vs.okIn ⟨tm, cl, u, fr, sz, fi, fo⟩ = R at *
  have CC := Lib.hid (fun W b v3 hb hc0 hc1 hc2 h1 h2 h3 => concat3_any b (.slice Af fr.length cf) (.slice Az sz.length cz) v3 fr sz [fi, fo, u] W hb hc0 hc1 hc2 h1 h2 h3 (by simp; omega) (by simp))
  have CX := Lib.hid (fun v W h => containsInts_any v (fr ++ sz ++ [fi, fo, u]) W h (by simp; omega))
  have hb1 := (Below.refl w.heap.size w).alloc (Nat.le_refl _) (.cells #[.int .i64 tm, .bool cl, .int .i64 u, .slice Af fr.length cf, .slice Az sz.length cz, .int .i64 fi, .int .i64 fo] 71)
  have HN1 := Lib.hid (heap_alloc_new w (.cells #[.int .i64 tm, .bool cl, .int .i64 u, .slice Af fr.length cf, .slice Az sz.length cz, .int .i64 fi, .int .i64 fo] 71))
  have HS1 := Lib.hid (show (w.alloc (.cells #[.int .i64 tm, .bool cl, .int .i64 u, .slice Af fr.length cf, .slice Az sz.length cz, .int .i64 fi, .int .i64 fo] 71)).heap.size = w.heap.size + 1 by simp)
  have HB1 := Lib.hid hb1
  clear hb1 hcf hcz hmf hmz
  go_enter Tryz.func108, Tryz.ntmps108
  go_upto_region 1 with fail
  generalize w.alloc (.cells #[.int .i64 tm, .bool cl, .int .i64 u, .slice Af fr.length cf, .slice Az sz.length cz, .int .i64 fi, .int .i64 fo] 71) = w1 at *
  have c2 := cell_of_row _ _ 2 _ _ _ HN1.out
  have c3 := cell_of_row _ _ 3 _ _ _ HN1.out
  have c4 := cell_of_row _ _ 4 _ _ _ HN1.out
  have c5 := cell_of_row _ _ 5 _ _ _ HN1.out
  have c6 := cell_of_row _ _ 6 _ _ _ HN1.out
  simp only [List.getElem?_toArray, List.getElem?_cons_zero, List.getElem?_cons_succ] at c2 c3 c4 c5 c6
  go_wp2_with fail
  have HR3 := Lib.hid (Kit.RowS.new w1 (Kit.izs [fi, fo, u]) 3 (by simp [Kit.izs]; unfold maxLen; omega))
  have hb2 := (Below.refl w1.heap.size w1).alloc (Nat.le_refl _) (.cells #[.int .i64 fi, .int .i64 fo, .int .i64 u] 3)
  have hs2 : (w1.alloc (.cells #[.int .i64 fi, .int .i64 fo, .int .i64 u] 3)).heap.size = w1.heap.size + 1 := by simp
  have HR3' := Lib.hid (show Kit.RowS (w1.alloc (.cells #[.int .i64 fi, .int .i64 fo, .int .i64 u] 3)) (.slice (some ⟨w1.heap.size, 0, none⟩) 3 3) (Kit.izs [fi, fo, u]) from HR3.out)
  clear HR3 c2 c3 c4 c5 c6
  generalize w1.alloc (.cells #[.int .i64 fi, .int .i64 fo, .int .i64 u] 3) = w2 at *
  have hb3 := (Below.refl w2.heap.size w2).alloc (Nat.le_refl _) (.cells #[.slice Af fr.length cf, .slice Az sz.length cz, .slice (some ⟨w1.heap.size, 0, none⟩) 3 3] 34)
  have HN3 := Lib.hid (heap_alloc_new w2 (.cells #[.slice Af fr.length cf, .slice Az sz.length cz, .slice (some ⟨w1.heap.size, 0, none⟩) 3 3] 34))
  have hs3 : (w2.alloc (.cells #[.slice Af fr.length cf, .slice Az sz.length cz, .slice (some ⟨w1.heap.size, 0, none⟩) 3 3] 34)).heap.size = w2.heap.size + 1 := by simp
  have HB2 := Lib.hid (HB1.out.trans (hb2.mono HB1.out.size))
  have HB3 := Lib.hid (HB2.out.trans (hb3.mono HB2.out.size))
  have HNb := Lib.hid (((hb2.trans (hb3.mono hb2.size)).block w.heap.size (by rw [HS1.out]; omega)).trans HN1.out)
  have HRc := Lib.hid (HR3'.out.below hb3)
  generalize w2.alloc (.cells #[.slice Af fr.length cf, .slice Az sz.length cz, .slice (some ⟨w1.heap.size, 0, none⟩) 3 3] 34) = w3 at *
  rw [hs2] at HN3 hs3
  have d0 := cell_of_row _ _ 0 _ _ _ HN3.out
  have d1 := cell_of_row _ _ 1 _ _ _ HN3.out
  have d2 := cell_of_row _ _ 2 _ _ _ HN3.out
  simp only [List.getElem?_toArray, List.getElem?_cons_zero, List.getElem?_cons_succ] at d0 d1 d2
  with_reducible refine (CC.out w3 (w1.heap.size + 1) _ (by omega) d0 d1 d2 (HF.out.below HB3.out) (HZ.out.below HB3.out) HRc.out).mono ?_
  rintro e w4 ⟨v4, rfl, ho4, hb4⟩
  have HB4 := Lib.hid (HB3.out.trans (hb4.mono HB3.out.size))
  have HN4 := Lib.hid ((hb4.block w.heap.size (by have := HS1.out; have := hb2.size; omega)).trans HNb.out)
  have HR4 := Lib.hid (Kit.Row.of_own ho4)
  clear ho4 hb4 hb2 hb3 hs2 hs3 d0 d1 d2 HRc HNb HN3 HN1 HB1 HB2 HB3 HR3' HF HZ CC HS1
  have CX2 := Lib.hid (CX.out v4 w4 HR4.out)
  clear CX HR4
  have c0 := cell_of_row _ _ 0 _ _ _ HN4.out
  have c3 := cell_of_row _ _ 3 _ _ _ HN4.out
  have c4 := cell_of_row _ _ 4 _ _ _ HN4.out
  simp only [List.getElem?_toArray, List.getElem?_cons_zero, List.getElem?_cons_succ] at c0 c3 c4
  generalize Vs.isTime tm = t at *
  generalize Vs.badW (fr ++ sz ++ [fi, fo, u]) = bd at *
  generalize fr.length = nf at *
  generalize sz.length = nz at *
  cases t with
  | false =>
    rw [Bool.false_and] at HOK
    go_wp2_with (with_reducible refine (CT.out _).mono ?_; rintro e wx ⟨rfl, hw⟩; subst hw)
    go_ret
    exact ⟨by first | (rw [HOK.out]; rfl) | rw [HOK.out], HB4.out⟩
  | true =>
  rw [Bool.true_and] at HOK
  by_cases h1 : nf = nz
  case neg =>
    have e1 : ((nf : Int) == (nz : Int)) = false := by rw [beq_eq_false_iff_ne]; omega
    rw [decide_eq_false h1, Bool.false_and] at HOK
    clear h1
    go_wp2_with (with_reducible refine (CT.out _).mono ?_; rintro e wx ⟨rfl, hw⟩; subst hw)
    go_ret
    exact ⟨by first | (rw [HOK.out]; rfl) | rw [HOK.out], HB4.out⟩
  have e1 : ((nf : Int) == (nz : Int)) = true := by rw [beq_iff_eq]; omega
  rw [decide_eq_true h1, Bool.true_and] at HOK
  by_cases h2 : nf ≤ 8
  case neg =>
    have e2 : decide ((nf : Int) ≤ 8) = false := decide_eq_false (by omega)
    rw [decide_eq_false h2, Bool.false_and] at HOK
    clear h1 h2
    go_wp2_with (with_reducible refine (CT.out _).mono ?_; rintro e wx ⟨rfl, hw⟩; subst hw)
    go_ret
    exact ⟨by first | (rw [HOK.out]; rfl) | rw [HOK.out], HB4.out⟩
  have e2 : decide ((nf : Int) ≤ 8) = true := decide_eq_true (by omega)
  rw [decide_eq_true h2, Bool.true_and] at HOK
  clear h1 h2
  go_wp2_with (first | (with_reducible refine (CT.out _).mono ?_; rintro e wx ⟨rfl, hw⟩; subst hw) | (with_reducible refine CX2.out.mono ?_; rintro e wx ⟨rfl, hw⟩; subst hw))
  go_ret
  exact ⟨by first | (rw [HOK.out]; rfl) | rw [HOK.out], HB4.out⟩

set_option maxHeartbeats 1600000 in
set_option maxRecDepth 100000 in
/-- slices.Grow of the nil slice by nothing. -/
theorem grow0_any (w : World) : Calls Tryz.prog 164 #[.slice none 0 0, .int .i64 0] w fun e w' => e = .returned (.slice none 0 0) ∧ w = w' := by
  go_enter Tryz.func164, Tryz.ntmps164
  go_wp2_with fail
  go_ret
  exact ⟨rfl, rfl⟩
end Go.Proofs.YthkppbimkjmbnaaGreatDoor
