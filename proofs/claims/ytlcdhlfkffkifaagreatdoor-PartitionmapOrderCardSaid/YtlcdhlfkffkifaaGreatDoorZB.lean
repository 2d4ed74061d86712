/-
  The walks through word, slices.IndexFunc and ContainsFunc over ints, Grow, Concat, and valid of a partition map.
-/
import Derived.Test.YtlcdhlfkffkifaaGreatDoorZA
import Derived.Test.YtlcdhlfkffkifaaGreatDoorShelf
import Derived.Lib.AppendZerosOnto
import Derived.Lib.Walk
import Derived.Lib.SliceRun
namespace Go.Proofs.YtlcdhlfkffkifaaGreatDoor
open Go.RowKit

namespace Pm
/-- Some number is no word. -/
def badW (zs : List Int) : Bool := zs.any fun n => !word n
end Pm
theorem any_snocF {α : Type} [Inhabited α] {p : α → Bool} {l : List α} {i : Nat} (hi : i < l.length) (h : (l.take i).any p = false) (hp : p (l.getD i default) = false) : (l.take (i + 1)).any p = false := by
  rw [List.take_succ_eq_append_getElem hi, List.any_append, h]
  simp [List.getD, hi] at hp
  simp [hp]
theorem any_hit {α : Type} [Inhabited α] {p : α → Bool} {l : List α} {i : Nat} (hi : i < l.length) (hp : p (l.getD i default) = true) : l.any p = true := by
  rw [List.any_eq_true]
  exact ⟨l.getD i default, by simp [List.getD, hi], hp⟩

set_option maxHeartbeats 1600000 in
/-- partitionmap.word. -/
theorem word_any (n : Int) (w : World) : Calls Tryz.prog 75 #[.int .i64 n] w fun e w' => e = .returned (.bool (Pm.word n)) ∧ w = w' := by
  unfold Pm.word
  by_cases h0 : 0 ≤ n
  · go_enter Tryz.func75, Tryz.ntmps75
    go_wp2
    go_ret
    refine ⟨congrArg (fun b => Ending.returned (.bool b)) ?_, rfl⟩
    simp [h0]
  · have h0' : decide (0 ≤ n) = false := by simpa using h0
    rw [h0']
    go_enter Tryz.func75, Tryz.ntmps75
    go_wp2
    go_ret
    exact ⟨rfl, rfl⟩

set_option maxHeartbeats 1600000 in
/-- partitionmap.valid$1. -/
theorem notWord_any (n : Int) (w : World) : Calls Tryz.prog 74 #[.int .i64 n] w fun e w' => e = .returned (.bool (!Pm.word n)) ∧ w = w' := by
  have CW := Lib.hid (fun W => word_any n W)
  generalize Pm.word n = b at *
  go_enter Tryz.func74, Tryz.ntmps74
  go_wp2_with fail
  with_reducible refine (CW.out _).mono ?_
  rintro e w2 ⟨rfl, rfl⟩
  go_wp2_with fail
  go_ret
  exact ⟨rfl, rfl⟩

set_option maxHeartbeats 1600000 in
set_option maxRecDepth 100000 in
/-- slices.IndexFunc over ints, asked for what is no word. -/
theorem indexInts_any (v : Value) (zs : List Int) (w : World) (hr : Kit.Row w v (Kit.izs zs)) (hl : zs.length ≤ 9223372036854775807) :
    Calls Tryz.prog 96 #[v, .func (.func 74) #[] #[]] w fun e w' => ∃ r : Int, e = .returned (.int .i64 r) ∧ -1 ≤ r ∧ (0 ≤ r ↔ Pm.badW zs = true) ∧ w = w' := by
  have HRow := Lib.hid hr
  obtain ⟨A, c, rfl, hlc, hcm, _⟩ := hr
  rw [Kit.izs_length] at *
  unfold maxLen at hcm
  go_enter Tryz.func96, Tryz.ntmps96
  go_wp2_with fail
  go_loop [5, 8] (fun _ iv => ∃ j : Nat, j ≤ zs.length ∧ iv = .int .i64 j ∧ Hid ((zs.take j).any (fun n => !Pm.word n) = false)) (fun _ iv => zs.length - (intOf iv).toNat)
  case atStart => exact ⟨0, by omega, rfl, Lib.hid rfl⟩
  case round =>
    obtain ⟨j, hj, rfl, HA⟩ := hrel
    by_cases hlt : j < zs.length
    · obtain ⟨b, o, c', hv, hbw, hcj⟩ := HRow.out.at_izs hlt
      obtain ⟨rfl, _, rfl⟩ : A = some ⟨b, o, none⟩ ∧ zs.length = zs.length ∧ c = c' := by simpa using hv
      clear hv
      have CP := Lib.hid (fun W => notWord_any (zs.getD j 0) W)
      cases hp : Pm.word (zs.getD j 0) with
      | true =>
        have HN := Lib.hid (any_snocF (p := fun n => !Pm.word n) hlt HA.out (by simpa [hp] using hp))
        rw [hp] at CP
        clear hp
        generalize zs.getD j 0 = x at *
        go_wp2_with fail
        with_reducible refine (CP.out _).mono ?_
        rintro e w2 ⟨rfl, rfl⟩
        go_wp2_with fail
        go_round
        case rel => exact ⟨j + 1, by omega, by go_num, HN⟩
        case measure => simp [intOf]; omega
      | false =>
        have HN := Lib.hid (show Pm.badW zs = true from any_hit (p := fun n => !Pm.word n) hlt (by simpa [hp] using hp))
        rw [hp] at CP
        clear hp
        generalize zs.getD j 0 = x at *
        go_wp2_with fail
        with_reducible refine (CP.out _).mono ?_
        rintro e w2 ⟨rfl, rfl⟩
        go_wp2_with fail
        go_ret
        exact ⟨_, rfl, by omega, ⟨fun _ => HN.out, fun _ => by omega⟩, rfl⟩
    · obtain rfl : j = zs.length := by omega
      have ha := HA.out
      rw [List.take_length] at ha
      have HH := Lib.hid (show Pm.badW zs = false from ha)
      clear ha
      go_wp2_with fail
      go_ret
      exact ⟨_, rfl, by decide, ⟨fun h => absurd h (by decide), fun h => by rw [HH.out] at h; cases h⟩, rfl⟩

set_option maxHeartbeats 1600000 in
set_option maxRecDepth 100000 in
/-- slices.ContainsFunc over ints, asked for what is no word. -/
theorem containsInts_any (v : Value) (zs : List Int) (w : World) (hr : Kit.Row w v (Kit.izs zs)) (hl : zs.length ≤ 9223372036854775807) :
    Calls Tryz.prog 72 #[v, .func (.func 74) #[] #[]] w fun e w' => e = .returned (.bool (Pm.badW zs)) ∧ w = w' := by
  have CI := Lib.hid (indexInts_any v zs w hr hl)
  obtain ⟨A, c, rfl, _, _, _⟩ := hr
  cases hp : Pm.badW zs with
  | true =>
    rw [hp] at CI
    go_enter Tryz.func72, Tryz.ntmps72
    go_wp2_with fail
    with_reducible refine CI.out.mono ?_
    rintro e w2 ⟨r, rfl, hr, hi, rfl⟩
    have hr0 : 0 ≤ r := hi.2 (by first | rfl | trivial)
    clear hi
    go_wp2_with fail
    go_ret
    first | exact ⟨rfl, rfl⟩ | (refine ⟨congrArg (fun b => Ending.returned (.bool b)) ?_, rfl⟩; simp <;> omega)
  | false =>
    rw [hp] at CI
    go_enter Tryz.func72, Tryz.ntmps72
    go_wp2_with fail
    with_reducible refine CI.out.mono ?_
    rintro e w2 ⟨r, rfl, hr, hi, rfl⟩
    have hr0 : r < 0 := by
      rcases Int.lt_or_le r 0 with h | h
      · exact h
      · have := hi.1 h; cases this
    clear hi
    go_wp2_with fail
    go_ret
    first | exact ⟨rfl, rfl⟩ | (refine ⟨congrArg (fun b => Ending.returned (.bool b)) ?_, rfl⟩; simp <;> omega)

set_option maxHeartbeats 1600000 in
set_option maxRecDepth 100000 in
/-- slices.Grow of the nil slice. -/
theorem grow_any (n : Nat) (h1 : 1 ≤ n) (h2 : n ≤ 17592186044416) (w : World) : Calls Tryz.prog 97 #[.slice none 0 0, .int .i64 (n : Int)] w fun e w' => ∃ v', e = .returned v' ∧ w'.ownsRow w.heap.size 3 1 v' 0 [] ∧ Below w.heap.size w w' := by
  obtain ⟨i0, hi, hz0, hz1, hz2⟩ := info_parts intInfo
  have hrz : ∀ ty, (Builtin.append_ #[32, 3] ty #[.slice none 0 0, .int .i64 (n : Int)]).run Tryz.prog w =
      .ok (.slice (some ⟨w.heap.size, 0, none⟩) n (grownCap w n 0 3)) (w.drew.alloc (.cells (#[] ++ Builtin.zeroCells (Value.int .i64 0).cells n ++ Builtin.zeroCells (Value.int .i64 0).cells (grownCap w n 0 3 - n)) 3)) := fun ty => by
    have h := Lib.run_append_grow_zeros (P := Tryz.prog) w 32 3 ty 3 i0 (.int .i64 0) .i64 .i64 Tryz.underlying32 Tryz.underlying3 hi hz0 none 0 0 [] (run_firstCells_none w.drew i0.size 0 0 0) n (by omega) (by omega) (by omega) (by omega)
      (by rw [hz2]; omega) (by rw [Nat.zero_add]; exact growslice_fits (by omega) (by rw [hz2]; omega))
    simpa using h
  have hGn : n ≤ grownCap w n 0 3 := grownCap_ge w _ _ _
  have hGm := grownCap_le_maxLen w n 0 3 (by unfold maxLen; omega)
  obtain ⟨G, hG⟩ : ∃ G, G = grownCap w n 0 3 := ⟨_, rfl⟩
  rw [← hG] at hrz hGn hGm
  have hG63 : G ≤ 9223372036854775807 := by unfold maxLen at hGm; omega
  have hcz : (#[] ++ Builtin.zeroCells (Value.int .i64 0).cells n ++ Builtin.zeroCells (Value.int .i64 0).cells (G - n)).size = G := by
    simp [Builtin.zeroCells, Value.cells]; omega
  generalize #[] ++ Builtin.zeroCells (Value.int .i64 0).cells n ++ Builtin.zeroCells (Value.int .i64 0).cells (G - n) = C at *
  clear hG
  have HGm := Lib.hid hGm
  have HC := Lib.hid hcz
  clear hGm hcz
  go_enter Tryz.func97, Tryz.ntmps97
  go_wp2_with (at_builtin; refine Lib.wpList_append_run _ rfl _ _ _ _ rfl _ _ rfl rfl _ _ (hrz _) ?_)
  go_ret
  exact ⟨_, rfl, ⟨by simp, .inr ⟨w.heap.size, G, C, rfl, Nat.le_refl _, heap_alloc_new w _, by omega, HGm.out, by rw [HC.out]; omega, by simp⟩⟩, ((Below.refl _ w).alloc (Nat.le_refl _) _).drew⟩

set_option maxHeartbeats 3200000 in
set_option maxRecDepth 100000 in
/-- slices.Concat of two slices of ints. -/
theorem concat_any (b : Nat) (v1 v2 : Value) (xs ys : List Int) (w : World) (hb : b < w.heap.size) (hc0 : w.cell? ⟨b, 0, none⟩ = some v1) (hc1 : w.cell? ⟨b, 1, none⟩ = some v2)
    (h1 : Kit.RowS w v1 (Kit.izs xs)) (h2 : Kit.RowS w v2 (Kit.izs ys)) (hl : xs.length + ys.length ≤ 17592186044416) (hp : 1 ≤ xs.length + ys.length) :
    Calls Tryz.prog 73 #[.slice (some ⟨b, 0, none⟩) 2 2] w fun e w' => ∃ v', e = .returned v' ∧ w'.ownsRow w.heap.size 3 1 v' (xs.length + ys.length) (Kit.izs (xs ++ ys)) ∧ Below w.heap.size w w' := by
  have cg := fun W => grow_any (xs.length + ys.length) hp hl W
  simp only [Int.natCast_add] at cg
  have CG := Lib.hid cg
  clear cg
  have H1 := Lib.hid h1
  have H2 := Lib.hid h2
  obtain ⟨⟨A1, c1, rfl, hl1, hm1, _⟩, _⟩ := h1
  obtain ⟨⟨A2, c2, rfl, hl2, hm2, _⟩, _⟩ := h2
  rw [Kit.izs_length] at *
  unfold maxLen at hm1 hm2
  go_enter Tryz.func73, Tryz.ntmps73
  go_wp2_with fail
  go_loop [3, 5, 11] (fun nv _ iv => ∃ j : Nat, j ≤ 2 ∧ iv = .int .i64 j ∧ nv = .int .i64 (if j = 0 then 0 else if j = 1 then xs.length else xs.length + ys.length : Nat)) (fun _ _ iv => 2 - (intOf iv).toNat)
  case atStart => exact ⟨0, by omega, rfl, rfl⟩
  case round =>
    obtain ⟨j, hj, rfl, rfl⟩ := hrel
    have hj3 : j = 0 ∨ j = 1 ∨ j = 2 := by omega
    rcases hj3 with rfl | rfl | rfl
    · rw [if_pos rfl]
      go_wp2_with fail
      go_round
      case rel => exact ⟨1, by omega, by first | rfl | go_num, by simp⟩
      case measure => simp [intOf]
    · rw [if_neg (by omega), if_pos rfl]
      go_wp2_with fail
      go_round
      case rel => exact ⟨2, by omega, by first | rfl | go_num, by simp⟩
      case measure => simp [intOf]
    · rw [if_neg (by omega), if_neg (by omega)]
      go_wp2_with fail
      with_reducible refine (CG.out _).mono ?_
      rintro e w3 ⟨v3, rfl, hown3, hb3⟩
      obtain ⟨HC0, HC1, HB3, HO3⟩ : Hid (w3.cell? ⟨b, 0, none⟩ = some (.slice A1 xs.length c1)) ∧ Hid (w3.cell? ⟨b, 1, none⟩ = some (.slice A2 ys.length c2)) ∧ Hid (Below w.heap.size w w3) ∧ Hid (w3.ownsRow w.heap.size 3 1 v3 0 []) :=
        ⟨(hb3.cell (p := ⟨b, 0, none⟩) hb).trans hc0, (hb3.cell (p := ⟨b, 1, none⟩) hb).trans hc1, hb3, hown3⟩
      clear hc0 hc1 hown3 hb3
      go_wp2_with fail
      go_loopw [6, 8, 27] (fun nv _ iv wr => ∃ j : Nat, j ≤ 2 ∧ iv = .int .i64 j ∧ wr.ownsRow w.heap.size 3 1 nv (if j = 0 then 0 else if j = 1 then xs.length else xs.length + ys.length) (if j = 0 then [] else if j = 1 then Kit.izs xs else Kit.izs (xs ++ ys)) ∧ Below w.heap.size w wr) (fun _ _ iv _ => 2 - (intOf iv).toNat)
      case atStart => exact ⟨0, by omega, rfl, HO3.out, HB3.out⟩
      case round =>
        obtain ⟨j, hj, rfl, hown, hbw⟩ := hrel
        have HOWN := Lib.hid hown
        clear hown
        have hsz := hbw.size
        have hj3 : j = 0 ∨ j = 1 ∨ j = 2 := by omega
        rcases hj3 with rfl | rfl | rfl
        · have hc := (hbw.cell (p := ⟨b, 0, none⟩) hb).trans ((HB3.out.cell (p := ⟨b, 0, none⟩) hb).symm.trans HC0.out)
          have HR1 := Lib.hid (H1.out.below hbw)
          rw [if_pos rfl, if_pos rfl] at HOWN
          clear hj
          go_wp2_with (at_builtin; refine Kit.appRow intInfo rfl (by decide) rfl _ _ 32 rfl Tryz.underlying32 w.heap.size _ _ _ rfl HOWN.out _ _ rfl HR1.out (Kit.one_izs _) ?c1 hsz ?_)
          case c1 => rw [Kit.izs_length]; omega
          intro v' w4 hown' hb4
          simp only [Kit.izs_length] at hown'
          have HO4 := Lib.hid hown'
          clear hown'
          go_wp2_with fail
          go_roundw
          case rel => exact ⟨1, by omega, by first | rfl | go_num, HO4.out, hbw.trans hb4⟩
          case measure => simp [intOf]
        · have hc := (hbw.cell (p := ⟨b, 1, none⟩) hb).trans ((HB3.out.cell (p := ⟨b, 1, none⟩) hb).symm.trans HC1.out)
          have HR1 := Lib.hid (H2.out.below hbw)
          rw [if_neg (by omega), if_pos rfl, if_neg (by omega), if_pos rfl] at HOWN
          clear hj
          go_wp2_with (at_builtin; refine Kit.appRow intInfo rfl (by decide) rfl _ _ 32 rfl Tryz.underlying32 w.heap.size _ _ _ rfl HOWN.out _ _ rfl HR1.out (Kit.one_izs _) ?c2 hsz ?_)
          case c2 => rw [Kit.izs_length]; omega
          intro v' w4 hown' hb4
          simp only [Kit.izs_length, ← Kit.izs_append] at hown'
          have HO4 := Lib.hid hown'
          clear hown'
          go_wp2_with fail
          go_roundw
          case rel => exact ⟨2, by omega, by first | rfl | go_num, HO4.out, hbw.trans hb4⟩
          case measure => simp [intOf]
        · rw [if_neg (by omega), if_neg (by omega), if_neg (by omega), if_neg (by omega)] at HOWN
          go_wp2_with fail
          go_ret
          exact ⟨_, rfl, HOWN.out, hbw⟩
end Go.Proofs.YtlcdhlfkffkifaaGreatDoor

/-
  The walk through partitionmap.valid.
-/
namespace Go.Proofs.YtlcdhlfkffkifaaGreatDoor
open Go.RowKit
namespace Pm
/-- A map as a value, its tables a slice. -/
def pmV (x : M) (tv : Value) : Value := .agg #[.int .i64 x.kind, .int .i64 x.number, tv, .int .i64 x.file, .int .i64 x.mirror, .int .i64 x.bitmap]
/-- All numbers are of the type int. -/
structure I64 (x : M) : Prop where
  kind : -9223372036854775808 ≤ x.kind ∧ x.kind ≤ 9223372036854775807
  number : -9223372036854775808 ≤ x.number ∧ x.number ≤ 9223372036854775807
  file : -9223372036854775808 ≤ x.file ∧ x.file ≤ 9223372036854775807
  mirror : -9223372036854775808 ≤ x.mirror ∧ x.mirror ≤ 9223372036854775807
  bitmap : -9223372036854775808 ≤ x.bitmap ∧ x.bitmap ≤ 9223372036854775807
def three (x : M) : Bool := decide (x.file = 0) && (decide (x.mirror = 0) && decide (x.bitmap = 0))
theorem valid_no1 {x : M} (h : x.kind < 0 ∨ 3 < x.kind ∨ x.number < 0 ∨ 65535 < x.number) : valid x = false := by
  rw [Bool.eq_false_iff]; intro hv
  simp only [valid, Bool.and_eq_true, decide_eq_true_eq] at hv
  omega
theorem valid_no2 {x : M} (hk : x.kind = 2) (h : x.tables.length < 1 ∨ 4 < x.tables.length) : valid x = false := by
  rw [Bool.eq_false_iff]; intro hv
  simp only [valid, Bool.and_eq_true, decide_eq_true_eq, if_pos hk] at hv
  omega
theorem valid_no3 {x : M} (hk : ¬ x.kind = 2) (h : 0 < x.tables.length) : valid x = false := by
  rw [Bool.eq_false_iff]; intro hv
  simp only [valid, Bool.and_eq_true, decide_eq_true_eq, if_neg hk] at hv
  omega
theorem valid_no4 {x : M} (hk : ¬ x.kind = 3) (h : three x = false) : valid x = false := by
  rw [Bool.eq_false_iff]; intro hv
  simp only [valid, Bool.and_eq_true, if_neg hk] at hv
  unfold three at h
  rw [← Bool.and_eq_true, ← Bool.and_eq_true] at hv
  simp_all
theorem valid_yes {x : M} (h1 : 0 ≤ x.kind ∧ x.kind ≤ 3 ∧ 0 ≤ x.number ∧ x.number ≤ 65535) (h2 : if x.kind = 2 then 1 ≤ x.tables.length ∧ x.tables.length ≤ 4 else x.tables.length = 0)
    (h3 : x.kind = 3 ∨ three x = true) : valid x = !badW (x.tables ++ [x.file, x.mirror, x.bitmap]) := by
  unfold valid badW
  rw [decide_eq_true h1.1, decide_eq_true h1.2.1, decide_eq_true h1.2.2.1, decide_eq_true h1.2.2.2]
  have e2 : (if x.kind = 2 then decide (1 ≤ x.tables.length) && decide (x.tables.length ≤ 4) else decide (x.tables.length = 0)) = true := by
    split at h2
    · rename_i hk; rw [if_pos hk]; simp [h2]
    · rename_i hk; rw [if_neg hk]; simp [h2]
  have e3 : (if x.kind = 3 then true else decide (x.file = 0) && (decide (x.mirror = 0) && decide (x.bitmap = 0))) = true := by
    rcases h3 with h3 | h3
    · rw [if_pos h3]
    · split
      · rfl
      · exact h3
  rw [e2, e3]
  simp [List.any_append, List.not_any_eq_all_not, Bool.and_assoc]
theorem or_zero {a b : Int} (ha : -9223372036854775808 ≤ a ∧ a ≤ 9223372036854775807) (hb : -9223372036854775808 ≤ b ∧ b ≤ 9223372036854775807) : bits BinOp.or IntKind.i64 a b = 0 ↔ a = 0 ∧ b = 0 := by
  have of0 : ∀ z : Int, -9223372036854775808 ≤ z ∧ z ≤ 9223372036854775807 → ((BitVec.ofInt 64 z).toNat = 0 ↔ z = 0) := by
    intro z hz
    rw [BitVec.toNat_ofInt]
    have : ((2 : Nat) ^ 64 : Int) = 18446744073709551616 := by decide
    omega
  show IntKind.i64.wrap ((BitVec.ofInt 64 a ||| BitVec.ofInt 64 b).toNat : Int) = 0 ↔ _
  rw [IntKind.wrap_i64, ← of0 a ha, ← of0 b hb, BitVec.toNat_or]
  generalize hA : BitVec.ofInt 64 a = A
  generalize hB : BitVec.ofInt 64 b = B
  have hlt : A.toNat ||| B.toNat < 18446744073709551616 := Nat.or_lt_two_pow (n := 64) A.isLt B.isLt
  have hor : A.toNat ||| B.toNat = 0 ↔ A.toNat = 0 ∧ B.toNat = 0 := Nat.or_eq_zero_iff
  omega
theorem or_range (a b : Int) : -9223372036854775808 ≤ bits BinOp.or IntKind.i64 a b ∧ bits BinOp.or IntKind.i64 a b ≤ 9223372036854775807 := by
  show -9223372036854775808 ≤ IntKind.i64.wrap _ ∧ IntKind.i64.wrap _ ≤ 9223372036854775807
  rw [IntKind.wrap_i64]
  omega
theorem or_three {x : M} (h : I64 x) : (bits BinOp.or IntKind.i64 (bits BinOp.or IntKind.i64 x.file x.mirror) x.bitmap != 0) = !three x := by
  have h1 := or_zero h.file h.mirror
  have h2 := or_zero (or_range x.file x.mirror) h.bitmap
  unfold three
  rw [Bool.eq_iff_iff]
  simp only [bne_iff_ne, ne_eq, h2, h1, Bool.not_eq_true', Bool.and_eq_false_iff, decide_eq_false_iff_not]
  omega
end Pm

theorem concat_at (w : World) (bx : Obj) (tv : Value) (t : List Int) (f m b : Int) (hr : Kit.RowS w tv (Kit.izs t)) (hl : t.length ≤ 17592186044413) :
    Calls Tryz.prog 73 #[.slice (some ⟨w.heap.size + 1 + 1, 0, none⟩) 2 2] (((w.alloc bx).alloc (.cells #[.int .i64 f, .int .i64 m, .int .i64 b] 3)).alloc (.cells #[tv, .slice (some ⟨w.heap.size + 1, 0, none⟩) 3 3] 32)) fun e w' =>
      ∃ v', e = .returned v' ∧ Kit.Row w' v' (Kit.izs (t ++ [f, m, b])) ∧ Below w.heap.size w w' := by
  have hb1 : Below w.heap.size w (((w.alloc bx).alloc (.cells #[.int .i64 f, .int .i64 m, .int .i64 b] 3)).alloc (.cells #[tv, .slice (some ⟨w.heap.size + 1, 0, none⟩) 3 3] 32)) :=
    (((Below.refl _ w).alloc (Nat.le_refl _) _).alloc (by simp) _).alloc (by simp <;> omega) _
  have h2 : Kit.RowS ((w.alloc bx).alloc (.cells #[.int .i64 f, .int .i64 m, .int .i64 b] 3)) (.slice (some ⟨w.heap.size + 1, 0, none⟩) 3 3) (Kit.izs [f, m, b]) := by
    have := Kit.RowS.new (w.alloc bx) (Kit.izs [f, m, b]) 3 (by simp [Kit.izs, maxLen])
    simpa [Kit.izs] using this
  have := concat_any (w.heap.size + 1 + 1) tv (.slice (some ⟨w.heap.size + 1, 0, none⟩) 3 3) t [f, m, b] (((w.alloc bx).alloc (.cells #[.int .i64 f, .int .i64 m, .int .i64 b] 3)).alloc (.cells #[tv, .slice (some ⟨w.heap.size + 1, 0, none⟩) 3 3] 32))
    (by simp) (by rw [World.cell?_alloc_at _ _ _ _ (by simp)]; simp) (by rw [World.cell?_alloc_at _ _ _ _ (by simp)]; simp) (hr.below hb1) (h2.below ((Below.refl _ _).alloc (Nat.le_refl _) _)) (by simp <;> omega) (by simp <;> omega)
  refine this.mono fun e w' ⟨v', he, ho, hb⟩ => ⟨v', he, Kit.Row.of_own ho, hb1.trans (hb.mono (by simp <;> omega))⟩

set_option maxHeartbeats 6400000 in
set_option maxRecDepth 100000 in
/-- partitionmap.valid. -/
theorem valid_any (x : Pm.M) (tv : Value) (w : World) (hr : Kit.RowS w tv (Kit.izs x.tables)) (hx : Pm.I64 x) (hl : x.tables.length ≤ 17592186044413) :
    Calls Tryz.prog 49 #[Pm.pmV x tv] w fun e w' => e = .returned (.bool (Pm.valid x)) ∧ Below w.heap.size w w' := by
  have HRow := Lib.hid hr
  have hor := Pm.or_three hx
  have hv1 := @Pm.valid_no1 x
  have hv2 := @Pm.valid_no2 x
  have hv3 := @Pm.valid_no3 x
  have hv4 := @Pm.valid_no4 x
  have hv5 := @Pm.valid_yes x
  have hb1 := hx.kind; have hb2 := hx.number
  unfold Pm.pmV
  obtain ⟨k, n, t, f, m, b⟩ := x
  simp only [] at *
  obtain ⟨⟨A, c, rfl, hlc, hcm, _⟩, _⟩ := hr
  rw [Kit.izs_length] at *
  unfold maxLen at hcm
  generalize Pm.valid ⟨k, n, t, f, m, b⟩ = V at *
  generalize Pm.three ⟨k, n, t, f, m, b⟩ = T at *
  by_cases g1 : k < 0 ∨ 3 < k ∨ n < 0 ∨ 65535 < n
  · have HV := Lib.hid (hv1 g1)
    clear hv1 hv2 hv3 hv4 hv5 hor
    have hcs : k < 0 ∨ (¬ k < 0 ∧ 3 < k) ∨ (¬ k < 0 ∧ ¬ 3 < k ∧ n < 0) ∨ (¬ k < 0 ∧ ¬ 3 < k ∧ ¬ n < 0 ∧ 65535 < n) := by omega
    clear g1
    rcases hcs with k1 | ⟨k1, k2⟩ | ⟨k1, k2, k3⟩ | ⟨k1, k2, k3, k4⟩
    all_goals
      go_enter Tryz.func49, Tryz.ntmps49
      go_wp2
      go_ret
      rw [HV.out]
      exact ⟨rfl, (Below.refl _ _).alloc (Nat.le_refl _) _⟩
  · have k1 : 0 ≤ k := by omega
    have k2 : k ≤ 3 := by omega
    have k3 : 0 ≤ n := by omega
    have k4 : n ≤ 65535 := by omega
    have d1 : decide (k < 0) = false := decide_eq_false (by omega)
    have d2 : decide (3 < k) = false := decide_eq_false (by omega)
    have d3 : decide (n < 0) = false := decide_eq_false (by omega)
    have d4 : decide (65535 < n) = false := decide_eq_false (by omega)
    clear g1 hv1
    by_cases hk2 : k = 2
    · by_cases g2 : t.length < 1 ∨ 4 < t.length
      · have HV := Lib.hid (hv2 hk2 g2)
        clear hv2 hv3 hv4 hv5 hor
        subst hk2
        have hcs : (t.length : Int) < 1 ∨ (¬ (t.length : Int) < 1 ∧ 4 < (t.length : Int)) := by omega
        clear g2
        rcases hcs with k5 | ⟨k5, k6⟩
        all_goals
          go_enter Tryz.func49, Tryz.ntmps49
          go_wp2_with fail
          go_ret
          rw [HV.out]
          exact ⟨rfl, (Below.refl _ _).alloc (Nat.le_refl _) _⟩
      · have k5 : 1 ≤ t.length := by omega
        have k6 : t.length ≤ 4 := by omega
        have d5 : decide ((t.length : Int) < 1) = false := decide_eq_false (by omega)
        have d6 : decide (4 < (t.length : Int)) = false := decide_eq_false (by omega)
        cases T with
        | false =>
          have HV := Lib.hid (hv4 (by omega) rfl)
          simp only [Bool.not_false] at hor
          clear hv2 hv3 hv4 hv5 g2
          subst hk2
          go_enter Tryz.func49, Tryz.ntmps49
          go_wp2_with fail
          go_ret
          rw [HV.out]
          exact ⟨rfl, (Below.refl _ _).alloc (Nat.le_refl _) _⟩
        | true =>
          have HV := Lib.hid (hv5 ⟨k1, k2, k3, k4⟩ (by rw [if_pos hk2]; exact ⟨k5, k6⟩) (.inr rfl))
          simp only [Bool.not_true] at hor
          clear hv2 hv3 hv4 hv5 g2
          subst hk2
          have CA := Lib.hid (concat_at w (.cells #[.int .i64 2, .int .i64 n, .slice A t.length c, .int .i64 f, .int .i64 m, .int .i64 b] 59) _ t f m b HRow.out hl)
          have hl3 : (t ++ [f, m, b]).length ≤ 9223372036854775807 := by simp <;> omega
          clear HRow hlc hcm hl hx hb1 hb2
          go_enter Tryz.func49, Tryz.ntmps49
          go_wp2_with fail
          with_reducible refine CA.out.mono ?_
          rintro e w3 ⟨v3, rfl, hr3, hb3⟩
          have CB := Lib.hid (containsInts_any v3 _ w3 hr3 hl3)
          generalize Pm.badW (t ++ [f, m, b]) = q at CB HV
          clear hr3
          go_wp2_with fail
          with_reducible refine CB.out.mono ?_
          rintro e w4 ⟨rfl, rfl⟩
          go_wp2_with fail
          go_ret
          rw [HV.out]
          exact ⟨rfl, hb3⟩
    · have d7 : (k == 2) = false := by rw [beq_eq_false_iff_ne]; exact hk2
      by_cases g2 : 0 < t.length
      · have HV := Lib.hid (hv3 hk2 g2)
        clear hv2 hv3 hv4 hv5 hor
        have k5 : 0 < (t.length : Int) := by omega
        have d8 : decide (0 < (t.length : Int)) = true := decide_eq_true k5
        clear g2 hk2
        go_enter Tryz.func49, Tryz.ntmps49
        go_wp2_with fail
        go_ret
        rw [HV.out]
        exact ⟨rfl, (Below.refl _ _).alloc (Nat.le_refl _) _⟩
      · obtain rfl : t = [] := List.eq_nil_of_length_eq_zero (by omega)
        clear g2
        by_cases hk3 : k = 3
        · have HV := Lib.hid (hv5 ⟨k1, k2, k3, k4⟩ (by rw [if_neg hk2]; rfl) (.inl hk3))
          clear hv2 hv3 hv4 hv5 hor
          subst hk3
          clear hk2
          simp only [List.length_nil] at *
          have hz : ((0 : Nat) : Int) = 0 := rfl
          clear hz
          have CA := Lib.hid (concat_at w (.cells #[.int .i64 3, .int .i64 n, .slice A 0 c, .int .i64 f, .int .i64 m, .int .i64 b] 59) _ [] f m b HRow.out hl)
          have hl3 : (([] : List Int) ++ [f, m, b]).length ≤ 9223372036854775807 := by simp <;> omega
          clear HRow hlc hcm hl hx hb1 hb2
          go_enter Tryz.func49, Tryz.ntmps49
          go_wp2_with fail
          with_reducible refine CA.out.mono ?_
          rintro e w3 ⟨v3, rfl, hr3, hb3⟩
          have CB := Lib.hid (containsInts_any v3 _ w3 hr3 hl3)
          generalize Pm.badW (([] : List Int) ++ [f, m, b]) = q at CB HV
          clear hr3
          go_wp2_with fail
          with_reducible refine CB.out.mono ?_
          rintro e w4 ⟨rfl, rfl⟩
          go_wp2_with fail
          go_ret
          rw [HV.out]
          exact ⟨rfl, hb3⟩
        · have d9 : (k != 3) = true := by rw [bne_iff_ne]; exact hk3
          cases T with
          | false =>
            have HV := Lib.hid (hv4 hk3 rfl)
            simp only [Bool.not_false] at hor
            clear hv2 hv3 hv4 hv5 hk2 hk3
            simp only [List.length_nil] at *
            go_enter Tryz.func49, Tryz.ntmps49
            go_wp2_with fail
            go_ret
            rw [HV.out]
            exact ⟨rfl, (Below.refl _ _).alloc (Nat.le_refl _) _⟩
          | true =>
            have HV := Lib.hid (hv5 ⟨k1, k2, k3, k4⟩ (by rw [if_neg hk2]; rfl) (.inr rfl))
            simp only [Bool.not_true] at hor
            clear hv2 hv3 hv4 hv5 hk2 hk3
            simp only [List.length_nil] at *
            have CA := Lib.hid (concat_at w (.cells #[.int .i64 k, .int .i64 n, .slice A 0 c, .int .i64 f, .int .i64 m, .int .i64 b] 59) _ [] f m b HRow.out hl)
            have hl3 : (([] : List Int) ++ [f, m, b]).length ≤ 9223372036854775807 := by simp <;> omega
            clear HRow hlc hcm hl hx hb1 hb2
            go_enter Tryz.func49, Tryz.ntmps49
            go_wp2_with fail
            with_reducible refine CA.out.mono ?_
            rintro e w3 ⟨v3, rfl, hr3, hb3⟩
            have CB := Lib.hid (containsInts_any v3 _ w3 hr3 hl3)
            generalize Pm.badW (([] : List Int) ++ [f, m, b]) = q at CB HV
            clear hr3
            go_wp2_with fail
            with_reducible refine CB.out.mono ?_
            rintro e w4 ⟨rfl, rfl⟩
            go_wp2_with fail
            go_ret
            rw [HV.out]
            exact ⟨rfl, hb3⟩
end Go.Proofs.YtlcdhlfkffkifaaGreatDoor

/-
  Slices of partition maps: all of them valid?
-/
namespace Go.Proofs.YtlcdhlfkffkifaaGreatDoor
open Go.RowKit
namespace Pm
/-- The cells of a map. -/
def pmC (x : M) (tv : Value) : List Value := [.int .i64 x.kind, .int .i64 x.number, tv, .int .i64 x.file, .int .i64 x.mirror, .int .i64 x.bitmap]
/-- A slice value that reads as maps. -/
structure MapsAt (w : World) (v : Value) (l : List M) (T : Nat → Value) : Prop where
  row : Kit.RowN w v 6 l.length (fun j => pmC (l.getD j none) (T j))
  tabs : ∀ j, j < l.length → Kit.RowS w (T j) (Kit.izs (l.getD j none).tables)
  ints : ∀ j, j < l.length → I64 (l.getD j none)
theorem MapsAt.below {w w' : World} {v : Value} {l : List M} {T : Nat → Value} (h : MapsAt w v l T) (hb : Below w.heap.size w w') : MapsAt w' v l T :=
  ⟨h.row.below hb, fun j hj => (h.tabs j hj).below hb, h.ints⟩
theorem six {w wr : World} {b o j : Nat} {x : M} {tv : Value} (hbl : b < w.heap.size) (hbw : Below w.heap.size w wr) (h : ∀ k u, (pmC x tv)[k]? = some u → w.cell? ⟨b, o + j * 6 + k, Option.none⟩ = some u) :
    wr.cell? ⟨b, o + j * 6, Option.none⟩ = some (.int .i64 x.kind) ∧ wr.cell? ⟨b, o + j * 6 + 1, Option.none⟩ = some (.int .i64 x.number) ∧ wr.cell? ⟨b, o + j * 6 + 2, Option.none⟩ = some tv ∧
    wr.cell? ⟨b, o + j * 6 + 3, Option.none⟩ = some (.int .i64 x.file) ∧ wr.cell? ⟨b, o + j * 6 + 4, Option.none⟩ = some (.int .i64 x.mirror) ∧ wr.cell? ⟨b, o + j * 6 + 5, Option.none⟩ = some (.int .i64 x.bitmap) := by
  have g : ∀ k u, (pmC x tv)[k]? = some u → wr.cell? ⟨b, o + j * 6 + k, Option.none⟩ = some u := fun k u hu => (hbw.cell (p := ⟨b, o + j * 6 + k, Option.none⟩) hbl).trans (h k u hu)
  exact ⟨g 0 _ rfl, g 1 _ rfl, g 2 _ rfl, g 3 _ rfl, g 4 _ rfl, g 5 _ rfl⟩
/-- Few maps. -/
def Few (l : List M) : Prop := l.length ≤ 8 ∧ ∀ j, j < l.length → (l.getD j none).tables.length ≤ 8
instance : Inhabited M := ⟨none⟩
end Pm

theorem all_snocM {p : Pm.M → Bool} {l : List Pm.M} {i : Nat} (hi : i < l.length) (h : (l.take i).all p = true) (hp : p (l.getD i Pm.none) = true) : (l.take (i + 1)).all p = true := by
  rw [List.take_succ_eq_append_getElem hi, List.all_append, h]
  simp [List.getD, hi] at hp
  simp [hp]
theorem all_failM {p : Pm.M → Bool} {l : List Pm.M} {i : Nat} (hi : i < l.length) (hp : p (l.getD i Pm.none) = false) : l.all p = false := by
  rw [Bool.eq_false_iff]
  intro h
  have := List.all_eq_true.1 h (l.getD i Pm.none) (by simp [List.getD, hi])
  rw [hp] at this
  cases this

set_option maxHeartbeats 1600000 in
set_option maxRecDepth 100000 in
/-- partitionmap.all$1. -/
theorem notValid_any (x : Pm.M) (tv : Value) (w : World) (hr : Kit.RowS w tv (Kit.izs x.tables)) (hx : Pm.I64 x) (hl : x.tables.length ≤ 17592186044413) :
    Calls Tryz.prog 48 #[Pm.pmV x tv] w fun e w' => e = .returned (.bool (!Pm.valid x)) ∧ Below w.heap.size w w' := by
  have CV := Lib.hid (fun W h => valid_any x tv W h hx hl)
  have HR := Lib.hid (hr.below ((Below.refl _ w).alloc (Nat.le_refl _) (.cells #[.int .i64 x.kind, .int .i64 x.number, tv, .int .i64 x.file, .int .i64 x.mirror, .int .i64 x.bitmap] 59)))
  generalize Pm.valid x = V at *
  unfold Pm.pmV at *
  obtain ⟨⟨A, c, rfl, _, _, _⟩, _⟩ := hr
  obtain ⟨k, n, t, f, m, b⟩ := x
  simp only [] at *
  clear hx hl
  go_enter Tryz.func48, Tryz.ntmps48
  go_wp2_with fail
  with_reducible refine (CV.out _ HR.out).mono ?_
  rintro e w2 ⟨rfl, hb2⟩
  go_wp2_with fail
  go_ret
  exact ⟨rfl, ((Below.refl _ w).alloc (Nat.le_refl _) _).trans (hb2.mono (by simp))⟩

set_option maxHeartbeats 1600000 in
set_option maxRecDepth 100000 in
/-- slices.IndexFunc over maps, asked for what is not valid. -/
theorem indexMaps_any (v : Value) (l : List Pm.M) (T : Nat → Value) (w : World) (hm : Pm.MapsAt w v l T) (hf : Pm.Few l) :
    Calls Tryz.prog 64 #[v, .func (.func 48) #[] #[]] w fun e w' => ∃ r : Int, e = .returned (.int .i64 r) ∧ -1 ≤ r ∧ (0 ≤ r ↔ l.all Pm.valid = false) ∧ Below w.heap.size w w' := by
  have HM := Lib.hid hm
  have HF := Lib.hid hf
  have hl8 := hf.1
  obtain ⟨A, c, rfl, hlc, hcm, hcells⟩ := hm.row
  have HCE := Lib.hid hcells
  clear hcells hm hf
  unfold maxLen at hcm
  go_enter Tryz.func64, Tryz.ntmps64
  go_wp2_with fail
  go_loopw [5, 8] (fun _ iv wr => ∃ j : Nat, j ≤ l.length ∧ iv = .int .i64 j ∧ Hid ((l.take j).all Pm.valid = true) ∧ Below w.heap.size w wr) (fun _ iv _ => l.length - (intOf iv).toNat)
  case atStart => exact ⟨0, by omega, rfl, Lib.hid rfl, Below.refl _ _⟩
  case round =>
    obtain ⟨j, hj, rfl, HA, hbw⟩ := hrel
    by_cases hlt : j < l.length
    · obtain ⟨b, o, rfl, hbl, hc⟩ := HCE.out (by omega)
      obtain ⟨c0, c1, c2, c3, c4, c5⟩ := Pm.six hbl hbw (hc j hlt)
      have hr := (HM.out.tabs j hlt).below hbw
      have CP := Lib.hid (fun W h => notValid_any (l.getD j Pm.none) (T j) W h (HM.out.ints j hlt) (Nat.le_trans (HF.out.2 j hlt) (by decide)))
      have hall := all_snocM (p := Pm.valid) hlt HA.out
      have hfail := all_failM (p := Pm.valid) hlt
      clear hc
      generalize l.getD j Pm.none = x at *
      generalize T j = tv at *
      have HRT := Lib.hid hr
      obtain ⟨⟨A', c', rfl, _, _, _⟩, _⟩ := hr
      unfold Pm.pmV at CP
      cases hp : Pm.valid x with
      | true =>
        have HN := Lib.hid (hall hp)
        rw [hp] at CP
        clear hp hall hfail
        obtain ⟨k, n, t, f, m, bb⟩ := x
        simp only [] at *
        go_wp2_with fail
        with_reducible refine (CP.out _ HRT.out).mono ?_
        rintro e w2 ⟨rfl, hb2⟩
        go_wp2_with fail
        go_roundw
        case rel => exact ⟨j + 1, by omega, by go_num, HN, hbw.trans (hb2.mono hbw.size)⟩
        case measure => simp [intOf]; omega
      | false =>
        have HN := Lib.hid (hfail hp)
        rw [hp] at CP
        clear hp hall hfail
        obtain ⟨k, n, t, f, m, bb⟩ := x
        simp only [] at *
        go_wp2_with fail
        with_reducible refine (CP.out _ HRT.out).mono ?_
        rintro e w2 ⟨rfl, hb2⟩
        go_wp2_with fail
        go_ret
        exact ⟨_, rfl, by omega, ⟨fun _ => HN.out, fun _ => by omega⟩, hbw.trans (hb2.mono hbw.size)⟩
    · obtain rfl : j = l.length := by omega
      have ha := HA.out
      rw [List.take_length] at ha
      have HH := Lib.hid ha
      clear ha
      go_wp2_with fail
      go_ret
      exact ⟨_, rfl, by decide, ⟨fun h => absurd h (by decide), fun h => by rw [HH.out] at h; cases h⟩, hbw⟩

set_option maxHeartbeats 1600000 in
set_option maxRecDepth 100000 in
/-- slices.ContainsFunc over maps, asked for what is not valid. -/
theorem containsMaps_any (v : Value) (l : List Pm.M) (T : Nat → Value) (w : World) (hm : Pm.MapsAt w v l T) (hf : Pm.Few l) :
    Calls Tryz.prog 36 #[v, .func (.func 48) #[] #[]] w fun e w' => e = .returned (.bool (!l.all Pm.valid)) ∧ Below w.heap.size w w' := by
  have CI := Lib.hid (indexMaps_any v l T w hm hf)
  obtain ⟨A, c, rfl, _, _, _⟩ := hm.row
  clear hm hf
  cases hp : l.all Pm.valid with
  | true =>
    rw [hp] at CI
    go_enter Tryz.func36, Tryz.ntmps36
    go_wp2_with fail
    with_reducible refine CI.out.mono ?_
    rintro e w2 ⟨r, rfl, hr, hi, hb2⟩
    have hr0 : r < 0 := by
      rcases Int.lt_or_le r 0 with h | h
      · exact h
      · have := hi.1 h; cases this
    clear hi
    go_wp2_with fail
    go_ret
    first | exact ⟨rfl, hb2⟩ | (refine ⟨congrArg (fun b => Ending.returned (.bool b)) ?_, hb2⟩; simp <;> omega)
  | false =>
    rw [hp] at CI
    go_enter Tryz.func36, Tryz.ntmps36
    go_wp2_with fail
    with_reducible refine CI.out.mono ?_
    rintro e w2 ⟨r, rfl, hr, hi, hb2⟩
    have hr0 : 0 ≤ r := hi.2 (by first | rfl | trivial)
    clear hi
    go_wp2_with fail
    go_ret
    first | exact ⟨rfl, hb2⟩ | (refine ⟨congrArg (fun b => Ending.returned (.bool b)) ?_, hb2⟩; simp <;> omega)

set_option maxHeartbeats 1600000 in
set_option maxRecDepth 100000 in
/-- partitionmap.all. -/
theorem all_any (v : Value) (l : List Pm.M) (T : Nat → Value) (w : World) (hm : Pm.MapsAt w v l T) (hf : Pm.Few l) :
    Calls Tryz.prog 27 #[v] w fun e w' => e = .returned (.bool (Pm.all l)) ∧ Below w.heap.size w w' := by
  have CC := Lib.hid (fun W h => containsMaps_any v l T W h hf)
  have HM := Lib.hid hm
  obtain ⟨A, c, rfl, _, _, _⟩ := hm.row
  clear hm hf
  by_cases h4 : l.length ≤ 4
  · have HR := Lib.hid (show Pm.all l = l.all Pm.valid by unfold Pm.all; rw [decide_eq_true h4]; rfl)
    have d4 : decide ((l.length : Int) ≤ 4) = true := decide_eq_true (by omega)
    generalize l.all Pm.valid = q at *
    go_enter Tryz.func27, Tryz.ntmps27
    go_wp2_with fail
    with_reducible refine (CC.out _ HM.out).mono ?_
    rintro e w2 ⟨rfl, hb2⟩
    go_wp2_with fail
    go_ret
    rw [HR.out]
    cases q <;> exact ⟨rfl, hb2⟩
  · have HR := Lib.hid (show Pm.all l = false by unfold Pm.all; rw [decide_eq_false h4]; rfl)
    have d4 : decide ((l.length : Int) ≤ 4) = false := decide_eq_false (by omega)
    go_enter Tryz.func27, Tryz.ntmps27
    go_wp2_with fail
    go_ret
    rw [HR.out]
    exact ⟨rfl, Below.refl _ _⟩
end Go.Proofs.YtlcdhlfkffkifaaGreatDoor
