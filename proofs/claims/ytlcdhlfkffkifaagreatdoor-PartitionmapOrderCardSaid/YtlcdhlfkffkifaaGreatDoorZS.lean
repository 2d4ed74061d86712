/-
  Slices of extents: well-formed?
-/
import Derived.Test.YtlcdhlfkffkifaaGreatDoorZC
import Derived.Test.YtlcdhlfkffkifaaGreatDoorZA
import Derived.Deep.RegionHeld3
import Derived.Deep.DrawnRows
namespace Go.Proofs.YtlcdhlfkffkifaaGreatDoor
open Go.RowKit
namespace Pm
/-- An extent as a value; its cells. -/
def exV (x : X) : Value := .agg #[.int .i64 x.kind, .int .i64 x.length, .int .i64 x.block, .int .i64 x.part]
def exC (x : X) : List Value := [.int .i64 x.kind, .int .i64 x.length, .int .i64 x.block, .int .i64 x.part]
def x0 : X := ⟨0, 0, 0, 0⟩
/-- A slice value that reads as extents. -/
structure ExtsAt (w : World) (v : Value) (l : List X) : Prop where
  row : Kit.RowN w v 4 l.length (fun j => exC (l.getD j x0))
theorem ExtsAt.below {w w' : World} {v : Value} {l : List X} (h : ExtsAt w v l) (hb : Below w.heap.size w w') : ExtsAt w' v l := ⟨h.row.below hb⟩
theorem four {w wr : World} {b o j : Nat} {x : X} (hbl : b < w.heap.size) (hbw : Below w.heap.size w wr) (h : ∀ k u, (exC x)[k]? = some u → w.cell? ⟨b, o + j * 4 + k, Option.none⟩ = some u) :
    wr.cell? ⟨b, o + j * 4, Option.none⟩ = some (.int .i64 x.kind) ∧ wr.cell? ⟨b, o + j * 4 + 1, Option.none⟩ = some (.int .i64 x.length) ∧
    wr.cell? ⟨b, o + j * 4 + 2, Option.none⟩ = some (.int .i64 x.block) ∧ wr.cell? ⟨b, o + j * 4 + 3, Option.none⟩ = some (.int .i64 x.part) := by
  have g : ∀ k u, (exC x)[k]? = some u → wr.cell? ⟨b, o + j * 4 + k, Option.none⟩ = some u := fun k u hu => (hbw.cell (p := ⟨b, o + j * 4 + k, Option.none⟩) hbl).trans (h k u hu)
  exact ⟨g 0 _ rfl, g 1 _ rfl, g 2 _ rfl, g 3 _ rfl⟩
end Pm

set_option maxHeartbeats 3200000 in
set_option maxRecDepth 100000 in
/-- allocation.formed$1. -/
theorem notFormed_any (x : Pm.X) (w : World) :
    Calls Tryz.prog 95 #[Pm.exV x] w fun e w' => e = .returned (.bool (!Pm.formed1 x)) ∧ Below w.heap.size w w' := by
  have hiff := Pm.formed1_iff x
  unfold Pm.exV
  obtain ⟨k, n, b, p⟩ := x
  simp only [] at *
  generalize Pm.formed1 ⟨k, n, b, p⟩ = V at *
  have hcs : (0 ≤ k ∧ k ≤ 3 ∧ 1 ≤ n ∧ n < 1073741824 ∧ 0 ≤ b ∧ b < 4294967296 ∧ 0 ≤ p ∧ p ≤ 65535) ∨ (k < 0) ∨ (0 ≤ k ∧ 3 < k) ∨ (0 ≤ k ∧ k ≤ 3 ∧ n < 1) ∨ (0 ≤ k ∧ k ≤ 3 ∧ 1 ≤ n ∧ 1073741824 ≤ n) ∨
      (0 ≤ k ∧ k ≤ 3 ∧ 1 ≤ n ∧ n < 1073741824 ∧ b < 0) ∨ (0 ≤ k ∧ k ≤ 3 ∧ 1 ≤ n ∧ n < 1073741824 ∧ 0 ≤ b ∧ 4294967296 ≤ b) ∨ (0 ≤ k ∧ k ≤ 3 ∧ 1 ≤ n ∧ n < 1073741824 ∧ 0 ≤ b ∧ b < 4294967296 ∧ p < 0) ∨
      (0 ≤ k ∧ k ≤ 3 ∧ 1 ≤ n ∧ n < 1073741824 ∧ 0 ≤ b ∧ b < 4294967296 ∧ 0 ≤ p ∧ 65535 < p) := by omega
  rcases hcs with h | h | h | h | h | h | h | h | h
  · have HV := Lib.hid (show V = true from hiff.2 h)
    clear hiff
    obtain ⟨h1, h2, h3, h4, h5, h6, h7, h8⟩ := h
    have d1 : decide (k < 0) = false := decide_eq_false (by omega)
    have d2 : decide (3 < k) = false := decide_eq_false (by omega)
    have d3 : decide (n < 1) = false := decide_eq_false (by omega)
    have d4 : decide (1073741824 ≤ n) = false := decide_eq_false (by omega)
    have d5 : decide (b < 0) = false := decide_eq_false (by omega)
    have d6 : decide (4294967296 ≤ b) = false := decide_eq_false (by omega)
    have d7 : decide (p < 0) = false := decide_eq_false (by omega)
    have d8 : decide (65535 < p) = false := decide_eq_false (by omega)
    clear h1 h2 h3 h4 h5 h6 h7 h8
    go_enter Tryz.func95, Tryz.ntmps95
    go_wp2_with fail
    go_ret
    rw [HV.out]
    exact ⟨rfl, (Below.refl _ _).alloc (Nat.le_refl _) _⟩
  all_goals
    have HV := Lib.hid (show V = false by
      rw [Bool.eq_false_iff]; intro hv; have := hiff.1 hv; omega)
    clear hiff
    try have d1 : decide (k < 0) = false := decide_eq_false (by omega)
    try have d1' : decide (k < 0) = true := decide_eq_true (by omega)
    try have d2 : decide (3 < k) = false := decide_eq_false (by omega)
    try have d2' : decide (3 < k) = true := decide_eq_true (by omega)
    try have d3 : decide (n < 1) = false := decide_eq_false (by omega)
    try have d3' : decide (n < 1) = true := decide_eq_true (by omega)
    try have d4 : decide (1073741824 ≤ n) = false := decide_eq_false (by omega)
    try have d4' : decide (1073741824 ≤ n) = true := decide_eq_true (by omega)
    try have d5 : decide (b < 0) = false := decide_eq_false (by omega)
    try have d5' : decide (b < 0) = true := decide_eq_true (by omega)
    try have d6 : decide (4294967296 ≤ b) = false := decide_eq_false (by omega)
    try have d6' : decide (4294967296 ≤ b) = true := decide_eq_true (by omega)
    try have d7 : decide (p < 0) = false := decide_eq_false (by omega)
    try have d7' : decide (p < 0) = true := decide_eq_true (by omega)
    try have d8 : decide (65535 < p) = true := decide_eq_true (by omega)
    clear h
    go_enter Tryz.func95, Tryz.ntmps95
    go_wp2_with fail
    go_ret
    rw [HV.out]
    exact ⟨rfl, (Below.refl _ _).alloc (Nat.le_refl _) _⟩
end Go.Proofs.YtlcdhlfkffkifaaGreatDoor

/-
  Slices of extents: are all well-formed? The program's functions.
-/
namespace Go.Proofs.YtlcdhlfkffkifaaGreatDoor
open Go.RowKit
theorem all_snocX {p : Pm.X → Bool} {l : List Pm.X} {i : Nat} (hi : i < l.length) (h : (l.take i).all p = true) (hp : p (l.getD i Pm.x0) = true) : (l.take (i + 1)).all p = true := by
  rw [List.take_succ_eq_append_getElem hi, List.all_append, h]
  simp [List.getD, hi] at hp
  simp [hp]
theorem all_failX {p : Pm.X → Bool} {l : List Pm.X} {i : Nat} (hi : i < l.length) (hp : p (l.getD i Pm.x0) = false) : l.all p = false := by
  rw [Bool.eq_false_iff]
  intro h
  have := List.all_eq_true.1 h (l.getD i Pm.x0) (by simp [List.getD, hi])
  rw [hp] at this
  cases this

set_option maxHeartbeats 1600000 in
set_option maxRecDepth 100000 in
/-- slices.IndexFunc over maps, asked for what is not valid. -/
theorem indexExts_any (v : Value) (l : List Pm.X) (w : World) (hm : Pm.ExtsAt w v l) :
    Calls Tryz.prog 118 #[v, .func (.func 95) #[] #[]] w fun e w' => ∃ r : Int, e = .returned (.int .i64 r) ∧ -1 ≤ r ∧ (0 ≤ r ↔ l.all Pm.formed1 = false) ∧ Below w.heap.size w w' := by
  have HM := Lib.hid hm
  obtain ⟨A, c, rfl, hlc, hcm, hcells⟩ := hm.row
  have HCE := Lib.hid hcells
  clear hcells hm
  unfold maxLen at hcm
  go_enter Tryz.func118, Tryz.ntmps118
  go_wp2_with fail
  go_loopw [5, 8] (fun _ iv wr => ∃ j : Nat, j ≤ l.length ∧ iv = .int .i64 j ∧ Hid ((l.take j).all Pm.formed1 = true) ∧ Below w.heap.size w wr) (fun _ iv _ => l.length - (intOf iv).toNat)
  case atStart => exact ⟨0, by omega, rfl, Lib.hid rfl, Below.refl _ _⟩
  case round =>
    obtain ⟨j, hj, rfl, HA, hbw⟩ := hrel
    by_cases hlt : j < l.length
    · obtain ⟨b, o, rfl, hbl, hc⟩ := HCE.out (by omega)
      obtain ⟨c0, c1, c2, c3⟩ := Pm.four hbl hbw (hc j hlt)
      have CP := Lib.hid (fun W => notFormed_any (l.getD j Pm.x0) W)
      have hall := all_snocX (p := Pm.formed1) hlt HA.out
      have hfail := all_failX (p := Pm.formed1) hlt
      clear hc
      generalize l.getD j Pm.x0 = x at *
      unfold Pm.exV at CP
      cases hp : Pm.formed1 x with
      | true =>
        have HN := Lib.hid (hall hp)
        rw [hp] at CP
        clear hp hall hfail
        obtain ⟨k, n, bb, pp⟩ := x
        simp only [] at *
        go_wp2_with fail
        with_reducible refine (CP.out _).mono ?_
        rintro e w2 ⟨rfl, hb2⟩
        go_wp2_with fail
        go_roundw
        case rel => exact ⟨j + 1, by omega, by go_num, HN, hbw.trans (hb2.mono hbw.size)⟩
        case measure => simp [intOf]; omega
      | false =>
        have HN := Lib.hid (hfail hp)
        rw [hp] at CP
        clear hp hall hfail
        obtain ⟨k, n, bb, pp⟩ := x
        simp only [] at *
        go_wp2_with fail
        with_reducible refine (CP.out _).mono ?_
        rintro e w2 ⟨rfl, hb2⟩
        go_wp2_with fail
        go_ret
        exact ⟨_, rfl, by omega, ⟨fun _ => HN.out, fun _ => by omega⟩, hbw.trans (hb2.mono hbw.size)⟩
    · obtain rfl : j = l.length := by omega
      have ha := HA.out
      rw [List.take_length] at ha
      have HH := Lib.hid ha
      clear ha
      go_wp2_with fail
      go_ret
      exact ⟨_, rfl, by decide, ⟨fun h => absurd h (by decide), fun h => by rw [HH.out] at h; cases h⟩, hbw⟩

set_option maxHeartbeats 1600000 in
set_option maxRecDepth 100000 in
/-- slices.ContainsFunc over maps, asked for what is not valid. -/
theorem containsExts_any (v : Value) (l : List Pm.X) (w : World) (hm : Pm.ExtsAt w v l) :
    Calls Tryz.prog 94 #[v, .func (.func 95) #[] #[]] w fun e w' => e = .returned (.bool (!l.all Pm.formed1)) ∧ Below w.heap.size w w' := by
  have CI := Lib.hid (indexExts_any v l w hm)
  obtain ⟨A, c, rfl, _, _, _⟩ := hm.row
  clear hm
  cases hp : l.all Pm.formed1 with
  | true =>
    rw [hp] at CI
    go_enter Tryz.func94, Tryz.ntmps94
    go_wp2_with fail
    with_reducible refine CI.out.mono ?_
    rintro e w2 ⟨r, rfl, hr, hi, hb2⟩
    have hr0 : r < 0 := by
      rcases Int.lt_or_le r 0 with h | h
      · exact h
      · have := hi.1 h; cases this
    clear hi
    go_wp2_with fail
    go_ret
    first | exact ⟨rfl, hb2⟩ | (refine ⟨congrArg (fun b => Ending.returned (.bool b)) ?_, hb2⟩; simp <;> omega)
  | false =>
    rw [hp] at CI
    go_enter Tryz.func94, Tryz.ntmps94
    go_wp2_with fail
    with_reducible refine CI.out.mono ?_
    rintro e w2 ⟨r, rfl, hr, hi, hb2⟩
    have hr0 : 0 ≤ r := hi.2 (by first | rfl | trivial)
    clear hi
    go_wp2_with fail
    go_ret
    first | exact ⟨rfl, hb2⟩ | (refine ⟨congrArg (fun b => Ending.returned (.bool b)) ?_, hb2⟩; simp <;> omega)

set_option maxHeartbeats 1600000 in
set_option maxRecDepth 100000 in
/-- allocation.formed. -/
theorem formed_any (v : Value) (l : List Pm.X) (w : World) (hm : Pm.ExtsAt w v l) :
    Calls Tryz.prog 68 #[v] w fun e w' => e = .returned (.bool (Pm.formed l)) ∧ Below w.heap.size w w' := by
  have CC := Lib.hid (fun W h => containsExts_any v l W h)
  have HM := Lib.hid hm
  obtain ⟨A, c, rfl, _, _, _⟩ := hm.row
  clear hm
  by_cases h4 : l.length ≤ 64
  · have HR := Lib.hid (show Pm.formed l = l.all Pm.formed1 by unfold Pm.formed; rw [decide_eq_true h4]; rfl)
    have d4 : decide ((l.length : Int) ≤ 64) = true := decide_eq_true (by omega)
    generalize l.all Pm.formed1 = q at *
    go_enter Tryz.func68, Tryz.ntmps68
    go_wp2_with fail
    with_reducible refine (CC.out _ HM.out).mono ?_
    rintro e w2 ⟨rfl, hb2⟩
    go_wp2_with fail
    go_ret
    rw [HR.out]
    cases q <;> exact ⟨rfl, hb2⟩
  · have HR := Lib.hid (show Pm.formed l = false by unfold Pm.formed; rw [decide_eq_false h4]; rfl)
    have d4 : decide ((l.length : Int) ≤ 64) = false := decide_eq_false (by omega)
    go_enter Tryz.func68, Tryz.ntmps68
    go_wp2_with fail
    go_ret
    rw [HR.out]
    exact ⟨rfl, Below.refl _ _⟩
end Go.Proofs.YtlcdhlfkffkifaaGreatDoor

/-
  The walks through allocation.blocks and Length.
-/
namespace Go.Proofs.YtlcdhlfkffkifaaGreatDoor
open Go.RowKit
namespace Pm
theorem lenS_snoc {l : List X} {j : Nat} (h : j < l.length) : lenS (l.take (j + 1)) = lenS (l.take j) + (l.getD j x0).length := by
  unfold lenS
  rw [List.take_succ_eq_append_getElem h, List.map_append, List.sum_append]
  simp [List.getD, h]
theorem lenS_bd {l : List X} (h : l.all formed1 = true) : 0 ≤ lenS l ∧ lenS l ≤ 1073741823 * l.length := by
  unfold lenS
  induction l with
  | nil => simp
  | cons x t ih =>
    simp only [List.all_cons, Bool.and_eq_true] at h
    have hx := (formed1_iff x).1 h.1
    have ht := ih h.2
    rw [List.map_cons, List.sum_cons, List.length_cons]
    omega
theorem all_take {p : X → Bool} {l : List X} (h : l.all p = true) (j : Nat) : (l.take j).all p = true := by
  rw [List.all_eq_true] at h ⊢
  exact fun x hx => h x (List.mem_of_mem_take hx)
theorem all_get {p : X → Bool} {l : List X} (h : l.all p = true) {j : Nat} (hj : j < l.length) : p (l.getD j x0) = true :=
  List.all_eq_true.1 h _ (by simp [List.getD, hj])
theorem cnt_div (n : Int) (_h : 0 ≤ n) : (n + 2048 - 1) / 2048 = cnt n := by unfold cnt; omega
theorem cnt_bd {n : Int} (h0 : 0 ≤ n) : 0 ≤ cnt n ∧ cnt n ≤ n := by unfold cnt; omega
end Pm

set_option maxHeartbeats 1600000 in
/-- allocation.blocks. -/
theorem blocks_any (n : Int) (h0 : 0 ≤ n) (h1 : n ≤ 4611686018427387904) (w : World) : Calls Tryz.prog 93 #[.int .i64 n] w fun e w' => e = .returned (.int .i64 (Pm.cnt n)) ∧ w = w' := by
  have HC := Lib.hid (Pm.cnt_div n h0)
  generalize Pm.cnt n = c at *
  go_enter Tryz.func93, Tryz.ntmps93
  go_wp2
  go_ret
  rw [← HC.out]
  exact ⟨rfl, rfl⟩

set_option maxHeartbeats 3200000 in
set_option maxRecDepth 100000 in
/-- allocation.Length. -/
theorem length_any (v : Value) (l : List Pm.X) (w : World) (hm : Pm.ExtsAt w v l) :
    Calls Tryz.prog 117 #[v] w fun e w' => e = .returned (.int .i64 (Pm.lenX l)) ∧ Below w.heap.size w w' := by
  have CA := Lib.hid (fun W h => formed_any v l W h)
  have HM := Lib.hid hm
  obtain ⟨A, c, rfl, hlc, hcm, hcells⟩ := hm.row
  have HCE := Lib.hid hcells
  clear hcells hm
  unfold maxLen at hcm
  cases ha : Pm.formed l with
  | false =>
    have HR := Lib.hid (show Pm.lenX l = 0 by unfold Pm.lenX; rw [ha]; rfl)
    rw [ha] at CA
    clear ha hlc hcm
    go_enter Tryz.func117, Tryz.ntmps117
    go_wp2_with fail
    with_reducible refine (CA.out _ HM.out).mono ?_
    rintro e w2 ⟨rfl, hb2⟩
    go_wp2_with fail
    go_ret
    rw [HR.out]
    exact ⟨rfl, hb2⟩
  | true =>
    have HR := Lib.hid (show Pm.lenX l = Pm.lenS l by unfold Pm.lenX; rw [ha]; rfl)
    rw [ha] at CA
    unfold Pm.formed at ha
    rw [Bool.and_eq_true, decide_eq_true_eq] at ha
    obtain ⟨hl64, hall⟩ := ha
    have HALL := Lib.hid hall
    clear hall
    go_enter Tryz.func117, Tryz.ntmps117
    go_wp2_with fail
    with_reducible refine (CA.out _ HM.out).mono ?_
    rintro e w2 ⟨rfl, hb2⟩
    go_wp2_with fail
    go_loopw [3, 5, 11] (fun nv _ iv wr => ∃ j : Nat, j ≤ l.length ∧ iv = .int .i64 j ∧ nv = .int .i64 (Pm.lenS (l.take j)) ∧ Below w.heap.size w wr) (fun _ _ iv _ => l.length - (intOf iv).toNat)
    case atStart => exact ⟨0, by omega, rfl, rfl, hb2⟩
    case round =>
      obtain ⟨j, hj, rfl, rfl, hbw⟩ := hrel
      by_cases hlt : j < l.length
      · obtain ⟨b, o, rfl, hbl, hc⟩ := HCE.out (by omega)
        obtain ⟨c0, c1, c2, c3⟩ := Pm.four hbl hbw (hc j hlt)
        have hx := (Pm.formed1_iff _).1 (Pm.all_get HALL.out hlt)
        have hs := Pm.lenS_bd (Pm.all_take HALL.out j)
        have hsn := Pm.lenS_snoc hlt
        have hjl : (l.take j).length ≤ 64 := by rw [List.length_take]; omega
        have HSN := Lib.hid hsn
        clear hsn hc
        have hs2 : Pm.lenS (l.take j) ≤ 1073741823 * 64 := by omega
        obtain ⟨hs1, _⟩ := hs
        generalize Pm.lenS (l.take j) = q at *
        generalize l.getD j Pm.x0 = x at *
        obtain ⟨k, n, bb, pp⟩ := x
        simp only [] at *
        obtain ⟨_, _, x3, x4, _, _, _, _⟩ := hx
        clear hjl
        go_wp2_with fail
        go_roundw
        case rel => exact ⟨j + 1, by omega, by go_num, by rw [HSN.out], (hbw.alloc hbw.size _)⟩
        case measure => simp [intOf]; omega
      · obtain rfl : j = l.length := by omega
        rw [List.take_length]
        go_wp2_with fail
        go_ret
        rw [HR.out]
        exact ⟨rfl, hbw⟩
end Go.Proofs.YtlcdhlfkffkifaaGreatDoor

/-
  Plain laws of Locate: a list's number of blocks, and what lies outside.
-/
namespace Go.Proofs.YtlcdhlfkffkifaaGreatDoor
namespace Pm
theorem drop_getD {l : List X} {j : Nat} (h : j < l.length) : l.drop j = l.getD j x0 :: l.drop (j + 1) := by
  rw [List.drop_eq_getElem_cons h]
  simp [List.getD, h]
theorem locS_cons (x : X) (t : List X) (b : Int) : locS (x :: t) b = if 0 ≤ b ∧ b < cnt x.length then ((x.block + b, x.part), x.kind, 0) else if b < cnt x.length then ((0, 0), 0, 2) else locS t (b - cnt x.length) := rfl
theorem locS_big (t : List X) (z : Int) (hx : ∀ x ∈ t, cnt x.length ≤ 524288 ∧ 0 ≤ cnt x.length) (h : 524288 * (t.length : Int) ≤ z) : locS t z = ((0, 0), 0, 2) := by
  induction t generalizing z with
  | nil => rfl
  | cons x t ih =>
    have h1 := hx x (by simp)
    simp only [List.length_cons] at h
    rw [locS_cons, if_neg (by omega), if_neg (by omega)]
    exact ih _ (fun y hy => hx y (by simp [hy])) (by omega)
theorem cnt_of {x : X} (h : formed1 x = true) : 1 ≤ cnt x.length ∧ cnt x.length ≤ 524288 := by
  have := (formed1_iff x).1 h
  unfold cnt
  omega
/-- The number of a list's blocks. -/
def cntS (l : List X) : Int := (l.map fun x => cnt x.length).sum
theorem cntS_cons (x : X) (t : List X) : cntS (x :: t) = cnt x.length + cntS t := by simp [cntS]
theorem lenS_cons (x : X) (t : List X) : lenS (x :: t) = x.length + lenS t := by simp [lenS]
theorem cntS_bd {l : List X} (h : l.all formed1 = true) : 0 ≤ cntS l := by
  induction l with
  | nil => exact Int.le_refl _
  | cons x t ih =>
    rw [List.all_cons, Bool.and_eq_true] at h
    have := cnt_of h.1
    have := ih h.2
    rw [cntS_cons]
    omega
theorem okAt_succ (x : X) (t : List X) (j : Nat) : okAt (x :: t) (j + 1) = okAt t j := by
  unfold okAt
  simp
theorem okX_tail {x : X} {t : List X} (h : okX (x :: t) = true) : okX t = true := by
  unfold okX at *
  rw [List.all_eq_true] at *
  intro j hj
  have := h (j + 1) (by simp at hj ⊢; omega)
  rwa [okAt_succ] at this
theorem cnt_lenS {l : List X} (h : okX l = true) : cnt (lenS l) = cntS l := by
  induction l with
  | nil => rfl
  | cons x t ih =>
    have ht := ih (okX_tail h)
    have h0 : okAt (x :: t) 0 = true := List.all_eq_true.1 h 0 (by simp)
    rw [cntS_cons, lenS_cons, ← ht]
    by_cases hn : t = []
    · subst hn
      simp [lenS, cnt]
    · have hl : 0 < t.length := List.length_pos_iff.2 hn
      unfold okAt at h0
      simp only [Bool.and_eq_true, Bool.or_eq_true, decide_eq_true_eq] at h0
      have hm : x.length % 2048 = 0 := by
        rcases h0.1.2 with h | h
        · simp at h; exact absurd h hn
        · simpa using h
      unfold cnt
      omega
theorem locS_out {l : List X} (z : Int) (h : l.all formed1 = true) (hz : cntS l ≤ z) : locS l z = ((0, 0), 0, 2) := by
  induction l generalizing z with
  | nil => rfl
  | cons x t ih =>
    rw [List.all_cons, Bool.and_eq_true] at h
    have h1 := cnt_of h.1
    have h2 := cntS_bd h.2
    rw [cntS_cons] at hz
    rw [locS_cons, if_neg (by omega), if_neg (by omega)]
    exact ih _ h.2 (by omega)
theorem locS_neg {l : List X} (z : Int) (h : l.all formed1 = true) (hz : z < 0) : locS l z = ((0, 0), 0, 2) := by
  cases l with
  | nil => rfl
  | cons x t =>
    rw [List.all_cons, Bool.and_eq_true] at h
    have h1 := cnt_of h.1
    rw [locS_cons, if_neg (by omega), if_pos (by omega)]
theorem drop_in {l : List X} {j : Nat} {z : Int} (hj : j ≤ l.length) (h0 : 0 ≤ z) (h : z < cntS (l.drop j)) : j < l.length := by
  rcases Nat.lt_or_ge j l.length with h1 | h1
  · exact h1
  · obtain rfl : j = l.length := by omega
    rw [List.drop_length] at h
    exact absurd h (by simp [cntS]; omega)
end Pm
end Go.Proofs.YtlcdhlfkffkifaaGreatDoor

/-
  The walk through allocation.Valid.
-/
namespace Go.Proofs.YtlcdhlfkffkifaaGreatDoor
open Go.RowKit

set_option maxHeartbeats 6400000 in
set_option maxRecDepth 100000 in
/-- allocation.Valid. -/
theorem aValid_any (v : Value) (l : List Pm.X) (w : World) (hm : Pm.ExtsAt w v l) :
    Calls Tryz.prog 92 #[v] w fun e w' => e = .returned (.bool (Pm.validX l)) ∧ Below w.heap.size w w' := by
  have CA := Lib.hid (fun W h => formed_any v l W h)
  have CL := Lib.hid (fun W h => length_any v l W h)
  have HM := Lib.hid hm
  obtain ⟨A, c, rfl, hlc, hcm, hcells⟩ := hm.row
  have HCE := Lib.hid hcells
  clear hcells hm
  unfold maxLen at hcm
  cases ha : Pm.formed l with
  | false =>
    have HR := Lib.hid (show Pm.validX l = false by unfold Pm.validX; rw [ha]; rfl)
    rw [ha] at CA
    clear ha hlc hcm
    go_enter Tryz.func92, Tryz.ntmps92
    go_wp2_with fail
    with_reducible refine (CA.out _ HM.out).mono ?_
    rintro e w2 ⟨rfl, hb2⟩
    go_wp2_with fail
    go_ret
    rw [HR.out]
    exact ⟨rfl, hb2⟩
  | true =>
  have hlx : Pm.lenX l = Pm.lenS l := by unfold Pm.lenX; rw [ha]; rfl
  have hRR : Pm.validX l = (decide (Pm.lenS l ≤ 1073739776) && Pm.okX l) := by unfold Pm.validX; rw [ha]; simp
  rw [ha] at CA
  rw [hlx] at CL
  unfold Pm.formed at ha
  rw [Bool.and_eq_true, decide_eq_true_eq] at ha
  obtain ⟨hl64, hall⟩ := ha
  have hbd := Pm.lenS_bd hall
  have HALL := Lib.hid hall
  clear hall hlx
  by_cases hlen : Pm.lenS l ≤ 1073739776
  case neg =>
    have HR := Lib.hid (show Pm.validX l = false by rw [hRR, decide_eq_false hlen]; rfl)
    have d1 : decide (1073739776 < Pm.lenS l) = true := decide_eq_true (by omega)
    have d1' : 1073739776 < Pm.lenS l := by omega
    clear hRR hlen
    generalize Pm.lenS l = q at *
    go_enter Tryz.func92, Tryz.ntmps92
    go_wp2_with fail
    with_reducible refine (CA.out _ HM.out).mono ?_
    rintro e w2 ⟨rfl, hb2⟩
    go_wp2_with fail
    with_reducible refine (CL.out _ (HM.out.below hb2)).mono ?_
    rintro e w3 ⟨rfl, hb3⟩
    go_wp2_with fail
    go_ret
    rw [HR.out]
    exact ⟨rfl, hb2.trans (hb3.mono hb2.size)⟩
  case pos =>
  have HRR := Lib.hid (show Pm.validX l = Pm.okX l by rw [hRR, decide_eq_true hlen]; rfl)
  have d1 : decide (1073739776 < Pm.lenS l) = false := decide_eq_false (by omega)
  have d1' : ¬ 1073739776 < Pm.lenS l := by omega
  clear hRR hbd
  generalize Pm.lenS l = q at *
  go_enter Tryz.func92, Tryz.ntmps92
  go_wp2_with fail
  with_reducible refine (CA.out _ HM.out).mono ?_
  rintro e w2 ⟨rfl, hb2⟩
  go_wp2_with fail
  with_reducible refine (CL.out _ (HM.out.below hb2)).mono ?_
  rintro e w3 ⟨rfl, hb3⟩
  have hb23 := hb2.trans (hb3.mono hb2.size)
  clear hb2 hb3 CA CL hlen
  go_wp2_with fail
  clear d1 d1'
  go_loopw [3, 4, 15] (fun _ _ iv wr => ∃ j : Nat, j ≤ l.length ∧ iv = .int .i64 j ∧ Hid (∀ i, i < j → Pm.okAt l i = true) ∧ Below w.heap.size w wr) (fun _ _ iv _ => l.length - (intOf iv).toNat)
  case atStart => exact ⟨0, by omega, rfl, Lib.hid (fun i hi => by omega), hb23⟩
  case round =>
    obtain ⟨j, hj, rfl, HA, hbw⟩ := hrel
    by_cases hlt : j < l.length
    · obtain ⟨b, o, rfl, hbl, hc⟩ := HCE.out (by omega)
      obtain ⟨c0, c1, c2, c3⟩ := Pm.four hbl hbw (hc j hlt)
      have hx := (Pm.formed1_iff _).1 (Pm.all_get HALL.out hlt)
      have hok : Pm.okAt l j = (!decide ((l.getD j Pm.x0).kind = 3) && (decide (j + 1 = l.length) || decide ((l.getD j Pm.x0).length % 2048 = 0)) && decide ((l.getD j Pm.x0).block + Pm.cnt (l.getD j Pm.x0).length ≤ 4294967296)) := rfl
      have hyes : Pm.okAt l j = true → ∀ i, i < j + 1 → Pm.okAt l i = true := fun h i hi => by
        by_cases hij : i = j
        · subst hij; exact h
        · exact HA.out i (by omega)
      have hno : Pm.okAt l j = false → Pm.validX l = false := fun h => by
        rw [HRR.out, Bool.eq_false_iff]
        intro h2
        have := List.all_eq_true.1 h2 j (by simpa using hlt)
        rw [h] at this
        cases this
      clear hc
      generalize Pm.okAt l j = ok at *
      generalize l.getD j Pm.x0 = x at *
      obtain ⟨k, n, bb, pp⟩ := x
      simp only [] at *
      obtain ⟨x1, x2, x3, x4, x5, x6, _, _⟩ := hx
      have CB := Lib.hid (fun W => blocks_any n (by omega) (by omega) W)
      have hcb := Pm.cnt_bd (n := n) (by omega)
      have hn0 : n % 2048 = n.tmod 2048 := by rw [Int.tmod_eq_emod_of_nonneg (by omega)]
      clear hn0
      generalize hcn : Pm.cnt n = cn at *
      clear hcn
      obtain ⟨hcb1, hcb2⟩ := hcb
      have hlen : (l.length : Int) ≤ 64 := by omega
      have hlt' : (j : Int) < (l.length : Int) := by omega
      by_cases g1 : k = 3
      · have HV := Lib.hid (hno (by rw [hok, decide_eq_true g1]; rfl))
        clear hok hyes hno
        subst g1
        go_wp2_with fail
        go_quiet ((go_at_call 93; exact Calls.quiet_of_same ((CB.out _).mono fun _ _ h => ⟨h.1, h.2.symm⟩)))
        go_wp2_with fail
        go_ret
        rw [HV.out]
        exact ⟨rfl, Kit.Below.drewN (hbw.alloc hbw.size _) nq⟩
      have e1 : (k == 3) = false := by rw [beq_eq_false_iff_ne]; exact g1
      by_cases g2 : j + 1 = l.length
      · have d2 : decide ((j : Int) < (l.length : Int) - 1) = false := decide_eq_false (by omega)
        have d2' : ¬ ((j : Int) < (l.length : Int) - 1) := by omega
        by_cases g4 : bb + cn ≤ 4294967296
        · have HN := Lib.hid (hyes (by rw [hok, decide_eq_false g1, decide_eq_true g2, decide_eq_true g4]; rfl))
          have d4 : decide (4294967296 < bb + cn) = false := decide_eq_false (by omega)
          have d4' : ¬ 4294967296 < bb + cn := by omega
          clear hok hyes hno g1 g4
          go_wp2_with fail
          go_quiet ((go_at_call 93; exact Calls.quiet_of_same ((CB.out _).mono fun _ _ h => ⟨h.1, h.2.symm⟩)))
          go_wp2_with fail
          go_roundw
          case rel => exact ⟨j + 1, by omega, by go_num, HN, Kit.Below.drewN (hbw.alloc hbw.size _) nq⟩
          case measure => simp [intOf]; omega
        · have HV := Lib.hid (hno (by rw [hok, decide_eq_false g1, decide_eq_true g2, decide_eq_false g4]; rfl))
          have d4 : decide (4294967296 < bb + cn) = true := decide_eq_true (by omega)
          have d4' : 4294967296 < bb + cn := by omega
          clear hok hyes hno g1 g4
          go_wp2_with fail
          go_quiet ((go_at_call 93; exact Calls.quiet_of_same ((CB.out _).mono fun _ _ h => ⟨h.1, h.2.symm⟩)))
          go_wp2_with fail
          go_ret
          rw [HV.out]
          exact ⟨rfl, Kit.Below.drewN (hbw.alloc hbw.size _) nq⟩
      · have d2 : decide ((j : Int) < (l.length : Int) - 1) = true := decide_eq_true (by omega)
        have d2' : (j : Int) < (l.length : Int) - 1 := by omega
        by_cases g3 : n % 2048 = 0
        · have e3 : (n % 2048 != 0) = false := by rw [g3]; rfl
          by_cases g4 : bb + cn ≤ 4294967296
          · have HN := Lib.hid (hyes (by rw [hok, decide_eq_false g1, decide_eq_false g2, decide_eq_true g3, decide_eq_true g4]; rfl))
            have d4 : decide (4294967296 < bb + cn) = false := decide_eq_false (by omega)
            have d4' : ¬ 4294967296 < bb + cn := by omega
            clear hok hyes hno g1 g4 g3 g2
            go_wp2_with fail
            go_quiet ((go_at_call 93; exact Calls.quiet_of_same ((CB.out _).mono fun _ _ h => ⟨h.1, h.2.symm⟩)))
            go_wp2_with fail
            go_roundw
            case rel => exact ⟨j + 1, by omega, by go_num, HN, Kit.Below.drewN (hbw.alloc hbw.size _) nq⟩
            case measure => simp [intOf]; omega
          · have HV := Lib.hid (hno (by rw [hok, decide_eq_false g1, decide_eq_false g2, decide_eq_true g3, decide_eq_false g4]; rfl))
            have d4 : decide (4294967296 < bb + cn) = true := decide_eq_true (by omega)
            have d4' : 4294967296 < bb + cn := by omega
            clear hok hyes hno g1 g4 g3 g2
            go_wp2_with fail
            go_quiet ((go_at_call 93; exact Calls.quiet_of_same ((CB.out _).mono fun _ _ h => ⟨h.1, h.2.symm⟩)))
            go_wp2_with fail
            go_ret
            rw [HV.out]
            exact ⟨rfl, Kit.Below.drewN (hbw.alloc hbw.size _) nq⟩
        · have HV := Lib.hid (hno (by rw [hok, decide_eq_false g1, decide_eq_false g2, decide_eq_false g3]; rfl))
          have e3 : (n % 2048 != 0) = true := by rw [bne_iff_ne]; exact g3
          clear hok hyes hno g1 g3 g2
          go_wp2_with fail
          go_quiet ((go_at_call 93; exact Calls.quiet_of_same ((CB.out _).mono fun _ _ h => ⟨h.1, h.2.symm⟩)))
          go_wp2_with fail
          go_ret
          rw [HV.out]
          exact ⟨rfl, Kit.Below.drewN (hbw.alloc hbw.size _) nq⟩
    · obtain rfl : j = l.length := by omega
      have HV := Lib.hid (show Pm.validX l = true by rw [HRR.out]; exact List.all_eq_true.2 fun i hi => HA.out i (by simpa using hi))
      go_wp2_with fail
      go_ret
      rw [HV.out]
      exact ⟨rfl, hbw⟩
end Go.Proofs.YtlcdhlfkffkifaaGreatDoor

/-
  The walk through allocation.Locate.
-/
namespace Go.Proofs.YtlcdhlfkffkifaaGreatDoor
open Go.RowKit
attribute [local go_sem ↓] Go.wp_at_zero Go.wp_at_succ
/-- What Locate's results are read as. -/
theorem loc_results (tmps : Array Value) (W : World) (g : Nat) (c0 c1 y z : Value) (h4 : tmps.getD 4 undef = .pointer (some ⟨g, 0, none⟩)) (h5 : tmps.getD 5 undef = y) (h6 : tmps.getD 6 undef = z)
    (hc0 : W.cell? ⟨g, 0, none⟩ = some c0) (hc1 : W.cell? ⟨g, 1, none⟩ = some c1) : (results Tryz.f65 tmps).run Tryz.prog W = .ok (.tuple #[.agg #[c0, c1], y, z]) W := by
  have hl : (loadCells ⟨g, 0, none⟩ 2).run Tryz.prog W = .ok #[c0, c1] W := run_loadCells_list (P := Tryz.prog) W ⟨g, 0, none⟩ [c0, c1] (fun j v hv => by
    rw [Addr.add_lit, Nat.zero_add]
    match j, hv with
    | 0, hv => simp at hv; subst hv; exact hc0
    | 1, hv => simp at hv; subst hv; exact hc1
    | (j + 2), hv => simp at hv)
  have ha : ∀ w : World, (isAgg 43).run Tryz.prog w = .ok true w := fun _ => by kernel_rfl
  have hs : ∀ w : World, (sizeOf 43).run Tryz.prog w = .ok 2 w := fun _ => by kernel_rfl
  have hv : (loadVar 43 ⟨g, 0, none⟩).run Tryz.prog W = .ok (.agg #[c0, c1]) W := by
    simp [loadVar, ha, hs, hl]
  rw [Array.getD_eq_getD_getElem?] at h4 h5 h6
  simp [results, h4, h5, h6, hv, asAddr]
/-- The world at Locate's door: the result's variable. -/
abbrev lcW (w : World) : World := w.alloc (.cells #[.int .i64 0, .int .i64 0] 43)
structure LcAt (w : World) (W : World) : Prop where
  below : Below (w.heap.size + 1) (lcW w) W
  r0 : W.cell? ⟨w.heap.size, 0, none⟩ = some (.int .i64 0)
  r1 : W.cell? ⟨w.heap.size, 1, none⟩ = some (.int .i64 0)
  free : ∀ (j : Nat), W.frozen? ⟨w.heap.size, j, none⟩ = false
  size : w.heap.size + 1 ≤ W.heap.size
theorem LcAt.later {w : World} {W W' : World} (h : LcAt w W) (hb : Below W.heap.size W W') : LcAt w W' := by
  have hs := h.size
  exact ⟨h.below.trans (hb.mono hs), (hb.cell (p := ⟨w.heap.size, 0, none⟩) (by simp; omega)).trans h.r0, (hb.cell (p := ⟨w.heap.size, 1, none⟩) (by simp; omega)).trans h.r1, fun j => (hb.frozen (p := ⟨w.heap.size, j, none⟩) (by simp; omega)).trans (h.free j), Nat.le_trans hs hb.size⟩
theorem LcAt.start (w : World) : LcAt w (lcW w) := by
  refine ⟨Below.refl _ _, ?_, ?_, fun j => ?_, by simp⟩
  · unfold lcW
    rw [World.cell?_alloc_at _ _ _ _ (by simp)]
    rfl
  · unfold lcW
    rw [World.cell?_alloc_at _ _ _ _ (by simp)]
    rfl
  · have := World.frozen?_alloc_mark w #[.int .i64 0, .int .i64 0] 43 0 0 j
    rw [this]
    simp
theorem LcAt.old {w W : World} (h : LcAt w W) : Below w.heap.size w W := ((Below.refl _ w).alloc (Nat.le_refl _) _).trans (h.below.mono (Nat.le_succ _))
theorem lc_fin (w : World) (Wx : World) (h : LcAt w Wx) (u0 u1 : Value) :
    ((Wx.setCell ⟨w.heap.size, 0, none⟩ u0).setCell ⟨w.heap.size, 1, none⟩ u1).cell? ⟨w.heap.size, 0, none⟩ = some u0 ∧
    ((Wx.setCell ⟨w.heap.size, 0, none⟩ u0).setCell ⟨w.heap.size, 1, none⟩ u1).cell? ⟨w.heap.size, 1, none⟩ = some u1 ∧
    Below w.heap.size w ((Wx.setCell ⟨w.heap.size, 0, none⟩ u0).setCell ⟨w.heap.size, 1, none⟩ u1) := by
  have h0 := h.r0
  have h1 := h.r1
  refine ⟨?_, ?_, (h.old.setCell (p := ⟨w.heap.size, 0, none⟩) (by simp) u0).setCell (p := ⟨w.heap.size, 1, none⟩) (by simp) u1⟩
  · simp [World.cell?_setCell_other, World.cell?_setCell_same, h0]
  · simp [World.cell?_setCell_other, World.cell?_setCell_same, h1]
theorem wrap_up (z c : Int) (h0 : -9223372036854775808 ≤ z) (h1 : z < 0) (hc1 : 1 ≤ c) (hc2 : c ≤ 524288) (h : z - c < -9223372036854775808) : ∃ z', wrap64 (z - c) = z' ∧ 33554432 ≤ z' ∧ z' ≤ 9223372036854775807 :=
  ⟨_, rfl, by unfold wrap64; omega, by unfold wrap64; omega⟩
/-- What Locate hands back. -/
def locV (r : (Int × Int) × Int × Int) : Value := .tuple #[.agg #[.int .i64 r.1.1, .int .i64 r.1.2], .int .i64 r.2.1, .int .i64 r.2.2]

set_option maxHeartbeats 6400000 in
set_option maxRecDepth 100000 in
/-- allocation.Locate. -/
theorem aLocate_any (v : Value) (l : List Pm.X) (b : Int) (w : World) (hm : Pm.ExtsAt w v l) (hb0 : -9223372036854775808 ≤ b) (hb1 : b ≤ 9223372036854775807) :
    Calls Tryz.prog 65 #[v, .int .i64 b] w fun e w' => e = .returned (locV (Pm.locX l b)) ∧ Below w.heap.size w w' := by
  have CV := Lib.hid (fun W h => aValid_any v l W h)
  have HM := Lib.hid hm
  have HD0 := Lib.hid (LcAt.start w)
  have HM0 := Lib.hid (hm.below ((Below.refl _ w).alloc (Nat.le_refl _) (.cells #[.int .i64 0, .int .i64 0] 43)))
  obtain ⟨A, c, rfl, hlc, hcm, hcells⟩ := hm.row
  have HCE := Lib.hid hcells
  clear hcells hm
  unfold maxLen at hcm
  cases ha : Pm.validX l with
  | false =>
    have HR := Lib.hid (show Pm.locX l b = ((0, 0), 0, 1) by unfold Pm.locX; rw [ha]; rfl)
    rw [ha] at CV
    clear ha hlc hcm
    go_enter Tryz.func65, Tryz.ntmps65
    go_wp2_with fail
    refine (CV.out _ HM0.out).mono ?_
    rintro e w2 ⟨rfl, hb2⟩
    have hD := HD0.out.later hb2
    have r0 := hD.r0
    have r1 := hD.r1
    have f0 := hD.free 0
    have f1 := hD.free 1
    have HD := Lib.hid hD
    clear hD hb2
    go_wp2_with fail
    have hf := lc_fin w _ HD.out (.int .i64 0) (.int .i64 0)
    exact bodyPost_ret (loc_results _ _ w.heap.size (.int .i64 0) (.int .i64 0) (.int .i64 0) (.int .i64 1) rfl rfl rfl hf.1 hf.2.1) rfl ⟨by rw [HR.out]; rfl, hf.2.2⟩
  | true =>
  have HR := Lib.hid (show Pm.locX l b = Pm.locS l b by unfold Pm.locX; rw [ha]; rfl)
  rw [ha] at CV
  unfold Pm.validX at ha
  rw [Bool.and_eq_true, Bool.and_eq_true] at ha
  have hfm := ha.1.1
  unfold Pm.formed at hfm
  rw [Bool.and_eq_true, decide_eq_true_eq] at hfm
  obtain ⟨hl64, hall⟩ := hfm
  have HALL := Lib.hid hall
  clear ha hall
  go_enter Tryz.func65, Tryz.ntmps65
  go_wp2_with fail
  refine (CV.out _ HM0.out).mono ?_
  rintro e w2 ⟨rfl, hb2⟩
  have HD2 := Lib.hid (HD0.out.later hb2)
  clear hb2
  go_wp2_with fail
  go_loopw [1, 8, 9, 16] (fun bv _ _ iv wr => ∃ (j : Nat) (z : Int), j ≤ l.length ∧ iv = .int .i64 j ∧ bv = .int .i64 z ∧ -9223372036854775808 ≤ z ∧ z ≤ 9223372036854775807 ∧ (j = 0 ∨ 0 ≤ z) ∧ Hid (Pm.locS l b = Pm.locS (l.drop j) z) ∧ LcAt w wr) (fun _ _ _ iv _ => l.length - (intOf iv).toNat)
  case atStart => exact ⟨0, b, by omega, rfl, rfl, hb0, hb1, Or.inl rfl, Lib.hid rfl, HD2.out⟩
  case round =>
    obtain ⟨j, z, hj, rfl, rfl, hz0, hz1, hjz, HL, hD⟩ := hrel
    by_cases hlt : j < l.length
    · obtain ⟨bl, o, rfl, hbl, hc⟩ := HCE.out (by omega)
      obtain ⟨c0, c1, c2, c3⟩ := Pm.four hbl hD.old (hc j hlt)
      have hx := (Pm.formed1_iff _).1 (Pm.all_get HALL.out hlt)
      have hcn := Pm.cnt_of (Pm.all_get HALL.out hlt)
      have hdr := Pm.drop_getD hlt
      have hrest : ∀ y ∈ l.drop (j + 1), Pm.cnt y.length ≤ 524288 ∧ 0 ≤ Pm.cnt y.length := fun y hy => by
        have := Pm.cnt_of (List.all_eq_true.1 HALL.out y (List.mem_of_mem_drop hy))
        omega
      have hrl : ((l.drop (j + 1)).length : Int) ≤ 64 := by rw [List.length_drop]; omega
      have hbig := Lib.hid (Pm.locS_big (l.drop (j + 1)))
      have HLC := Lib.hid (HL.out.trans (by rw [hdr, Pm.locS_cons]))
      have HRT := Lib.hid hrest
      have HRL := Lib.hid hrl
      clear hc hdr hrest hrl HL
      generalize l.getD j Pm.x0 = x at *
      obtain ⟨k, n, bb, pp⟩ := x
      simp only [] at *
      obtain ⟨x1, x2, x3, x4, x5, x6, x7, x8⟩ := hx
      have CB := Lib.hid (fun W => blocks_any n (by omega) (by omega) W)
      generalize hcq : Pm.cnt n = cn at *
      clear hcq
      obtain ⟨hc1, hc2⟩ := hcn
      have hDa := hD.later ((Below.refl _ wr).alloc (Nat.le_refl _) (.cells #[.int .i64 k, .int .i64 n, .int .i64 bb, .int .i64 pp] 49))
      have r0 := hDa.r0
      have r1 := hDa.r1
      have f0 := hDa.free 0
      have f1 := hDa.free 1
      have hsz := hD.size
      have hn1 : wr.heap.size ≠ w.heap.size := by omega
      have hn2 : w.heap.size ≠ wr.heap.size := by omega
      have HD := Lib.hid hD
      have HDa := Lib.hid hDa
      clear hD hDa
      by_cases hin : 0 ≤ z ∧ z < cn
      · obtain ⟨hz, hzc⟩ := hin
        have HV := Lib.hid (HLC.out.trans (if_pos ⟨hz, hzc⟩))
        go_wp2_with fail
        refine (CB.out _).mono ?_
        rintro e w3 ⟨rfl, rfl⟩
        go_wp2_with fail
        have hwr : IntKind.i64.wrap (bb + z) = bb + z := IntWalk.i64_in _ (by omega)
        go_region_held3 (fun w' => w'.cell? ⟨wr.heap.size, 0, none⟩ = some (.int .i64 k) ∧ w'.cell? ⟨wr.heap.size, 2, none⟩ = some (.int .i64 bb) ∧ w'.cell? ⟨wr.heap.size, 3, none⟩ = some (.int .i64 pp)) (go_keep) (fail)
        all_goals
          go_wp2_with fail
          have hf := lc_fin w _ HDa.out (.int .i64 (bb + z)) (.int .i64 pp)
          exact bodyPost_ret (loc_results _ _ w.heap.size (.int .i64 (bb + z)) (.int .i64 pp) (.int .i64 k) (.int .i64 0) rfl rfl rfl hf.1 hf.2.1) rfl ⟨by rw [HR.out, HV.out]; rfl, hf.2.2.drew⟩
      · by_cases hz' : z < cn
        · have HV := Lib.hid (HLC.out.trans (by rw [if_neg hin, if_pos hz']))
          have hzn : z < 0 := by omega
          have dz : decide (0 ≤ z) = false := decide_eq_false (by omega)
          clear hin HLC
          by_cases hw : -9223372036854775808 ≤ z - cn
          · have hwz : wrap64 (z - cn) = z - cn := IntWalk.wrap64_in _ (by omega)
            have dn : decide (z - cn < 0) = true := decide_eq_true (by omega)
            go_wp2_with fail
            refine (CB.out _).mono ?_
            rintro e w3 ⟨rfl, rfl⟩
            go_wp2_with fail
            have hf := lc_fin w _ HDa.out (.int .i64 0) (.int .i64 0)
            exact bodyPost_ret (loc_results _ _ w.heap.size (.int .i64 0) (.int .i64 0) (.int .i64 0) (.int .i64 2) rfl rfl rfl hf.1 hf.2.1) rfl ⟨by rw [HR.out, HV.out]; rfl, hf.2.2⟩
          · obtain ⟨z', hwz, hz1', hz2'⟩ := wrap_up z cn hz0 hzn hc1 hc2 (by omega)
            have HN := Lib.hid (HV.out.trans (hbig.out z' HRT.out (by have := HRL.out; omega)).symm)
            have dn : decide (wrap64 (z - cn) < 0) = false := by rw [hwz]; exact decide_eq_false (by omega)
            clear hw hbig
            go_wp2_with fail
            refine (CB.out _).mono ?_
            rintro e w3 ⟨rfl, rfl⟩
            go_wp2_with fail
            go_roundw
            case rel => exact ⟨j + 1, z', by omega, by go_num, by rw [hwz], by omega, by omega, Or.inr (by omega), HN, HDa.out⟩
            case measure => simp [intOf]; omega
        · have HN := Lib.hid (HLC.out.trans (by rw [if_neg hin, if_neg hz']))
          have dz : decide (0 ≤ z) = true := decide_eq_true (by omega)
          have dz2 : decide (z < cn) = false := decide_eq_false (by omega)
          have hwz : wrap64 (z - cn) = z - cn := IntWalk.wrap64_in _ (by omega)
          have dn : decide (z - cn < 0) = false := decide_eq_false (by omega)
          clear hin HLC
          go_wp2_with fail
          refine (CB.out _).mono ?_
          rintro e w3 ⟨rfl, rfl⟩
          go_wp2_with fail
          go_roundw
          case rel => exact ⟨j + 1, z - cn, by omega, by go_num, rfl, by omega, by omega, Or.inr (by omega), HN, HDa.out⟩
          case measure => simp [intOf]; omega
    · obtain rfl : j = l.length := by omega
      have HV := Lib.hid (HL.out.trans (show Pm.locS (l.drop l.length) z = ((0, 0), 0, 2) by rw [List.drop_length]; rfl))
      have r0 := hD.r0
      have r1 := hD.r1
      have f0 := hD.free 0
      have f1 := hD.free 1
      have HD := Lib.hid hD
      clear hD HL
      go_wp2_with fail
      have hf := lc_fin w _ HD.out (.int .i64 0) (.int .i64 0)
      exact bodyPost_ret (loc_results _ _ w.heap.size (.int .i64 0) (.int .i64 0) (.int .i64 0) (.int .i64 2) rfl rfl rfl hf.1 hf.2.1) rfl ⟨by rw [HR.out, HV.out]; rfl, hf.2.2⟩
end Go.Proofs.YtlcdhlfkffkifaaGreatDoor
