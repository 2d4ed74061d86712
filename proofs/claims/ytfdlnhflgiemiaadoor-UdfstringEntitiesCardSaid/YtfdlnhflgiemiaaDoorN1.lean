/-
  The walks through printable of udfstring and of the reference.
-/
import Derived.Test.YtfdlnhflgiemiaaDoorKit2
import Derived.Test.YtfdlnhflgiemiaaDoorW17
import Derived.Test.YtfdlnhflgiemiaaDoorShelf
namespace Go.Proofs.YtfdlnhflgiemiaaDoor
open Go.RowKit
namespace Cs
/-- Printable ASCII. -/
def prt (b : UInt8) : Bool := decide (32 ≤ b.toNat) && decide (b.toNat ≤ 126)
theorem prt_iff (b : UInt8) : prt b = true ↔ 32 ≤ b.toNat ∧ b.toNat ≤ 126 := by simp [prt]
/-- What can be an identifier. -/
def idR (l : List UInt8) : Bool := decide (1 ≤ l.length) && (decide (l.length ≤ 23) && l.all prt)
end Cs

theorem all_snocP {p : UInt8 → Bool} {l : List UInt8} {i : Nat} (hi : i < l.length) (h : (l.take i).all p = true) (hp : p (l.getD i 0) = true) : (l.take (i + 1)).all p = true := by
  rw [List.take_succ_eq_append_getElem hi, List.all_append, h]
  simp [List.getD, hi] at hp
  simp [hp]
theorem all_failP {p : UInt8 → Bool} {l : List UInt8} {i : Nat} (hi : i < l.length) (hp : p (l.getD i 0) = false) : l.all p = false := by
  rw [Bool.eq_false_iff]
  intro h
  have := List.all_eq_true.1 h (l.getD i 0) (by simp [List.getD, hi])
  rw [hp] at this
  cases this

set_option maxHeartbeats 1600000 in
/-- udfstring.printable$1. -/
theorem prt_any (b : UInt8) (w : World) : Calls Tryd.prog 67 #[.int .u8 (b.toNat : Int)] w fun e w' => e = .returned (.bool (!Cs.prt b)) ∧ w = w' := by
  have hcs : (32 ≤ b.toNat ∧ b.toNat ≤ 126) ∨ b.toNat < 32 ∨ (126 < b.toNat ∧ 32 ≤ b.toNat) := by omega
  rcases hcs with ⟨h1, h2⟩ | h1 | ⟨h1, h2⟩
  · have hp : Cs.prt b = true := (Cs.prt_iff b).2 ⟨h1, h2⟩
    rw [hp]
    have k1 : ¬ (b.toNat : Int) < 32 := by omega
    have k2 : ¬ (126 : Int) < (b.toNat : Int) := by omega
    go_enter Tryd.func67, Tryd.ntmps67
    go_wp2
    go_ret
    first | exact ⟨rfl, rfl⟩ | (refine ⟨congrArg (fun b => Ending.returned (.bool b)) ?_, rfl⟩; simp <;> omega)
  all_goals
    have hp : Cs.prt b = false := by
      rw [Bool.eq_false_iff]; intro h; have := (Cs.prt_iff b).1 h; omega
    rw [hp]
    go_enter Tryd.func67, Tryd.ntmps67
    go_wp2
    go_ret
    first | exact ⟨rfl, rfl⟩ | (refine ⟨congrArg (fun b => Ending.returned (.bool b)) ?_, rfl⟩; simp <;> omega)

set_option maxHeartbeats 1600000 in
set_option maxRecDepth 100000 in
/-- slices.IndexFunc, asked for what is not printable. -/
theorem indexFunc_any (l : List UInt8) (g c : Nat) (w : World) (_hl : l.length ≤ c) (hl9 : l.length ≤ 9223372036854775807) (hlw : g < w.heap.size) (hcell : ∀ j, j < l.length → w.cell? ⟨g, j, none⟩ = some (.int .u8 ((l.getD j 0).toNat : Nat))) :
    Calls Tryd.prog 82 #[.slice (some ⟨g, 0, none⟩) l.length c, .func (.func 67) #[] #[]] w fun e w' => ∃ r : Int, e = .returned (.int .i64 r) ∧ -1 ≤ r ∧ (0 ≤ r ↔ l.all Cs.prt = false) ∧ Below w.heap.size w w' := by
  have HC := Lib.hid hcell
  clear hcell
  go_enter Tryd.func82, Tryd.ntmps82
  go_wp2_with fail
  go_loopw [8] (fun iv wr => ∃ j : Nat, j ≤ l.length ∧ iv = .int .i64 j ∧ Hid ((l.take j).all Cs.prt = true) ∧ Below w.heap.size w wr) (fun iv _ => l.length - (intOf iv).toNat)
  case atStart => exact ⟨0, by omega, rfl, Lib.hid rfl, Below.refl _ _⟩
  case round =>
    obtain ⟨j, hj, rfl, HA, hbw⟩ := hrel
    by_cases hlt : j < l.length
    · have hcj : wr.cell? ⟨g, j, none⟩ = some (.int .u8 ((l.getD j 0).toNat : Nat)) := by
        rw [hbw.cell (p := ⟨g, j, none⟩) hlw]
        exact HC.out j hlt
      have CP := Lib.hid (fun W => prt_any (l.getD j 0) W)
      by_cases hp : Cs.prt (l.getD j 0) = true
      · have HN := Lib.hid (all_snocP hlt HA.out hp)
        rw [hp] at CP
        generalize l.getD j 0 = x at *
        clear hp
        go_wp2_with fail
        with_reducible refine (CP.out _).mono ?_
        rintro e w2 ⟨rfl, rfl⟩
        go_wp2_with fail
        go_roundw
        case rel => exact ⟨j + 1, by omega, by go_num, HN, hbw⟩
        case measure => simp [intOf]; omega
      · have hp' : Cs.prt (l.getD j 0) = false := by simpa using hp
        have HN := Lib.hid (all_failP hlt hp')
        rw [hp'] at CP
        generalize l.getD j 0 = x at *
        clear hp hp'
        go_wp2_with fail
        with_reducible refine (CP.out _).mono ?_
        rintro e w2 ⟨rfl, rfl⟩
        go_wp2_with fail
        go_ret
        exact ⟨_, rfl, by omega, ⟨fun _ => HN.out, fun _ => by omega⟩, hbw⟩
    · obtain rfl : j = l.length := by omega
      have ha := HA.out
      rw [List.take_length] at ha
      have HH := Lib.hid ha
      clear ha
      go_wp2_with fail
      go_ret
      exact ⟨_, rfl, by decide, ⟨fun h => absurd h (by decide), fun h => by rw [HH.out] at h; cases h⟩, hbw⟩

set_option maxHeartbeats 1600000 in
set_option maxRecDepth 100000 in
/-- slices.ContainsFunc, asked for what is not printable. -/
theorem containsFunc_any (l : List UInt8) (g c : Nat) (w : World) (hl : l.length ≤ c) (hl9 : l.length ≤ 9223372036854775807) (hlw : g < w.heap.size) (hcell : ∀ j, j < l.length → w.cell? ⟨g, j, none⟩ = some (.int .u8 ((l.getD j 0).toNat : Nat))) :
    Calls Tryd.prog 66 #[.slice (some ⟨g, 0, none⟩) l.length c, .func (.func 67) #[] #[]] w fun e w' => e = .returned (.bool (!l.all Cs.prt)) ∧ Below w.heap.size w w' := by
  have CI := Lib.hid (indexFunc_any l g c w hl hl9 hlw hcell)
  clear hcell
  cases hp : l.all Cs.prt with
  | true =>
    rw [hp] at CI
    go_enter Tryd.func66, Tryd.ntmps66
    go_wp2_with fail
    with_reducible refine CI.out.mono ?_
    rintro e w2 ⟨r, rfl, hr, hi, hb2⟩
    have hr0 : r < 0 := by
      rcases Int.lt_or_le r 0 with h | h
      · exact h
      · have := hi.1 h; cases this
    clear hi
    go_wp2_with fail
    go_ret
    first | exact ⟨rfl, hb2⟩ | (refine ⟨congrArg (fun b => Ending.returned (.bool b)) ?_, hb2⟩; simp <;> omega)
  | false =>
    rw [hp] at CI
    go_enter Tryd.func66, Tryd.ntmps66
    go_wp2_with fail
    with_reducible refine CI.out.mono ?_
    rintro e w2 ⟨r, rfl, hr, hi, hb2⟩
    have hr0 : 0 ≤ r := hi.2 (by first | rfl | trivial)
    clear hi
    go_wp2_with fail
    go_ret
    first | exact ⟨rfl, hb2⟩ | (refine ⟨congrArg (fun b => Ending.returned (.bool b)) ?_, hb2⟩; simp <;> omega)

set_option maxHeartbeats 1600000 in
set_option maxRecDepth 100000 in
/-- udfstring.printable. -/
theorem printable_any (s : ByteArray) (w : World) (hs : s.size ≤ 9223372036854775807) :
    Calls Tryd.prog 47 #[.string s] w fun e w' => e = .returned (.bool (Cs.idR s.data.toList)) ∧ Below w.heap.size w w' := by
  have hdl := Kit.len_size s
  by_cases h1 : 1 ≤ s.size
  case neg =>
    have HR := Lib.hid (show Cs.idR s.data.toList = false by unfold Cs.idR; rw [hdl, decide_eq_false h1]; rfl)
    have h1' : ¬ (1 : Int) ≤ (s.size : Int) := by omega
    clear hdl h1
    go_enter Tryd.func47, Tryd.ntmps47
    go_wp2_with fail
    go_ret
    rw [HR.out]
    first | exact ⟨rfl, Below.refl _ _⟩ | (refine ⟨congrArg (fun b => Ending.returned (.bool b)) ?_, Below.refl _ _⟩; simp <;> omega)
  case pos =>
  have h1' : (1 : Int) ≤ (s.size : Int) := by omega
  by_cases h2 : s.size ≤ 23
  case neg =>
    have HR := Lib.hid (show Cs.idR s.data.toList = false by unfold Cs.idR; rw [hdl, decide_eq_false h2]; simp)
    have h2' : ¬ (s.size : Int) ≤ 23 := by omega
    clear hdl h1 h2
    go_enter Tryd.func47, Tryd.ntmps47
    go_wp2_with fail
    go_ret
    rw [HR.out]
    first | exact ⟨rfl, Below.refl _ _⟩ | (refine ⟨congrArg (fun b => Ending.returned (.bool b)) ?_, Below.refl _ _⟩; simp <;> omega)
  case pos =>
  have h2' : (s.size : Int) ≤ 23 := by omega
  have HR := Lib.hid (show Cs.idR s.data.toList = s.data.toList.all Cs.prt by unfold Cs.idR; rw [hdl, decide_eq_true h1, decide_eq_true h2]; rfl)
  obtain ⟨cap, W1, hcv, hbW, hsW, hcap, hcells⟩ := Kit.str_bytes w s
  have hcm : cap ≤ 9223372036854775807 ∨ True := .inr trivial
  clear hcm
  have CF := Lib.hid (containsFunc_any s.data.toList w.heap.size cap W1 (by omega) (by omega) (by omega) (fun j hj => hcells j (by omega)))
  rw [hdl] at CF
  generalize s.data.toList.all Cs.prt = b at *
  clear hcells hdl h1 h2
  go_enter Tryd.func47, Tryd.ntmps47
  go_wp2_with fail
  with_reducible refine CF.out.mono ?_
  rintro e w2 ⟨rfl, hb2⟩
  go_wp2_with fail
  go_ret
  rw [HR.out]
  have hb3 := hbW.trans (hb2.mono (by omega))
  cases b <;> exact ⟨rfl, hb3⟩
end Go.Proofs.YtfdlnhflgiemiaaDoor
