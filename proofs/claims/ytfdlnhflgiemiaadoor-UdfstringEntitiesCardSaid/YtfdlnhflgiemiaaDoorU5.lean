/-
  The walk through udfstring.Dstring.
-/
import Derived.Test.YtfdlnhflgiemiaaDoorU4
namespace Go.Proofs.YtfdlnhflgiemiaaDoor
open Go.RowKit

theorem repeatL_zero (n : Nat) : Lib.repeatL [0] n = List.replicate n 0 := by
  induction n with
  | zero => rfl
  | succ n ih => rw [Lib.repeatL, ih, List.replicate_succ]; rfl

/-- strings.Repeat of a zero byte. -/
theorem zeros_any (z : Int) (h0 : 0 ≤ z) (h1 : z ≤ 65536) (w : World) : Calls Tryd.prog 42 #[.string ⟨#[0]⟩, .int .i64 z] w fun e w' => e = .returned (.string ⟨(List.replicate z.toNat 0).toArray⟩) ∧ Below w.heap.size w w' := by
  obtain ⟨n, rfl⟩ := Int.eq_ofNat_of_zero_le h0
  have := Tryd.strings_Repeat ⟨#[0]⟩ n w (by omega) (by simp [ByteArray.size]; omega)
  rw [show (⟨#[0]⟩ : ByteArray).data.toList = [0] from rfl, repeatL_zero] at this
  simpa using this

set_option maxHeartbeats 1600000 in
set_option maxRecDepth 100000 in
/-- udfstring.Dstring. -/
theorem dstring_any (s : ByteArray) (size : Int) (w : World) (hT : Lib.Utf8Tabs 0 1 w) (hs : s.size ≤ 9223372036854775807) :
    Calls Tryd.prog 15 #[.string s, .int .i64 size] w fun e w' => e = .returned (.tuple #[.string ⟨(Cs.dstrR s.data.toList size).1.toArray⟩, .int .i64 (Cs.dstrR s.data.toList size).2]) ∧ Below w.heap.size w w' := by
  have cC := compress_any s w hT hs
  have cS := fun W => sized_any size W
  by_cases hz : Cs.sized size = true
  case neg =>
    have hz' : Cs.sized size = false := by simpa using hz
    have HR := Lib.hid (show Cs.dstrR s.data.toList size = ([], 1) from if_pos hz')
    rw [hz'] at cS
    have CS := Lib.hid cS
    clear cC cS hz hz' hT
    go_enter Tryd.func15, Tryd.ntmps15
    go_wp2_with fail
    with_reducible refine (CS.out _).mono ?_
    rintro e w3 ⟨rfl, rfl⟩
    go_wp2_with fail
    go_ret2
    rw [HR.out]
    exact ⟨rfl, Below.refl _ _⟩
  case pos =>
  have hR1 : Cs.dstrR s.data.toList size = if ¬ (Cs.compressR s.data.toList).2 = 0 then ([], (Cs.compressR s.data.toList).2)
      else if size - 1 < (Cs.compressR s.data.toList).1.length then ([], 12)
      else ((Cs.compressR s.data.toList).1 ++ List.replicate (size.toNat - 1 - (Cs.compressR s.data.toList).1.length) 0 ++ [UInt8.ofNat (Cs.compressR s.data.toList).1.length], 0) := by
    unfold Cs.dstrR
    rw [if_neg (by rw [hz]; simp)]
  obtain ⟨hz2, hz255⟩ := (sized_iff _).1 hz
  rw [hz] at cS
  have CS := Lib.hid cS
  generalize (Cs.compressR s.data.toList).1 = cd at *
  generalize (Cs.compressR s.data.toList).2 = er at *
  have CC := Lib.hid cC
  clear cC cS hz hT
  by_cases h0 : er = 0
  case neg =>
    rw [if_pos h0] at hR1
    have HR := Lib.hid hR1
    have h0' : (er != 0) = true := by rw [bne_iff_ne]; exact h0
    clear hR1 h0
    go_enter Tryd.func15, Tryd.ntmps15
    go_wp2_with fail
    with_reducible refine (CS.out _).mono ?_
    rintro e w3 ⟨rfl, rfl⟩
    go_wp2_with fail
    with_reducible refine (CC.out).mono ?_
    rintro e w3 ⟨rfl, hb3⟩
    go_wp2_with fail
    go_ret2
    rw [HR.out]
    exact ⟨rfl, hb3⟩
  case pos =>
  subst h0
  rw [if_neg (by simp)] at hR1
  by_cases hf : size - 1 < cd.length
  · rw [if_pos hf] at hR1
    have HR := Lib.hid hR1
    clear hR1
    go_enter Tryd.func15, Tryd.ntmps15
    go_wp2_with fail
    with_reducible refine (CS.out _).mono ?_
    rintro e w3 ⟨rfl, rfl⟩
    go_wp2_with fail
    with_reducible refine (CC.out).mono ?_
    rintro e w3 ⟨rfl, hb3⟩
    go_wp2_with fail
    go_ret2
    rw [HR.out]
    exact ⟨rfl, hb3⟩
  · rw [if_neg hf] at hR1
    have HR := Lib.hid hR1
    clear hR1
    have hcd : (cd.length : Int) ≤ 254 := by omega
    go_enter Tryd.func15, Tryd.ntmps15
    go_wp2_with fail
    with_reducible refine (CS.out _).mono ?_
    rintro e w3 ⟨rfl, rfl⟩
    go_wp2_with fail
    with_reducible refine (CC.out).mono ?_
    rintro e w3 ⟨rfl, hb3⟩
    go_wp2_with fail
    have hcv : ∀ (W : World) (g : Nat), W.cell? ⟨g, 0, none⟩ = some (.int .u8 (cd.length : Int)) → (convert 48 9 (.slice (some ⟨g, 0, none⟩) 1 1)).run Tryd.prog W = .ok (.string ⟨#[UInt8.ofNat cd.length]⟩) W := fun W g h => Kit.str_cell (x := (cd.length : Int)) (by omega) (by omega) h
    have k1 : IntKind.i64.wrap (size - 1) = size - 1 := IntWalk.i64_in _ (by omega)
    have k2 : IntKind.i64.wrap (size - 1 - (cd.length : Int)) = size - 1 - (cd.length : Int) := IntWalk.i64_in _ (by omega)
    have k3 : IntKind.u8.wrap (cd.length : Int) = (cd.length : Int) := IntWalk.u8_in _ (by omega)
    have q0 : 0 ≤ size - 1 - (cd.length : Int) := by omega
    have q1 : size - 1 - (cd.length : Int) ≤ 65536 := by omega
    have cZ := fun W => zeros_any (size - 1 - (cd.length : Int)) q0 q1 W
    go_region_with (first | (go_at_call 42; refine (cZ _).mono ?_; rintro e w4 ⟨rfl, hb4⟩; have hbc := (Kit.bcell hb4).1))
    all_goals (try go_wp2_with fail)
    all_goals go_ret2
    all_goals rw [HR.out]
    all_goals refine ⟨?_, ?_⟩
    all_goals have hs3 := hb3.size
    all_goals have hs4 := hb4.size
    all_goals simp only [World.size_alloc, World.size_drew] at hs4
    all_goals first
      | (with_reducible refine congrArg Ending.returned ?_; simp [Act.put]; apply ByteArray.ext; simp [ByteArray.data_append])
      | (repeat (first
           | exact hb3
           | (refine Below.drew ?_)
           | (refine Below.trans ?_ (Below.mono hb4 (by first | omega | (simp; omega))))
           | (refine Below.alloc ?_ (by first | omega | (simp; omega)) _)))
end Go.Proofs.YtfdlnhflgiemiaaDoor
