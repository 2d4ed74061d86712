/-
  The walks through udfstring.Expand (whole), sized, Fit, Dstring and ParseDstring.
-/
import Derived.Test.YtfdlnhflgiemiaaDoorU2
namespace Go.Proofs.YtfdlnhflgiemiaaDoor
open Go.RowKit

theorem mod_one (n : Nat) : n % 1 = 0 := by omega

set_option maxHeartbeats 1600000 in
set_option maxRecDepth 100000 in
/-- udfstring.Expand. -/
theorem expand_any (d : ByteArray) (w : World) (hs : d.size ≤ 9223372036854775807) :
    Calls Tryd.prog 13 #[.string d] w fun e w' => e = .returned (.tuple #[.string ⟨(Cs.expandR d.data.toList).1.toArray⟩, .int .i64 (Cs.expandR d.data.toList).2]) ∧ Below w.heap.size w w' := by
  have hdl := Kit.len_size d
  by_cases hl : d.size ≤ 65536
  case neg =>
    have hR : Cs.expandR d.data.toList = ([], 7) := if_pos (by omega)
    have HR := Lib.hid hR
    have hl' : (65536 : Int) < (d.size : Int) := by omega
    clear hR hdl
    go_enter Tryd.func13, Tryd.ntmps13
    go_wp2_with fail
    go_ret2
    rw [HR.out]
    exact ⟨rfl, Below.refl _ _⟩
  case pos =>
  have hl' : ¬ (65536 : Int) < (d.size : Int) := by omega
  by_cases h0 : d.size = 0
  · have hR : Cs.expandR d.data.toList = ([], 0) := by
      unfold Cs.expandR
      rw [if_neg (by omega), if_pos (by omega)]
    have HR := Lib.hid hR
    have he := Kit.is_empty d h0
    clear hR hdl h0
    go_enter Tryd.func13, Tryd.ntmps13
    go_wp2_with fail
    go_ret2
    rw [HR.out]
    exact ⟨rfl, Below.refl _ _⟩
  have hz : (0 : Int) < (d.size : Int) := by omega
  have he := Kit.not_empty d (by omega)
  have hpos : 0 < d.size := by omega
  have b0 := Kit.byt_get d 0 hpos
  by_cases h8 : Cs.byt d.data.toList 0 = 8
  · exact expand_body d 1 w hl (by omega) (.inl rfl) h8 (mod_one _)
  by_cases h16 : Cs.byt d.data.toList 0 = 16
  · by_cases hev : (d.size - 1) % 2 = 0
    · exact expand_body d 2 w hl (by omega) (.inr rfl) h16 hev
    · have hR : Cs.expandR d.data.toList = ([], 3) := by
        unfold Cs.expandR
        rw [if_neg (by omega), if_neg (by omega), if_pos (by omega)]
      have HR := Lib.hid hR
      have e1 : (((Cs.byt d.data.toList 0 : Nat) : Int) != 8) = true := by rw [bne_iff_ne]; omega
      have e2 : (((Cs.byt d.data.toList 0 : Nat) : Int) != 16) = false := by rw [bne_eq_false_iff_eq]; omega
      have e3 : (((Cs.byt d.data.toList 0 : Nat) : Int) == 16) = true := by rw [beq_iff_eq]; omega
      have e4 : ((d.size : Int) % 2 == 0) = true := by rw [beq_iff_eq]; omega
      clear hR hdl h8 h16 hev h0
      go_enter Tryd.func13, Tryd.ntmps13
      go_wp2_with fail
      go_ret2
      rw [HR.out]
      exact ⟨rfl, Below.refl _ _⟩
  · have hR : Cs.expandR d.data.toList = ([], 3) := by
      unfold Cs.expandR
      rw [if_neg (by omega), if_neg (by omega), if_pos (by omega)]
    have HR := Lib.hid hR
    have e1 : (((Cs.byt d.data.toList 0 : Nat) : Int) != 8) = true := by rw [bne_iff_ne]; omega
    have e2 : (((Cs.byt d.data.toList 0 : Nat) : Int) != 16) = true := by rw [bne_iff_ne]; omega
    clear hR hdl h8 h16 h0
    go_enter Tryd.func13, Tryd.ntmps13
    go_wp2_with fail
    go_ret2
    rw [HR.out]
    exact ⟨rfl, Below.refl _ _⟩

set_option maxHeartbeats 400000 in
/-- udfstring.sized. -/
theorem sized_any (n : Int) (w : World) : Calls Tryd.prog 41 #[.int .i64 n] w fun e w' => e = .returned (.bool (Cs.sized n)) ∧ w = w' := by
  by_cases h1 : 2 ≤ n <;> by_cases h2 : n ≤ 255
  all_goals
    go_enter Tryd.func41, Tryd.ntmps41
    go_wp2
    go_ret
    refine ⟨congrArg (fun b => Ending.returned (.bool b)) ?_, rfl⟩
    unfold Cs.sized
    simp [*]

theorem sized_iff (n : Int) : Cs.sized n = true ↔ 2 ≤ n ∧ n ≤ 255 := by simp [Cs.sized]

set_option maxHeartbeats 1600000 in
set_option maxRecDepth 100000 in
/-- udfstring.ParseDstring. -/
theorem parse_any (f : ByteArray) (w : World) (hs : f.size ≤ 9223372036854775807) :
    Calls Tryd.prog 17 #[.string f] w fun e w' => e = .returned (.tuple #[.string ⟨(Cs.parseR f.data.toList).1.toArray⟩, .int .i64 (Cs.parseR f.data.toList).2]) ∧ Below w.heap.size w w' := by
  have hdl := Kit.len_size f
  have cS := fun W => sized_any (f.size : Int) W
  by_cases hz : Cs.sized (f.size : Int) = true
  case neg =>
    have hz' : Cs.sized (f.size : Int) = false := by simpa using hz
    have hR : Cs.parseR f.data.toList = ([], 1) := if_pos (by rw [hdl]; exact hz')
    have HR := Lib.hid hR
    rw [hz'] at cS
    have CS := Lib.hid cS
    clear hR hdl cS hz hz'
    go_enter Tryd.func17, Tryd.ntmps17
    go_wp2_with fail
    with_reducible refine (CS.out _).mono ?_
    rintro e w3 ⟨rfl, rfl⟩
    go_wp2_with fail
    go_ret2
    rw [HR.out]
    exact ⟨rfl, Below.refl _ _⟩
  case pos =>
  have h25 := (sized_iff _).1 hz
  have hR0 : Cs.parseR f.data.toList = if f.size - 1 < Cs.byt f.data.toList (f.size - 1) then ([], 10) else Cs.expandR (f.data.toList.take (Cs.byt f.data.toList (f.size - 1))) := by
    unfold Cs.parseR
    rw [if_neg (by rw [hdl, hz]; simp), hdl]
  rw [hz] at cS
  have CS := Lib.hid cS
  have hpos : f.size - 1 < f.size := by omega
  have bl := Kit.byt_get f (f.size - 1) hpos
  have lb := Cs.byt_lt f.data.toList (f.size - 1)
  have cE := fun W h => expand_any (f.extract 0 (Cs.byt f.data.toList (f.size - 1))) W h
  have hidx : ((f.size : Int) - 1).toNat = f.size - 1 := by omega
  generalize hn : Cs.byt f.data.toList (f.size - 1) = n at *
  by_cases hc : f.size - 1 < n
  · have HR := Lib.hid (hR0.trans (if_pos hc))
    have hc' : (f.size : Int) - 1 < (n : Int) := by omega
    clear hR0 hdl cS hz hn cE hc
    obtain ⟨hl2, hu2⟩ := h25
    go_enter Tryd.func17, Tryd.ntmps17
    go_wp2_with fail
    with_reducible refine (CS.out _).mono ?_
    rintro e w3 ⟨rfl, rfl⟩
    go_wp2_with fail
    go_ret2
    rw [HR.out]
    exact ⟨rfl, Below.refl _ _⟩
  · have HR := Lib.hid (hR0.trans (if_neg hc))
    have hc' : ¬ (f.size : Int) - 1 < (n : Int) := by omega
    have hc2 : (n : Int) ≤ (f.size : Int) := by omega
    have hex : (f.extract 0 n).data.toList = f.data.toList.take n := by rw [Lib.extract_data]; simp
    rw [hex] at cE
    have CE := Lib.hid (fun W => cE W (by simp; omega))
    clear hR0 hdl cS hz hn cE hc hex
    obtain ⟨hl2, hu2⟩ := h25
    go_enter Tryd.func17, Tryd.ntmps17
    go_wp2_with fail
    with_reducible refine (CS.out _).mono ?_
    rintro e w3 ⟨rfl, rfl⟩
    go_wp2_with fail
    with_reducible refine (CE.out _).mono ?_
    rintro e w4 ⟨rfl, hb4⟩
    go_wp2_with fail
    go_ret2
    rw [HR.out]
    exact ⟨rfl, hb4⟩
end Go.Proofs.YtfdlnhflgiemiaaDoor
