/-
  The walks through the reference's Utf8 and Expand.
-/
import Derived.Test.YtfdlnhflgiemiaaDoorV1
import Derived.Test.YtfdlnhflgiemiaaDoorU2
namespace Go.Proofs.YtfdlnhflgiemiaaDoor
open Go.RowKit

set_option maxHeartbeats 400000 in
/-- masterdiscref32.character. -/
theorem vCharacter_any (n : Int) (w : World) : Calls Tryd.prog 39 #[.int .i64 n] w fun e w' => e = .returned (.bool (Cs.isChar n)) ∧ w = w' := by
  by_cases h1 : 32 ≤ n <;> by_cases h2 : n ≤ 65533 <;> by_cases h3 : n < 55296 <;> by_cases h4 : 57343 < n
  all_goals
    go_enter Tryd.func39, Tryd.ntmps39
    go_wp2
    go_ret
    refine ⟨congrArg (fun b => Ending.returned (.bool b)) ?_, rfl⟩
    unfold Cs.isChar
    simp [*]

theorem bytes_enc (n : Nat) (h : n ≤ 65535) : Kit.bytes (Cs.enc (n : Int)) = (Cs.encZ (n : Int)).map (Value.int .u8) := by
  rw [← Cs.enc_toNat (n : Int) (by omega) (by omega)]
  simp [Kit.bytes]

set_option maxHeartbeats 1600000 in
set_option maxRecDepth 100000 in
/-- masterdiscref32.Utf8. -/
theorem utf8_any (v : Value) (cs : List Nat) (w : World) (hr : Kit.Row w v (Kit.ints cs)) (hc : ∀ c ∈ cs, c ≤ 65535) (hl : cs.length ≤ 65536) :
    Calls Tryd.prog 40 #[v] w fun e w' => e = .returned (.string ⟨(Cs.text cs).toArray⟩) ∧ Below w.heap.size w w' := by
  obtain ⟨A, c, rfl, hlc, hcm, hcell⟩ := hr
  rw [Kit.ints_length] at hlc hcell ⊢
  unfold maxLen at hcm
  have HC := Lib.hid hcell
  have HW := Lib.hid hc
  clear hcell hc
  go_enter Tryd.func40, Tryd.ntmps40
  go_wp2_with fail
  go_loopw [4, 3] (fun iv ov wr => ∃ (j n : Nat), j ≤ cs.length ∧ iv = .int .i64 j ∧ wr.ownsRow w.heap.size 5 1 ov n (Kit.bytes (Cs.text (cs.take j))) ∧ n ≤ 3 * j ∧ Below w.heap.size w wr) (fun iv _ _ => cs.length - (intOf iv).toNat)
  case atStart => exact ⟨0, 0, by omega, rfl, Kit.own_empty w _, by omega, (Below.refl _ _).alloc (Nat.le_refl _) _⟩
  case round =>
    obtain ⟨j, n, hj, rfl, hown, hn, hbw⟩ := hrel
    have HOWN := Lib.hid hown
    clear hown
    have hsz := hbw.size
    by_cases hlt : j < cs.length
    · obtain ⟨b, o, rfl, hbl, hce⟩ := HC.out (by omega)
      have hcj : wr.cell? ⟨b, o + j, none⟩ = some (.int .i64 (cs.getD j 0 : Nat)) := by
        rw [hbw.cell (p := ⟨b, o + j, none⟩) hbl]
        exact hce j _ (by simp [Kit.ints, List.getD, hlt])
      clear hce
      have hy := HW.out (cs.getD j 0) (by simp [List.getD, hlt])
      have hst : Cs.text (cs.take (j + 1)) = Cs.text (cs.take j) ++ Cs.enc ((cs.getD j 0 : Nat) : Int) := by
        rw [List.take_succ_eq_append_getElem hlt, Cs.text_snoc]
        simp [List.getD, hlt]
      have hbe := bytes_enc _ hy
      generalize cs.getD j 0 = y at *
      have hst' : Kit.bytes (Cs.text (cs.take (j + 1))) = Kit.bytes (Cs.text (cs.take j)) ++ (Cs.encZ (y : Int)).map (Value.int .u8) := by rw [hst, Kit.bytes_append, hbe]
      have HST := Lib.hid hst'
      have hy1 : (y : Int) ≤ 65535 := by omega
      clear hst hbe hst'
      by_cases ha : (y : Int) < 128
      · have he : Cs.encZ (y : Int) = [(y : Int)] := by unfold Cs.encZ; rw [if_pos ha]
        have HE := Lib.hid he
        clear he
        go_wp2_with (at_builtin; refine Kit.app byteInfo rfl (by decide) rfl _ _ 48 rfl Tryd.underlying48 w.heap.size _ _ _ rfl HOWN.out [_] 1 1 rfl rfl (Kit.one1 rfl) ?c1 hsz ?_)
        case c1 => omega
        intro v' w4 hown' hb4
        have HOWN' := Lib.hid hown'
        clear hown'
        go_wp2_with fail
        go_roundw
        case rel => exact ⟨j + 1, n + 1, by omega, by go_num, by
          rw [HST.out, HE.out]
          exact HOWN'.out, by omega, hbw.trans hb4⟩
        case measure => simp [intOf]; omega
      · by_cases hb : (y : Int) < 2048
        · have he : Cs.encZ (y : Int) = [192 + (y : Int) / 64, 128 + (y : Int) % 64] := by unfold Cs.encZ; rw [if_neg ha, if_pos hb]
          have HE := Lib.hid he
          clear he
          go_wp2_with (at_builtin; refine Kit.app byteInfo rfl (by decide) rfl _ _ 48 rfl Tryd.underlying48 w.heap.size _ _ _ rfl HOWN.out [_, _] 2 2 rfl rfl (Kit.one_u8s [_, _]) ?c1 hsz ?_)
          case c1 => omega
          intro v' w4 hown' hb4
          have HOWN' := Lib.hid hown'
          clear hown'
          go_wp2_with fail
          go_roundw
          case rel => exact ⟨j + 1, n + 2, by omega, by go_num, by
            rw [HST.out, HE.out]
            exact HOWN'.out, by omega, hbw.trans hb4⟩
          case measure => simp [intOf]; omega
        · have he : Cs.encZ (y : Int) = [224 + (y : Int) / 4096, 128 + (y : Int) / 64 % 64, 128 + (y : Int) % 64] := by unfold Cs.encZ; rw [if_neg ha, if_neg hb]
          have HE := Lib.hid he
          clear he
          go_wp2_with (at_builtin; refine Kit.app byteInfo rfl (by decide) rfl _ _ 48 rfl Tryd.underlying48 w.heap.size _ _ _ rfl HOWN.out [_, _, _] 3 3 rfl rfl (Kit.one_u8s [_, _, _]) ?c1 hsz ?_)
          case c1 => omega
          intro v' w4 hown' hb4
          have HOWN' := Lib.hid hown'
          clear hown'
          go_wp2_with fail
          go_roundw
          case rel => exact ⟨j + 1, n + 3, by omega, by go_num, by
            rw [HST.out, HE.out]
            exact HOWN'.out, by omega, hbw.trans hb4⟩
          case measure => simp [intOf]; omega
    · obtain rfl : j = cs.length := by omega
      have hcv := Kit.str_own HOWN.out
      rw [List.take_length] at hcv
      go_wp2_with fail
      go_ret
      exact ⟨rfl, hbw⟩
end Go.Proofs.YtfdlnhflgiemiaaDoor
