/-
  The reference's paths.
-/
import Derived.Test.YtlhechlbmbjffaaDoorRa
import Derived.Test.YtlhechlbmbjffaaDoorRc
import Derived.Test.YtlhechlbmbjffaaDoorJm
namespace Go.Proofs.YtlhechlbmbjffaaDoor
open Go.RowKit

set_option maxHeartbeats 3200000 in
set_option maxRecDepth 100000 in
/-- masterdiscref56.paths. -/
theorem rPaths_any (v : Value) (fs : List Lm.F) (w : World) (hf : Lm.Files w v fs) (hl : fs.length ≤ 1048576) :
    Calls Tryd.prog 30 #[v] w fun e w' => ∃ r, e = .returned r ∧ Lm.Strs w' r (Lm.pathsR fs fs.length) ∧ Below w.heap.size w w' := by
  obtain ⟨i0, hi, hz0, hz1, hz2⟩ := info_parts strInfo
  obtain ⟨B, d, rfl, hld, hdm, hce⟩ := hf
  have HCE := Lib.hid hce
  clear hce
  unfold maxLen at hdm
  go_enter Tryd.func30, Tryd.ntmps30
  go_wp2_with fail
  go_loopw [3, 4] (fun v iv wr => ∃ j : Nat, j ≤ fs.length ∧ iv = .int .i64 j ∧ Hid (wr.ownsRow w.heap.size 9 1 v (Lm.pathsR fs j).length (Lm.strs (Lm.pathsR fs j))) ∧ Below w.heap.size w wr) (fun _ iv _ => fs.length - (intOf iv).toNat)
  case atStart => exact ⟨0, by omega, rfl, Lib.hid (World.ownsRow_nil _ _ _ _), Below.refl _ _⟩
  case round =>
    obtain ⟨j, hj, rfl, HOWN, hbw⟩ := hrel
    by_cases hlt : j < fs.length
    · obtain ⟨b, o, rfl, hbl, hc⟩ := HCE.out (by omega)
      have q0 := (hbw.cell (p := ⟨b, o + j * 3 + 0, none⟩) hbl).trans (hc j hlt 0 _ rfl)
      simp only [Nat.add_zero] at q0
      have HST := Lib.hid (Lm.pathsR_succ fs j)
      have hfst := Lm.pathsR_first hlt
      have hdl := Lm.pathsR_len fs j
      clear hc
      generalize Lm.pathsR fs j = d at *
      generalize fs.getD j Lm.f0 = x at *
      obtain ⟨pa, off, ln⟩ := x
      simp only [Lm.fC] at *
      have HB := Lib.hid hbw
      have hsz := hbw.size
      have CH := Lib.hid (rHasPath_any _ d pa _ (Kit.Row.of_own HOWN.out))
      rw [hfst] at CH
      clear hbw hfst
      cases hh : Lm.firstAt fs j with
      | false =>
        rw [hh] at CH HST
        clear hh
        go_wp2_with fail
        with_reducible refine CH.out.mono ?_
        rintro e w2 ⟨rfl, rfl⟩
        go_wp2_with fail
        go_roundw
        case rel => exact ⟨j + 1, by omega, by go_num, Lib.hid (by rw [HST.out, if_neg (by decide), List.append_nil]; exact HOWN.out), HB.out⟩
        case measure => simp [intOf]; omega
      | true =>
        rw [hh] at CH HST
        clear hh
        go_wp2_with fail
        with_reducible refine CH.out.mono ?_
        rintro e w2 ⟨rfl, hw2⟩
        rw [← hw2] at HB HOWN hsz q0
        clear hw2
        have HOWN2 := Lib.hid (HOWN.out.alloc (.cells #[.string pa] 9))
        have HB2 := Lib.hid (HB.out.alloc HB.out.size (.cells #[.string pa] 9))
        have hsz2 := HB2.out.size
        go_wp2_with (at_builtin; refine Lm.box ?_)
        refine Lib.hid ?_
        refine Kit.push rfl _ _ 22 rfl w.heap.size 9 i0 (.string ⟨#[]⟩) 16 Tryd.underlying22 hi hz0 hz1 hz2 rfl _ _ _ rfl HOWN.out (Lm.strs [pa]) 1 1 rfl rfl (Lm.one_strs [pa]) ?c1 ?c2 ?c3 ?_
        case c1 => unfold maxLen; omega
        case c2 => omega
        case c3 => omega
        intro v' w4 hown' hb4
        have HOWN' := Lib.hid hown'
        clear hown'
        go_wp2_with fail
        go_roundw
        case rel => exact ⟨j + 1, by omega, by go_num, Lib.hid (by
          rw [HST.out]
          first | rw [if_pos rfl] | rw [if_pos trivial]
          have h := HOWN'.out
          rw [← Lm.strs_append] at h
          simpa using h), HB.out.trans hb4⟩
        case measure => simp [intOf]; omega
    · obtain rfl : j = fs.length := by omega
      have HR := Lib.hid (Kit.Row.of_own HOWN.out)
      go_wp2_with fail
      go_ret
      exact ⟨_, rfl, HR.out, hbw⟩
end Go.Proofs.YtlhechlbmbjffaaDoor
