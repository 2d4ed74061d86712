/-
  The walk through finalize.Closed, of any disc.
-/
import Derived.Test.YtiekfipjbmdkpaaGreatDoorFc
namespace Go.Proofs.YtiekfipjbmdkpaaGreatDoor
open Go.RowKit

set_option maxHeartbeats 12800000 in
set_option maxRecDepth 100000 in
/-- finalize.Closed. -/
theorem closed_any (v sv : Value) (b : List ByteArray) (l : List Fi.Se) (w : World) (hm : Lm.Strs w v b) (hs : Fi.Sess w sv l) :
    Calls Tryz.prog 13 #[.agg #[v, sv]] w fun e w' => ∃ r, e = .returned r ∧ Pm.OwnS w' w.heap.size r (if Fi.validD b l then Fi.closedL l else []) ∧ Below w.heap.size w w' := by
  obtain ⟨R, HR⟩ : ∃ R, Hid (R = if Fi.validD b l = true then Fi.closedL l else []) := ⟨_, Lib.hid rfl⟩
  rw [← HR.out]
  have HM := Lib.hid hm
  have HS := Lib.hid hs
  obtain ⟨A, c, rfl, hlc, hcm, _⟩ := hm
  obtain ⟨D, d, rfl, hld, hdm, _⟩ := hs
  rw [Lm.strs_length] at *
  unfold maxLen at hcm hdm
  have hbA := (Below.refl w.heap.size w).alloc (Nat.le_refl _) (.cells #[.slice A b.length c, .slice D l.length d] 26)
  have x0 := (Fi.box2 w (.slice A b.length c) (.slice D l.length d) 26).1
  have x1 := (Fi.box2 w (.slice A b.length c) (.slice D l.length d) 26).2
  have CI := Lib.hid (mValidD_any _ _ b l _ (HM.out.below hbA) (HS.out.below hbA))
  have hg : (w.alloc (.cells #[.slice A b.length c, .slice D l.length d] 26)).heap.size = w.heap.size + 1 := by simp
  have HG := Lib.hid hg
  have HBA := Lib.hid hbA
  have HX := Lib.hid (And.intro x0 x1)
  clear hbA hg
  go_enter Tryz.func13, Tryz.ntmps13
  go_wp2_with fail
  with_reducible refine CI.out.mono ?_
  rintro e w2 ⟨rfl, hb2⟩
  clear CI x0 x1
  have x1 := (hb2.cell (p := ⟨w.heap.size, 1, none⟩) (by rw [HG.out]; show w.heap.size < _; omega)).trans HX.out.2
  have hbw := HBA.out.trans (hb2.mono HBA.out.size)
  have hsz : w.heap.size + 1 ≤ w2.heap.size := by have := hb2.size; rw [HG.out] at this; exact this
  have hS1 : Fi.Sess w2 (.slice D l.length d) l := HS.out.below hbw
  have HS1 := Lib.hid hS1
  have HBW := Lib.hid hbw
  clear hS1 hbw HX HBA HG hb2 HS HM
  cases hvd : Fi.validD b l with
  | false =>
    rw [hvd, if_neg (by simp)] at HR
    clear hvd
    go_wp2_with fail
    go_ret
    exact ⟨_, rfl, by rw [HR.out]; exact Pm.OwnS.nil _ _, HBW.out⟩
  | true =>
  rw [hvd, if_pos rfl] at HR
  have HL := Lib.hid (Fi.validD_ses hvd).2
  clear hvd
  go_wp2_with fail
  clear x1
  go_loopw [3, 5, 12] (fun ov _ iv wr => ∃ j : Nat, j ≤ l.length ∧ iv = .int .i64 j ∧ Pm.OwnS wr w2.heap.size ov (Fi.closedTo l j) ∧ Below w2.heap.size w2 wr) (fun _ _ iv _ => l.length - (intOf iv).toNat)
  case atStart => exact ⟨0, by omega, rfl, Pm.OwnS.nil _ _, Below.refl _ _⟩
  case round =>
    obtain ⟨j, hj, rfl, hown, hbr⟩ := hrel
    have HO := Lib.hid hown
    have HBR := Lib.hid hbr
    by_cases hlt : j < l.length
    · obtain ⟨p, o, c', hv, hpl, q0, q1, q2⟩ := Fi.row3 (HS1.out.below hbr) hlt
      obtain ⟨rfl, _, rfl⟩ : D = some ⟨p, o, none⟩ ∧ l.length = l.length ∧ d = c' := by simpa using hv
      clear hv
      have HN := Lib.hid (show Fi.closedTo l (j + 1) = if (l.getD j Fi.se0).closed then Fi.closedTo l j ++ [((l.getD j Fi.se0).start, (l.getD j Fi.se0).count)] else Fi.closedTo l j from rfl)
      have h8 : (Fi.closedTo l j).length ≤ 100000 := by have := Fi.closedTo_le l j; have := HL.out; omega
      generalize l.getD j Fi.se0 = s at *
      obtain ⟨s0, s1, s2⟩ := s
      simp only [] at *
      have H8 := Lib.hid h8
      have HBS := Lib.hid (HBR.out.alloc HBR.out.size (.cells #[.int .i64 s0, .int .i64 s1, .bool s2] 49))
      have HZ := Lib.hid (Fi.box3 wr (.int .i64 s0) (.int .i64 s1) (.bool s2) 49)
      have HO1 := Lib.hid (hown.alloc (.cells #[.int .i64 s0, .int .i64 s1, .bool s2] 49))
      clear hown hbr h8
      cases s2 with
      | false =>
        rw [if_neg (by simp)] at HN
        go_wp2_with fail
        go_roundw
        case rel => exact ⟨j + 1, by omega, by go_num, by rw [HN.out]; exact HO1.out, HBS.out⟩
        case measure => simp [intOf]; omega
      | true =>
        rw [if_pos rfl] at HN
        have hsz3 : w2.heap.size ≤ (wr.alloc (.cells #[.int .i64 s0, .int .i64 s1, .bool true] 49)).heap.size := HBS.out.size
        have HSZ3 := Lib.hid hsz3
        clear hsz3
        go_wp2_with (at_builtin; refine pushS rfl (.tmp 18) (.tmp 24) rfl w2.heap.size _ (Fi.closedTo l j) rfl HO1.out s0 s1 1 _ rfl ?q1 H8.out HSZ3.out ?_)
        case q1 => simp
        intro v' w' ho' hb'
        have HOn := Lib.hid ho'
        have HBn := Lib.hid (HBS.out.trans hb')
        clear ho' hb'
        go_wp2_with fail
        go_roundw
        case rel => exact ⟨j + 1, by omega, by go_num, by rw [HN.out]; exact HOn.out, HBn.out⟩
        case measure => simp [intOf]; omega
    · obtain rfl : j = l.length := by omega
      have HBE := Lib.hid (HBW.out.trans (hbr.mono HBW.out.size))
      clear hbr hown
      go_wp2_with fail
      go_ret
      refine ⟨_, rfl, ?_, HBE.out⟩
      rw [HR.out]
      exact HO.out.mono (by omega)
end Go.Proofs.YtiekfipjbmdkpaaGreatDoor
