/-
  The walk through the reference's ParseEntity: one of its ways out.
-/
import Derived.Test.YtfdlnhflgiemiaaDoorN4A
import Derived.Test.YtfdlnhflgiemiaaDoorLt
namespace Go.Proofs.YtfdlnhflgiemiaaDoor
open Go.RowKit

set_option maxHeartbeats 6400000 in
set_option maxRecDepth 100000 in
/-- masterdiscref32.ParseEntity. -/
theorem rPent_T (f : ByteArray) (w : World) (h32 : f.size = 32) (g1 : 1 ≤ (Cs.entS f.data.toList).length) (ga : Cs.allP (Cs.entS f.data.toList) = true) (gq : decide ((f.extract (1 + (Cs.entS f.data.toList).length) 24).data.toList = List.replicate (23 - (Cs.entS f.data.toList).length) 0) = true) :
    Calls Tryd.prog 27 #[.string f] w fun e w' => e = .returned (.tuple #[.string ⟨(Cs.pentR f.data.toList).1.1.toArray⟩, .string ⟨(Cs.pentR f.data.toList).1.2.toArray⟩, .int .i64 (Cs.pentR f.data.toList).2]) ∧ Below w.heap.size w w' := by
  have hdl := Kit.len_size f
  have h32l : f.data.toList.length = 32 := by omega
  have hR : Cs.pentR f.data.toList = if Cs.entOk f.data.toList = true then ((Cs.entS f.data.toList, f.data.toList.drop 24), 0) else (([], []), 10) := if_neg (by omega)
  have HRR := Lib.hid hR
  have H32 := Lib.hid h32l
  have h32' : ((f.size : Int) != 32) = false := by rw [bne_eq_false_iff_eq]; omega
  have hz : (32 : Int) ≤ (f.size : Int) := by omega
  clear hR h32l hdl
  go_enter Tryd.func27, Tryd.ntmps27
  go_wp2_with fail
  go_loopw [5] (fun nv wr => ∃ k : Nat, nv = .int .i64 k ∧ k ≤ 23 ∧ Hid (∀ j, j < k → Cs.byt f.data.toList (1 + j) ≠ 0) ∧ Below w.heap.size w wr) (fun nv _ => 23 - (intOf nv).toNat)
  case atStart => exact ⟨0, rfl, by omega, Lib.hid (fun j hj => by omega), Below.refl _ _⟩
  case round =>
    obtain ⟨k, rfl, hk, HK, hbw⟩ := hrel
    by_cases hgo : k < 23 ∧ Cs.byt f.data.toList (1 + k) ≠ 0
    · obtain ⟨hk1, hk2⟩ := hgo
      have hlt : 1 + k < f.size := by omega
      have b0 := Kit.byt_get f (1 + k) hlt
      have hix : (1 + (k : Int)).toNat = 1 + k := by omega
      have HN := Lib.hid (show ∀ j, j < k + 1 → Cs.byt f.data.toList (1 + j) ≠ 0 from fun j hj => by
        by_cases hjk : j = k
        · subst hjk; exact hk2
        · exact HK.out j (by omega))
      generalize Cs.byt f.data.toList (1 + k) = x at *
      have hx : ((x : Int) != 0) = true := by rw [bne_iff_ne]; omega
      go_wp2_with fail
      go_roundw
      case rel => exact ⟨k + 1, by go_num, by omega, HN, hbw⟩
      case measure => simp [intOf]; omega
    · have hS : Cs.entS f.data.toList = (Cs.entL f.data.toList).take k := by
        have hl := Cs.entL_len H32.out
        refine Cs.while_len _ k (by omega) (fun j hj => ?_) ?_
        · rw [Cs.byt_entL H32.out j (by omega)]; exact HK.out j hj
        · by_cases h23 : k = 23
          · left; omega
          · right
            rw [Cs.byt_entL H32.out k (by omega)]
            by_cases hb : Cs.byt f.data.toList (1 + k) = 0
            · exact hb
            · exact absurd ⟨by omega, hb⟩ hgo
      have hSl : (Cs.entS f.data.toList).length = k := by
        rw [hS, List.length_take, Cs.entL_len H32.out]; omega
      rw [hSl] at g1
      rw [hSl] at gq
      have e1 : (f.extract 1 (1 + k)).data.toList = Cs.entS f.data.toList := by
        rw [hS, Lib.extract_data]
        unfold Cs.entL
        rw [List.take_take]
        congr 1
        omega
      have e2 : (f.extract (1 + k) 24).data.toList = (Cs.entL f.data.toList).drop k := by
        rw [Lib.extract_data]
        unfold Cs.entL
        rw [List.drop_take, List.drop_drop]
        congr 1
        omega
      have hok : Cs.entOk f.data.toList = (Cs.idR (Cs.entS f.data.toList) && decide ((f.extract (1 + k) 24).data.toList = List.replicate (23 - k) 0)) := by
        unfold Cs.entOk
        rw [hSl, Cs.zeros_all, e2]
        congr 2
        rw [List.length_drop, Cs.entL_len H32.out]
      have hid : Cs.idR (Cs.entS f.data.toList) = (decide (1 ≤ k) && Cs.allP (Cs.entS f.data.toList)) := by
        unfold Cs.idR Cs.allP
        rw [hSl, decide_eq_true (show k ≤ 23 from hk)]
        rfl
      have cP := fun W => rPrintable_same (f.extract 1 (1 + k)) W (by simp; omega)
      rw [e1] at cP
      have cZ := fun W => vZeros_any (23 - (k : Int)) (by omega) (by omega) W
      rw [show (23 - (k : Int)).toNat = 23 - k by omega] at cZ
      have hdl := Kit.len_size f
      have hd24 : f.extract 24 f.size = ⟨(f.data.toList.drop 24).toArray⟩ := by rw [← Lib.extract_to_end f 24]
      have he1 : f.extract 1 (1 + k) = ⟨(Cs.entS f.data.toList).toArray⟩ := by rw [← e1]
      have hstop : (k < 23 ∧ Cs.byt f.data.toList (1 + k) = 0) ∨ k = 23 := by
        by_cases h23 : k = 23
        · right; exact h23
        · left
          refine ⟨by omega, ?_⟩
          by_cases hb : Cs.byt f.data.toList (1 + k) = 0
          · exact hb
          · exact absurd ⟨by omega, hb⟩ hgo
      have hR := HRR.out
      rw [hok, hid] at hR
      have hrl : (List.replicate (23 - k) (0 : UInt8)).length ≤ 23 := by simp
      have htl : ∀ r : Bool, decide ((f.extract (1 + k) 24).data.toList = List.replicate (23 - k) 0) = r → ((f.extract (1 + k) 24).toList == List.replicate (23 - k) (0 : UInt8)) = r := by
        intro r h
        rw [← h, Lib.toList_data]
        rw [Bool.eq_iff_iff]
        simp
      generalize hq : decide ((f.extract (1 + k) 24).data.toList = List.replicate (23 - k) 0) = q at *
      have htq := htl q rfl
      generalize List.replicate (23 - k) (0 : UInt8) = zl at *
      generalize Cs.entS f.data.toList = sl at *
      generalize Cs.allP sl = ap at *
      generalize f.data.toList.drop 24 = d24 at *
      have HE1 := Lib.hid he1
      have H24 := Lib.hid hd24
      have CP := Lib.hid cP; have CZ := Lib.hid cZ
      have hlt : 1 + 22 < f.size := by omega
      have hix : (1 + (k : Int)).toNat = 1 + k := by omega
      clear hgo hS e1 e2 hok hid cP cZ hdl htl hq hd24 he1 HK hSl HRR
      have y1 : IntKind.i64.wrap (1 + (k : Int)) = 1 + (k : Int) := IntWalk.i64_in _ (by omega)
      have y2 : IntKind.i64.wrap (23 - (k : Int)) = 23 - (k : Int) := IntWalk.i64_in _ (by omega)
      have hk0' : ((k : Int) == 0) = false := by rw [beq_eq_false_iff_ne]; omega
      rw [decide_eq_true (show 1 ≤ k from g1)] at hR
      subst ga
      subst gq
      have HR := Lib.hid (hR.trans (if_pos (by first | rfl | (simp; omega))))
      have htn : ((f.extract (1 + k) 24).toList != zl) = false := by rw [bne, htq]; rfl
      clear hR
      rcases hstop with ⟨hk23, hb0⟩ | h23
      · have hlt2 : 1 + k < f.size := by omega
        have b0 := Kit.byt_get f (1 + k) hlt2
        rw [hb0] at b0
        clear hb0
        go_wp2_with fail
        refine wp_region_later wr.heap.size (by kernel_rfl) (by kernel_rfl) ?_
        repeat (any_goals (first | go_big_quiet_skip | (go_big_quiet_want; go_big_quiet_op; first | go_big_quiet_on | (apply Exists.intro; refine ⟨fun _ => ?_, ?_⟩; (first | (go_at_call 49; exact Calls.later_same (CP.out _)) | (go_at_call 43; exact Calls.later_of (Nat.le_refl _) (CZ.out _))); go_big_quiet_on))))
        refine wpQuiet_nil ?_
        intro wq hw'
        obtain ⟨⟨wz, hbq⟩, hw''⟩ := hw'
        subst hw''
        have hc2 := hbw.trans (hbq.mono hbw.size)
        go_wp2_with fail
        go_quiet (fail)
        have hc5 := Kit.Below.drewN hc2 nq
        generalize wq.drewN nq = wy at hc5 ⊢
        go_wp2_with fail
        go_returns
        rw [HR.out]
        refine ⟨?_, hc5⟩
        with_reducible refine congrArg Ending.returned ?_
        simp
        rw [← h32]
        exact ⟨HE1.out, H24.out⟩
      · have hk23' : ¬ (k : Int) < 23 := by omega
        clear h23
        go_wp2_with fail
        refine wp_region_later wr.heap.size (by kernel_rfl) (by kernel_rfl) ?_
        repeat (any_goals (first | go_big_quiet_skip | (go_big_quiet_want; go_big_quiet_op; first | go_big_quiet_on | (apply Exists.intro; refine ⟨fun _ => ?_, ?_⟩; (first | (go_at_call 49; exact Calls.later_same (CP.out _)) | (go_at_call 43; exact Calls.later_of (Nat.le_refl _) (CZ.out _))); go_big_quiet_on))))
        refine wpQuiet_nil ?_
        intro wq hw'
        obtain ⟨⟨wz, hbq⟩, hw''⟩ := hw'
        subst hw''
        have hc2 := hbw.trans (hbq.mono hbw.size)
        go_wp2_with fail
        go_quiet (fail)
        have hc5 := Kit.Below.drewN hc2 nq
        generalize wq.drewN nq = wy at hc5 ⊢
        go_wp2_with fail
        go_returns
        rw [HR.out]
        refine ⟨?_, hc5⟩
        with_reducible refine congrArg Ending.returned ?_
        simp
        rw [← h32]
        exact ⟨HE1.out, H24.out⟩
end Go.Proofs.YtfdlnhflgiemiaaDoor
