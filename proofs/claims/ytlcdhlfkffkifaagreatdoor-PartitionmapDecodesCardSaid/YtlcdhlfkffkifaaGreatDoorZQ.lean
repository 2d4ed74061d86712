/-
  The walk through the reference's ParseEntity: one of its ways out.
-/
import Derived.Test.YtlcdhlfkffkifaaGreatDoorZC
import Derived.Test.YtlcdhlfkffkifaaGreatDoorZA
namespace Go.Proofs.YtlcdhlfkffkifaaGreatDoor
open Go.RowKit
set_option maxHeartbeats 1600000 in
set_option maxRecDepth 100000 in
/-- masterdiscref32.printable. -/
theorem rPrintable_same (s : ByteArray) (w : World) (hs : s.size ≤ 9223372036854775807) :
    Calls Tryz.prog 86 #[.string s] w fun e w' => e = .returned (.bool (Cs.allP s.data.toList)) ∧ w = w' := by
  have HDL := Lib.hid (Kit.len_size s)
  go_enter Tryz.func86, Tryz.ntmps86
  go_wp2_with fail
  go_loopw [3] (fun iv wr => ∃ j : Nat, j ≤ s.size ∧ iv = .int .i64 j ∧ Hid ((s.data.toList.take j).all Cs.prt = true) ∧ w = wr) (fun iv _ => s.size - (intOf iv).toNat)
  case atStart => exact ⟨0, by omega, rfl, Lib.hid rfl, rfl⟩
  case round =>
    obtain ⟨j, hj, rfl, HA, rfl⟩ := hrel
    by_cases hlt : j < s.size
    · have b0 := Kit.byt_get s j hlt
      have hlt' : j < s.data.toList.length := by rw [HDL.out]; exact hlt
      by_cases hp : Cs.prt (s.data.toList.getD j 0) = true
      · have HN := Lib.hid (all_snocP hlt' HA.out hp)
        obtain ⟨h1, h2⟩ := (Cs.prt_iff _).1 hp
        have h1' : ¬ ((Cs.byt s.data.toList j : Nat) : Int) < 32 := by unfold Cs.byt; omega
        have h2' : ¬ (126 : Int) < ((Cs.byt s.data.toList j : Nat) : Int) := by unfold Cs.byt; omega
        generalize Cs.byt s.data.toList j = x at *
        clear hp h1 h2 hlt'
        go_wp2_with fail
        go_roundw
        case rel => exact ⟨j + 1, by omega, by go_num, HN, by first | rfl | trivial⟩
        case measure => simp [intOf]; omega
      · have hp' : Cs.prt (s.data.toList.getD j 0) = false := by simpa using hp
        have HN := Lib.hid (show Cs.allP s.data.toList = false from all_failP hlt' hp')
        have h1' : ((Cs.byt s.data.toList j : Nat) : Int) < 32 ∨ (126 : Int) < ((Cs.byt s.data.toList j : Nat) : Int) ∧ ¬ ((Cs.byt s.data.toList j : Nat) : Int) < 32 := by
          have hn : ¬ (32 ≤ (s.data.toList.getD j 0).toNat ∧ (s.data.toList.getD j 0).toNat ≤ 126) := fun h => hp ((Cs.prt_iff _).2 h)
          unfold Cs.byt
          omega
        generalize Cs.byt s.data.toList j = x at *
        clear hp hp' hlt'
        rcases h1' with h | ⟨h, h'⟩
        all_goals
          go_wp2_with fail
          go_ret
          rw [HN.out]
          exact ⟨rfl, rfl⟩
    · obtain rfl : j = s.size := by omega
      have ha := HA.out
      rw [List.take_of_length_le (by rw [HDL.out]; omega)] at ha
      have HH := Lib.hid (show Cs.allP s.data.toList = true from ha)
      clear ha
      go_wp2_with fail
      go_ret
      rw [HH.out]
      exact ⟨rfl, rfl⟩

set_option maxHeartbeats 6400000 in
set_option maxRecDepth 100000 in
/-- masterdiscref32.ParseEntity. -/
theorem rPent_A (f : ByteArray) (w : World) (h32 : f.size = 32) (g1 : 1 ≤ (Cs.entS f.data.toList).length) (ga : Cs.allP (Cs.entS f.data.toList) = false) :
    Calls Tryz.prog 63 #[.string f] w fun e w' => e = .returned (.tuple #[.string ⟨(Cs.pentR f.data.toList).1.1.toArray⟩, .string ⟨(Cs.pentR f.data.toList).1.2.toArray⟩, .int .i64 (Cs.pentR f.data.toList).2]) ∧ Below w.heap.size w w' := by
  have hdl := Kit.len_size f
  have h32l : f.data.toList.length = 32 := by omega
  have hR : Cs.pentR f.data.toList = if Cs.entOk f.data.toList = true then ((Cs.entS f.data.toList, f.data.toList.drop 24), 0) else (([], []), 10) := if_neg (by omega)
  have HRR := Lib.hid hR
  have H32 := Lib.hid h32l
  have h32' : ((f.size : Int) != 32) = false := by rw [bne_eq_false_iff_eq]; omega
  have hz : (32 : Int) ≤ (f.size : Int) := by omega
  clear hR h32l hdl
  go_enter Tryz.func63, Tryz.ntmps63
  go_wp2_with fail
  go_loopw [5] (fun nv wr => ∃ k : Nat, nv = .int .i64 k ∧ k ≤ 23 ∧ Hid (∀ j, j < k → Cs.byt f.data.toList (1 + j) ≠ 0) ∧ Below w.heap.size w wr) (fun nv _ => 23 - (intOf nv).toNat)
  case atStart => exact ⟨0, rfl, by omega, Lib.hid (fun j hj => by omega), Below.refl _ _⟩
  case round =>
    obtain ⟨k, rfl, hk, HK, hbw⟩ := hrel
    by_cases hgo : k < 23 ∧ Cs.byt f.data.toList (1 + k) ≠ 0
    · obtain ⟨hk1, hk2⟩ := hgo
      have hlt : 1 + k < f.size := by omega
      have b0 := Kit.byt_get f (1 + k) hlt
      have hix : (1 + (k : Int)).toNat = 1 + k := by omega
      have HN := Lib.hid (show ∀ j, j < k + 1 → Cs.byt f.data.toList (1 + j) ≠ 0 from fun j hj => by
        by_cases hjk : j = k
        · subst hjk; exact hk2
        · exact HK.out j (by omega))
      generalize Cs.byt f.data.toList (1 + k) = x at *
      have hx : ((x : Int) != 0) = true := by rw [bne_iff_ne]; omega
      go_wp2_with fail
      go_roundw
      case rel => exact ⟨k + 1, by go_num, by omega, HN, hbw⟩
      case measure => simp [intOf]; omega
    · have hS : Cs.entS f.data.toList = (Cs.entL f.data.toList).take k := by
        have hl := Cs.entL_len H32.out
        refine Cs.while_len _ k (by omega) (fun j hj => ?_) ?_
        · rw [Cs.byt_entL H32.out j (by omega)]; exact HK.out j hj
        · by_cases h23 : k = 23
          · left; omega
          · right
            rw [Cs.byt_entL H32.out k (by omega)]
            by_cases hb : Cs.byt f.data.toList (1 + k) = 0
            · exact hb
            · exact absurd ⟨by omega, hb⟩ hgo
      have hSl : (Cs.entS f.data.toList).length = k := by
        rw [hS, List.length_take, Cs.entL_len H32.out]; omega
      rw [hSl] at g1
      have e1 : (f.extract 1 (1 + k)).data.toList = Cs.entS f.data.toList := by
        rw [hS, Lib.extract_data]
        unfold Cs.entL
        rw [List.take_take]
        congr 1
        omega
      have e2 : (f.extract (1 + k) 24).data.toList = (Cs.entL f.data.toList).drop k := by
        rw [Lib.extract_data]
        unfold Cs.entL
        rw [List.drop_take, List.drop_drop]
        congr 1
        omega
      have hok : Cs.entOk f.data.toList = (Cs.idR (Cs.entS f.data.toList) && decide ((f.extract (1 + k) 24).data.toList = List.replicate (23 - k) 0)) := by
        unfold Cs.entOk
        rw [hSl, Cs.zeros_all, e2]
        congr 2
        rw [List.length_drop, Cs.entL_len H32.out]
      have hid : Cs.idR (Cs.entS f.data.toList) = (decide (1 ≤ k) && Cs.allP (Cs.entS f.data.toList)) := by
        unfold Cs.idR Cs.allP
        rw [hSl, decide_eq_true (show k ≤ 23 from hk)]
        rfl
      have cP := fun W => rPrintable_same (f.extract 1 (1 + k)) W (by simp; omega)
      rw [e1] at cP
      have cZ := fun W => vZeros_any (23 - (k : Int)) (by omega) (by omega) W
      rw [show (23 - (k : Int)).toNat = 23 - k by omega] at cZ
      have hdl := Kit.len_size f
      have hd24 : f.extract 24 f.size = ⟨(f.data.toList.drop 24).toArray⟩ := by rw [← Lib.extract_to_end f 24]
      have he1 : f.extract 1 (1 + k) = ⟨(Cs.entS f.data.toList).toArray⟩ := by rw [← e1]
      have hstop : (k < 23 ∧ Cs.byt f.data.toList (1 + k) = 0) ∨ k = 23 := by
        by_cases h23 : k = 23
        · right; exact h23
        · left
          refine ⟨by omega, ?_⟩
          by_cases hb : Cs.byt f.data.toList (1 + k) = 0
          · exact hb
          · exact absurd ⟨by omega, hb⟩ hgo
      have hR := HRR.out
      rw [hok, hid] at hR
      have hrl : (List.replicate (23 - k) (0 : UInt8)).length ≤ 23 := by simp
      have htl : ∀ r : Bool, decide ((f.extract (1 + k) 24).data.toList = List.replicate (23 - k) 0) = r → ((f.extract (1 + k) 24).toList == List.replicate (23 - k) (0 : UInt8)) = r := by
        intro r h
        rw [← h, Lib.toList_data]
        rw [Bool.eq_iff_iff]
        simp
      generalize hq : decide ((f.extract (1 + k) 24).data.toList = List.replicate (23 - k) 0) = q at *
      have htq := htl q rfl
      generalize List.replicate (23 - k) (0 : UInt8) = zl at *
      generalize Cs.entS f.data.toList = sl at *
      generalize Cs.allP sl = ap at *
      generalize f.data.toList.drop 24 = d24 at *
      have HE1 := Lib.hid he1
      have H24 := Lib.hid hd24
      have CP := Lib.hid cP; have CZ := Lib.hid cZ
      have hlt : 1 + 22 < f.size := by omega
      have hix : (1 + (k : Int)).toNat = 1 + k := by omega
      clear hgo hS e1 e2 hok hid cP cZ hdl htl hq hd24 he1 HK hSl HRR
      have y1 : IntKind.i64.wrap (1 + (k : Int)) = 1 + (k : Int) := IntWalk.i64_in _ (by omega)
      have y2 : IntKind.i64.wrap (23 - (k : Int)) = 23 - (k : Int) := IntWalk.i64_in _ (by omega)
      have hk0' : ((k : Int) == 0) = false := by rw [beq_eq_false_iff_ne]; omega
      rw [decide_eq_true (show 1 ≤ k from g1)] at hR
      subst ga
      have HR := Lib.hid (hR.trans (if_neg (by simp)))
      clear hR
      rcases hstop with ⟨hk23, hb0⟩ | h23
      · have hlt2 : 1 + k < f.size := by omega
        have b0 := Kit.byt_get f (1 + k) hlt2
        rw [hb0] at b0
        clear hb0
        go_wp2_with fail
        go_quiet ((go_at_call 86; exact Calls.quiet_of_same ((CP.out _).mono fun _ _ h => ⟨h.1, h.2.symm⟩)))
        have hc5 := Kit.Below.drewN hbw nq
        generalize wr.drewN nq = wq at hc5 ⊢
        go_wp2_with fail
        go_returns
        rw [HR.out]
        exact ⟨rfl, hc5⟩
      · have hk23' : ¬ (k : Int) < 23 := by omega
        clear h23
        go_wp2_with fail
        go_quiet ((go_at_call 86; exact Calls.quiet_of_same ((CP.out _).mono fun _ _ h => ⟨h.1, h.2.symm⟩)))
        have hc5 := Kit.Below.drewN hbw nq
        generalize wr.drewN nq = wq at hc5 ⊢
        go_wp2_with fail
        go_returns
        rw [HR.out]
        exact ⟨rfl, hc5⟩
end Go.Proofs.YtlcdhlfkffkifaaGreatDoor

/-
  The walk through the reference's ParseEntity: one of its ways out.
-/
namespace Go.Proofs.YtlcdhlfkffkifaaGreatDoor
open Go.RowKit
set_option maxHeartbeats 6400000 in
set_option maxRecDepth 100000 in
/-- masterdiscref32.ParseEntity. -/
theorem rPent_Z (f : ByteArray) (w : World) (h32 : f.size = 32) (g0 : (Cs.entS f.data.toList).length = 0) :
    Calls Tryz.prog 63 #[.string f] w fun e w' => e = .returned (.tuple #[.string ⟨(Cs.pentR f.data.toList).1.1.toArray⟩, .string ⟨(Cs.pentR f.data.toList).1.2.toArray⟩, .int .i64 (Cs.pentR f.data.toList).2]) ∧ Below w.heap.size w w' := by
  have hdl := Kit.len_size f
  have h32l : f.data.toList.length = 32 := by omega
  have hR : Cs.pentR f.data.toList = if Cs.entOk f.data.toList = true then ((Cs.entS f.data.toList, f.data.toList.drop 24), 0) else (([], []), 10) := if_neg (by omega)
  have HRR := Lib.hid hR
  have H32 := Lib.hid h32l
  have h32' : ((f.size : Int) != 32) = false := by rw [bne_eq_false_iff_eq]; omega
  have hz : (32 : Int) ≤ (f.size : Int) := by omega
  clear hR h32l hdl
  go_enter Tryz.func63, Tryz.ntmps63
  go_wp2_with fail
  go_loopw [5] (fun nv wr => ∃ k : Nat, nv = .int .i64 k ∧ k ≤ 23 ∧ Hid (∀ j, j < k → Cs.byt f.data.toList (1 + j) ≠ 0) ∧ Below w.heap.size w wr) (fun nv _ => 23 - (intOf nv).toNat)
  case atStart => exact ⟨0, rfl, by omega, Lib.hid (fun j hj => by omega), Below.refl _ _⟩
  case round =>
    obtain ⟨k, rfl, hk, HK, hbw⟩ := hrel
    by_cases hgo : k < 23 ∧ Cs.byt f.data.toList (1 + k) ≠ 0
    · obtain ⟨hk1, hk2⟩ := hgo
      have hlt : 1 + k < f.size := by omega
      have b0 := Kit.byt_get f (1 + k) hlt
      have hix : (1 + (k : Int)).toNat = 1 + k := by omega
      have HN := Lib.hid (show ∀ j, j < k + 1 → Cs.byt f.data.toList (1 + j) ≠ 0 from fun j hj => by
        by_cases hjk : j = k
        · subst hjk; exact hk2
        · exact HK.out j (by omega))
      generalize Cs.byt f.data.toList (1 + k) = x at *
      have hx : ((x : Int) != 0) = true := by rw [bne_iff_ne]; omega
      go_wp2_with fail
      go_roundw
      case rel => exact ⟨k + 1, by go_num, by omega, HN, hbw⟩
      case measure => simp [intOf]; omega
    · have hS : Cs.entS f.data.toList = (Cs.entL f.data.toList).take k := by
        have hl := Cs.entL_len H32.out
        refine Cs.while_len _ k (by omega) (fun j hj => ?_) ?_
        · rw [Cs.byt_entL H32.out j (by omega)]; exact HK.out j hj
        · by_cases h23 : k = 23
          · left; omega
          · right
            rw [Cs.byt_entL H32.out k (by omega)]
            by_cases hb : Cs.byt f.data.toList (1 + k) = 0
            · exact hb
            · exact absurd ⟨by omega, hb⟩ hgo
      have hSl : (Cs.entS f.data.toList).length = k := by
        rw [hS, List.length_take, Cs.entL_len H32.out]; omega
      rw [hSl] at g0
      have e1 : (f.extract 1 (1 + k)).data.toList = Cs.entS f.data.toList := by
        rw [hS, Lib.extract_data]
        unfold Cs.entL
        rw [List.take_take]
        congr 1
        omega
      have e2 : (f.extract (1 + k) 24).data.toList = (Cs.entL f.data.toList).drop k := by
        rw [Lib.extract_data]
        unfold Cs.entL
        rw [List.drop_take, List.drop_drop]
        congr 1
        omega
      have hok : Cs.entOk f.data.toList = (Cs.idR (Cs.entS f.data.toList) && decide ((f.extract (1 + k) 24).data.toList = List.replicate (23 - k) 0)) := by
        unfold Cs.entOk
        rw [hSl, Cs.zeros_all, e2]
        congr 2
        rw [List.length_drop, Cs.entL_len H32.out]
      have hid : Cs.idR (Cs.entS f.data.toList) = (decide (1 ≤ k) && Cs.allP (Cs.entS f.data.toList)) := by
        unfold Cs.idR Cs.allP
        rw [hSl, decide_eq_true (show k ≤ 23 from hk)]
        rfl
      have cP := fun W => rPrintable_same (f.extract 1 (1 + k)) W (by simp; omega)
      rw [e1] at cP
      have cZ := fun W => vZeros_any (23 - (k : Int)) (by omega) (by omega) W
      rw [show (23 - (k : Int)).toNat = 23 - k by omega] at cZ
      have hdl := Kit.len_size f
      have hd24 : f.extract 24 f.size = ⟨(f.data.toList.drop 24).toArray⟩ := by rw [← Lib.extract_to_end f 24]
      have he1 : f.extract 1 (1 + k) = ⟨(Cs.entS f.data.toList).toArray⟩ := by rw [← e1]
      have hstop : (k < 23 ∧ Cs.byt f.data.toList (1 + k) = 0) ∨ k = 23 := by
        by_cases h23 : k = 23
        · right; exact h23
        · left
          refine ⟨by omega, ?_⟩
          by_cases hb : Cs.byt f.data.toList (1 + k) = 0
          · exact hb
          · exact absurd ⟨by omega, hb⟩ hgo
      have hR := HRR.out
      rw [hok, hid] at hR
      have hrl : (List.replicate (23 - k) (0 : UInt8)).length ≤ 23 := by simp
      have htl : ∀ r : Bool, decide ((f.extract (1 + k) 24).data.toList = List.replicate (23 - k) 0) = r → ((f.extract (1 + k) 24).toList == List.replicate (23 - k) (0 : UInt8)) = r := by
        intro r h
        rw [← h, Lib.toList_data]
        rw [Bool.eq_iff_iff]
        simp
      generalize hq : decide ((f.extract (1 + k) 24).data.toList = List.replicate (23 - k) 0) = q at *
      have htq := htl q rfl
      generalize List.replicate (23 - k) (0 : UInt8) = zl at *
      generalize Cs.entS f.data.toList = sl at *
      generalize Cs.allP sl = ap at *
      generalize f.data.toList.drop 24 = d24 at *
      have HE1 := Lib.hid he1
      have H24 := Lib.hid hd24
      have CP := Lib.hid cP; have CZ := Lib.hid cZ
      have hlt : 1 + 22 < f.size := by omega
      have hix : (1 + (k : Int)).toNat = 1 + k := by omega
      clear hgo hS e1 e2 hok hid cP cZ hdl htl hq hd24 he1 HK hSl HRR
      have y1 : IntKind.i64.wrap (1 + (k : Int)) = 1 + (k : Int) := IntWalk.i64_in _ (by omega)
      have y2 : IntKind.i64.wrap (23 - (k : Int)) = 23 - (k : Int) := IntWalk.i64_in _ (by omega)
      have HR := Lib.hid (hR.trans (if_neg (by rw [g0]; simp)))
      have hk0' : ((k : Int) == 0) = true := by rw [beq_iff_eq]; omega
      have G0 := Lib.hid g0
      clear hR g0
      rcases hstop with ⟨hk23, hb0⟩ | h23
      · have hlt2 : 1 + k < f.size := by omega
        have b0 := Kit.byt_get f (1 + k) hlt2
        rw [hb0] at b0
        clear hb0
        go_wp2_with fail
        go_quiet (fail)
        have hc5 := Kit.Below.drewN hbw nq
        generalize wr.drewN nq = wq at hc5 ⊢
        go_wp2_with fail
        go_returns
        rw [HR.out]
        exact ⟨rfl, hc5⟩
      · have hk23' : ¬ (k : Int) < 23 := by omega
        have := G0.out
        omega
end Go.Proofs.YtlcdhlfkffkifaaGreatDoor

/-
  The walk through the reference's ParseEntity: one of its ways out.
-/
namespace Go.Proofs.YtlcdhlfkffkifaaGreatDoor
open Go.RowKit
set_option maxHeartbeats 6400000 in
set_option maxRecDepth 100000 in
/-- masterdiscref32.ParseEntity. -/
theorem rPent_F (f : ByteArray) (w : World) (h32 : f.size = 32) (g1 : 1 ≤ (Cs.entS f.data.toList).length) (ga : Cs.allP (Cs.entS f.data.toList) = true) (gq : decide ((f.extract (1 + (Cs.entS f.data.toList).length) 24).data.toList = List.replicate (23 - (Cs.entS f.data.toList).length) 0) = false) :
    Calls Tryz.prog 63 #[.string f] w fun e w' => e = .returned (.tuple #[.string ⟨(Cs.pentR f.data.toList).1.1.toArray⟩, .string ⟨(Cs.pentR f.data.toList).1.2.toArray⟩, .int .i64 (Cs.pentR f.data.toList).2]) ∧ Below w.heap.size w w' := by
  have hdl := Kit.len_size f
  have h32l : f.data.toList.length = 32 := by omega
  have hR : Cs.pentR f.data.toList = if Cs.entOk f.data.toList = true then ((Cs.entS f.data.toList, f.data.toList.drop 24), 0) else (([], []), 10) := if_neg (by omega)
  have HRR := Lib.hid hR
  have H32 := Lib.hid h32l
  have h32' : ((f.size : Int) != 32) = false := by rw [bne_eq_false_iff_eq]; omega
  have hz : (32 : Int) ≤ (f.size : Int) := by omega
  clear hR h32l hdl
  go_enter Tryz.func63, Tryz.ntmps63
  go_wp2_with fail
  go_loopw [5] (fun nv wr => ∃ k : Nat, nv = .int .i64 k ∧ k ≤ 23 ∧ Hid (∀ j, j < k → Cs.byt f.data.toList (1 + j) ≠ 0) ∧ Below w.heap.size w wr) (fun nv _ => 23 - (intOf nv).toNat)
  case atStart => exact ⟨0, rfl, by omega, Lib.hid (fun j hj => by omega), Below.refl _ _⟩
  case round =>
    obtain ⟨k, rfl, hk, HK, hbw⟩ := hrel
    by_cases hgo : k < 23 ∧ Cs.byt f.data.toList (1 + k) ≠ 0
    · obtain ⟨hk1, hk2⟩ := hgo
      have hlt : 1 + k < f.size := by omega
      have b0 := Kit.byt_get f (1 + k) hlt
      have hix : (1 + (k : Int)).toNat = 1 + k := by omega
      have HN := Lib.hid (show ∀ j, j < k + 1 → Cs.byt f.data.toList (1 + j) ≠ 0 from fun j hj => by
        by_cases hjk : j = k
        · subst hjk; exact hk2
        · exact HK.out j (by omega))
      generalize Cs.byt f.data.toList (1 + k) = x at *
      have hx : ((x : Int) != 0) = true := by rw [bne_iff_ne]; omega
      go_wp2_with fail
      go_roundw
      case rel => exact ⟨k + 1, by go_num, by omega, HN, hbw⟩
      case measure => simp [intOf]; omega
    · have hS : Cs.entS f.data.toList = (Cs.entL f.data.toList).take k := by
        have hl := Cs.entL_len H32.out
        refine Cs.while_len _ k (by omega) (fun j hj => ?_) ?_
        · rw [Cs.byt_entL H32.out j (by omega)]; exact HK.out j hj
        · by_cases h23 : k = 23
          · left; omega
          · right
            rw [Cs.byt_entL H32.out k (by omega)]
            by_cases hb : Cs.byt f.data.toList (1 + k) = 0
            · exact hb
            · exact absurd ⟨by omega, hb⟩ hgo
      have hSl : (Cs.entS f.data.toList).length = k := by
        rw [hS, List.length_take, Cs.entL_len H32.out]; omega
      rw [hSl] at g1
      rw [hSl] at gq
      have e1 : (f.extract 1 (1 + k)).data.toList = Cs.entS f.data.toList := by
        rw [hS, Lib.extract_data]
        unfold Cs.entL
        rw [List.take_take]
        congr 1
        omega
      have e2 : (f.extract (1 + k) 24).data.toList = (Cs.entL f.data.toList).drop k := by
        rw [Lib.extract_data]
        unfold Cs.entL
        rw [List.drop_take, List.drop_drop]
        congr 1
        omega
      have hok : Cs.entOk f.data.toList = (Cs.idR (Cs.entS f.data.toList) && decide ((f.extract (1 + k) 24).data.toList = List.replicate (23 - k) 0)) := by
        unfold Cs.entOk
        rw [hSl, Cs.zeros_all, e2]
        congr 2
        rw [List.length_drop, Cs.entL_len H32.out]
      have hid : Cs.idR (Cs.entS f.data.toList) = (decide (1 ≤ k) && Cs.allP (Cs.entS f.data.toList)) := by
        unfold Cs.idR Cs.allP
        rw [hSl, decide_eq_true (show k ≤ 23 from hk)]
        rfl
      have cP := fun W => rPrintable_same (f.extract 1 (1 + k)) W (by simp; omega)
      rw [e1] at cP
      have cZ := fun W => vZeros_any (23 - (k : Int)) (by omega) (by omega) W
      rw [show (23 - (k : Int)).toNat = 23 - k by omega] at cZ
      have hdl := Kit.len_size f
      have hd24 : f.extract 24 f.size = ⟨(f.data.toList.drop 24).toArray⟩ := by rw [← Lib.extract_to_end f 24]
      have he1 : f.extract 1 (1 + k) = ⟨(Cs.entS f.data.toList).toArray⟩ := by rw [← e1]
      have hstop : (k < 23 ∧ Cs.byt f.data.toList (1 + k) = 0) ∨ k = 23 := by
        by_cases h23 : k = 23
        · right; exact h23
        · left
          refine ⟨by omega, ?_⟩
          by_cases hb : Cs.byt f.data.toList (1 + k) = 0
          · exact hb
          · exact absurd ⟨by omega, hb⟩ hgo
      have hR := HRR.out
      rw [hok, hid] at hR
      have hrl : (List.replicate (23 - k) (0 : UInt8)).length ≤ 23 := by simp
      have htl : ∀ r : Bool, decide ((f.extract (1 + k) 24).data.toList = List.replicate (23 - k) 0) = r → ((f.extract (1 + k) 24).toList == List.replicate (23 - k) (0 : UInt8)) = r := by
        intro r h
        rw [← h, Lib.toList_data]
        rw [Bool.eq_iff_iff]
        simp
      generalize hq : decide ((f.extract (1 + k) 24).data.toList = List.replicate (23 - k) 0) = q at *
      have htq := htl q rfl
      generalize List.replicate (23 - k) (0 : UInt8) = zl at *
      generalize Cs.entS f.data.toList = sl at *
      generalize Cs.allP sl = ap at *
      generalize f.data.toList.drop 24 = d24 at *
      have HE1 := Lib.hid he1
      have H24 := Lib.hid hd24
      have CP := Lib.hid cP; have CZ := Lib.hid cZ
      have hlt : 1 + 22 < f.size := by omega
      have hix : (1 + (k : Int)).toNat = 1 + k := by omega
      clear hgo hS e1 e2 hok hid cP cZ hdl htl hq hd24 he1 HK hSl HRR
      have y1 : IntKind.i64.wrap (1 + (k : Int)) = 1 + (k : Int) := IntWalk.i64_in _ (by omega)
      have y2 : IntKind.i64.wrap (23 - (k : Int)) = 23 - (k : Int) := IntWalk.i64_in _ (by omega)
      have hk0' : ((k : Int) == 0) = false := by rw [beq_eq_false_iff_ne]; omega
      rw [decide_eq_true (show 1 ≤ k from g1)] at hR
      subst ga
      subst gq
      have HR := Lib.hid (hR.trans (if_neg (by simp)))
      have htn : ((f.extract (1 + k) 24).toList != zl) = true := by rw [bne, htq]; rfl
      clear hR
      rcases hstop with ⟨hk23, hb0⟩ | h23
      · have hlt2 : 1 + k < f.size := by omega
        have b0 := Kit.byt_get f (1 + k) hlt2
        rw [hb0] at b0
        clear hb0
        go_wp2_with fail
        refine wp_region_later wr.heap.size (by kernel_rfl) (by kernel_rfl) ?_
        repeat (any_goals (first | go_big_quiet_skip | (go_big_quiet_want; go_big_quiet_op; first | go_big_quiet_on | (apply Exists.intro; refine ⟨fun _ => ?_, ?_⟩; (first | (go_at_call 86; exact Calls.later_same (CP.out _)) | (go_at_call 87; exact Calls.later_of (Nat.le_refl _) (CZ.out _))); go_big_quiet_on))))
        refine wpQuiet_nil ?_
        intro wq hw'
        obtain ⟨⟨wz, hbq⟩, hw''⟩ := hw'
        subst hw''
        have hc2 := hbw.trans (hbq.mono hbw.size)
        go_wp2_with fail
        go_returns
        rw [HR.out]
        exact ⟨rfl, hc2⟩
      · have hk23' : ¬ (k : Int) < 23 := by omega
        clear h23
        go_wp2_with fail
        refine wp_region_later wr.heap.size (by kernel_rfl) (by kernel_rfl) ?_
        repeat (any_goals (first | go_big_quiet_skip | (go_big_quiet_want; go_big_quiet_op; first | go_big_quiet_on | (apply Exists.intro; refine ⟨fun _ => ?_, ?_⟩; (first | (go_at_call 86; exact Calls.later_same (CP.out _)) | (go_at_call 87; exact Calls.later_of (Nat.le_refl _) (CZ.out _))); go_big_quiet_on))))
        refine wpQuiet_nil ?_
        intro wq hw'
        obtain ⟨⟨wz, hbq⟩, hw''⟩ := hw'
        subst hw''
        have hc2 := hbw.trans (hbq.mono hbw.size)
        go_wp2_with fail
        go_returns
        rw [HR.out]
        exact ⟨rfl, hc2⟩
end Go.Proofs.YtlcdhlfkffkifaaGreatDoor

/-
  The walk through the reference's ParseEntity: one of its ways out.
-/
namespace Go.Proofs.YtlcdhlfkffkifaaGreatDoor
open Go.RowKit
set_option maxHeartbeats 6400000 in
set_option maxRecDepth 100000 in
/-- masterdiscref32.ParseEntity. -/
theorem rPent_T (f : ByteArray) (w : World) (h32 : f.size = 32) (g1 : 1 ≤ (Cs.entS f.data.toList).length) (ga : Cs.allP (Cs.entS f.data.toList) = true) (gq : decide ((f.extract (1 + (Cs.entS f.data.toList).length) 24).data.toList = List.replicate (23 - (Cs.entS f.data.toList).length) 0) = true) :
    Calls Tryz.prog 63 #[.string f] w fun e w' => e = .returned (.tuple #[.string ⟨(Cs.pentR f.data.toList).1.1.toArray⟩, .string ⟨(Cs.pentR f.data.toList).1.2.toArray⟩, .int .i64 (Cs.pentR f.data.toList).2]) ∧ Below w.heap.size w w' := by
  have hdl := Kit.len_size f
  have h32l : f.data.toList.length = 32 := by omega
  have hR : Cs.pentR f.data.toList = if Cs.entOk f.data.toList = true then ((Cs.entS f.data.toList, f.data.toList.drop 24), 0) else (([], []), 10) := if_neg (by omega)
  have HRR := Lib.hid hR
  have H32 := Lib.hid h32l
  have h32' : ((f.size : Int) != 32) = false := by rw [bne_eq_false_iff_eq]; omega
  have hz : (32 : Int) ≤ (f.size : Int) := by omega
  clear hR h32l hdl
  go_enter Tryz.func63, Tryz.ntmps63
  go_wp2_with fail
  go_loopw [5] (fun nv wr => ∃ k : Nat, nv = .int .i64 k ∧ k ≤ 23 ∧ Hid (∀ j, j < k → Cs.byt f.data.toList (1 + j) ≠ 0) ∧ Below w.heap.size w wr) (fun nv _ => 23 - (intOf nv).toNat)
  case atStart => exact ⟨0, rfl, by omega, Lib.hid (fun j hj => by omega), Below.refl _ _⟩
  case round =>
    obtain ⟨k, rfl, hk, HK, hbw⟩ := hrel
    by_cases hgo : k < 23 ∧ Cs.byt f.data.toList (1 + k) ≠ 0
    · obtain ⟨hk1, hk2⟩ := hgo
      have hlt : 1 + k < f.size := by omega
      have b0 := Kit.byt_get f (1 + k) hlt
      have hix : (1 + (k : Int)).toNat = 1 + k := by omega
      have HN := Lib.hid (show ∀ j, j < k + 1 → Cs.byt f.data.toList (1 + j) ≠ 0 from fun j hj => by
        by_cases hjk : j = k
        · subst hjk; exact hk2
        · exact HK.out j (by omega))
      generalize Cs.byt f.data.toList (1 + k) = x at *
      have hx : ((x : Int) != 0) = true := by rw [bne_iff_ne]; omega
      go_wp2_with fail
      go_roundw
      case rel => exact ⟨k + 1, by go_num, by omega, HN, hbw⟩
      case measure => simp [intOf]; omega
    · have hS : Cs.entS f.data.toList = (Cs.entL f.data.toList).take k := by
        have hl := Cs.entL_len H32.out
        refine Cs.while_len _ k (by omega) (fun j hj => ?_) ?_
        · rw [Cs.byt_entL H32.out j (by omega)]; exact HK.out j hj
        · by_cases h23 : k = 23
          · left; omega
          · right
            rw [Cs.byt_entL H32.out k (by omega)]
            by_cases hb : Cs.byt f.data.toList (1 + k) = 0
            · exact hb
            · exact absurd ⟨by omega, hb⟩ hgo
      have hSl : (Cs.entS f.data.toList).length = k := by
        rw [hS, List.length_take, Cs.entL_len H32.out]; omega
      rw [hSl] at g1
      rw [hSl] at gq
      have e1 : (f.extract 1 (1 + k)).data.toList = Cs.entS f.data.toList := by
        rw [hS, Lib.extract_data]
        unfold Cs.entL
        rw [List.take_take]
        congr 1
        omega
      have e2 : (f.extract (1 + k) 24).data.toList = (Cs.entL f.data.toList).drop k := by
        rw [Lib.extract_data]
        unfold Cs.entL
        rw [List.drop_take, List.drop_drop]
        congr 1
        omega
      have hok : Cs.entOk f.data.toList = (Cs.idR (Cs.entS f.data.toList) && decide ((f.extract (1 + k) 24).data.toList = List.replicate (23 - k) 0)) := by
        unfold Cs.entOk
        rw [hSl, Cs.zeros_all, e2]
        congr 2
        rw [List.length_drop, Cs.entL_len H32.out]
      have hid : Cs.idR (Cs.entS f.data.toList) = (decide (1 ≤ k) && Cs.allP (Cs.entS f.data.toList)) := by
        unfold Cs.idR Cs.allP
        rw [hSl, decide_eq_true (show k ≤ 23 from hk)]
        rfl
      have cP := fun W => rPrintable_same (f.extract 1 (1 + k)) W (by simp; omega)
      rw [e1] at cP
      have cZ := fun W => vZeros_any (23 - (k : Int)) (by omega) (by omega) W
      rw [show (23 - (k : Int)).toNat = 23 - k by omega] at cZ
      have hdl := Kit.len_size f
      have hd24 : f.extract 24 f.size = ⟨(f.data.toList.drop 24).toArray⟩ := by rw [← Lib.extract_to_end f 24]
      have he1 : f.extract 1 (1 + k) = ⟨(Cs.entS f.data.toList).toArray⟩ := by rw [← e1]
      have hstop : (k < 23 ∧ Cs.byt f.data.toList (1 + k) = 0) ∨ k = 23 := by
        by_cases h23 : k = 23
        · right; exact h23
        · left
          refine ⟨by omega, ?_⟩
          by_cases hb : Cs.byt f.data.toList (1 + k) = 0
          · exact hb
          · exact absurd ⟨by omega, hb⟩ hgo
      have hR := HRR.out
      rw [hok, hid] at hR
      have hrl : (List.replicate (23 - k) (0 : UInt8)).length ≤ 23 := by simp
      have htl : ∀ r : Bool, decide ((f.extract (1 + k) 24).data.toList = List.replicate (23 - k) 0) = r → ((f.extract (1 + k) 24).toList == List.replicate (23 - k) (0 : UInt8)) = r := by
        intro r h
        rw [← h, Lib.toList_data]
        rw [Bool.eq_iff_iff]
        simp
      generalize hq : decide ((f.extract (1 + k) 24).data.toList = List.replicate (23 - k) 0) = q at *
      have htq := htl q rfl
      generalize List.replicate (23 - k) (0 : UInt8) = zl at *
      generalize Cs.entS f.data.toList = sl at *
      generalize Cs.allP sl = ap at *
      generalize f.data.toList.drop 24 = d24 at *
      have HE1 := Lib.hid he1
      have H24 := Lib.hid hd24
      have CP := Lib.hid cP; have CZ := Lib.hid cZ
      have hlt : 1 + 22 < f.size := by omega
      have hix : (1 + (k : Int)).toNat = 1 + k := by omega
      clear hgo hS e1 e2 hok hid cP cZ hdl htl hq hd24 he1 HK hSl HRR
      have y1 : IntKind.i64.wrap (1 + (k : Int)) = 1 + (k : Int) := IntWalk.i64_in _ (by omega)
      have y2 : IntKind.i64.wrap (23 - (k : Int)) = 23 - (k : Int) := IntWalk.i64_in _ (by omega)
      have hk0' : ((k : Int) == 0) = false := by rw [beq_eq_false_iff_ne]; omega
      rw [decide_eq_true (show 1 ≤ k from g1)] at hR
      subst ga
      subst gq
      have HR := Lib.hid (hR.trans (if_pos (by first | rfl | (simp; omega))))
      have htn : ((f.extract (1 + k) 24).toList != zl) = false := by rw [bne, htq]; rfl
      clear hR
      rcases hstop with ⟨hk23, hb0⟩ | h23
      · have hlt2 : 1 + k < f.size := by omega
        have b0 := Kit.byt_get f (1 + k) hlt2
        rw [hb0] at b0
        clear hb0
        go_wp2_with fail
        refine wp_region_later wr.heap.size (by kernel_rfl) (by kernel_rfl) ?_
        repeat (any_goals (first | go_big_quiet_skip | (go_big_quiet_want; go_big_quiet_op; first | go_big_quiet_on | (apply Exists.intro; refine ⟨fun _ => ?_, ?_⟩; (first | (go_at_call 86; exact Calls.later_same (CP.out _)) | (go_at_call 87; exact Calls.later_of (Nat.le_refl _) (CZ.out _))); go_big_quiet_on))))
        refine wpQuiet_nil ?_
        intro wq hw'
        obtain ⟨⟨wz, hbq⟩, hw''⟩ := hw'
        subst hw''
        have hc2 := hbw.trans (hbq.mono hbw.size)
        go_wp2_with fail
        go_quiet (fail)
        have hc5 := Kit.Below.drewN hc2 nq
        generalize wq.drewN nq = wy at hc5 ⊢
        go_wp2_with fail
        go_returns
        rw [HR.out]
        refine ⟨?_, hc5⟩
        with_reducible refine congrArg Ending.returned ?_
        simp
        rw [← h32]
        exact ⟨HE1.out, H24.out⟩
      · have hk23' : ¬ (k : Int) < 23 := by omega
        clear h23
        go_wp2_with fail
        refine wp_region_later wr.heap.size (by kernel_rfl) (by kernel_rfl) ?_
        repeat (any_goals (first | go_big_quiet_skip | (go_big_quiet_want; go_big_quiet_op; first | go_big_quiet_on | (apply Exists.intro; refine ⟨fun _ => ?_, ?_⟩; (first | (go_at_call 86; exact Calls.later_same (CP.out _)) | (go_at_call 87; exact Calls.later_of (Nat.le_refl _) (CZ.out _))); go_big_quiet_on))))
        refine wpQuiet_nil ?_
        intro wq hw'
        obtain ⟨⟨wz, hbq⟩, hw''⟩ := hw'
        subst hw''
        have hc2 := hbw.trans (hbq.mono hbw.size)
        go_wp2_with fail
        go_quiet (fail)
        have hc5 := Kit.Below.drewN hc2 nq
        generalize wq.drewN nq = wy at hc5 ⊢
        go_wp2_with fail
        go_returns
        rw [HR.out]
        refine ⟨?_, hc5⟩
        with_reducible refine congrArg Ending.returned ?_
        simp
        rw [← h32]
        exact ⟨HE1.out, H24.out⟩
end Go.Proofs.YtlcdhlfkffkifaaGreatDoor

/-
  The reference's ParseEntity, whatever the field.
-/
namespace Go.Proofs.YtlcdhlfkffkifaaGreatDoor
open Go.RowKit
set_option maxHeartbeats 1600000 in
set_option maxRecDepth 100000 in
/-- masterdiscref32.ParseEntity. -/
theorem rPent_any (f : ByteArray) (w : World) (_hs : f.size ≤ 9223372036854775807) :
    Calls Tryz.prog 63 #[.string f] w fun e w' => e = .returned (.tuple #[.string ⟨(Cs.pentR f.data.toList).1.1.toArray⟩, .string ⟨(Cs.pentR f.data.toList).1.2.toArray⟩, .int .i64 (Cs.pentR f.data.toList).2]) ∧ Below w.heap.size w w' := by
  have hdl := Kit.len_size f
  by_cases h32 : f.size = 32
  case neg =>
    have HR := Lib.hid (show Cs.pentR f.data.toList = (([], []), 1) from if_pos (by rw [hdl]; exact h32))
    have h32' : ((f.size : Int) != 32) = true := by rw [bne_iff_ne]; omega
    clear hdl h32
    go_enter Tryz.func63, Tryz.ntmps63
    go_wp2_with fail
    go_returns
    rw [HR.out]
    exact ⟨rfl, Below.refl _ _⟩
  case pos =>
  by_cases g0 : (Cs.entS f.data.toList).length = 0
  · exact rPent_Z f w h32 g0
  · cases ga : Cs.allP (Cs.entS f.data.toList) with
    | false => exact rPent_A f w h32 (by omega) ga
    | true =>
      cases gq : decide ((f.extract (1 + (Cs.entS f.data.toList).length) 24).data.toList = List.replicate (23 - (Cs.entS f.data.toList).length) 0) with
      | false => exact rPent_F f w h32 (by omega) ga gq
      | true => exact rPent_T f w h32 (by omega) ga gq
end Go.Proofs.YtlcdhlfkffkifaaGreatDoor
