/-
  The walk through the second parser of a sequence's descriptors.
-/
import Derived.Test.YthkppbimkjmbnaaGreatDoorZV
namespace Go.Proofs.YthkppbimkjmbnaaGreatDoor
set_option linter.unusedVariables false
open Go.RowKit
open Vs (bs by_)

set_option maxHeartbeats 12800000 in
set_option maxRecDepth 100000 in
/-- The parser of the partition descriptor. -/
theorem parse2_any (s : ByteArray) (hs : s.size = 2048) (d : Vs.D) (w0 W : World) (tb db : Nat) (m : Int) (hM : w0.cell? ⟨0, 0, none⟩ = some (.int .i64 m)) (hB0 : Below w0.heap.size w0 W) (hdb : w0.heap.size ≤ db) (h1 : W.heap[tb]? = some (.cells #[.pointer (some ⟨db, 0, none⟩)] 113 (0, 0))) (h2 : W.heap[db]? = some (.cells (Vs.dC d) 46 (0, 0))) (hne : tb ≠ db) :
    Calls Tryz.prog 138 #[.string s, .pointer (some ⟨tb, 0, none⟩)] W fun e W' => e = .returned (.int .i64 (Vs.p2E (by_ s))) ∧ (Vs.p2E (by_ s) = 0 → W'.heap[db]? = some (.cells (Vs.dC (Vs.p2D (by_ s) d)) 46 (0, 0))) ∧ Vs.Prs W W' db := by
  obtain ⟨x1, e1⟩ : ∃ x, s.extract 24 56 = x := ⟨_, rfl⟩
  have b1 : by_ x1 = Vs.sl (by_ s) 24 32 := by rw [← e1, Vs.bs_ext]; rfl
  have z1 : x1.size ≤ 2048 := by rw [← e1, ByteArray.size_extract]; omega
  have hMW : W.cell? ⟨0, 0, none⟩ = some (.int .i64 m) := (hB0.cell (p := ⟨0, 0, none⟩) (World.block_lt_of_cell? _ _ hM)).trans hM
  have CP := Lib.hid (show Calls Tryz.prog 139 #[.string x1] W fun e w' => e = .returned (.tuple #[.string (bs (Cs.pentR (by_ x1)).1.1), .string (bs (Cs.pentR (by_ x1)).1.2), .int .i64 (Cs.pentR (by_ x1)).2]) ∧ Below W.heap.size W w' from pent_any x1 W m hMW (by omega))
  rw [b1] at CP
  have C0 := Lib.hid (fun W => vRead_any s 64 4 64 4 rfl rfl (.inr rfl) (by omega) (by omega) W)
  have C1 := Lib.hid (fun W => vRead_any s 22 2 22 2 rfl rfl (.inl rfl) (by omega) (by omega) W)
  have C2 := Lib.hid (fun W => vRead_any s 184 4 184 4 rfl rfl (.inr rfl) (by omega) (by omega) W)
  have C3 := Lib.hid (fun W => vRead_any s 188 4 188 4 rfl rfl (.inr rfl) (by omega) (by omega) W)
  have C4 := Lib.hid (fun W => vRead_any s 192 4 192 4 rfl rfl (.inr rfl) (by omega) (by omega) W)
  have C5 := Lib.hid (fun W => vRead_any s 68 4 68 4 rfl rfl (.inr rfl) (by omega) (by omega) W)
  have HD := Lib.hid (show Vs.p2D (by_ s) d = { d with part := Vs.p2P (by_ s) } from rfl)
  have HP := Lib.hid (show Vs.p2P (by_ s) = ⟨(Pm.at_ (by_ s) 22 2 : Nat), (Pm.at_ (by_ s) 184 4 : Nat), (Pm.at_ (by_ s) 188 4 : Nat), (Pm.at_ (by_ s) 192 4 : Nat), (Pm.at_ (by_ s) 68 4 : Nat), ((Pm.at_ (by_ s) 64 4 % 1073741824 + 2047) / 2048 : Nat)⟩ from rfl)
  have HE := Lib.hid (show Vs.p2E (by_ s) = if (Cs.pentR (Vs.sl (by_ s) 24 32)).2 ≠ 0 then 10 else if (Cs.pentR (Vs.sl (by_ s) 24 32)).1.1 ≠ Vs.contN2 ∧ (Cs.pentR (Vs.sl (by_ s) 24 32)).1.1 ≠ Vs.contN then 14 else if Vs.okPart (Vs.p2P (by_ s)) = true then 0 else 10 from rfl)
  rw [HP.out] at HD HE
  have hb64 := Pm.at_lt (by_ s) 64 4
  have HBC := Lib.hid (show (((Pm.at_ (by_ s) 64 4 % 1073741824 + 2047) / 2048 : Nat) : Int) = (((Pm.at_ (by_ s) 64 4 : Nat) : Int) % 1073741824 + 2047) / 2048 by omega)
  rw [HBC.out] at HD HE
  have CV := Lib.hid (fun W => vPart_any ⟨(Pm.at_ (by_ s) 22 2 : Nat), (Pm.at_ (by_ s) 184 4 : Nat), (Pm.at_ (by_ s) 188 4 : Nat), (Pm.at_ (by_ s) 192 4 : Nat), (Pm.at_ (by_ s) 68 4 : Nat), (((Pm.at_ (by_ s) 64 4 : Nat) : Int) % 1073741824 + 2047) / 2048⟩ W)
  generalize Vs.p2E (by_ s) = E at *
  generalize Vs.p2D (by_ s) d = D' at *
  have hk1 := (Array.getElem?_eq_some_iff.1 h1).1
  have hk2 := (Array.getElem?_eq_some_iff.1 h2).1
  have HK1 := Lib.hid hk1
  have HNE := Lib.hid hne
  have HTB := Lib.hid h1
  have HK2 := Lib.hid hk2
  have HR1 := Lib.hid (fun W' (h : Below W.heap.size W W') => (h.block tb HK1.out).trans h1)
  have HR2 := Lib.hid (fun W' (h : Below W.heap.size W W') => (h.block db HK2.out).trans h2)
  generalize Cs.pentR (Vs.sl (by_ s) 24 32) = pr at *
  obtain ⟨⟨ci, cs⟩, pe⟩ := pr
  have h64 : ((Pm.at_ (by_ s) 64 4 : Nat) : Int) < 4294967296 := by omega
  have h640 : (0 : Int) ≤ ((Pm.at_ (by_ s) 64 4 : Nat) : Int) := by omega
  generalize ((Pm.at_ (by_ s) 64 4 : Nat) : Int) = a0 at *
  generalize hbc : (a0 % 1073741824 + 2047) / 2048 = bc at *
  have e3 : (a0 % 1073741824 + 2048 - 1) / 2048 = bc := by omega
  generalize ((Pm.at_ (by_ s) 22 2 : Nat) : Int) = a1 at *
  generalize ((Pm.at_ (by_ s) 184 4 : Nat) : Int) = a2 at *
  generalize ((Pm.at_ (by_ s) 188 4 : Nat) : Int) = a3 at *
  generalize ((Pm.at_ (by_ s) 192 4 : Nat) : Int) = a4 at *
  generalize ((Pm.at_ (by_ s) 68 4 : Nat) : Int) = a5 at *
  simp only [] at *
  have hs1 : (s.size : Int) = 2048 := by omega
  clear b1 z1 h1 h2 hk1 hk2 hs hM hMW hB0 hdb hb64 HBC HP
  obtain ⟨⟨name, set, pub, prep, app, n, dd, tm⟩, ⟨pn, pa, psx, pc, pbs, pbc⟩, maps, table, fk, fl, fb, fp, ist, ic⟩ := d
  unfold Vs.dC at *
  unfold Vs.partC at *
  simp only [] at *
  go_enter Tryz.func138, Tryz.ntmps138
  go_wp2_with fail
  with_reducible refine CP.out.mono ?_
  rintro e w2 ⟨rfl, hb2⟩
  have HB2 := Lib.hid hb2
  clear hb2
  by_cases hpe : pe = 0
  case neg =>
    have HE2 := Lib.hid (HE.out.trans (if_pos hpe))
    have d1 : (pe != 0) = true := by rw [bne_iff_ne]; exact hpe
    clear HE
    go_wp2_with fail
    go_ret
    rw [HE2.out]
    exact ⟨rfl, fun h => absurd h (by decide), (Vs.Prs.refl W db).below HB2.out⟩
  have HE1 := Lib.hid (HE.out.trans (if_neg (by simp [hpe])))
  subst hpe
  clear HE
  by_cases hci : ci ≠ Vs.contN2 ∧ ci ≠ Vs.contN
  · have HE2 := Lib.hid (HE1.out.trans (if_pos hci))
    obtain ⟨n1, n2⟩ := hci
    clear HE1
    have f1 : ((bs ci).toList == [43, 78, 83, 82, 48, 50]) = false := by rw [Lib.toList_data, beq_eq_false_iff_ne]; exact n1
    have f2 : ((bs ci).toList == [43, 78, 83, 82, 48, 51]) = false := by rw [Lib.toList_data, beq_eq_false_iff_ne]; exact n2
    clear n1 n2
    go_wp2_with fail
    go_ret
    rw [HE2.out]
    exact ⟨rfl, fun h => absurd h (by decide), (Vs.Prs.refl W db).below HB2.out⟩
  have HE2 := Lib.hid (HE1.out.trans (if_neg hci))
  clear HE1
  obtain ⟨t1, t2, f1, f2, f3⟩ : ∃ t1 t2 : Bool, ((bs ci).toList == [43, 78, 83, 82, 48, 50]) = t1 ∧ ((bs ci).toList == [43, 78, 83, 82, 48, 51]) = t2 ∧ (t1 = true ∨ (t1 = false ∧ t2 = true)) := by
    refine ⟨_, _, rfl, rfl, ?_⟩
    rw [Lib.toList_data]
    by_cases h : ci = Vs.contN2
    · exact .inl (by rw [beq_iff_eq]; exact h)
    · refine .inr ⟨by rw [beq_eq_false_iff_ne]; exact h, ?_⟩
      rw [beq_iff_eq]
      exact Classical.byContradiction fun h2 => hci ⟨h, h2⟩
  clear hci
  have HROW := Lib.hid (fun (wq : World) (h : wq.heap[db]? = some (.cells #[.string name, .string set, .string pub, .string prep, .string app, .int .i64 n, .int .i64 dd, .int .i64 tm, .int .i64 pn, .int .i64 pa, .int .i64 psx, .int .i64 pc, .int .i64 pbs, .int .i64 pbc, .int .i64 maps, .string table, .int .i64 fk, .int .i64 fl, .int .i64 fb, .int .i64 fp, .int .i64 ist, .int .i64 ic] 46 (0, 0))) => (show ((((((wq.setCell ⟨db, 8, none⟩ (.int .i64 a1)).setCell ⟨db, 9, none⟩ (.int .i64 a2)).setCell ⟨db, 10, none⟩ (.int .i64 a3)).setCell ⟨db, 11, none⟩ (.int .i64 a4)).setCell ⟨db, 12, none⟩ (.int .i64 a5)).setCell ⟨db, 13, none⟩ (.int .i64 bc)).heap[db]? = some (.cells #[.string name, .string set, .string pub, .string prep, .string app, .int .i64 n, .int .i64 dd, .int .i64 tm, .int .i64 a1, .int .i64 a2, .int .i64 a3, .int .i64 a4, .int .i64 a5, .int .i64 bc, .int .i64 maps, .string table, .int .i64 fk, .int .i64 fl, .int .i64 fb, .int .i64 fp, .int .i64 ist, .int .i64 ic] 46 (0, 0)) from heap_setCell_same _ _ 13 _ _ _ (heap_setCell_same _ _ 12 _ _ _ (heap_setCell_same _ _ 11 _ _ _ (heap_setCell_same _ _ 10 _ _ _ (heap_setCell_same _ _ 9 _ _ _ (heap_setCell_same _ _ 8 _ _ _ h)))))))
  have HLD := Lib.hid (fun (W4 : World) (h : W4.heap[db]? = some (.cells #[.string name, .string set, .string pub, .string prep, .string app, .int .i64 n, .int .i64 dd, .int .i64 tm, .int .i64 a1, .int .i64 a2, .int .i64 a3, .int .i64 a4, .int .i64 a5, .int .i64 bc, .int .i64 maps, .string table, .int .i64 fk, .int .i64 fl, .int .i64 fb, .int .i64 fp, .int .i64 ist, .int .i64 ic] 46 (0, 0))) => (show (loadVar 40 ⟨db, 8, none⟩).run Tryz.prog W4 = .ok (.agg #[.int .i64 a1, .int .i64 a2, .int .i64 a3, .int .i64 a4, .int .i64 a5, .int .i64 bc]) W4 from load_row (P := Tryz.prog) (n := 6) 40 _ h Tryz.underlying40 rfl (by kernel_rfl) (show 8 + 6 ≤ 22 by decide)))
  generalize Vs.okPart ⟨a1, a2, a3, a4, a5, bc⟩ = ok at *
  have HF := Lib.hid f3
  rcases f3 with rfl | ⟨rfl, rfl⟩
  all_goals
    clear HF
    go_wp2_with fail
    with_reducible refine (C0.out _).mono ?_
    rintro e w3 ⟨rfl, hw⟩
    subst hw
    clear f1 f2
    have cT := cell_of_row _ _ 0 _ _ _ (HR1.out _ HB2.out)
    simp only [List.getElem?_toArray, List.getElem?_cons_zero] at cT
    have yT := fun x : Later w2.heap.size w2 => later_cell x (Nat.lt_of_lt_of_le HK1.out HB2.out.size) cT
    go_wp2_with fail
    refine Rt.tail (C := fun w' => ∃ x : Later w2.heap.size w2, w' = x.to) 20 _ rfl (by kernel_rfl) (by kernel_rfl) (by kernel_rfl) rfl (by kernel_rfl) ⟨⟨w2.drewN 1, Kit.below_drewN 1⟩, rfl⟩ ?_
    simp only [List.take_succ_cons, List.take_zero]
    repeat (any_goals (first | go_big_quiet_skip | (go_big_quiet_want; go_big_quiet_op; first | go_big_quiet_on | (apply Exists.intro; refine ⟨fun _ => ?_, ?_⟩; (first | (with_reducible refine Calls.later_same (C1.out _)) | (with_reducible refine Calls.later_same (C2.out _)) | (with_reducible refine Calls.later_same (C3.out _)) | (with_reducible refine Calls.later_same (C4.out _)) | (with_reducible refine Calls.later_same (C5.out _))); go_big_quiet_on))))
    refine wpQuiet_nil ?_
    intro wq hw'
    obtain ⟨⟨wz, hbq⟩, hw''⟩ := hw'
    subst hw''
    have HBQ := Lib.hid (HB2.out.trans (hbq.mono HB2.out.size))
    clear hbq yT cT
    have c8 := cell_of_row _ _ 8 _ _ _ (HR2.out _ HBQ.out)
    have c9 := cell_of_row _ _ 9 _ _ _ (HR2.out _ HBQ.out)
    have c10 := cell_of_row _ _ 10 _ _ _ (HR2.out _ HBQ.out)
    have c11 := cell_of_row _ _ 11 _ _ _ (HR2.out _ HBQ.out)
    have c12 := cell_of_row _ _ 12 _ _ _ (HR2.out _ HBQ.out)
    have c13 := cell_of_row _ _ 13 _ _ _ (HR2.out _ HBQ.out)
    have hfj := fun j => frozen_of_row _ _ j _ _ (HR2.out _ HBQ.out)
    simp only [List.getElem?_toArray, List.getElem?_cons_zero, List.getElem?_cons_succ] at c8 c9 c10 c11 c12 c13
    have HW4 := Lib.hid (HROW.out _ (HR2.out _ HBQ.out))
    have HP4 := Lib.hid ((((((((Vs.Prs.refl W db).below HBQ.out).set (j := 8) (.int .i64 a1)).set (j := 9) (.int .i64 a2)).set (j := 10) (.int .i64 a3)).set (j := 11) (.int .i64 a4)).set (j := 12) (.int .i64 a5)).set (j := 13) (.int .i64 bc))
    go_upto_region 8 with fail
    generalize ((((((wq.setCell ⟨db, 8, none⟩ (.int .i64 a1)).setCell ⟨db, 9, none⟩ (.int .i64 a2)).setCell ⟨db, 10, none⟩ (.int .i64 a3)).setCell ⟨db, 11, none⟩ (.int .i64 a4)).setCell ⟨db, 12, none⟩ (.int .i64 a5)).setCell ⟨db, 13, none⟩ (.int .i64 bc)) = W4 at *
    clear c8 c9 c10 c11 c12 c13 hfj
    have cT := cell_of_row _ _ 0 _ _ _ ((HP4.out.keep tb HK1.out HNE.out).trans HTB.out)
    simp only [List.getElem?_toArray, List.getElem?_cons_zero] at cT
    go_wp2_with (refine wpList_load_at 40 _ rfl db 8 rfl _ (HLD.out _ HW4.out) (by rfl) ?_)
    with_reducible refine (CV.out _).mono ?_
    rintro e w5 ⟨rfl, hb5⟩
    have HW5 := Lib.hid ((hb5.block db (Array.getElem?_eq_some_iff.1 HW4.out).1).trans HW4.out)
    have HP5 := Lib.hid (HP4.out.below hb5)
    clear hb5 cT
    cases ok with
    | false =>
      have HE3 := Lib.hid (HE2.out.trans (if_neg (by decide)))
      clear HE2
      go_wp2_with fail
      go_ret
      rw [HE3.out, HD.out]
      exact ⟨rfl, fun _ => HW5.out, HP5.out⟩
    | true =>
      have HE3 := Lib.hid (HE2.out.trans (if_pos rfl))
      clear HE2
      go_wp2_with fail
      go_ret
      rw [HE3.out, HD.out]
      exact ⟨rfl, fun _ => HW5.out, HP5.out⟩
end Go.Proofs.YthkppbimkjmbnaaGreatDoor
