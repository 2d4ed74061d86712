/-
  The walk through volumeseq.ParseIntegrity: a block that is one.
-/
import Derived.Test.YthkppbimkjmbnaaGreatDoorXc
namespace Go.Proofs.YthkppbimkjmbnaaGreatDoor
set_option linter.unusedVariables false
open Go.RowKit
open Vs (bs by_)

set_option maxHeartbeats 12800000 in
set_option maxRecDepth 100000 in
/-- ParseIntegrity, of an integrity descriptor's block. -/
theorem vParseIntegrity_yes (s : ByteArray) (loc : Int) (w : World) (hs : s.size ≤ 9223372036854775807) (hi : Vs.isB (by_ s) 9 loc = true) :
    Calls Tryz.prog 38 #[.string s, .int .i64 loc] w fun e w' => ∃ vf vz, e = .returned (.tuple #[.agg (Vs.inC (Vs.pinR (by_ s) loc).1 vf vz), .int .i64 (Vs.pinR (by_ s) loc).2]) ∧ Kit.Row w' vf (Kit.izs (Vs.pinR (by_ s) loc).1.free) ∧ Kit.Row w' vz (Kit.izs (Vs.pinR (by_ s) loc).1.size) ∧ Below w.heap.size w w' := by
  have CI := Lib.hid (fun W => vIs_any s 9 loc W hs)
  rw [hi] at CI
  have hlb := Vs.isB_len hi
  have hsz : s.size = 2048 := by rwa [Vs.by_len] at hlb
  obtain ⟨x1, e1⟩ : ∃ x, s.extract 16 28 = x := ⟨_, rfl⟩
  have b1 : by_ x1 = Vs.sl (by_ s) 16 12 := by rw [← e1, Vs.bs_ext]; rfl
  have z1 : x1.size ≤ 2048 := by rw [← e1, ByteArray.size_extract]; omega
  have CR := Lib.hid (fun W => readStamp_any x1 W (by omega))
  rw [b1] at CR
  have CL := Lib.hid (fun W => show Calls Tryz.prog 114 #[.string s, .int .i64 40, .int .i64 8] W fun e w' => e = .returned (.tuple #[.int .i64 (Pm.readR (by_ s) 40 8).1, .int .i64 (Pm.readR (by_ s) 40 8).2]) ∧ W = w' from readLittle_any s 40 8 (by unfold Pm.Sz; omega) hs W)
  have C1 := Lib.hid (fun W => vRead_any s 72 4 72 4 rfl rfl (.inr rfl) (by omega) (by omega) W)
  have C2 := Lib.hid (fun W => vRead_any s 28 4 28 4 rfl rfl (.inr rfl) (by omega) (by omega) W)
  have C3 := Lib.hid (fun W => vRead_any s 76 4 76 4 rfl rfl (.inr rfl) (by omega) (by omega) W)
  obtain ⟨f, hf⟩ : ∃ f : Nat → Int, ∀ k, f k = ((Pm.at_ (by_ s) (80 + 4 * k) 4 : Nat) : Int) := ⟨_, fun _ => rfl⟩
  obtain ⟨g, hg⟩ : ∃ g : Nat → Int, ∀ k, g k = ((Pm.at_ (by_ s) (80 + 4 * (Vs.nIn (by_ s) + k)) 4 : Nat) : Int) := ⟨_, fun _ => rfl⟩
  have CF := Lib.hid (fun (k : Nat) (hk : k < 8) W => show Calls Tryz.prog 83 #[.string s, .int .i64 (80 + 4 * (k : Int)), .int .i64 4] W fun e w' => e = .returned (.int .i64 (f k)) ∧ W = w' from by rw [hf]; exact vRead_any s (80 + 4 * k) 4 (80 + 4 * (k : Int)) 4 (by omega) rfl (.inr rfl) (by omega) (by omega) W)
  have CZ := Lib.hid (fun (k : Nat) (hk : Vs.nIn (by_ s) + k < 16) W => show Calls Tryz.prog 83 #[.string s, .int .i64 (80 + 4 * ((Vs.nIn (by_ s) : Int) + k)), .int .i64 4] W fun e w' => e = .returned (.int .i64 (g k)) ∧ W = w' from by rw [hg]; exact vRead_any s (80 + 4 * (Vs.nIn (by_ s) + k)) 4 (80 + 4 * ((Vs.nIn (by_ s) : Int) + k)) 4 (by omega) rfl (.inr rfl) (by omega) (by omega) W)
  have C5 := Lib.hid (fun (hn : Vs.nIn (by_ s) ≤ 8) W => vRead_any s (80 + 8 * Vs.nIn (by_ s) + 32) 4 (80 + 8 * (Vs.nIn (by_ s) : Int) + 32) 4 (by omega) rfl (.inr rfl) (by omega) (by omega) W)
  have C6 := Lib.hid (fun (hn : Vs.nIn (by_ s) ≤ 8) W => vRead_any s (80 + 8 * Vs.nIn (by_ s) + 36) 4 (80 + 8 * (Vs.nIn (by_ s) : Int) + 36) 4 (by omega) rfl (.inr rfl) (by omega) (by omega) W)
  have HE := Lib.hid (Vs.pin_eq hi)
  have HU := Lib.hid (fun h => Vs.readR_at hlb h)
  have HV := Lib.hid (show Vs.pinV (by_ s) = ⟨(Vs.readSR (Vs.sl (by_ s) 16 12)).1.1, decide (Pm.at_ (by_ s) 28 4 = 1), ((Pm.at_ (by_ s) 40 8 : Nat) : Int), (List.range (Vs.nIn (by_ s))).map f, (List.range (Vs.nIn (by_ s))).map g, if 46 ≤ Pm.at_ (by_ s) 76 4 then ((Pm.at_ (by_ s) (80 + 8 * Vs.nIn (by_ s) + 32) 4 : Nat) : Int) else 0, if 46 ≤ Pm.at_ (by_ s) 76 4 then ((Pm.at_ (by_ s) (80 + 8 * Vs.nIn (by_ s) + 36) 4 : Nat) : Int) else 0⟩ from by rw [funext hf, funext hg]; rfl)
  have HN := Lib.hid (show Vs.nIn (by_ s) = Pm.at_ (by_ s) 72 4 from rfl)
  rw [← HN.out] at C1
  obtain ⟨Z, hZ⟩ : ∃ Z, Z = Vs.zI := ⟨_, rfl⟩
  have HS := Lib.hid (Vs.PiB.start w Z)
  have HZ1 := Lib.hid (show Z.all (·.oneCell') = true by rw [hZ]; unfold Vs.zI; simp [Value.oneCell'])
  have HZI := Lib.hid (show (Tryz.prog.info? 71).map (·.size) = some Z.size by rw [hZ]; exact Vs.zI_info)
  have HZL := Lib.hid (show (#[.int .i64 0, .bool false, .int .i64 0, .slice none 0 0, .slice none 0 0, .int .i64 0, .int .i64 0] : Array Value) = Z from hZ.symm)
  have HLD := Lib.hid (fun (W : World) (g : Nat) (h : W.heap[g]? = some (.cells Z 71 (0, 0))) => show (loadVar 71 ⟨g, 0, none⟩).run Tryz.prog W = .ok (.agg Z) W by rw [hZ] at h ⊢; exact Vs.ibox_load h)
  have HZE := Lib.hid hZ
  have hz7 : Z.size = 7 := by rw [hZ]; rfl
  generalize Vs.pinV (by_ s) = PV at *
  generalize Vs.pinR (by_ s) loc = PR at *
  generalize Vs.readSR (Vs.sl (by_ s) 16 12) = sr at *
  generalize Pm.readR (by_ s) 40 8 = rl at *
  generalize ((Pm.at_ (by_ s) (80 + 8 * Vs.nIn (by_ s) + 32) 4 : Nat) : Int) = fi at *
  generalize ((Pm.at_ (by_ s) (80 + 8 * Vs.nIn (by_ s) + 36) 4 : Nat) : Int) = fo at *
  generalize Vs.nIn (by_ s) = n at *
  generalize Pm.at_ (by_ s) 28 4 = c28 at *
  generalize Pm.at_ (by_ s) 76 4 = c76 at *
  generalize ((Pm.at_ (by_ s) 40 8 : Nat) : Int) = u8 at *
  obtain ⟨⟨st, szz⟩, se⟩ := sr
  obtain ⟨u, ue⟩ := rl
  simp only [] at *
  have hs1 : (s.size : Int) = 2048 := by omega
  clear b1 z1 hi hs hsz hlb HN hZ hf hg
  go_enter Tryz.func38, Tryz.ntmps38
  go_upto_region 2 with fail
  rw [HZL.out]
  generalize ((w.alloc (.cells Z 71)).alloc (.cells Z 71)) = W1 at *
  go_wp2_with fail
  with_reducible refine (CI.out _).mono ?_
  rintro e w2 ⟨rfl, hb2⟩
  have HS2 := Lib.hid (HS.out.below hb2)
  clear hb2 HS
  go_wp2_with fail
  with_reducible refine (CR.out _).mono ?_
  rintro e w3 ⟨rfl, hb3⟩
  have HS3 := Lib.hid (HS2.out.below hb3)
  clear hb3 HS2 CI CR
  by_cases hse : se = 0
  case neg =>
    have d1 : (se != 0) = true := by rw [bne_iff_ne]; exact hse
    have HL2 := Lib.hid (HLD.out _ _ HS3.out.hn)
    have hst := Vs.run_put (P := Tryz.prog) HS3.out.hr Z rfl HZ1.out
    go_wp2_with (first | (refine wpList_load_at 71 _ rfl (w.heap.size + 1) 0 rfl _ HL2.out (by rfl) ?_) | (with_reducible refine (CL.out _).mono ?_; rintro e wx ⟨rfl, hw⟩; subst hw) | (with_reducible refine (C1.out _).mono ?_; rintro e wx ⟨rfl, hw⟩; subst hw))
    exact bodyPost_ret (v := .tuple #[.agg Z, .int .i64 10]) (res_ct rfl _ _ w.heap.size 71 Z (0, 0) _ rfl (HS3.out.out rfl).1 Tryz.underlying71 rfl HZI.out _ rfl) rfl (HS3.out.fail HZE.out (HE.out.trans (if_neg (fun h => hse h.1))))
  subst hse
  by_cases hue : ue = 0
  case neg =>
    have d1 : (ue != 0) = true := by rw [bne_iff_ne]; exact hue
    have HL2 := Lib.hid (HLD.out _ _ HS3.out.hn)
    have hst := Vs.run_put (P := Tryz.prog) HS3.out.hr Z rfl HZ1.out
    go_wp2_with (first | (refine wpList_load_at 71 _ rfl (w.heap.size + 1) 0 rfl _ HL2.out (by rfl) ?_) | (with_reducible refine (CL.out _).mono ?_; rintro e wx ⟨rfl, hw⟩; subst hw) | (with_reducible refine (C1.out _).mono ?_; rintro e wx ⟨rfl, hw⟩; subst hw))
    exact bodyPost_ret (v := .tuple #[.agg Z, .int .i64 10]) (res_ct rfl _ _ w.heap.size 71 Z (0, 0) _ rfl (HS3.out.out rfl).1 Tryz.underlying71 rfl HZI.out _ rfl) rfl (HS3.out.fail HZE.out (HE.out.trans (if_neg (fun h => hue h.2.1))))
  subst hue
  by_cases hn : n ≤ 8
  case neg =>
    have d1 : decide ((8 : Int) < (n : Int)) = true := decide_eq_true (by omega)
    have HL2 := Lib.hid (HLD.out _ _ HS3.out.hn)
    have hst := Vs.run_put (P := Tryz.prog) HS3.out.hr Z rfl HZ1.out
    go_wp2_with (first | (refine wpList_load_at 71 _ rfl (w.heap.size + 1) 0 rfl _ HL2.out (by rfl) ?_) | (with_reducible refine (CL.out _).mono ?_; rintro e wx ⟨rfl, hw⟩; subst hw) | (with_reducible refine (C1.out _).mono ?_; rintro e wx ⟨rfl, hw⟩; subst hw))
    exact bodyPost_ret (v := .tuple #[.agg Z, .int .i64 10]) (res_ct rfl _ _ w.heap.size 71 Z (0, 0) _ rfl (HS3.out.out rfl).1 Tryz.underlying71 rfl HZI.out _ rfl) rfl (HS3.out.fail HZE.out (HE.out.trans (if_neg (fun h => hn h.2.2.1))))
  have d1 : decide ((8 : Int) < (n : Int)) = false := decide_eq_false (by omega)
  obtain rfl := HU.out rfl
  have HC := Lib.hid (show ((c28 : Int) == 1) = decide (c28 = 1) by rw [Bool.eq_iff_iff, beq_iff_eq, decide_eq_true_iff]; omega)
  go_upto_region 10 with (first | (with_reducible refine (CL.out _).mono ?_; rintro e wx ⟨rfl, hw⟩; subst hw) | (with_reducible refine (C1.out _).mono ?_; rintro e wx ⟨rfl, hw⟩; subst hw) | (with_reducible refine (C2.out _).mono ?_; rintro e wx ⟨rfl, hw⟩; subst hw))
  rw [HC.out]
  generalize decide (c28 = 1) = cb at *
  clear HU HC d1 CL C1 C2 hs1
  have HP0 := Lib.hid (show Vs.PiL w (w3.alloc (.cells #[.int .i64 st, .bool cb, .int .i64 u, .slice none 0 0, .slice none 0 0, .int .i64 0, .int .i64 0] 71)) Z w3.heap.size st u cb (.slice none 0 0) (.slice none 0 0) [] [] from ⟨HS3.out.below ((Below.refl w3.heap.size w3).alloc (Nat.le_refl _) _), HS3.out.size, heap_alloc_new w3 _, ⟨by simp [Kit.izs], .inl ⟨rfl, rfl⟩⟩, ⟨by simp [Kit.izs], .inl ⟨rfl, rfl⟩⟩, .inl rfl⟩)
  generalize w3.alloc (.cells #[.int .i64 st, .bool cb, .int .i64 u, .slice none 0 0, .slice none 0 0, .int .i64 0, .int .i64 0] 71) = w4 at *
  generalize w3.heap.size = gb at *
  clear HS3
  go_wp2_with fail
  go_loopw [14, 53] (fun _ iv wr => ∃ k : Nat, k ≤ n ∧ iv = .int .i64 k ∧ ∃ vf vz, Hid (Vs.PiL w wr Z gb st u cb vf vz ((List.range k).map f) ((List.range k).map g))) (fun _ iv _ => n - (intOf iv).toNat)
  case atStart => exact ⟨0, by omega, rfl, _, _, HP0⟩
  case round =>
    clear HP0
    obtain ⟨k, hk, rfl, vf, vz, HP⟩ := hrel
    by_cases hlt : k < n
    · have CX := Lib.hid (fun W => CF.out k (by omega) W)
      have CY := Lib.hid (fun W => CZ.out k (by omega) W)
      have hkk : ((List.range k).map f).length ≤ 8 ∧ ((List.range k).map g).length ≤ 8 := ⟨by rw [List.length_map, List.length_range]; omega, by rw [List.length_map, List.length_range]; omega⟩
      have HF := Lib.hid (show (List.range (k + 1)).map f = (List.range k).map f ++ [f k] by rw [List.range_succ, List.map_append]; rfl)
      have HG := Lib.hid (show (List.range (k + 1)).map g = (List.range k).map g ++ [g k] by rw [List.range_succ, List.map_append]; rfl)
      have hk8 : (List.range k).length ≤ 8 := by rw [List.length_range]; omega
      obtain ⟨A, cp, rfl⟩ := own_shape HP.out.of
      obtain ⟨B, cq, rfl⟩ := own_shape HP.out.oz
      generalize (List.range k).map f = F at *
      generalize (List.range k).map g = G at *
      generalize f k = x at *
      generalize g k = y at *
      have m1 : IntKind.i64.wrap (4 * (k : Int)) = 4 * (k : Int) := IntWalk.i64_in _ (by omega)
      have m2 : IntKind.i64.wrap (80 + 4 * (k : Int)) = 80 + 4 * (k : Int) := IntWalk.i64_in _ (by omega)
      have m3 : IntKind.i64.wrap ((n : Int) + (k : Int)) = (n : Int) + (k : Int) := IntWalk.i64_in _ (by omega)
      have m4 : IntKind.i64.wrap (4 * ((n : Int) + (k : Int))) = 4 * ((n : Int) + (k : Int)) := IntWalk.i64_in _ (by omega)
      have m5 : IntKind.i64.wrap (80 + 4 * ((n : Int) + (k : Int))) = 80 + 4 * ((n : Int) + (k : Int)) := IntWalk.i64_in _ (by omega)
      obtain ⟨i0, hi0, hz0, hz1, hz2⟩ := info_parts intInfo
      go_upto_region 13 with fail
      have HA := Lib.hid (HP.out.quiet (Kit.grown_of_below (Below.refl wr.heap.size wr).drew))
      have hT := HA.out.cell
      refine Kt.start [8, 19] (fun W => W.heap[gb]? = some (.cells #[.int .i64 st, .bool cb, .int .i64 u, .slice A F.length cp, .slice B G.length cq, .int .i64 0, .int .i64 0] 71 (0, 0))) (by kernel_rfl) ?_
      refine Kt.plain (i := 0) (v := .pointer (some ⟨gb, 3, none⟩)) rfl (by kernel_rfl) (by kernel_rfl) (by kernel_rfl) (by rfl) (fun _ _ _ h => h) (Or.inl ⟨by rfl, by intro w hSw; go_simp⟩) (fun _ => hT) ?_
      try simp only [Act.put, List.setIfInBounds_toArray, List.set_cons_zero, List.set_cons_succ, List.getElem_toArray, List.getElem_cons_zero]
      refine Kt.load (i := 1) 8 (v := .slice A F.length cp) rfl (by kernel_rfl) (by kernel_rfl) (by kernel_rfl) (by rfl) (by decide) rfl (by kernel_rfl) (by rfl) (fun _ _ _ h => h) (Or.inl ⟨by rfl, by intro w hSw; have hc := cell_of_row _ _ 3 _ _ _ hSw; simp only [List.getElem?_toArray, List.getElem?_cons_zero, List.getElem?_cons_succ] at hc; go_simp⟩) hT ?_
      try simp only [Act.put, List.setIfInBounds_toArray, List.set_cons_zero, List.set_cons_succ, List.getElem_toArray, List.getElem_cons_zero, List.getElem_cons_succ]
      refine Kt.plain (i := 2) (v := .string s) rfl (by kernel_rfl) (by kernel_rfl) (by kernel_rfl) (by rfl) (fun _ _ _ h => h) (Or.inl ⟨by rfl, by intro w hSw; go_simp⟩) (fun _ => hT) ?_
      try simp only [Act.put, List.setIfInBounds_toArray, List.set_cons_zero, List.set_cons_succ, List.getElem_toArray, List.getElem_cons_zero, List.getElem_cons_succ]
      refine Kt.plain (i := 3) (v := .int .i64 k) rfl (by kernel_rfl) (by kernel_rfl) (by kernel_rfl) (by rfl) (fun _ _ _ h => h) (Or.inl ⟨by rfl, by intro w hSw; go_simp⟩) (fun _ => hT) ?_
      try simp only [Act.put, List.setIfInBounds_toArray, List.set_cons_zero, List.set_cons_succ, List.getElem_toArray, List.getElem_cons_zero, List.getElem_cons_succ]
      refine Kt.plain (i := 4) (v := .int .i64 (4 * (k : Int))) rfl (by kernel_rfl) (by kernel_rfl) (by kernel_rfl) (by rfl) (fun _ _ _ h => h) (Or.inl ⟨by rfl, by intro w hSw; go_simp⟩) (fun _ => hT) ?_
      try simp only [Act.put, List.setIfInBounds_toArray, List.set_cons_zero, List.set_cons_succ, List.getElem_toArray, List.getElem_cons_zero, List.getElem_cons_succ]
      refine Kt.plain (i := 5) (v := .int .i64 (80 + 4 * (k : Int))) rfl (by kernel_rfl) (by kernel_rfl) (by kernel_rfl) (by rfl) (fun _ _ _ h => h) (Or.inl ⟨by rfl, by intro w hSw; go_simp⟩) (fun _ => hT) ?_
      try simp only [Act.put, List.setIfInBounds_toArray, List.set_cons_zero, List.set_cons_succ, List.getElem_toArray, List.getElem_cons_zero, List.getElem_cons_succ]
      refine Kt.plain (i := 9) (v := .pointer (some ⟨gb, 4, none⟩)) rfl (by kernel_rfl) (by kernel_rfl) (by kernel_rfl) (by rfl) (fun _ _ _ h => h) (Or.inl ⟨by rfl, by intro w hSw; go_simp⟩) (fun _ => hT) ?_
      try simp only [Act.put, List.setIfInBounds_toArray, List.set_cons_zero, List.set_cons_succ, List.getElem_toArray, List.getElem_cons_zero, List.getElem_cons_succ]
      refine Kt.load (i := 10) 19 (v := .slice B G.length cq) rfl (by kernel_rfl) (by kernel_rfl) (by kernel_rfl) (by rfl) (by decide) rfl (by kernel_rfl) (by rfl) (fun _ _ _ h => h) (Or.inl ⟨by rfl, by intro w hSw; have hc := cell_of_row _ _ 4 _ _ _ hSw; simp only [List.getElem?_toArray, List.getElem?_cons_zero, List.getElem?_cons_succ] at hc; go_simp⟩) hT ?_
      try simp only [Act.put, List.setIfInBounds_toArray, List.set_cons_zero, List.set_cons_succ, List.getElem_toArray, List.getElem_cons_zero, List.getElem_cons_succ]
      refine Kt.plain (i := 11) (v := .string s) rfl (by kernel_rfl) (by kernel_rfl) (by kernel_rfl) (by rfl) (fun _ _ _ h => h) (Or.inl ⟨by rfl, by intro w hSw; go_simp⟩) (fun _ => hT) ?_
      try simp only [Act.put, List.setIfInBounds_toArray, List.set_cons_zero, List.set_cons_succ, List.getElem_toArray, List.getElem_cons_zero, List.getElem_cons_succ]
      refine Kt.plain (i := 12) (v := .int .i64 n) rfl (by kernel_rfl) (by kernel_rfl) (by kernel_rfl) (by rfl) (fun _ _ _ h => h) (Or.inl ⟨by rfl, by intro w hSw; go_simp⟩) (fun _ => hT) ?_
      try simp only [Act.put, List.setIfInBounds_toArray, List.set_cons_zero, List.set_cons_succ, List.getElem_toArray, List.getElem_cons_zero, List.getElem_cons_succ]
      refine Kt.plain (i := 13) (v := .int .i64 k) rfl (by kernel_rfl) (by kernel_rfl) (by kernel_rfl) (by rfl) (fun _ _ _ h => h) (Or.inl ⟨by rfl, by intro w hSw; go_simp⟩) (fun _ => hT) ?_
      try simp only [Act.put, List.setIfInBounds_toArray, List.set_cons_zero, List.set_cons_succ, List.getElem_toArray, List.getElem_cons_zero, List.getElem_cons_succ]
      refine Kt.plain (i := 14) (v := .int .i64 ((n : Int) + (k : Int))) rfl (by kernel_rfl) (by kernel_rfl) (by kernel_rfl) (by rfl) (fun _ _ _ h => h) (Or.inl ⟨by rfl, by intro w hSw; go_simp⟩) (fun _ => hT) ?_
      try simp only [Act.put, List.setIfInBounds_toArray, List.set_cons_zero, List.set_cons_succ, List.getElem_toArray, List.getElem_cons_zero, List.getElem_cons_succ]
      refine Kt.plain (i := 15) (v := .int .i64 (4 * ((n : Int) + (k : Int)))) rfl (by kernel_rfl) (by kernel_rfl) (by kernel_rfl) (by rfl) (fun _ _ _ h => h) (Or.inl ⟨by rfl, by intro w hSw; go_simp⟩) (fun _ => hT) ?_
      try simp only [Act.put, List.setIfInBounds_toArray, List.set_cons_zero, List.set_cons_succ, List.getElem_toArray, List.getElem_cons_zero, List.getElem_cons_succ]
      refine Kt.plain (i := 16) (v := .int .i64 (80 + 4 * ((n : Int) + (k : Int)))) rfl (by kernel_rfl) (by kernel_rfl) (by kernel_rfl) (by rfl) (fun _ _ _ h => h) (Or.inl ⟨by rfl, by intro w hSw; go_simp⟩) (fun _ => hT) ?_
      try simp only [Act.put, List.setIfInBounds_toArray, List.set_cons_zero, List.set_cons_succ, List.getElem_toArray, List.getElem_cons_zero, List.getElem_cons_succ]
      generalize wr.drew = wA at *
      refine Kt.one (i := 6) (by kernel_rfl) rfl (fun K hK => ?_)
      go_simp
      with_reducible refine (CX.out _).mono ?_
      rintro e wx ⟨rfl, hw⟩
      subst hw
      refine hK.out _ _ (fun _ => hT) ?_
      clear hK K
      try simp only [Act.put, List.setIfInBounds_toArray, List.set_cons_zero, List.set_cons_succ, List.getElem_toArray, List.getElem_cons_zero, List.getElem_cons_succ]
      have HB := Lib.hid (HA.out.quiet (Kit.grown_of_below ((Below.refl wA.heap.size wA).alloc (Nat.le_refl _) (.cells #[.int .i64 x] 3))))
      have hN := heap_alloc_new wA (.cells #[.int .i64 x] 3)
      have hT2 := HB.out.cell
      refine Kt.one (i := 7) (by kernel_rfl) rfl (fun K hK => ?_)
      go_simp
      refine hK.out _ _ (fun _ => hT2) ?_
      clear hK K
      try simp only [Act.put, List.setIfInBounds_toArray, List.set_cons_zero, List.set_cons_succ, List.getElem_toArray, List.getElem_cons_zero, List.getElem_cons_succ]
      clear HA hT CX
      generalize wA.alloc (.cells #[.int .i64 x] 3) = wB at *
      generalize wA.heap.size = gA at *
      have hbs := HB.out.glt
      refine Kt.one (i := 8) (by kernel_rfl) rfl (fun K hK => ?_)
      refine step_append_lies _ (by rfl) _ _ 34 (by rfl) (gb + 1) 3 i0 (.int .i64 0) 1 8 Tryz.underlying34 hi0 hz0 hz1 hz2 rfl (by decide) (.slice A F.length cp) F.length (Kit.izs F) (by first | rfl | go_simp) HB.out.of ⟨gA, 0, none⟩ 1 1 [.int .i64 x] (by rfl) rfl (World.news_of_block hN) (by simp [Value.oneCell']) (by decide) (by unfold maxLen; omega) (by omega) (by omega) _ rfl ?_
      intro r1 cf w1 h1 hgrow hat hlt1
      obtain ⟨hb1, hT3, hz3, hne3⟩ := HB.out.app hgrow h1 hat
      have H1 := Lib.hid h1
      have HG1 := Lib.hid hgrow
      have HAT := Lib.hid hat
      have HZ3 := Lib.hid hz3
      clear hb1 hne3 h1 hgrow hat hz3 hN
      have hgl1 := (Array.getElem?_eq_some_iff.1 hT3).1
      refine hK.out _ _ (fun _ => hT3) ?_
      clear hK K hT2
      try simp only [Act.put, List.setIfInBounds_toArray, List.set_cons_zero, List.set_cons_succ, List.getElem_toArray, List.getElem_cons_zero, List.getElem_cons_succ]
      refine Kt.plain (i := 20) (v := .pointer (some ⟨gb, 3, none⟩)) rfl (by kernel_rfl) (by kernel_rfl) (by kernel_rfl) (by rfl) (fun _ _ _ h => h) (Or.inl ⟨by rfl, by intro w hSw; go_simp⟩) (fun _ => hT3) ?_
      try simp only [Act.put, List.setIfInBounds_toArray, List.set_cons_zero, List.set_cons_succ, List.getElem_toArray, List.getElem_cons_zero, List.getElem_cons_succ]
      refine Kt.one (i := 17) (by kernel_rfl) rfl (fun K hK => ?_)
      go_simp
      with_reducible refine (CY.out _).mono ?_
      rintro e wx ⟨rfl, hw⟩
      subst hw
      refine hK.out _ _ (fun _ => hT3) ?_
      clear hK K
      try simp only [Act.put, List.setIfInBounds_toArray, List.set_cons_zero, List.set_cons_succ, List.getElem_toArray, List.getElem_cons_zero, List.getElem_cons_succ]
      have hal : (w1.alloc (.cells #[.int .i64 y] 3)).heap.size = w1.heap.size + 1 := by simp
      have hT4 := (((Below.refl w1.heap.size w1).alloc (Nat.le_refl _) (.cells #[.int .i64 y] 3)).block gb hgl1).trans hT3
      have hN := heap_alloc_new w1 (.cells #[.int .i64 y] 3)
      have HZ4 := Lib.hid (HZ3.out.alloc (.cells #[.int .i64 y] 3))
      refine Kt.one (i := 18) (by kernel_rfl) rfl (fun K hK => ?_)
      go_simp
      refine hK.out _ _ (fun _ => hT4) ?_
      clear hK K
      try simp only [Act.put, List.setIfInBounds_toArray, List.set_cons_zero, List.set_cons_succ, List.getElem_toArray, List.getElem_cons_zero, List.getElem_cons_succ]
      obtain ⟨wC, hwC⟩ : ∃ wC, wC = w1.alloc (.cells #[.int .i64 y] 3) := ⟨_, rfl⟩
      have HWC := Lib.hid hwC
      rw [← hwC] at hal hT4 hN HZ4 ⊢
      clear hwC
      refine Kt.one (i := 19) (by kernel_rfl) rfl (fun K hK => ?_)
      refine step_append_lies _ (by rfl) _ _ 34 (by rfl) (gb + 1) 3 i0 (.int .i64 0) 1 8 Tryz.underlying34 hi0 hz0 hz1 hz2 rfl (by decide) (.slice B G.length cq) G.length (Kit.izs G) (by first | rfl | go_simp) HZ4.out ⟨w1.heap.size, 0, none⟩ 1 1 [.int .i64 y] (by rfl) rfl (World.news_of_block hN) (by simp [Value.oneCell']) (by decide) (by unfold maxLen; omega) (by omega) (by omega) (w1.heap.size + 1) hal ?_
      intro r2 cz w2 h2 hgrow2 hat2 hlt2
      have H2 := Lib.hid h2
      have HAT2 := Lib.hid hat2
      rw [HWC.out] at hgrow2
      have HG2 := Lib.hid hgrow2
      have hR2 := HB.out.row2 HG1.out hgrow2
      clear h2 hgrow2 hat2 hal hT4 hN HZ4 HZ3 HWC
      refine hK.out _ _ (fun h => absurd h (Kt.notDue (by kernel_rfl))) ?_
      clear hK K hT3
      try simp only [Act.put, List.setIfInBounds_toArray, List.set_cons_zero, List.set_cons_succ, List.getElem_toArray, List.getElem_cons_zero, List.getElem_cons_succ]
      have c3 := cell_of_row _ _ 3 _ _ _ hR2
      have fr := fun j => frozen_of_row _ _ j _ _ hR2
      have hR3 := heap_setCell_same _ _ 3 _ _ (Value.slice (some ⟨r1, 0, none⟩) (F.length + 1) cf) hR2
      have c4 := cell_of_row _ _ 4 _ _ _ hR3
      have fr2 := fun j => frozen_of_row _ _ j _ _ hR3
      simp only [List.getElem?_toArray, List.setIfInBounds_toArray, List.set_cons_zero, List.set_cons_succ, List.getElem?_cons_zero, List.getElem?_cons_succ] at c3 c4
      refine Kt.one (i := 21) (by kernel_rfl) rfl (fun K hK => ?_)
      go_simp
      refine hK.out _ _ (fun h => absurd h (Kt.notDue (by kernel_rfl))) ?_
      clear hK K
      try simp only [Act.put, List.setIfInBounds_toArray, List.set_cons_zero, List.set_cons_succ, List.getElem_toArray, List.getElem_cons_zero, List.getElem_cons_succ]
      refine Kt.plain (i := 22) (v := .pointer (some ⟨gb, 4, none⟩)) rfl (by kernel_rfl) (by kernel_rfl) (by kernel_rfl) (by rfl) (fun _ _ _ h => h) (Or.inl ⟨by rfl, by intro w hSw; go_simp⟩) (fun h => absurd h (Kt.notDue (by kernel_rfl))) ?_
      try simp only [Act.put, List.setIfInBounds_toArray, List.set_cons_zero, List.set_cons_succ, List.getElem_toArray, List.getElem_cons_zero, List.getElem_cons_succ]
      refine Kt.one (i := 23) (by kernel_rfl) rfl (fun K hK => ?_)
      go_simp
      refine hK.out _ _ (fun h => absurd h (Kt.notDue (by kernel_rfl))) ?_
      clear hK K
      try simp only [Act.put, List.setIfInBounds_toArray, List.set_cons_zero, List.set_cons_succ, List.getElem_toArray, List.getElem_cons_zero, List.getElem_cons_succ]
      refine Kt.done (by kernel_rfl) ?_ _
      have HNX := Lib.hid (HB.out.step HG1.out H1.out HAT.out HG2.out H2.out HAT2.out)
      clear c3 c4 fr fr2 hR2 hR3 HG1 H1 HAT HG2 H2 HAT2 HB
      go_wp2_with fail
      go_roundw
      case rel => exact ⟨k + 1, by omega, by go_num, _, _, by rw [HF.out, HG.out]; exact HNX⟩
      case measure => simp [intOf]; omega
    · obtain rfl : k = n := by omega
      have CE := Lib.hid (C5.out hn)
      have CG := Lib.hid (C6.out hn)
      have HL8 := Lib.hid (show ((List.range k).map f).length ≤ 8 ∧ ((List.range k).map g).length ≤ 8 from ⟨by rw [List.length_map, List.length_range]; omega, by rw [List.length_map, List.length_range]; omega⟩)
      clear C5 C6 CF CZ hlt hk
      go_upto_if 81 with (with_reducible refine (C3.out _).mono ?_; rintro e wx ⟨rfl, hw⟩; subst hw)
      go_cut [13] (fun s13 wx => s13 = .pointer (some ⟨gb, 0, none⟩) ∧ Hid (Vs.PiF w wx Z gb #[.int .i64 st, .bool cb, .int .i64 u, vf, vz, .int .i64 (if 46 ≤ c76 then fi else 0), .int .i64 (if 46 ≤ c76 then fo else 0)] vf vz ((List.range k).map f) ((List.range k).map g)))
      case first =>
        by_cases hc : 46 ≤ c76
        · have d2 : decide ((46 : Int) ≤ (c76 : Int)) = true := decide_eq_true (by omega)
          have c5 := cell_of_row _ _ 5 _ _ _ HP.out.cell
          have fr := fun j => frozen_of_row _ _ j _ _ HP.out.cell
          have hR := heap_setCell_same _ _ 5 _ _ (Value.int .i64 fi) HP.out.cell
          have c6 := cell_of_row _ _ 6 _ _ _ hR
          have fr2 := fun j => frozen_of_row _ _ j _ _ hR
          simp only [List.getElem?_toArray, List.setIfInBounds_toArray, List.set_cons_zero, List.set_cons_succ, List.getElem?_cons_zero, List.getElem?_cons_succ] at c5 c6
          go_wp2_with (first | (with_reducible refine (CE.out _).mono ?_; rintro e wx ⟨rfl, hw⟩; subst hw) | (with_reducible refine (CG.out _).mono ?_; rintro e wx ⟨rfl, hw⟩; subst hw))
          go_meet
          exact ⟨rfl, by rw [if_pos hc, if_pos hc]; exact Lib.hid (HP.out.fin2 fi fo)⟩
        · have d2 : decide ((46 : Int) ≤ (c76 : Int)) = false := decide_eq_false (by omega)
          go_wp2_with fail
          go_meet
          exact ⟨rfl, by rw [if_neg hc, if_neg hc]; exact Lib.hid HP.out.fin⟩
      case rest =>
        obtain ⟨rfl, HF⟩ := hcut
        have HXV := Lib.hid (show #[.int .i64 st, .bool cb, .int .i64 u, vf, vz, .int .i64 (if 46 ≤ c76 then fi else 0), .int .i64 (if 46 ≤ c76 then fo else 0)] = Vs.inC PV vf vz by rw [HV.out]; rfl)
        have HFR := Lib.hid (show (List.range k).map f = PV.free ∧ (List.range k).map g = PV.size from ⟨by rw [HV.out], by rw [HV.out]⟩)
        rw [HFR.out.1, HFR.out.2] at HF HL8
        rw [HXV.out] at HF
        clear HV HFR HXV HP C3 CE CG
        obtain ⟨X, hX⟩ : ∃ X, X = Vs.inC PV vf vz := ⟨_, rfl⟩
        have HXE := Lib.hid hX
        have HX1 := Lib.hid (show X.all (·.oneCell') = true by rw [hX]; obtain ⟨A, cp, rfl⟩ := own_shape HF.out.of; obtain ⟨B, cq, rfl⟩ := own_shape HF.out.oz; unfold Vs.inC; simp [Value.oneCell'])
        have HXI := Lib.hid (show (Tryz.prog.info? 71).map (·.size) = some X.size by rw [hX]; exact Vs.zI_info)
        have hx7 : X.size = 7 := by rw [hX]; rfl
        have HLX := Lib.hid (fun (W : World) (h : W.heap[gb]? = some (.cells X 71 (0, 0))) => show (loadVar 71 ⟨gb, 0, none⟩).run Tryz.prog W = .ok (.agg X) W by rw [hX] at h ⊢; exact Vs.ibox_load h)
        have CIF := Lib.hid (fun W (h : Vs.PiF w W Z gb X vf vz PV.free PV.size) => show Calls Tryz.prog 108 #[.agg X] W fun e w' => e = .returned (.bool (Vs.okIn PV)) ∧ Below W.heap.size W w' by rw [hX]; exact information_any PV vf vz W (Kit.RowS.of_own h.of) (Kit.RowS.of_own h.oz) (by have := HL8.out; omega) (by have := HL8.out; omega))
        rw [← hX] at HF
        clear hX HL8
        have HL0 := Lib.hid (HLX.out _ HF.out.row)
        go_wp2_with (refine wpList_load_at 71 _ rfl gb 0 rfl _ HL0.out (by rfl) ?_)
        with_reducible refine (CIF.out _ HF.out).mono ?_
        rintro e w9 ⟨rfl, hb9⟩
        have HF9 := Lib.hid (HF.out.below hb9)
        clear hb9 HF CIF HL0
        generalize hok : Vs.okIn PV = ok at *
        cases ok with
        | false =>
          have HL2 := Lib.hid (HLD.out _ _ HF9.out.box.hn)
          have hst := Vs.run_put (P := Tryz.prog) HF9.out.box.hr Z rfl HZ1.out
          go_wp2_with (refine wpList_load_at 71 _ rfl (w.heap.size + 1) 0 rfl _ HL2.out (by rfl) ?_)
          exact bodyPost_ret (v := .tuple #[.agg Z, .int .i64 10]) (res_ct rfl _ _ w.heap.size 71 Z (0, 0) _ rfl (HF9.out.box.out rfl).1 Tryz.underlying71 rfl HZI.out _ rfl) rfl (HF9.out.box.fail HZE.out (HE.out.trans (if_neg (fun h => absurd h.2.2.2 (by decide)))))
        | true =>
          have HL2 := Lib.hid (HLX.out _ HF9.out.row)
          have hst := Vs.run_put (P := Tryz.prog) HF9.out.box.hr X (by rw [hz7, hx7]) HX1.out
          go_wp2_with (refine wpList_load_at 71 _ rfl gb 0 rfl _ HL2.out (by rfl) ?_)
          exact bodyPost_ret (v := .tuple #[.agg X, .int .i64 0]) (res_ct rfl _ _ w.heap.size 71 X (0, 0) _ rfl (HF9.out.box.out (by rw [hz7, hx7])).1 Tryz.underlying71 rfl HXI.out _ rfl) rfl (HF9.out.win HXE.out (HE.out.trans (if_pos ⟨trivial, trivial, hn, trivial⟩)) (by rw [hz7, hx7]))
/-- ParseIntegrity. -/
theorem vParseIntegrity_any (s : ByteArray) (loc : Int) (w : World) (hs : s.size ≤ 9223372036854775807) :
    Calls Tryz.prog 38 #[.string s, .int .i64 loc] w fun e w' => ∃ vf vz, e = .returned (.tuple #[.agg (Vs.inC (Vs.pinR (by_ s) loc).1 vf vz), .int .i64 (Vs.pinR (by_ s) loc).2]) ∧ Kit.Row w' vf (Kit.izs (Vs.pinR (by_ s) loc).1.free) ∧ Kit.Row w' vz (Kit.izs (Vs.pinR (by_ s) loc).1.size) ∧ Below w.heap.size w w' := by
  cases h : Vs.isB (by_ s) 9 loc with
  | false => exact vParseIntegrity_no s loc w hs h
  | true => exact vParseIntegrity_yes s loc w hs h
end Go.Proofs.YthkppbimkjmbnaaGreatDoor
