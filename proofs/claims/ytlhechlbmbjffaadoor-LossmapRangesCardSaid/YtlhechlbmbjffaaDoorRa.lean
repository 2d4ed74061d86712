/-
  The reference's Blocks, ValidImage, ValidFiles, HasPath, Index.
-/
import Derived.Test.YtlhechlbmbjffaaDoorJc
import Derived.Test.YtlhechlbmbjffaaDoorJl
namespace Go.Proofs.YtlhechlbmbjffaaDoor
open Go.RowKit

set_option maxHeartbeats 1600000 in
set_option maxRecDepth 100000 in
/-- masterdiscref46.Blocks. -/
theorem rBlocks_any (n : Int) (h0 : 0 ≤ n) (h1 : n ≤ 4611686018427387904) (w : World) : Calls Tryd.prog 31 #[.int .i64 n] w fun e w' => e = .returned (.int .i64 (Lm.blk n)) ∧ w = w' := by
  have hq : (n + 2048 - 1) / 2048 = Lm.blk n := by unfold Lm.blk; omega
  have HQ := Lib.hid hq
  clear hq
  go_enter Tryd.func31, Tryd.ntmps31
  go_wp2_with fail
  go_ret
  rw [HQ.out]
  exact ⟨rfl, rfl⟩

set_option maxHeartbeats 6400000 in
set_option maxRecDepth 100000 in
/-- masterdiscref49.ValidImage. -/
theorem rValidImage_any (v : Value) (l : List ByteArray) (w : World) (hm : Lm.Strs w v l) :
    Calls Tryd.prog 50 #[v] w fun e w' => e = .returned (.bool (Lm.validI l)) ∧ Below w.heap.size w w' := by
  have HM := Lib.hid hm
  obtain ⟨A, c, rfl, hlc, hcm, _⟩ := hm
  rw [Lm.strs_length] at *
  unfold maxLen at hcm
  go_enter Tryd.func50, Tryd.ntmps50
  go_wp2_with fail
  go_loop [3, 4] (fun iv _ => ∃ j : Nat, j ≤ l.length ∧ iv = .int .i64 j ∧ Hid ((l.take j).all Lm.okB = true)) (fun iv _ => l.length - (intOf iv).toNat)
  case atStart => exact ⟨0, by omega, rfl, Lib.hid rfl⟩
  case round =>
    obtain ⟨j, hj, rfl, HA⟩ := hrel
    by_cases hlt : j < l.length
    · obtain ⟨b, o, c', hv, hb, hc⟩ := HM.out.cell hlt
      obtain ⟨rfl, _, rfl⟩ : A = some ⟨b, o, none⟩ ∧ l.length = l.length ∧ c = c' := by simpa using hv
      clear hv
      have HY := Lib.hid (fun h => Lm.all_snoc (p := Lm.okB) (d := ⟨#[]⟩) hlt HA.out h)
      have HN := Lib.hid (fun h => Lm.all_fail (p := Lm.okB) (l := l) (d := ⟨#[]⟩) hlt h)
      generalize l.getD j ⟨#[]⟩ = s at *
      have hcs := Lm.okB_cases s
      by_cases h1 : s.toList = []
      · have HNX := Lib.hid (HY.out (hcs.2 (Or.inl ((Lm.str_eq s []).1 h1))))
        have e1 : (!s.toList.isEmpty) = false := by rw [h1]; rfl
        clear hcs HY HN
        go_wp2_with fail
        go_round
        case rel => exact ⟨j + 1, by omega, by go_num, HNX⟩
        case measure => simp [intOf]; omega
      have e1 : (!s.toList.isEmpty) = true := by cases hq : s.toList with | nil => exact absurd hq h1 | cons _ _ => rfl
      by_cases h2 : s.toList = [33]
      · have HNX := Lib.hid (HY.out (hcs.2 (Or.inr (Or.inl ((Lm.str_eq s [33]).1 h2)))))
        have e2 : (!s.toList == [33]) = false := by rw [h2]; rfl
        clear hcs HY HN
        go_wp2_with fail
        go_round
        case rel => exact ⟨j + 1, by omega, by go_num, HNX⟩
        case measure => simp [intOf]; omega
      have e2 : (!s.toList == [33]) = true := by
        rw [Bool.not_eq_true', beq_eq_false_iff_ne]
        exact h2
      by_cases h3 : s.size = 2048
      · have HNX := Lib.hid (HY.out (hcs.2 (Or.inr (Or.inr h3))))
        have e3 : ((s.size : Int) != 2048) = false := by rw [h3]; rfl
        clear hcs HY HN h3
        go_wp2_with fail
        go_round
        case rel => exact ⟨j + 1, by omega, by go_num, HNX⟩
        case measure => simp [intOf]; omega
      have e3 : ((s.size : Int) != 2048) = true := by rw [bne_iff_ne]; omega
      have HV := Lib.hid (show Lm.validI l = false by
        have : l.all Lm.okB = false := by
          refine HN.out ?_
          rw [Bool.eq_false_iff]
          intro hv
          rcases hcs.1 hv with h | h | h
          · exact h1 ((Lm.str_eq s []).2 h)
          · exact h2 ((Lm.str_eq s [33]).2 h)
          · exact h3 h
        unfold Lm.validI
        rw [this, Bool.and_false])
      clear hcs HY HN h3
      go_wp2_with fail
      go_ret
      rw [HV.out]
      exact ⟨rfl, Below.refl _ _⟩
    · obtain rfl : j = l.length := by omega
      have HV := Lib.hid (show Lm.validI l = decide ((l.length : Int) ≤ 4096) by
        have := HA.out
        rw [List.take_length] at this
        unfold Lm.validI
        rw [this, Bool.and_true]
        exact decide_eq_decide.2 ⟨fun h => by omega, fun h => by omega⟩)
      go_wp2_with fail
      go_ret
      rw [HV.out]
      exact ⟨rfl, Below.refl _ _⟩

set_option maxHeartbeats 12800000 in
set_option maxRecDepth 100000 in
/-- masterdiscref56.ValidFiles. -/
theorem rValidFiles_any (v u : Value) (img : List ByteArray) (fs : List Lm.F) (w : World) (hm : Lm.Strs w v img) (hf : Lm.Files w u fs) :
    Calls Tryd.prog 29 #[v, u] w fun e w' => e = .returned (.int .i64 (Lm.chkR img fs)) ∧ Below w.heap.size w w' := by
  have CV := Lib.hid (rValidImage_any v img w hm)
  have HFL := Lib.hid hf
  obtain ⟨A, c, rfl, _, _, _⟩ := hm
  obtain ⟨B, d, rfl, hld, hdm, hce⟩ := hf
  have HCE := Lib.hid hce
  rw [Lm.strs_length] at *
  unfold maxLen at hdm
  clear hce
  cases hv : Lm.validI img with
  | false =>
    have HR := Lib.hid (show Lm.chkR img fs = 1 by unfold Lm.chkR; rw [hv, if_pos rfl])
    rw [hv] at CV
    clear hv
    go_enter Tryd.func29, Tryd.ntmps29
    go_wp2_with fail
    refine CV.out.mono ?_
    rintro e w2 ⟨rfl, hb2⟩
    go_wp2_with fail
    go_ret
    rw [HR.out]
    exact ⟨rfl, hb2⟩
  | true =>
  have HR0 := Lib.hid (show Lm.chkR img fs = if 1024 < fs.length then 7 else if fs.all Lm.okF = true then 0 else 1 by unfold Lm.chkR; rw [hv, if_neg (by decide)])
  rw [hv] at CV
  clear hv
  by_cases h1 : 1024 < fs.length
  · have HR := Lib.hid (HR0.out.trans (if_pos h1))
    have d0 : decide (1024 < fs.length) = true := decide_eq_true h1
    have d1 : decide (1024 < (fs.length : Int)) = true := decide_eq_true (by omega)
    go_enter Tryd.func29, Tryd.ntmps29
    go_wp2_with fail
    refine CV.out.mono ?_
    rintro e w2 ⟨rfl, hb2⟩
    go_wp2_with fail
    go_ret
    rw [HR.out]
    exact ⟨rfl, hb2⟩
  have HR1 := Lib.hid (HR0.out.trans (if_neg h1))
  have d0 : decide (1024 < fs.length) = false := decide_eq_false h1
  have d1 : decide (1024 < (fs.length : Int)) = false := decide_eq_false (by omega)
  have hl1 : (fs.length : Int) ≤ 1024 := by omega
  clear h1 HR0
  go_enter Tryd.func29, Tryd.ntmps29
  go_wp2_with fail
  refine CV.out.mono ?_
  rintro e w2 ⟨rfl, hb2⟩
  have HB2 := Lib.hid hb2
  clear hb2 CV
  go_wp2_with fail
  clear d0 d1
  go_loopw [5, 6] (fun iv _ wr => ∃ j : Nat, j ≤ fs.length ∧ iv = .int .i64 j ∧ Hid ((fs.take j).all Lm.okF = true) ∧ Below w.heap.size w wr) (fun iv _ _ => fs.length - (intOf iv).toNat)
  case atStart => exact ⟨0, by omega, rfl, Lib.hid rfl, HB2.out⟩
  case round =>
    obtain ⟨j, hj, rfl, HA, hbw⟩ := hrel
    by_cases hlt : j < fs.length
    · obtain ⟨b, o, rfl, hbl, hc⟩ := HCE.out (by omega)
      obtain ⟨c0, c1, c2⟩ := Lm.three (c0 := .string (fs.getD j Lm.f0).path) (c1 := .int .i64 (fs.getD j Lm.f0).start) (c2 := .int .i64 (fs.getD j Lm.f0).len) rfl hbl hbw (hc j hlt)
      have HY := Lib.hid (fun h => Lm.all_snoc (p := Lm.okF) (d := Lm.f0) hlt HA.out h)
      have HN := Lib.hid (fun h => Lm.all_fail (p := Lm.okF) (l := fs) (d := Lm.f0) hlt h)
      have hiff := Lm.okF_iff (fs.getD j Lm.f0)
      have HBW := Lib.hid (hbw.alloc hbw.size (.cells #[.string (fs.getD j Lm.f0).path, .int .i64 (fs.getD j Lm.f0).start, .int .i64 (fs.getD j Lm.f0).len] 41))
      have n1 := Lm.newCells wr #[.string (fs.getD j Lm.f0).path, .int .i64 (fs.getD j Lm.f0).start, .int .i64 (fs.getD j Lm.f0).len] 41 1 _ rfl
      have n2 := Lm.newCells wr #[.string (fs.getD j Lm.f0).path, .int .i64 (fs.getD j Lm.f0).start, .int .i64 (fs.getD j Lm.f0).len] 41 2 _ rfl
      clear hc hbw
      generalize fs.getD j Lm.f0 = x at *
      generalize hV : Lm.okF x = V at *
      obtain ⟨pa, st, ln⟩ := x
      simp only [] at *
      clear hV
      have hno : V = false → Lm.chkR img fs = 1 := fun h => HR1.out.trans (if_neg (by rw [HN.out h]; decide))
      by_cases g1 : st < 0
      · have HV := Lib.hid (hno (by rw [Bool.eq_false_iff]; intro h; have := hiff.1 h; omega))
        have e1 : decide (st < 0) = true := decide_eq_true g1
        clear hiff HY HN hno g1
        go_wp2_with fail
        go_quiet (fail)
        go_wp2_with fail
        go_ret
        rw [HV.out]
        exact ⟨rfl, Kit.Below.drewN HBW.out _⟩
      have e1 : decide (st < 0) = false := decide_eq_false g1
      by_cases g3 : ln < 0
      · have HV := Lib.hid (hno (by rw [Bool.eq_false_iff]; intro h; have := hiff.1 h; omega))
        have e3 : decide (ln < 0) = true := decide_eq_true g3
        clear hiff HY HN hno g1 g3
        go_wp2_with fail
        go_quiet (fail)
        go_wp2_with fail
        go_ret
        rw [HV.out]
        exact ⟨rfl, Kit.Below.drewN HBW.out _⟩
      have e3 : decide (ln < 0) = false := decide_eq_false g3
      by_cases g4 : 262144 < ln
      · have HV := Lib.hid (hno (by rw [Bool.eq_false_iff]; intro h; have := hiff.1 h; omega))
        have e4 : decide (262144 < ln) = true := decide_eq_true g4
        clear hiff HY HN hno g1 g3 g4
        go_wp2_with fail
        go_quiet (fail)
        go_wp2_with fail
        go_ret
        rw [HV.out]
        exact ⟨rfl, Kit.Below.drewN HBW.out _⟩
      have e4 : decide (262144 < ln) = false := decide_eq_false g4
      by_cases g2 : 4096 < st
      · have HV := Lib.hid (hno (by rw [Bool.eq_false_iff]; intro h; have := hiff.1 h; omega))
        have e2 : decide (4096 < st) = true := decide_eq_true g2
        clear hiff HY HN hno g1 g2 g3 g4
        go_wp2_with fail
        go_quiet (fail)
        go_wp2_with fail
        go_ret
        rw [HV.out]
        exact ⟨rfl, Kit.Below.drewN HBW.out _⟩
      have e2 : decide (4096 < st) = false := decide_eq_false g2
      have CB := Lib.hid (fun W => rBlocks_any ln (by omega) (by omega) W)
      have hw : IntKind.i64.wrap (4096 - st) = 4096 - st := IntWalk.i64_in _ (by omega)
      by_cases g5 : 4096 - st < Lm.blk ln
      · have HV := Lib.hid (hno (by rw [Bool.eq_false_iff]; intro h; have := hiff.1 h; omega))
        have e5 : decide (4096 - st < Lm.blk ln) = true := decide_eq_true g5
        clear hiff HY HN hno g1 g2 g3 g4 g5
        generalize Lm.blk ln = q at *
        go_wp2_with fail
        go_quiet ((go_at_call 31; exact Calls.quiet_of_same ((CB.out _).mono fun _ _ h => ⟨h.1, h.2.symm⟩)))
        go_wp2_with fail
        go_ret
        rw [HV.out]
        exact ⟨rfl, Kit.Below.drewN HBW.out _⟩
      have HNX := Lib.hid (HY.out (hiff.2 (by omega)))
      have e5 : decide (4096 - st < Lm.blk ln) = false := decide_eq_false g5
      clear hiff HY HN hno g1 g2 g3 g4 g5
      generalize Lm.blk ln = q at *
      go_wp2_with fail
      go_quiet ((go_at_call 31; exact Calls.quiet_of_same ((CB.out _).mono fun _ _ h => ⟨h.1, h.2.symm⟩)))
      go_wp2_with fail
      go_roundw
      case rel => exact ⟨j + 1, by omega, by go_num, HNX, Kit.Below.drewN HBW.out _⟩
      case measure => simp [intOf]; omega
    · obtain rfl : j = fs.length := by omega
      have HV := Lib.hid (HR1.out.trans (if_pos (show fs.all Lm.okF = true by have := HA.out; rwa [List.take_length] at this)))
      go_wp2_with fail
      go_ret
      rw [HV.out]
      exact ⟨rfl, hbw⟩

set_option maxHeartbeats 3200000 in
set_option maxRecDepth 100000 in
/-- masterdiscref46.HasPath. -/
theorem rHasPath_any (v : Value) (l : List ByteArray) (x : ByteArray) (w : World) (hm : Lm.Strs w v l) :
    Calls Tryd.prog 51 #[v, .string x] w fun e w' => e = .returned (.bool (Lm.hasR l x)) ∧ w' = w := by
  have HM := Lib.hid hm
  obtain ⟨A, c, rfl, hlc, hcm, _⟩ := hm
  rw [Lm.strs_length] at *
  unfold maxLen at hcm
  go_enter Tryd.func51, Tryd.ntmps51
  go_wp2_with fail
  go_loop [5, 6] (fun iv _ => ∃ j : Nat, j ≤ l.length ∧ iv = .int .i64 j ∧ Hid ((l.take j).all (fun y => !decide (y = x)) = true)) (fun iv _ => l.length - (intOf iv).toNat)
  case atStart => exact ⟨0, by omega, rfl, Lib.hid rfl⟩
  case round =>
    obtain ⟨j, hj, rfl, HA⟩ := hrel
    by_cases hlt : j < l.length
    · obtain ⟨b, o, c', hv, hb, hc⟩ := HM.out.cell hlt
      obtain ⟨rfl, _, rfl⟩ : A = some ⟨b, o, none⟩ ∧ l.length = l.length ∧ c = c' := by simpa using hv
      clear hv
      have HY := Lib.hid (fun h => Lm.all_snoc (p := fun y => !decide (y = x)) (d := ⟨#[]⟩) hlt HA.out h)
      have hin : l.getD j ⟨#[]⟩ ∈ l := by simp [List.getD, hlt]
      have HIN := Lib.hid hin
      clear hin
      generalize l.getD j ⟨#[]⟩ = s at *
      by_cases h1 : s.toList = x.toList
      · have hsx : s = x := (Lm.str_eq s x.toList).1 h1 |>.trans (by rw [Lib.toList_data])
        have HR := Lib.hid (show Lm.hasR l x = true by
          unfold Lm.hasR
          exact List.any_eq_true.2 ⟨s, HIN.out, by rw [hsx]; simp⟩)
        have e1 : (s.toList == x.toList) = true := by rw [h1]; simp
        clear HY hsx
        go_wp2_with fail
        go_ret
        rw [HR.out]
        exact ⟨rfl, rfl⟩
      · have e1 : (s.toList == x.toList) = false := by rw [beq_eq_false_iff_ne]; exact h1
        have HNX := Lib.hid (HY.out (by
          have : s ≠ x := fun e => h1 (by rw [e])
          simp [this]))
        clear HY
        go_wp2_with fail
        go_round
        case rel => exact ⟨j + 1, by omega, by go_num, HNX⟩
        case measure => simp [intOf]; omega
    · obtain rfl : j = l.length := by omega
      have HR := Lib.hid (show Lm.hasR l x = false by
        have := HA.out
        rw [List.take_length] at this
        unfold Lm.hasR
        rw [Bool.eq_false_iff]
        intro h
        obtain ⟨s, hs, he⟩ := List.any_eq_true.1 h
        have := List.all_eq_true.1 this s hs
        simp at this he
        exact this he)
      go_wp2_with fail
      go_ret
      rw [HR.out]
      exact ⟨rfl, rfl⟩

set_option maxHeartbeats 3200000 in
set_option maxRecDepth 100000 in
/-- masterdiscref46.Index: below zero where no extent has the path. -/
theorem rIndex_any (v : Value) (fs : List Lm.F) (x : ByteArray) (w : World) (hf : Lm.Files w v fs) :
    Calls Tryd.prog 37 #[v, .string x] w fun e w' => (∃ r : Int, e = .returned (.int .i64 r) ∧ (r < 0 ↔ fs.all (Lm.isN x) = true)) ∧ w' = w := by
  obtain ⟨B, d, rfl, hld, hdm, hce⟩ := hf
  have HCE := Lib.hid hce
  unfold maxLen at hdm
  clear hce
  go_enter Tryd.func37, Tryd.ntmps37
  go_wp2_with fail
  go_loop [5, 6] (fun iv _ => ∃ j : Nat, j ≤ fs.length ∧ iv = .int .i64 j ∧ Hid ((fs.take j).all (Lm.isN x) = true)) (fun iv _ => fs.length - (intOf iv).toNat)
  case atStart => exact ⟨0, by omega, rfl, Lib.hid rfl⟩
  case round =>
    obtain ⟨j, hj, rfl, HA⟩ := hrel
    by_cases hlt : j < fs.length
    · obtain ⟨b, o, rfl, hbl, hc⟩ := HCE.out (by omega)
      have q0 := hc j hlt 0 _ rfl
      simp only [Nat.add_zero] at q0
      have HY := Lib.hid (fun h => Lm.all_snoc (p := Lm.isN x) (d := Lm.f0) hlt HA.out h)
      have HN := Lib.hid (fun h => Lm.all_fail (p := Lm.isN x) (l := fs) (d := Lm.f0) hlt h)
      clear hc
      generalize fs.getD j Lm.f0 = f at *
      obtain ⟨pa, st, ln⟩ := f
      simp only [] at *
      by_cases h1 : pa.toList = x.toList
      · have hsx : pa = x := (Lm.str_eq pa x.toList).1 h1 |>.trans (by rw [Lib.toList_data])
        have HR := Lib.hid (HN.out (by rw [hsx]; simp [Lm.isN]))
        have e1 : (pa.toList == x.toList) = true := by rw [h1]; simp
        clear HY HN hsx
        go_wp2_with fail
        go_ret
        refine ⟨⟨_, rfl, ⟨fun h => by omega, fun h => by rw [HR.out] at h; cases h⟩⟩, rfl⟩
      · have e1 : (pa.toList == x.toList) = false := by rw [beq_eq_false_iff_ne]; exact h1
        have HNX := Lib.hid (HY.out (by
          have : pa ≠ x := fun e => h1 (by rw [e])
          simp [Lm.isN, this]))
        clear HY HN
        go_wp2_with fail
        go_round
        case rel => exact ⟨j + 1, by omega, by go_num, HNX⟩
        case measure => simp [intOf]; omega
    · obtain rfl : j = fs.length := by omega
      have HR := Lib.hid (show fs.all (Lm.isN x) = true by have := HA.out; rwa [List.take_length] at this)
      go_wp2_with fail
      go_ret
      exact ⟨⟨_, rfl, ⟨fun _ => List.all_eq_true.1 HR.out, fun _ => by omega⟩⟩, rfl⟩
end Go.Proofs.YtlhechlbmbjffaaDoor
