/-
  The walk through lossmap.check.
-/
import Derived.Test.YtlhechlbmbjffaaDoorJb
namespace Go.Proofs.YtlhechlbmbjffaaDoor
open Go.RowKit
theorem Lm.three {w wr : World} {b o j : Nat} {C : List Value} {c0 c1 c2 : Value} (hC : C = [c0, c1, c2]) (hbl : b < w.heap.size) (hbw : Below w.heap.size w wr) (h : ∀ k u, C[k]? = some u → w.cell? ⟨b, o + j * 3 + k, none⟩ = some u) :
    wr.cell? ⟨b, o + j * 3, none⟩ = some c0 ∧ wr.cell? ⟨b, o + j * 3 + 1, none⟩ = some c1 ∧ wr.cell? ⟨b, o + j * 3 + 2, none⟩ = some c2 := by
  subst hC
  have g : ∀ k u, [c0, c1, c2][k]? = some u → wr.cell? ⟨b, o + j * 3 + k, none⟩ = some u := fun k u hu => (hbw.cell (p := ⟨b, o + j * 3 + k, none⟩) hbl).trans (h k u hu)
  exact ⟨g 0 _ rfl, g 1 _ rfl, g 2 _ rfl⟩
theorem Lm.newCells (W : World) (cs : Array Value) (T : TypeId) : ∀ (q : Nat) u, cs[q]? = some u → (W.alloc (.cells cs T)).cell? ⟨W.heap.size, q, none⟩ = some u := fun q u hu => by
  rw [World.cell?_alloc_at _ _ _ _ (by simp)]
  simpa using hu

set_option maxHeartbeats 12800000 in
set_option maxRecDepth 100000 in
/-- lossmap.check. -/
theorem check_any (v u : Value) (img : List ByteArray) (fs : List Lm.F) (w : World) (hm : Lm.Strs w v img) (hf : Lm.Files w u fs) :
    Calls Tryd.prog 25 #[v, u] w fun e w' => e = .returned (.int .i64 (Lm.chkR img fs)) ∧ Below w.heap.size w w' := by
  have CV := Lib.hid (valid_any v img w hm)
  have HFL := Lib.hid hf
  obtain ⟨A, c, rfl, _, _, _⟩ := hm
  obtain ⟨B, d, rfl, hld, hdm, hce⟩ := hf
  have HCE := Lib.hid hce
  rw [Lm.strs_length] at *
  unfold maxLen at hdm
  clear hce
  cases hv : Lm.validI img with
  | false =>
    have HR := Lib.hid (show Lm.chkR img fs = 1 by unfold Lm.chkR; rw [hv, if_pos rfl])
    rw [hv] at CV
    clear hv
    go_enter Tryd.func25, Tryd.ntmps25
    go_wp2_with fail
    refine CV.out.mono ?_
    rintro e w2 ⟨rfl, hb2⟩
    go_wp2_with fail
    go_ret
    rw [HR.out]
    exact ⟨rfl, hb2⟩
  | true =>
  have HR0 := Lib.hid (show Lm.chkR img fs = if 1024 < fs.length then 7 else if fs.all Lm.okF = true then 0 else 1 by unfold Lm.chkR; rw [hv, if_neg (by decide)])
  rw [hv] at CV
  clear hv
  by_cases h1 : 1024 < fs.length
  · have HR := Lib.hid (HR0.out.trans (if_pos h1))
    have d0 : decide (1024 < fs.length) = true := decide_eq_true h1
    have d1 : decide (1024 < (fs.length : Int)) = true := decide_eq_true (by omega)
    go_enter Tryd.func25, Tryd.ntmps25
    go_wp2_with fail
    refine CV.out.mono ?_
    rintro e w2 ⟨rfl, hb2⟩
    go_wp2_with fail
    go_ret
    rw [HR.out]
    exact ⟨rfl, hb2⟩
  have HR1 := Lib.hid (HR0.out.trans (if_neg h1))
  have d0 : decide (1024 < fs.length) = false := decide_eq_false h1
  have d1 : decide (1024 < (fs.length : Int)) = false := decide_eq_false (by omega)
  have hl1 : (fs.length : Int) ≤ 1024 := by omega
  clear h1 HR0
  go_enter Tryd.func25, Tryd.ntmps25
  go_wp2_with fail
  refine CV.out.mono ?_
  rintro e w2 ⟨rfl, hb2⟩
  have HB2 := Lib.hid hb2
  clear hb2 CV
  go_wp2_with fail
  clear d0 d1
  go_loopw [6, 17] (fun _ iv wr => ∃ j : Nat, j ≤ fs.length ∧ iv = .int .i64 j ∧ Hid ((fs.take j).all Lm.okF = true) ∧ Below w.heap.size w wr) (fun _ iv _ => fs.length - (intOf iv).toNat)
  case atStart => exact ⟨0, by omega, rfl, Lib.hid rfl, HB2.out⟩
  case round =>
    obtain ⟨j, hj, rfl, HA, hbw⟩ := hrel
    by_cases hlt : j < fs.length
    · obtain ⟨b, o, rfl, hbl, hc⟩ := HCE.out (by omega)
      obtain ⟨c0, c1, c2⟩ := Lm.three (c0 := .string (fs.getD j Lm.f0).path) (c1 := .int .i64 (fs.getD j Lm.f0).start) (c2 := .int .i64 (fs.getD j Lm.f0).len) rfl hbl hbw (hc j hlt)
      have HY := Lib.hid (fun h => Lm.all_snoc (p := Lm.okF) (d := Lm.f0) hlt HA.out h)
      have HN := Lib.hid (fun h => Lm.all_fail (p := Lm.okF) (l := fs) (d := Lm.f0) hlt h)
      have hiff := Lm.okF_iff (fs.getD j Lm.f0)
      have HBW := Lib.hid (hbw.alloc hbw.size (.cells #[.string (fs.getD j Lm.f0).path, .int .i64 (fs.getD j Lm.f0).start, .int .i64 (fs.getD j Lm.f0).len] 41))
      have n1 := Lm.newCells wr #[.string (fs.getD j Lm.f0).path, .int .i64 (fs.getD j Lm.f0).start, .int .i64 (fs.getD j Lm.f0).len] 41 1 _ rfl
      have n2 := Lm.newCells wr #[.string (fs.getD j Lm.f0).path, .int .i64 (fs.getD j Lm.f0).start, .int .i64 (fs.getD j Lm.f0).len] 41 2 _ rfl
      clear hc hbw
      generalize fs.getD j Lm.f0 = x at *
      generalize hV : Lm.okF x = V at *
      obtain ⟨pa, st, ln⟩ := x
      simp only [] at *
      clear hV
      have hno : V = false → Lm.chkR img fs = 1 := fun h => HR1.out.trans (if_neg (by rw [HN.out h]; decide))
      by_cases g1 : st < 0
      · have HV := Lib.hid (hno (by rw [Bool.eq_false_iff]; intro h; have := hiff.1 h; omega))
        have e1 : decide (st < 0) = true := decide_eq_true g1
        clear hiff HY HN hno g1
        go_wp2_with fail
        go_quiet (fail)
        go_wp2_with fail
        go_ret
        rw [HV.out]
        exact ⟨rfl, Kit.Below.drewN HBW.out _⟩
      have e1 : decide (st < 0) = false := decide_eq_false g1
      by_cases g2 : 4096 < st
      · have HV := Lib.hid (hno (by rw [Bool.eq_false_iff]; intro h; have := hiff.1 h; omega))
        have e2 : decide (4096 < st) = true := decide_eq_true g2
        clear hiff HY HN hno g1 g2
        go_wp2_with fail
        go_quiet (fail)
        go_wp2_with fail
        go_ret
        rw [HV.out]
        exact ⟨rfl, Kit.Below.drewN HBW.out _⟩
      have e2 : decide (4096 < st) = false := decide_eq_false g2
      by_cases g3 : ln < 0
      · have HV := Lib.hid (hno (by rw [Bool.eq_false_iff]; intro h; have := hiff.1 h; omega))
        have e3 : decide (ln < 0) = true := decide_eq_true g3
        clear hiff HY HN hno g1 g2 g3
        go_wp2_with fail
        go_quiet (fail)
        go_wp2_with fail
        go_ret
        rw [HV.out]
        exact ⟨rfl, Kit.Below.drewN HBW.out _⟩
      have e3 : decide (ln < 0) = false := decide_eq_false g3
      by_cases g4 : 262144 < ln
      · have HV := Lib.hid (hno (by rw [Bool.eq_false_iff]; intro h; have := hiff.1 h; omega))
        have e4 : decide (262144 < ln) = true := decide_eq_true g4
        clear hiff HY HN hno g1 g2 g3 g4
        go_wp2_with fail
        go_quiet (fail)
        go_wp2_with fail
        go_ret
        rw [HV.out]
        exact ⟨rfl, Kit.Below.drewN HBW.out _⟩
      have e4 : decide (262144 < ln) = false := decide_eq_false g4
      have CB := Lib.hid (fun W => blocks_any ln (by omega) (by omega) W)
      have hw : IntKind.i64.wrap (4096 - st) = 4096 - st := IntWalk.i64_in _ (by omega)
      by_cases g5 : 4096 - st < Lm.blk ln
      · have HV := Lib.hid (hno (by rw [Bool.eq_false_iff]; intro h; have := hiff.1 h; omega))
        have e5 : decide (4096 - st < Lm.blk ln) = true := decide_eq_true g5
        clear hiff HY HN hno g1 g2 g3 g4 g5
        generalize Lm.blk ln = q at *
        go_wp2_with fail
        go_quiet ((go_at_call 48; exact Calls.quiet_of_same ((CB.out _).mono fun _ _ h => ⟨h.1, h.2.symm⟩)))
        go_wp2_with fail
        go_ret
        rw [HV.out]
        exact ⟨rfl, Kit.Below.drewN HBW.out _⟩
      have HNX := Lib.hid (HY.out (hiff.2 (by omega)))
      have e5 : decide (4096 - st < Lm.blk ln) = false := decide_eq_false g5
      clear hiff HY HN hno g1 g2 g3 g4 g5
      generalize Lm.blk ln = q at *
      go_wp2_with fail
      go_quiet ((go_at_call 48; exact Calls.quiet_of_same ((CB.out _).mono fun _ _ h => ⟨h.1, h.2.symm⟩)))
      go_wp2_with fail
      go_roundw
      case rel => exact ⟨j + 1, by omega, by go_num, HNX, Kit.Below.drewN HBW.out _⟩
      case measure => simp [intOf]; omega
    · obtain rfl : j = fs.length := by omega
      have HV := Lib.hid (HR1.out.trans (if_pos (show fs.all Lm.okF = true by have := HA.out; rwa [List.take_length] at this)))
      go_wp2_with fail
      go_ret
      rw [HV.out]
      exact ⟨rfl, hbw⟩
end Go.Proofs.YtlhechlbmbjffaaDoor
