/-
  The walks through the reference's Valid and Sequence.
-/
import Derived.Test.YthkppbimkjmbnaaGreatDoorXi
import Derived.Test.YthkppbimkjmbnaaGreatDoorZc
import Derived.Deep.RegionHeld3
import Derived.Test.YthkppbimkjmbnaaGreatDoorZy
namespace Go.Proofs.YthkppbimkjmbnaaGreatDoor
set_option linter.unusedVariables false
open Go.RowKit
open Vs (bs by_)
namespace Vs
theorem okD_all (d : D) : okD d = true ↔ namedB (by_ d.vol.name) = true ∧ (Cs.charsR (by_ d.vol.set)).2 = 0 ∧ 1 ≤ d.vol.number ∧ d.vol.number ≤ 65535 ∧ 1 ≤ d.vol.discs ∧ d.vol.discs ≤ 65535 ∧ isTime d.vol.time = true ∧ 0 ≤ d.part.number ∧ d.part.number ≤ 65535 ∧ word d.part.access = true ∧ word d.part.start = true ∧ word d.part.count = true ∧ word d.part.bstart = true ∧ 0 ≤ d.part.bcount ∧ d.part.bcount < 524288 ∧ 0 ≤ d.maps ∧ d.maps ≤ 65535 ∧ d.table.size ≤ 1608 ∧ formed d.fk d.fl d.fb d.fp = true ∧ spanB d.istart d.icount = true := by
  rw [okD_iff, okVol_iff, okPart_iff, okLog_iff]
  unfold textB
  rw [decide_eq_true_eq]
  constructor
  · rintro ⟨⟨a1, a2, a3, a4, a5, a6⟩, ⟨b1, b2, b3, b4, b5, b6, b7, b8⟩, c1, c2, c3, c4, c5, c6⟩
    exact ⟨c1, a1, a2, a3, a4, a5, a6, b1, b2, b3, b4, b5, b6, b7, b8, c2, c3, c4, c5, c6⟩
  · rintro ⟨c1, a1, a2, a3, a4, a5, a6, b1, b2, b3, b4, b5, b6, b7, b8, c2, c3, c4, c5, c6⟩
    exact ⟨⟨a1, a2, a3, a4, a5, a6⟩, ⟨b1, b2, b3, b4, b5, b6, b7, b8⟩, c1, c2, c3, c4, c5, c6⟩
/-- The cells of descriptors, of each block that has their row. -/
theorem dC_cells (d : D) {w : World} {g : Nat} (h : w.heap[g]? = some (.cells (dC d) 46 (0, 0))) : w.cell? ⟨g, 0, none⟩ = some (.string d.vol.name) ∧ w.cell? ⟨g, 1, none⟩ = some (.string d.vol.set) ∧ w.cell? ⟨g, 2, none⟩ = some (.string d.vol.pub) ∧ w.cell? ⟨g, 3, none⟩ = some (.string d.vol.prep) ∧ w.cell? ⟨g, 4, none⟩ = some (.string d.vol.app) ∧ w.cell? ⟨g, 5, none⟩ = some (.int .i64 d.vol.number) ∧ w.cell? ⟨g, 6, none⟩ = some (.int .i64 d.vol.discs) ∧ w.cell? ⟨g, 7, none⟩ = some (.int .i64 d.vol.time) ∧ w.cell? ⟨g, 8, none⟩ = some (.int .i64 d.part.number) ∧ w.cell? ⟨g, 9, none⟩ = some (.int .i64 d.part.access) ∧ w.cell? ⟨g, 10, none⟩ = some (.int .i64 d.part.start) ∧ w.cell? ⟨g, 11, none⟩ = some (.int .i64 d.part.count) ∧ w.cell? ⟨g, 12, none⟩ = some (.int .i64 d.part.bstart) ∧ w.cell? ⟨g, 13, none⟩ = some (.int .i64 d.part.bcount) ∧ w.cell? ⟨g, 14, none⟩ = some (.int .i64 d.maps) ∧ w.cell? ⟨g, 15, none⟩ = some (.string d.table) ∧ w.cell? ⟨g, 16, none⟩ = some (.int .i64 d.fk) ∧ w.cell? ⟨g, 17, none⟩ = some (.int .i64 d.fl) ∧ w.cell? ⟨g, 18, none⟩ = some (.int .i64 d.fb) ∧ w.cell? ⟨g, 19, none⟩ = some (.int .i64 d.fp) ∧ w.cell? ⟨g, 20, none⟩ = some (.int .i64 d.istart) ∧ w.cell? ⟨g, 21, none⟩ = some (.int .i64 d.icount) :=
  ⟨(cell_of_row _ _ 0 _ _ _ h).trans rfl, (cell_of_row _ _ 1 _ _ _ h).trans rfl, (cell_of_row _ _ 2 _ _ _ h).trans rfl, (cell_of_row _ _ 3 _ _ _ h).trans rfl, (cell_of_row _ _ 4 _ _ _ h).trans rfl, (cell_of_row _ _ 5 _ _ _ h).trans rfl, (cell_of_row _ _ 6 _ _ _ h).trans rfl, (cell_of_row _ _ 7 _ _ _ h).trans rfl, (cell_of_row _ _ 8 _ _ _ h).trans rfl, (cell_of_row _ _ 9 _ _ _ h).trans rfl, (cell_of_row _ _ 10 _ _ _ h).trans rfl, (cell_of_row _ _ 11 _ _ _ h).trans rfl, (cell_of_row _ _ 12 _ _ _ h).trans rfl, (cell_of_row _ _ 13 _ _ _ h).trans rfl, (cell_of_row _ _ 14 _ _ _ h).trans rfl, (cell_of_row _ _ 15 _ _ _ h).trans rfl, (cell_of_row _ _ 16 _ _ _ h).trans rfl, (cell_of_row _ _ 17 _ _ _ h).trans rfl, (cell_of_row _ _ 18 _ _ _ h).trans rfl, (cell_of_row _ _ 19 _ _ _ h).trans rfl, (cell_of_row _ _ 20 _ _ _ h).trans rfl, (cell_of_row _ _ 21 _ _ _ h).trans rfl⟩
end Vs

set_option maxHeartbeats 12800000 in
set_option maxRecDepth 100000 in
/-- masterdiscref36.Valid. -/
theorem r36Valid_any (d : Vs.D) (w : World) (s1 : d.vol.name.size ≤ 9223372036854775807) (s2 : d.vol.set.size ≤ 9223372036854775807) (s3 : d.table.size ≤ 9223372036854775807) :
    Calls Tryz.prog 76 #[.agg (Vs.dC d)] w fun e w' => e = .returned (.bool (Vs.okD d)) ∧ Below w.heap.size w w' := by
  have CX := Lib.hid (fun W => rCharacters_any d.vol.set W s2)
  change Hid (∀ W : World, Calls _ _ _ _ fun e w' => ∃ v, e = .returned (.tuple #[v, .int .i64 (Cs.charsR (by_ d.vol.set)).2]) ∧ _) at CX
  have CN := Lib.hid (fun W => r36Name_any d.vol.name W s1)
  have CT := Lib.hid (fun W => r36Time_any d.vol.time W)
  have CW1 := Lib.hid (fun W => r36Word_any d.part.access W)
  have CW2 := Lib.hid (fun W => r36Word_any d.part.start W)
  have CW3 := Lib.hid (fun W => r36Word_any d.part.count W)
  have CW4 := Lib.hid (fun W => r36Word_any d.part.bstart W)
  have CF := Lib.hid (fun W g hg => rFormed_any (.slice (some ⟨g, 0, none⟩) 1 1) [⟨d.fk, d.fl, d.fb, d.fp⟩] _ (Vs.extOne W ⟨d.fk, d.fl, d.fb, d.fp⟩ g hg))
  have CS := Lib.hid (fun W => r36Span_any d.istart d.icount W)
  have hff : Pm.formed [⟨d.fk, d.fl, d.fb, d.fp⟩] = Vs.formed d.fk d.fl d.fb d.fp := by
    have h := Vs.formed_x ⟨d.fk, d.fl, d.fb, d.fp⟩
    simp only [] at h
    rw [← h]
    simp [Pm.formed]
  rw [hff] at CF
  simp only [] at CF
  have hiff := Vs.okD_all d
  have HCS := Lib.hid (fun (W : World) (g : Nat) (h : W.heap[g]? = some (.cells (Vs.dC d) 46 (0, 0))) => Vs.dC_cells d h)
  have HBc := Lib.hid ((Below.refl w.heap.size w).alloc (Nat.le_refl _) (.cells (Vs.dC d) 46))
  have HNc := Lib.hid (heap_alloc_new w (.cells (Vs.dC d) 46))
  obtain ⟨Z, hZ⟩ : ∃ Z, Z = Vs.dC d := ⟨_, rfl⟩
  rw [← hZ] at HCS HBc HNc ⊢
  generalize Vs.okD d = R at *
  obtain ⟨⟨v0, v1, v2, v3, v4, v5, v6, v7⟩, ⟨q0, q1, q2, q3, q4, q5⟩, mp, tb, fk, fl, fb, fp, si, ci⟩ := d
  simp only [] at *
  generalize Vs.namedB (by_ v0) = nm at *
  generalize (Cs.charsR (by_ v1)).2 = te at *
  generalize Vs.isTime v7 = tm at *
  generalize Vs.word q1 = x1 at *
  generalize Vs.word q2 = x2 at *
  generalize Vs.word q3 = x3 at *
  generalize Vs.word q4 = x4 at *
  generalize Vs.formed fk fl fb fp = fm at *
  generalize Vs.spanB si ci = sp at *
  have HNO := Lib.hid (fun h => (Bool.eq_false_iff.2 (mt hiff.1 h) : R = false))
  have HYES := Lib.hid hiff.2
  clear hiff hZ hff
  go_enter Tryz.func76, Tryz.ntmps76
  go_upto_region 1 with fail
  generalize w.alloc (.cells Z 46) = w1 at *
  have c1 := (HCS.out _ _ HNc.out).2.1
  go_wp2_with fail
  with_reducible refine (CX.out _).mono ?_
  rintro e w2 ⟨v, rfl, _, hb2⟩
  have HB2 := Lib.hid (HBc.out.trans (hb2.mono HBc.out.size))
  have HN2 := Lib.hid ((hb2.block w.heap.size (Array.getElem?_eq_some_iff.1 HNc.out).1).trans HNc.out)
  clear hb2 c1 HBc HNc
  go_upto_region 2 with fail
  go_cut [5, 6] (fun s5 s6 wx => ∃ g5 g6 : Nat, s5 = .pointer (some ⟨g5, 0, none⟩) ∧ s6 = .pointer (some ⟨g6, 0, none⟩) ∧ Hid (wx.heap[g5]? = some (.cells #[.string v0, .string v1, .string v2, .string v3, .string v4, .int .i64 v5, .int .i64 v6, .int .i64 v7] 38 (0, 0))) ∧ Hid (wx.heap[g6]? = some (.cells #[.int .i64 q0, .int .i64 q1, .int .i64 q2, .int .i64 q3, .int .i64 q4, .int .i64 q5] 40 (0, 0))) ∧ Hid (Below w.heap.size w wx) ∧ Hid (wx.heap[w.heap.size]? = some (.cells Z 46 (0, 0))))
  case first =>
    obtain ⟨e0, e1, e2, e3, e4, e5, e6, e7, e8, e9, e10, e11, e12, e13, -⟩ := HCS.out _ _ HN2.out
    clear HNO HYES HCS CX CN CT CW1 CW2 CW3 CW4 CF CS
    have HNE := World.new_ne w2 ⟨w.heap.size, 0, none⟩ e0
    go_region_held3 (fun w' => w'.cell? ⟨w.heap.size, 0, none⟩ = some (.string v0) ∧ w'.cell? ⟨w.heap.size, 1, none⟩ = some (.string v1) ∧ w'.cell? ⟨w.heap.size, 2, none⟩ = some (.string v2) ∧ w'.cell? ⟨w.heap.size, 3, none⟩ = some (.string v3) ∧ w'.cell? ⟨w.heap.size, 4, none⟩ = some (.string v4) ∧ w'.cell? ⟨w.heap.size, 5, none⟩ = some (.int .i64 v5) ∧ w'.cell? ⟨w.heap.size, 6, none⟩ = some (.int .i64 v6) ∧ w'.cell? ⟨w.heap.size, 7, none⟩ = some (.int .i64 v7) ∧ w'.cell? ⟨w.heap.size, 8, none⟩ = some (.int .i64 q0) ∧ w'.cell? ⟨w.heap.size, 9, none⟩ = some (.int .i64 q1) ∧ w'.cell? ⟨w.heap.size, 10, none⟩ = some (.int .i64 q2) ∧ w'.cell? ⟨w.heap.size, 11, none⟩ = some (.int .i64 q3) ∧ w'.cell? ⟨w.heap.size, 12, none⟩ = some (.int .i64 q4) ∧ w'.cell? ⟨w.heap.size, 13, none⟩ = some (.int .i64 q5)) (go_keep) (fail)
    all_goals
      go_wp2_with fail
      go_meet
      first
        | exact ⟨_, _, rfl, rfl, Lib.hid (show (((w2.alloc (.cells #[.string v0, .string v1, .string v2, .string v3, .string v4, .int .i64 v5, .int .i64 v6, .int .i64 v7] 38)).alloc (.cells #[.int .i64 q0, .int .i64 q1, .int .i64 q2, .int .i64 q3, .int .i64 q4, .int .i64 q5] 40)).drew).heap[_]? = _ from heap_alloc2_old w2 (.cells #[.string v0, .string v1, .string v2, .string v3, .string v4, .int .i64 v5, .int .i64 v6, .int .i64 v7] 38) (.cells #[.int .i64 q0, .int .i64 q1, .int .i64 q2, .int .i64 q3, .int .i64 q4, .int .i64 q5] 40)), Lib.hid (show (((w2.alloc (.cells #[.string v0, .string v1, .string v2, .string v3, .string v4, .int .i64 v5, .int .i64 v6, .int .i64 v7] 38)).alloc (.cells #[.int .i64 q0, .int .i64 q1, .int .i64 q2, .int .i64 q3, .int .i64 q4, .int .i64 q5] 40)).drew).heap[_]? = _ from heap_alloc2_new w2 (.cells #[.string v0, .string v1, .string v2, .string v3, .string v4, .int .i64 v5, .int .i64 v6, .int .i64 v7] 38) (.cells #[.int .i64 q0, .int .i64 q1, .int .i64 q2, .int .i64 q3, .int .i64 q4, .int .i64 q5] 40)), Lib.hid ((HB2.out.trans ((((Below.refl w2.heap.size w2).alloc (Nat.le_refl _) (.cells #[.string v0, .string v1, .string v2, .string v3, .string v4, .int .i64 v5, .int .i64 v6, .int .i64 v7] 38)).alloc (by simp) (.cells #[.int .i64 q0, .int .i64 q1, .int .i64 q2, .int .i64 q3, .int .i64 q4, .int .i64 q5] 40)).mono HB2.out.size)).drew), Lib.hid (((((Below.refl w2.heap.size w2).alloc (Nat.le_refl _) (.cells #[.string v0, .string v1, .string v2, .string v3, .string v4, .int .i64 v5, .int .i64 v6, .int .i64 v7] 38)).alloc (by simp) (.cells #[.int .i64 q0, .int .i64 q1, .int .i64 q2, .int .i64 q3, .int .i64 q4, .int .i64 q5] 40)).drew.block w.heap.size (Array.getElem?_eq_some_iff.1 HN2.out).1).trans HN2.out)⟩
        | exact ⟨_, _, rfl, rfl, Lib.hid (show (((w2.alloc (.cells #[.int .i64 q0, .int .i64 q1, .int .i64 q2, .int .i64 q3, .int .i64 q4, .int .i64 q5] 40)).alloc (.cells #[.string v0, .string v1, .string v2, .string v3, .string v4, .int .i64 v5, .int .i64 v6, .int .i64 v7] 38)).drew).heap[_]? = _ from heap_alloc2_new w2 (.cells #[.int .i64 q0, .int .i64 q1, .int .i64 q2, .int .i64 q3, .int .i64 q4, .int .i64 q5] 40) (.cells #[.string v0, .string v1, .string v2, .string v3, .string v4, .int .i64 v5, .int .i64 v6, .int .i64 v7] 38)), Lib.hid (show (((w2.alloc (.cells #[.int .i64 q0, .int .i64 q1, .int .i64 q2, .int .i64 q3, .int .i64 q4, .int .i64 q5] 40)).alloc (.cells #[.string v0, .string v1, .string v2, .string v3, .string v4, .int .i64 v5, .int .i64 v6, .int .i64 v7] 38)).drew).heap[_]? = _ from heap_alloc2_old w2 (.cells #[.int .i64 q0, .int .i64 q1, .int .i64 q2, .int .i64 q3, .int .i64 q4, .int .i64 q5] 40) (.cells #[.string v0, .string v1, .string v2, .string v3, .string v4, .int .i64 v5, .int .i64 v6, .int .i64 v7] 38)), Lib.hid ((HB2.out.trans ((((Below.refl w2.heap.size w2).alloc (Nat.le_refl _) (.cells #[.int .i64 q0, .int .i64 q1, .int .i64 q2, .int .i64 q3, .int .i64 q4, .int .i64 q5] 40)).alloc (by simp) (.cells #[.string v0, .string v1, .string v2, .string v3, .string v4, .int .i64 v5, .int .i64 v6, .int .i64 v7] 38)).mono HB2.out.size)).drew), Lib.hid (((((Below.refl w2.heap.size w2).alloc (Nat.le_refl _) (.cells #[.int .i64 q0, .int .i64 q1, .int .i64 q2, .int .i64 q3, .int .i64 q4, .int .i64 q5] 40)).alloc (by simp) (.cells #[.string v0, .string v1, .string v2, .string v3, .string v4, .int .i64 v5, .int .i64 v6, .int .i64 v7] 38)).drew.block w.heap.size (Array.getElem?_eq_some_iff.1 HN2.out).1).trans HN2.out)⟩
  case rest =>
    obtain ⟨g5, g6, rfl, rfl, HV, HP, HB3, HN3⟩ := hcut
    have HB := HB3
    have HN := HN3
    clear HB3 HN3
    have b0 := cell_of_row _ _ 0 _ _ _ HV.out
    have b5 := cell_of_row _ _ 5 _ _ _ HV.out
    have b6 := cell_of_row _ _ 6 _ _ _ HV.out
    have b7 := cell_of_row _ _ 7 _ _ _ HV.out
    simp only [List.getElem?_toArray, List.getElem?_cons_zero, List.getElem?_cons_succ] at b0 b5 b6 b7
    go_wp2_with fail
    with_reducible refine (CN.out _).mono ?_
    rintro e w4 ⟨rfl, hbq⟩
    have HV := Lib.hid ((hbq.block g5 (Array.getElem?_eq_some_iff.1 HV.out).1).trans HV.out)
    have HP := Lib.hid ((hbq.block g6 (Array.getElem?_eq_some_iff.1 HP.out).1).trans HP.out)
    have HN := Lib.hid ((hbq.block w.heap.size (Array.getElem?_eq_some_iff.1 HN.out).1).trans HN.out)
    have HB := Lib.hid (HB.out.trans (hbq.mono HB.out.size))
    clear hbq b0 b5 b6 b7
    have b5 := cell_of_row _ _ 5 _ _ _ HV.out
    have b6 := cell_of_row _ _ 6 _ _ _ HV.out
    have b7 := cell_of_row _ _ 7 _ _ _ HV.out
    have p0 := cell_of_row _ _ 0 _ _ _ HP.out
    have p1 := cell_of_row _ _ 1 _ _ _ HP.out
    have p2 := cell_of_row _ _ 2 _ _ _ HP.out
    have p3 := cell_of_row _ _ 3 _ _ _ HP.out
    have p4 := cell_of_row _ _ 4 _ _ _ HP.out
    have p5 := cell_of_row _ _ 5 _ _ _ HP.out
    simp only [List.getElem?_toArray, List.getElem?_cons_zero, List.getElem?_cons_succ] at b5 b6 b7 p0 p1 p2 p3 p4 p5
    obtain ⟨-, -, -, -, -, -, -, -, -, -, -, -, -, -, e14, e15, e16, e17, e18, e19, e20, e21⟩ := HCS.out _ _ HN.out
    clear HCS HV HP HN CX CN
    cases nm with
    | false =>
      have hc : True := trivial
      have HR := Lib.hid (HNO.out (fun z => absurd z.1 (by decide)))
      clear HNO HYES hc
      go_wp2_with (first | (with_reducible refine (CT.out _).mono ?_; rintro e wx ⟨rfl, hw⟩; subst hw) | (with_reducible refine (CW1.out _).mono ?_; rintro e wx ⟨rfl, hw⟩; subst hw) | (with_reducible refine (CW2.out _).mono ?_; rintro e wx ⟨rfl, hw⟩; subst hw) | (with_reducible refine (CW3.out _).mono ?_; rintro e wx ⟨rfl, hw⟩; subst hw) | (with_reducible refine (CW4.out _).mono ?_; rintro e wx ⟨rfl, hw⟩; subst hw))
      go_ret
      exact ⟨by first | (rw [HR.out]; rfl) | rw [HR.out], HB.out⟩
    | true =>
    by_cases ht : te = 0
    case neg =>
      have hc : True := trivial
      have HR := Lib.hid (HNO.out (fun z => ht z.2.1))
      have dd : (te != 0) = true := by rw [bne_iff_ne]; exact ht
      clear HNO HYES hc ht
      go_wp2_with (first | (with_reducible refine (CT.out _).mono ?_; rintro e wx ⟨rfl, hw⟩; subst hw) | (with_reducible refine (CW1.out _).mono ?_; rintro e wx ⟨rfl, hw⟩; subst hw) | (with_reducible refine (CW2.out _).mono ?_; rintro e wx ⟨rfl, hw⟩; subst hw) | (with_reducible refine (CW3.out _).mono ?_; rintro e wx ⟨rfl, hw⟩; subst hw) | (with_reducible refine (CW4.out _).mono ?_; rintro e wx ⟨rfl, hw⟩; subst hw))
      go_ret
      exact ⟨by first | (rw [HR.out]; rfl) | rw [HR.out], HB.out⟩
    subst ht
    by_cases hc1 : 1 ≤ v5
    case neg =>
      have hc : True := trivial
      have HR := Lib.hid (HNO.out (by rintro ⟨z1, z2, z3, z4, z5, z6, z7, z8, z9, z10, z11, z12, z13, z14, z15, z16, z17, z18, z19, z20⟩; first | omega | (exact absurd (hc.symm.trans z1) (by decide)) | (exact absurd (hc.symm.trans z7) (by decide)) | (exact absurd (hc.symm.trans z10) (by decide)) | (exact absurd (hc.symm.trans z11) (by decide)) | (exact absurd (hc.symm.trans z12) (by decide)) | (exact absurd (hc.symm.trans z13) (by decide)) | (exact absurd (hc.symm.trans z19) (by decide)) | (exact absurd (hc.symm.trans z20) (by decide))))
      have dd : decide (v5 < 1) = true := decide_eq_true (by omega)
      clear HNO HYES hc hc1
      go_wp2_with (first | (with_reducible refine (CT.out _).mono ?_; rintro e wx ⟨rfl, hw⟩; subst hw) | (with_reducible refine (CW1.out _).mono ?_; rintro e wx ⟨rfl, hw⟩; subst hw) | (with_reducible refine (CW2.out _).mono ?_; rintro e wx ⟨rfl, hw⟩; subst hw) | (with_reducible refine (CW3.out _).mono ?_; rintro e wx ⟨rfl, hw⟩; subst hw) | (with_reducible refine (CW4.out _).mono ?_; rintro e wx ⟨rfl, hw⟩; subst hw))
      go_ret
      exact ⟨by first | (rw [HR.out]; rfl) | rw [HR.out], HB.out⟩
    have dd1 : decide (v5 < 1) = false := decide_eq_false (by omega)
    by_cases hc2 : v5 ≤ 65535
    case neg =>
      have hc : True := trivial
      have HR := Lib.hid (HNO.out (by rintro ⟨z1, z2, z3, z4, z5, z6, z7, z8, z9, z10, z11, z12, z13, z14, z15, z16, z17, z18, z19, z20⟩; first | omega | (exact absurd (hc.symm.trans z1) (by decide)) | (exact absurd (hc.symm.trans z7) (by decide)) | (exact absurd (hc.symm.trans z10) (by decide)) | (exact absurd (hc.symm.trans z11) (by decide)) | (exact absurd (hc.symm.trans z12) (by decide)) | (exact absurd (hc.symm.trans z13) (by decide)) | (exact absurd (hc.symm.trans z19) (by decide)) | (exact absurd (hc.symm.trans z20) (by decide))))
      have dd : decide (65535 < v5) = true := decide_eq_true (by omega)
      clear HNO HYES hc hc2
      go_wp2_with (first | (with_reducible refine (CT.out _).mono ?_; rintro e wx ⟨rfl, hw⟩; subst hw) | (with_reducible refine (CW1.out _).mono ?_; rintro e wx ⟨rfl, hw⟩; subst hw) | (with_reducible refine (CW2.out _).mono ?_; rintro e wx ⟨rfl, hw⟩; subst hw) | (with_reducible refine (CW3.out _).mono ?_; rintro e wx ⟨rfl, hw⟩; subst hw) | (with_reducible refine (CW4.out _).mono ?_; rintro e wx ⟨rfl, hw⟩; subst hw))
      go_ret
      exact ⟨by first | (rw [HR.out]; rfl) | rw [HR.out], HB.out⟩
    have dd2 : decide (65535 < v5) = false := decide_eq_false (by omega)
    by_cases hc3 : 1 ≤ v6
    case neg =>
      have hc : True := trivial
      have HR := Lib.hid (HNO.out (by rintro ⟨z1, z2, z3, z4, z5, z6, z7, z8, z9, z10, z11, z12, z13, z14, z15, z16, z17, z18, z19, z20⟩; first | omega | (exact absurd (hc.symm.trans z1) (by decide)) | (exact absurd (hc.symm.trans z7) (by decide)) | (exact absurd (hc.symm.trans z10) (by decide)) | (exact absurd (hc.symm.trans z11) (by decide)) | (exact absurd (hc.symm.trans z12) (by decide)) | (exact absurd (hc.symm.trans z13) (by decide)) | (exact absurd (hc.symm.trans z19) (by decide)) | (exact absurd (hc.symm.trans z20) (by decide))))
      have dd : decide (v6 < 1) = true := decide_eq_true (by omega)
      clear HNO HYES hc hc3
      go_wp2_with (first | (with_reducible refine (CT.out _).mono ?_; rintro e wx ⟨rfl, hw⟩; subst hw) | (with_reducible refine (CW1.out _).mono ?_; rintro e wx ⟨rfl, hw⟩; subst hw) | (with_reducible refine (CW2.out _).mono ?_; rintro e wx ⟨rfl, hw⟩; subst hw) | (with_reducible refine (CW3.out _).mono ?_; rintro e wx ⟨rfl, hw⟩; subst hw) | (with_reducible refine (CW4.out _).mono ?_; rintro e wx ⟨rfl, hw⟩; subst hw))
      go_ret
      exact ⟨by first | (rw [HR.out]; rfl) | rw [HR.out], HB.out⟩
    have dd3 : decide (v6 < 1) = false := decide_eq_false (by omega)
    by_cases hc4 : v6 ≤ 65535
    case neg =>
      have hc : True := trivial
      have HR := Lib.hid (HNO.out (by rintro ⟨z1, z2, z3, z4, z5, z6, z7, z8, z9, z10, z11, z12, z13, z14, z15, z16, z17, z18, z19, z20⟩; first | omega | (exact absurd (hc.symm.trans z1) (by decide)) | (exact absurd (hc.symm.trans z7) (by decide)) | (exact absurd (hc.symm.trans z10) (by decide)) | (exact absurd (hc.symm.trans z11) (by decide)) | (exact absurd (hc.symm.trans z12) (by decide)) | (exact absurd (hc.symm.trans z13) (by decide)) | (exact absurd (hc.symm.trans z19) (by decide)) | (exact absurd (hc.symm.trans z20) (by decide))))
      have dd : decide (65535 < v6) = true := decide_eq_true (by omega)
      clear HNO HYES hc hc4
      go_wp2_with (first | (with_reducible refine (CT.out _).mono ?_; rintro e wx ⟨rfl, hw⟩; subst hw) | (with_reducible refine (CW1.out _).mono ?_; rintro e wx ⟨rfl, hw⟩; subst hw) | (with_reducible refine (CW2.out _).mono ?_; rintro e wx ⟨rfl, hw⟩; subst hw) | (with_reducible refine (CW3.out _).mono ?_; rintro e wx ⟨rfl, hw⟩; subst hw) | (with_reducible refine (CW4.out _).mono ?_; rintro e wx ⟨rfl, hw⟩; subst hw))
      go_ret
      exact ⟨by first | (rw [HR.out]; rfl) | rw [HR.out], HB.out⟩
    have dd4 : decide (65535 < v6) = false := decide_eq_false (by omega)
    cases tm with
    | false =>
      have HR := Lib.hid (HNO.out (fun z => absurd (z.2.2.2.2.2.2.1) (by decide)))
      clear HNO HYES
      go_wp2_with (first | (with_reducible refine (CT.out _).mono ?_; rintro e wx ⟨rfl, hw⟩; subst hw) | (with_reducible refine (CW1.out _).mono ?_; rintro e wx ⟨rfl, hw⟩; subst hw) | (with_reducible refine (CW2.out _).mono ?_; rintro e wx ⟨rfl, hw⟩; subst hw) | (with_reducible refine (CW3.out _).mono ?_; rintro e wx ⟨rfl, hw⟩; subst hw) | (with_reducible refine (CW4.out _).mono ?_; rintro e wx ⟨rfl, hw⟩; subst hw))
      go_ret
      exact ⟨by first | (rw [HR.out]; rfl) | rw [HR.out], HB.out⟩
    | true =>
    go_upto_region 5 with (first | (with_reducible refine (CT.out _).mono ?_; rintro e wx ⟨rfl, hw⟩; subst hw) | (with_reducible refine (CW1.out _).mono ?_; rintro e wx ⟨rfl, hw⟩; subst hw) | (with_reducible refine (CW2.out _).mono ?_; rintro e wx ⟨rfl, hw⟩; subst hw) | (with_reducible refine (CW3.out _).mono ?_; rintro e wx ⟨rfl, hw⟩; subst hw) | (with_reducible refine (CW4.out _).mono ?_; rintro e wx ⟨rfl, hw⟩; subst hw))
    clear b5 b6 b7
    by_cases hc6 : 0 ≤ q0
    case neg =>
      have hc : True := trivial
      have HR := Lib.hid (HNO.out (by rintro ⟨z1, z2, z3, z4, z5, z6, z7, z8, z9, z10, z11, z12, z13, z14, z15, z16, z17, z18, z19, z20⟩; first | omega | (exact absurd (hc.symm.trans z1) (by decide)) | (exact absurd (hc.symm.trans z7) (by decide)) | (exact absurd (hc.symm.trans z10) (by decide)) | (exact absurd (hc.symm.trans z11) (by decide)) | (exact absurd (hc.symm.trans z12) (by decide)) | (exact absurd (hc.symm.trans z13) (by decide)) | (exact absurd (hc.symm.trans z19) (by decide)) | (exact absurd (hc.symm.trans z20) (by decide))))
      have dd : decide (q0 < 0) = true := decide_eq_true (by omega)
      clear HNO HYES hc hc6
      go_wp2_with (first | (with_reducible refine (CT.out _).mono ?_; rintro e wx ⟨rfl, hw⟩; subst hw) | (with_reducible refine (CW1.out _).mono ?_; rintro e wx ⟨rfl, hw⟩; subst hw) | (with_reducible refine (CW2.out _).mono ?_; rintro e wx ⟨rfl, hw⟩; subst hw) | (with_reducible refine (CW3.out _).mono ?_; rintro e wx ⟨rfl, hw⟩; subst hw) | (with_reducible refine (CW4.out _).mono ?_; rintro e wx ⟨rfl, hw⟩; subst hw))
      go_ret
      exact ⟨by first | (rw [HR.out]; rfl) | rw [HR.out], HB.out⟩
    have dd6 : decide (q0 < 0) = false := decide_eq_false (by omega)
    by_cases hc7 : q0 ≤ 65535
    case neg =>
      have hc : True := trivial
      have HR := Lib.hid (HNO.out (by rintro ⟨z1, z2, z3, z4, z5, z6, z7, z8, z9, z10, z11, z12, z13, z14, z15, z16, z17, z18, z19, z20⟩; first | omega | (exact absurd (hc.symm.trans z1) (by decide)) | (exact absurd (hc.symm.trans z7) (by decide)) | (exact absurd (hc.symm.trans z10) (by decide)) | (exact absurd (hc.symm.trans z11) (by decide)) | (exact absurd (hc.symm.trans z12) (by decide)) | (exact absurd (hc.symm.trans z13) (by decide)) | (exact absurd (hc.symm.trans z19) (by decide)) | (exact absurd (hc.symm.trans z20) (by decide))))
      have dd : decide (65535 < q0) = true := decide_eq_true (by omega)
      clear HNO HYES hc hc7
      go_wp2_with (first | (with_reducible refine (CT.out _).mono ?_; rintro e wx ⟨rfl, hw⟩; subst hw) | (with_reducible refine (CW1.out _).mono ?_; rintro e wx ⟨rfl, hw⟩; subst hw) | (with_reducible refine (CW2.out _).mono ?_; rintro e wx ⟨rfl, hw⟩; subst hw) | (with_reducible refine (CW3.out _).mono ?_; rintro e wx ⟨rfl, hw⟩; subst hw) | (with_reducible refine (CW4.out _).mono ?_; rintro e wx ⟨rfl, hw⟩; subst hw))
      go_ret
      exact ⟨by first | (rw [HR.out]; rfl) | rw [HR.out], HB.out⟩
    have dd7 : decide (65535 < q0) = false := decide_eq_false (by omega)
    cases x1 with
    | false =>
      have HR := Lib.hid (HNO.out (fun z => absurd (z.2.2.2.2.2.2.2.2.2.1) (by decide)))
      clear HNO HYES
      go_wp2_with (first | (with_reducible refine (CT.out _).mono ?_; rintro e wx ⟨rfl, hw⟩; subst hw) | (with_reducible refine (CW1.out _).mono ?_; rintro e wx ⟨rfl, hw⟩; subst hw) | (with_reducible refine (CW2.out _).mono ?_; rintro e wx ⟨rfl, hw⟩; subst hw) | (with_reducible refine (CW3.out _).mono ?_; rintro e wx ⟨rfl, hw⟩; subst hw) | (with_reducible refine (CW4.out _).mono ?_; rintro e wx ⟨rfl, hw⟩; subst hw))
      go_ret
      exact ⟨by first | (rw [HR.out]; rfl) | rw [HR.out], HB.out⟩
    | true =>
    cases x2 with
    | false =>
      have HR := Lib.hid (HNO.out (fun z => absurd (z.2.2.2.2.2.2.2.2.2.2.1) (by decide)))
      clear HNO HYES
      go_wp2_with (first | (with_reducible refine (CT.out _).mono ?_; rintro e wx ⟨rfl, hw⟩; subst hw) | (with_reducible refine (CW1.out _).mono ?_; rintro e wx ⟨rfl, hw⟩; subst hw) | (with_reducible refine (CW2.out _).mono ?_; rintro e wx ⟨rfl, hw⟩; subst hw) | (with_reducible refine (CW3.out _).mono ?_; rintro e wx ⟨rfl, hw⟩; subst hw) | (with_reducible refine (CW4.out _).mono ?_; rintro e wx ⟨rfl, hw⟩; subst hw))
      go_ret
      exact ⟨by first | (rw [HR.out]; rfl) | rw [HR.out], HB.out⟩
    | true =>
    cases x3 with
    | false =>
      have HR := Lib.hid (HNO.out (fun z => absurd (z.2.2.2.2.2.2.2.2.2.2.2.1) (by decide)))
      clear HNO HYES
      go_wp2_with (first | (with_reducible refine (CT.out _).mono ?_; rintro e wx ⟨rfl, hw⟩; subst hw) | (with_reducible refine (CW1.out _).mono ?_; rintro e wx ⟨rfl, hw⟩; subst hw) | (with_reducible refine (CW2.out _).mono ?_; rintro e wx ⟨rfl, hw⟩; subst hw) | (with_reducible refine (CW3.out _).mono ?_; rintro e wx ⟨rfl, hw⟩; subst hw) | (with_reducible refine (CW4.out _).mono ?_; rintro e wx ⟨rfl, hw⟩; subst hw))
      go_ret
      exact ⟨by first | (rw [HR.out]; rfl) | rw [HR.out], HB.out⟩
    | true =>
    cases x4 with
    | false =>
      have HR := Lib.hid (HNO.out (fun z => absurd (z.2.2.2.2.2.2.2.2.2.2.2.2.1) (by decide)))
      clear HNO HYES
      go_wp2_with (first | (with_reducible refine (CT.out _).mono ?_; rintro e wx ⟨rfl, hw⟩; subst hw) | (with_reducible refine (CW1.out _).mono ?_; rintro e wx ⟨rfl, hw⟩; subst hw) | (with_reducible refine (CW2.out _).mono ?_; rintro e wx ⟨rfl, hw⟩; subst hw) | (with_reducible refine (CW3.out _).mono ?_; rintro e wx ⟨rfl, hw⟩; subst hw) | (with_reducible refine (CW4.out _).mono ?_; rintro e wx ⟨rfl, hw⟩; subst hw))
      go_ret
      exact ⟨by first | (rw [HR.out]; rfl) | rw [HR.out], HB.out⟩
    | true =>
    by_cases hc12 : 0 ≤ q5
    case neg =>
      have hc : True := trivial
      have HR := Lib.hid (HNO.out (by rintro ⟨z1, z2, z3, z4, z5, z6, z7, z8, z9, z10, z11, z12, z13, z14, z15, z16, z17, z18, z19, z20⟩; first | omega | (exact absurd (hc.symm.trans z1) (by decide)) | (exact absurd (hc.symm.trans z7) (by decide)) | (exact absurd (hc.symm.trans z10) (by decide)) | (exact absurd (hc.symm.trans z11) (by decide)) | (exact absurd (hc.symm.trans z12) (by decide)) | (exact absurd (hc.symm.trans z13) (by decide)) | (exact absurd (hc.symm.trans z19) (by decide)) | (exact absurd (hc.symm.trans z20) (by decide))))
      have dd : decide (q5 < 0) = true := decide_eq_true (by omega)
      clear HNO HYES hc hc12
      go_wp2_with (first | (with_reducible refine (CT.out _).mono ?_; rintro e wx ⟨rfl, hw⟩; subst hw) | (with_reducible refine (CW1.out _).mono ?_; rintro e wx ⟨rfl, hw⟩; subst hw) | (with_reducible refine (CW2.out _).mono ?_; rintro e wx ⟨rfl, hw⟩; subst hw) | (with_reducible refine (CW3.out _).mono ?_; rintro e wx ⟨rfl, hw⟩; subst hw) | (with_reducible refine (CW4.out _).mono ?_; rintro e wx ⟨rfl, hw⟩; subst hw))
      go_ret
      exact ⟨by first | (rw [HR.out]; rfl) | rw [HR.out], HB.out⟩
    have dd12 : decide (q5 < 0) = false := decide_eq_false (by omega)
    by_cases hc13 : q5 < 524288
    case neg =>
      have hc : True := trivial
      have HR := Lib.hid (HNO.out (by rintro ⟨z1, z2, z3, z4, z5, z6, z7, z8, z9, z10, z11, z12, z13, z14, z15, z16, z17, z18, z19, z20⟩; first | omega | (exact absurd (hc.symm.trans z1) (by decide)) | (exact absurd (hc.symm.trans z7) (by decide)) | (exact absurd (hc.symm.trans z10) (by decide)) | (exact absurd (hc.symm.trans z11) (by decide)) | (exact absurd (hc.symm.trans z12) (by decide)) | (exact absurd (hc.symm.trans z13) (by decide)) | (exact absurd (hc.symm.trans z19) (by decide)) | (exact absurd (hc.symm.trans z20) (by decide))))
      have dd : decide (524288 ≤ q5) = true := decide_eq_true (by omega)
      clear HNO HYES hc hc13
      go_wp2_with (first | (with_reducible refine (CT.out _).mono ?_; rintro e wx ⟨rfl, hw⟩; subst hw) | (with_reducible refine (CW1.out _).mono ?_; rintro e wx ⟨rfl, hw⟩; subst hw) | (with_reducible refine (CW2.out _).mono ?_; rintro e wx ⟨rfl, hw⟩; subst hw) | (with_reducible refine (CW3.out _).mono ?_; rintro e wx ⟨rfl, hw⟩; subst hw) | (with_reducible refine (CW4.out _).mono ?_; rintro e wx ⟨rfl, hw⟩; subst hw))
      go_ret
      exact ⟨by first | (rw [HR.out]; rfl) | rw [HR.out], HB.out⟩
    have dd13 : decide (524288 ≤ q5) = false := decide_eq_false (by omega)
    go_upto_region 7 with (first | (with_reducible refine (CT.out _).mono ?_; rintro e wx ⟨rfl, hw⟩; subst hw) | (with_reducible refine (CW1.out _).mono ?_; rintro e wx ⟨rfl, hw⟩; subst hw) | (with_reducible refine (CW2.out _).mono ?_; rintro e wx ⟨rfl, hw⟩; subst hw) | (with_reducible refine (CW3.out _).mono ?_; rintro e wx ⟨rfl, hw⟩; subst hw) | (with_reducible refine (CW4.out _).mono ?_; rintro e wx ⟨rfl, hw⟩; subst hw))
    clear p0 p1 p2 p3 p4 p5
    by_cases hc14 : 0 ≤ mp
    case neg =>
      have hc : True := trivial
      have HR := Lib.hid (HNO.out (by rintro ⟨z1, z2, z3, z4, z5, z6, z7, z8, z9, z10, z11, z12, z13, z14, z15, z16, z17, z18, z19, z20⟩; first | omega | (exact absurd (hc.symm.trans z1) (by decide)) | (exact absurd (hc.symm.trans z7) (by decide)) | (exact absurd (hc.symm.trans z10) (by decide)) | (exact absurd (hc.symm.trans z11) (by decide)) | (exact absurd (hc.symm.trans z12) (by decide)) | (exact absurd (hc.symm.trans z13) (by decide)) | (exact absurd (hc.symm.trans z19) (by decide)) | (exact absurd (hc.symm.trans z20) (by decide))))
      have dd : decide (0 ≤ mp) = false := decide_eq_false (by omega)
      clear HNO HYES hc hc14
      go_wp2_with (first | (with_reducible refine (CT.out _).mono ?_; rintro e wx ⟨rfl, hw⟩; subst hw) | (with_reducible refine (CW1.out _).mono ?_; rintro e wx ⟨rfl, hw⟩; subst hw) | (with_reducible refine (CW2.out _).mono ?_; rintro e wx ⟨rfl, hw⟩; subst hw) | (with_reducible refine (CW3.out _).mono ?_; rintro e wx ⟨rfl, hw⟩; subst hw) | (with_reducible refine (CW4.out _).mono ?_; rintro e wx ⟨rfl, hw⟩; subst hw))
      go_ret
      exact ⟨by first | (rw [HR.out]; rfl) | rw [HR.out], HB.out⟩
    have dd14 : decide (0 ≤ mp) = true := decide_eq_true (by omega)
    by_cases hc15 : mp ≤ 65535
    case neg =>
      have hc : True := trivial
      have HR := Lib.hid (HNO.out (by rintro ⟨z1, z2, z3, z4, z5, z6, z7, z8, z9, z10, z11, z12, z13, z14, z15, z16, z17, z18, z19, z20⟩; first | omega | (exact absurd (hc.symm.trans z1) (by decide)) | (exact absurd (hc.symm.trans z7) (by decide)) | (exact absurd (hc.symm.trans z10) (by decide)) | (exact absurd (hc.symm.trans z11) (by decide)) | (exact absurd (hc.symm.trans z12) (by decide)) | (exact absurd (hc.symm.trans z13) (by decide)) | (exact absurd (hc.symm.trans z19) (by decide)) | (exact absurd (hc.symm.trans z20) (by decide))))
      have dd : decide (mp ≤ 65535) = false := decide_eq_false (by omega)
      clear HNO HYES hc hc15
      go_wp2_with (first | (with_reducible refine (CT.out _).mono ?_; rintro e wx ⟨rfl, hw⟩; subst hw) | (with_reducible refine (CW1.out _).mono ?_; rintro e wx ⟨rfl, hw⟩; subst hw) | (with_reducible refine (CW2.out _).mono ?_; rintro e wx ⟨rfl, hw⟩; subst hw) | (with_reducible refine (CW3.out _).mono ?_; rintro e wx ⟨rfl, hw⟩; subst hw) | (with_reducible refine (CW4.out _).mono ?_; rintro e wx ⟨rfl, hw⟩; subst hw))
      go_ret
      exact ⟨by first | (rw [HR.out]; rfl) | rw [HR.out], HB.out⟩
    have dd15 : decide (mp ≤ 65535) = true := decide_eq_true (by omega)
    by_cases hc16 : tb.size ≤ 1608
    case neg =>
      have hc : True := trivial
      have HR := Lib.hid (HNO.out (by rintro ⟨z1, z2, z3, z4, z5, z6, z7, z8, z9, z10, z11, z12, z13, z14, z15, z16, z17, z18, z19, z20⟩; first | omega | (exact absurd (hc.symm.trans z1) (by decide)) | (exact absurd (hc.symm.trans z7) (by decide)) | (exact absurd (hc.symm.trans z10) (by decide)) | (exact absurd (hc.symm.trans z11) (by decide)) | (exact absurd (hc.symm.trans z12) (by decide)) | (exact absurd (hc.symm.trans z13) (by decide)) | (exact absurd (hc.symm.trans z19) (by decide)) | (exact absurd (hc.symm.trans z20) (by decide))))
      have dd : decide ((tb.size : Int) ≤ 1608) = false := decide_eq_false (by omega)
      clear HNO HYES hc hc16
      go_wp2_with (first | (with_reducible refine (CT.out _).mono ?_; rintro e wx ⟨rfl, hw⟩; subst hw) | (with_reducible refine (CW1.out _).mono ?_; rintro e wx ⟨rfl, hw⟩; subst hw) | (with_reducible refine (CW2.out _).mono ?_; rintro e wx ⟨rfl, hw⟩; subst hw) | (with_reducible refine (CW3.out _).mono ?_; rintro e wx ⟨rfl, hw⟩; subst hw) | (with_reducible refine (CW4.out _).mono ?_; rintro e wx ⟨rfl, hw⟩; subst hw))
      go_ret
      exact ⟨by first | (rw [HR.out]; rfl) | rw [HR.out], HB.out⟩
    have dd16 : decide ((tb.size : Int) ≤ 1608) = true := decide_eq_true (by omega)
    have ht2 : (tb.size : Int) ≤ 1608 := by omega
    have HAL := Lib.hid (show Below w.heap.size w (w4.alloc (.cells #[.int .i64 fk, .int .i64 fl, .int .i64 fb, .int .i64 fp] 44)) from HB.out.alloc HB.out.size _)
    have CF2 := Lib.hid (CF.out w4 w4.heap.size rfl)
    cases fm with
    | false =>
      have HR := Lib.hid (HNO.out (fun z => absurd (z.2.2.2.2.2.2.2.2.2.2.2.2.2.2.2.2.2.2.1) (by decide)))
      clear HNO HYES
      go_wp2_with fail
      with_reducible refine CF2.out.mono ?_
      rintro e w5 ⟨rfl, hbq⟩
      have HB5 := Lib.hid (HAL.out.trans (hbq.mono HAL.out.size))
      clear hbq
      go_wp2_with fail
      go_ret
      exact ⟨by first | (rw [HR.out]; rfl) | rw [HR.out], HB5.out⟩
    | true =>
    have HR := Lib.hid (show R = sp from by
      cases sp with
      | false => exact HNO.out (fun z => absurd (z.2.2.2.2.2.2.2.2.2.2.2.2.2.2.2.2.2.2.2) (by decide))
      | true => exact HYES.out ⟨by first | trivial | rfl, by first | trivial | rfl, hc1, hc2, hc3, hc4, by first | trivial | rfl, hc6, hc7, by first | trivial | rfl, by first | trivial | rfl, by first | trivial | rfl, by first | trivial | rfl, hc12, hc13, hc14, hc15, hc16, by first | trivial | rfl, by first | trivial | rfl⟩)
    clear HNO HYES
    go_wp2_with fail
    with_reducible refine CF2.out.mono ?_
    rintro e w5 ⟨rfl, hbq⟩
    have HB5 := Lib.hid (HAL.out.trans (hbq.mono HAL.out.size))
    have hlt20 := World.block_lt_of_cell? _ _ e20
    have e20' := (hbq.cell (p := ⟨w.heap.size, 20, none⟩) (by simp; exact Nat.lt_succ_of_lt hlt20)).trans ((World.cell?_alloc_lt _ _ _ hlt20).trans e20)
    have e21' := (hbq.cell (p := ⟨w.heap.size, 21, none⟩) (by simp; exact Nat.lt_succ_of_lt hlt20)).trans ((World.cell?_alloc_lt _ _ _ (World.block_lt_of_cell? _ _ e21)).trans e21)
    clear hbq e14 e15 e16 e17 e18 e19 e20 e21 hlt20
    go_wp2_with fail
    with_reducible refine (CS.out _).mono ?_
    rintro e w6 ⟨rfl, hbq⟩
    have HB6 := Lib.hid (HB5.out.trans (hbq.mono HB5.out.size))
    clear hbq e20' e21'
    go_wp2_with fail
    go_ret
    exact ⟨by first | (rw [HR.out]; rfl) | rw [HR.out], HB6.out⟩
end Go.Proofs.YthkppbimkjmbnaaGreatDoor

/-
  The walk through the reference's ParseEntity: one of its ways out.
-/
namespace Go.Proofs.YthkppbimkjmbnaaGreatDoor
open Go.RowKit
set_option maxHeartbeats 1600000 in
set_option maxRecDepth 100000 in
/-- masterdiscref32.printable. -/
theorem rPrintable_same (s : ByteArray) (w : World) (hs : s.size ≤ 9223372036854775807) :
    Calls Tryz.prog 146 #[.string s] w fun e w' => e = .returned (.bool (Cs.allP s.data.toList)) ∧ w = w' := by
  have HDL := Lib.hid (Kit.len_size s)
  go_enter Tryz.func146, Tryz.ntmps146
  go_wp2_with fail
  go_loopw [3] (fun iv wr => ∃ j : Nat, j ≤ s.size ∧ iv = .int .i64 j ∧ Hid ((s.data.toList.take j).all Cs.prt = true) ∧ w = wr) (fun iv _ => s.size - (intOf iv).toNat)
  case atStart => exact ⟨0, by omega, rfl, Lib.hid rfl, rfl⟩
  case round =>
    obtain ⟨j, hj, rfl, HA, rfl⟩ := hrel
    by_cases hlt : j < s.size
    · have b0 := Kit.byt_get s j hlt
      have hlt' : j < s.data.toList.length := by rw [HDL.out]; exact hlt
      by_cases hp : Cs.prt (s.data.toList.getD j 0) = true
      · have HN := Lib.hid (all_snocP hlt' HA.out hp)
        obtain ⟨h1, h2⟩ := (Cs.prt_iff _).1 hp
        have h1' : ¬ ((Cs.byt s.data.toList j : Nat) : Int) < 32 := by unfold Cs.byt; omega
        have h2' : ¬ (126 : Int) < ((Cs.byt s.data.toList j : Nat) : Int) := by unfold Cs.byt; omega
        generalize Cs.byt s.data.toList j = x at *
        clear hp h1 h2 hlt'
        go_wp2_with fail
        go_roundw
        case rel => exact ⟨j + 1, by omega, by go_num, HN, by first | rfl | trivial⟩
        case measure => simp [intOf]; omega
      · have hp' : Cs.prt (s.data.toList.getD j 0) = false := by simpa using hp
        have HN := Lib.hid (show Cs.allP s.data.toList = false from all_failP hlt' hp')
        have h1' : ((Cs.byt s.data.toList j : Nat) : Int) < 32 ∨ (126 : Int) < ((Cs.byt s.data.toList j : Nat) : Int) ∧ ¬ ((Cs.byt s.data.toList j : Nat) : Int) < 32 := by
          have hn : ¬ (32 ≤ (s.data.toList.getD j 0).toNat ∧ (s.data.toList.getD j 0).toNat ≤ 126) := fun h => hp ((Cs.prt_iff _).2 h)
          unfold Cs.byt
          omega
        generalize Cs.byt s.data.toList j = x at *
        clear hp hp' hlt'
        rcases h1' with h | ⟨h, h'⟩
        all_goals
          go_wp2_with fail
          go_ret
          rw [HN.out]
          exact ⟨rfl, rfl⟩
    · obtain rfl : j = s.size := by omega
      have ha := HA.out
      rw [List.take_of_length_le (by rw [HDL.out]; omega)] at ha
      have HH := Lib.hid (show Cs.allP s.data.toList = true from ha)
      clear ha
      go_wp2_with fail
      go_ret
      rw [HH.out]
      exact ⟨rfl, rfl⟩

set_option maxHeartbeats 6400000 in
set_option maxRecDepth 100000 in
/-- masterdiscref32.ParseEntity. -/
theorem rPent_A (f : ByteArray) (w : World) (h32 : f.size = 32) (g1 : 1 ≤ (Cs.entS f.data.toList).length) (ga : Cs.allP (Cs.entS f.data.toList) = false) :
    Calls Tryz.prog 90 #[.string f] w fun e w' => e = .returned (.tuple #[.string ⟨(Cs.pentR f.data.toList).1.1.toArray⟩, .string ⟨(Cs.pentR f.data.toList).1.2.toArray⟩, .int .i64 (Cs.pentR f.data.toList).2]) ∧ Below w.heap.size w w' := by
  have hdl := Kit.len_size f
  have h32l : f.data.toList.length = 32 := by omega
  have hR : Cs.pentR f.data.toList = if Cs.entOk f.data.toList = true then ((Cs.entS f.data.toList, f.data.toList.drop 24), 0) else (([], []), 10) := if_neg (by omega)
  have HRR := Lib.hid hR
  have H32 := Lib.hid h32l
  have h32' : ((f.size : Int) != 32) = false := by rw [bne_eq_false_iff_eq]; omega
  have hz : (32 : Int) ≤ (f.size : Int) := by omega
  clear hR h32l hdl
  go_enter Tryz.func90, Tryz.ntmps90
  go_wp2_with fail
  go_loopw [5] (fun nv wr => ∃ k : Nat, nv = .int .i64 k ∧ k ≤ 23 ∧ Hid (∀ j, j < k → Cs.byt f.data.toList (1 + j) ≠ 0) ∧ Below w.heap.size w wr) (fun nv _ => 23 - (intOf nv).toNat)
  case atStart => exact ⟨0, rfl, by omega, Lib.hid (fun j hj => by omega), Below.refl _ _⟩
  case round =>
    obtain ⟨k, rfl, hk, HK, hbw⟩ := hrel
    by_cases hgo : k < 23 ∧ Cs.byt f.data.toList (1 + k) ≠ 0
    · obtain ⟨hk1, hk2⟩ := hgo
      have hlt : 1 + k < f.size := by omega
      have b0 := Kit.byt_get f (1 + k) hlt
      have hix : (1 + (k : Int)).toNat = 1 + k := by omega
      have HN := Lib.hid (show ∀ j, j < k + 1 → Cs.byt f.data.toList (1 + j) ≠ 0 from fun j hj => by
        by_cases hjk : j = k
        · subst hjk; exact hk2
        · exact HK.out j (by omega))
      generalize Cs.byt f.data.toList (1 + k) = x at *
      have hx : ((x : Int) != 0) = true := by rw [bne_iff_ne]; omega
      go_wp2_with fail
      go_roundw
      case rel => exact ⟨k + 1, by go_num, by omega, HN, hbw⟩
      case measure => simp [intOf]; omega
    · have hS : Cs.entS f.data.toList = (Cs.entL f.data.toList).take k := by
        have hl := Cs.entL_len H32.out
        refine Cs.while_len _ k (by omega) (fun j hj => ?_) ?_
        · rw [Cs.byt_entL H32.out j (by omega)]; exact HK.out j hj
        · by_cases h23 : k = 23
          · left; omega
          · right
            rw [Cs.byt_entL H32.out k (by omega)]
            by_cases hb : Cs.byt f.data.toList (1 + k) = 0
            · exact hb
            · exact absurd ⟨by omega, hb⟩ hgo
      have hSl : (Cs.entS f.data.toList).length = k := by
        rw [hS, List.length_take, Cs.entL_len H32.out]; omega
      rw [hSl] at g1
      have e1 : (f.extract 1 (1 + k)).data.toList = Cs.entS f.data.toList := by
        rw [hS, Lib.extract_data]
        unfold Cs.entL
        rw [List.take_take]
        congr 1
        omega
      have e2 : (f.extract (1 + k) 24).data.toList = (Cs.entL f.data.toList).drop k := by
        rw [Lib.extract_data]
        unfold Cs.entL
        rw [List.drop_take, List.drop_drop]
        congr 1
        omega
      have hok : Cs.entOk f.data.toList = (Cs.idR (Cs.entS f.data.toList) && decide ((f.extract (1 + k) 24).data.toList = List.replicate (23 - k) 0)) := by
        unfold Cs.entOk
        rw [hSl, Cs.zeros_all, e2]
        congr 2
        rw [List.length_drop, Cs.entL_len H32.out]
      have hid : Cs.idR (Cs.entS f.data.toList) = (decide (1 ≤ k) && Cs.allP (Cs.entS f.data.toList)) := by
        unfold Cs.idR Cs.allP
        rw [hSl, decide_eq_true (show k ≤ 23 from hk)]
        rfl
      have cP := fun W => rPrintable_same (f.extract 1 (1 + k)) W (by simp; omega)
      rw [e1] at cP
      have cZ := fun W => vZeros_any (23 - (k : Int)) (by omega) (by omega) W
      rw [show (23 - (k : Int)).toNat = 23 - k by omega] at cZ
      have hdl := Kit.len_size f
      have hd24 : f.extract 24 f.size = ⟨(f.data.toList.drop 24).toArray⟩ := by rw [← Lib.extract_to_end f 24]
      have he1 : f.extract 1 (1 + k) = ⟨(Cs.entS f.data.toList).toArray⟩ := by rw [← e1]
      have hstop : (k < 23 ∧ Cs.byt f.data.toList (1 + k) = 0) ∨ k = 23 := by
        by_cases h23 : k = 23
        · right; exact h23
        · left
          refine ⟨by omega, ?_⟩
          by_cases hb : Cs.byt f.data.toList (1 + k) = 0
          · exact hb
          · exact absurd ⟨by omega, hb⟩ hgo
      have hR := HRR.out
      rw [hok, hid] at hR
      have hrl : (List.replicate (23 - k) (0 : UInt8)).length ≤ 23 := by simp
      have htl : ∀ r : Bool, decide ((f.extract (1 + k) 24).data.toList = List.replicate (23 - k) 0) = r → ((f.extract (1 + k) 24).toList == List.replicate (23 - k) (0 : UInt8)) = r := by
        intro r h
        rw [← h, Lib.toList_data]
        rw [Bool.eq_iff_iff]
        simp
      generalize hq : decide ((f.extract (1 + k) 24).data.toList = List.replicate (23 - k) 0) = q at *
      have htq := htl q rfl
      generalize List.replicate (23 - k) (0 : UInt8) = zl at *
      generalize Cs.entS f.data.toList = sl at *
      generalize Cs.allP sl = ap at *
      generalize f.data.toList.drop 24 = d24 at *
      have HE1 := Lib.hid he1
      have H24 := Lib.hid hd24
      have CP := Lib.hid cP; have CZ := Lib.hid cZ
      have hlt : 1 + 22 < f.size := by omega
      have hix : (1 + (k : Int)).toNat = 1 + k := by omega
      clear hgo hS e1 e2 hok hid cP cZ hdl htl hq hd24 he1 HK hSl HRR
      have y1 : IntKind.i64.wrap (1 + (k : Int)) = 1 + (k : Int) := IntWalk.i64_in _ (by omega)
      have y2 : IntKind.i64.wrap (23 - (k : Int)) = 23 - (k : Int) := IntWalk.i64_in _ (by omega)
      have hk0' : ((k : Int) == 0) = false := by rw [beq_eq_false_iff_ne]; omega
      rw [decide_eq_true (show 1 ≤ k from g1)] at hR
      subst ga
      have HR := Lib.hid (hR.trans (if_neg (by simp)))
      clear hR
      rcases hstop with ⟨hk23, hb0⟩ | h23
      · have hlt2 : 1 + k < f.size := by omega
        have b0 := Kit.byt_get f (1 + k) hlt2
        rw [hb0] at b0
        clear hb0
        go_wp2_with fail
        go_quiet ((go_at_call 146; exact Calls.quiet_of_same ((CP.out _).mono fun _ _ h => ⟨h.1, h.2.symm⟩)))
        have hc5 := Kit.Below.drewN hbw nq
        generalize wr.drewN nq = wq at hc5 ⊢
        go_wp2_with fail
        go_returns
        rw [HR.out]
        exact ⟨rfl, hc5⟩
      · have hk23' : ¬ (k : Int) < 23 := by omega
        clear h23
        go_wp2_with fail
        go_quiet ((go_at_call 146; exact Calls.quiet_of_same ((CP.out _).mono fun _ _ h => ⟨h.1, h.2.symm⟩)))
        have hc5 := Kit.Below.drewN hbw nq
        generalize wr.drewN nq = wq at hc5 ⊢
        go_wp2_with fail
        go_returns
        rw [HR.out]
        exact ⟨rfl, hc5⟩
end Go.Proofs.YthkppbimkjmbnaaGreatDoor

/-
  The walk through the reference's ParseEntity: one of its ways out.
-/
namespace Go.Proofs.YthkppbimkjmbnaaGreatDoor
open Go.RowKit
set_option maxHeartbeats 6400000 in
set_option maxRecDepth 100000 in
/-- masterdiscref32.ParseEntity. -/
theorem rPent_Z (f : ByteArray) (w : World) (h32 : f.size = 32) (g0 : (Cs.entS f.data.toList).length = 0) :
    Calls Tryz.prog 90 #[.string f] w fun e w' => e = .returned (.tuple #[.string ⟨(Cs.pentR f.data.toList).1.1.toArray⟩, .string ⟨(Cs.pentR f.data.toList).1.2.toArray⟩, .int .i64 (Cs.pentR f.data.toList).2]) ∧ Below w.heap.size w w' := by
  have hdl := Kit.len_size f
  have h32l : f.data.toList.length = 32 := by omega
  have hR : Cs.pentR f.data.toList = if Cs.entOk f.data.toList = true then ((Cs.entS f.data.toList, f.data.toList.drop 24), 0) else (([], []), 10) := if_neg (by omega)
  have HRR := Lib.hid hR
  have H32 := Lib.hid h32l
  have h32' : ((f.size : Int) != 32) = false := by rw [bne_eq_false_iff_eq]; omega
  have hz : (32 : Int) ≤ (f.size : Int) := by omega
  clear hR h32l hdl
  go_enter Tryz.func90, Tryz.ntmps90
  go_wp2_with fail
  go_loopw [5] (fun nv wr => ∃ k : Nat, nv = .int .i64 k ∧ k ≤ 23 ∧ Hid (∀ j, j < k → Cs.byt f.data.toList (1 + j) ≠ 0) ∧ Below w.heap.size w wr) (fun nv _ => 23 - (intOf nv).toNat)
  case atStart => exact ⟨0, rfl, by omega, Lib.hid (fun j hj => by omega), Below.refl _ _⟩
  case round =>
    obtain ⟨k, rfl, hk, HK, hbw⟩ := hrel
    by_cases hgo : k < 23 ∧ Cs.byt f.data.toList (1 + k) ≠ 0
    · obtain ⟨hk1, hk2⟩ := hgo
      have hlt : 1 + k < f.size := by omega
      have b0 := Kit.byt_get f (1 + k) hlt
      have hix : (1 + (k : Int)).toNat = 1 + k := by omega
      have HN := Lib.hid (show ∀ j, j < k + 1 → Cs.byt f.data.toList (1 + j) ≠ 0 from fun j hj => by
        by_cases hjk : j = k
        · subst hjk; exact hk2
        · exact HK.out j (by omega))
      generalize Cs.byt f.data.toList (1 + k) = x at *
      have hx : ((x : Int) != 0) = true := by rw [bne_iff_ne]; omega
      go_wp2_with fail
      go_roundw
      case rel => exact ⟨k + 1, by go_num, by omega, HN, hbw⟩
      case measure => simp [intOf]; omega
    · have hS : Cs.entS f.data.toList = (Cs.entL f.data.toList).take k := by
        have hl := Cs.entL_len H32.out
        refine Cs.while_len _ k (by omega) (fun j hj => ?_) ?_
        · rw [Cs.byt_entL H32.out j (by omega)]; exact HK.out j hj
        · by_cases h23 : k = 23
          · left; omega
          · right
            rw [Cs.byt_entL H32.out k (by omega)]
            by_cases hb : Cs.byt f.data.toList (1 + k) = 0
            · exact hb
            · exact absurd ⟨by omega, hb⟩ hgo
      have hSl : (Cs.entS f.data.toList).length = k := by
        rw [hS, List.length_take, Cs.entL_len H32.out]; omega
      rw [hSl] at g0
      have e1 : (f.extract 1 (1 + k)).data.toList = Cs.entS f.data.toList := by
        rw [hS, Lib.extract_data]
        unfold Cs.entL
        rw [List.take_take]
        congr 1
        omega
      have e2 : (f.extract (1 + k) 24).data.toList = (Cs.entL f.data.toList).drop k := by
        rw [Lib.extract_data]
        unfold Cs.entL
        rw [List.drop_take, List.drop_drop]
        congr 1
        omega
      have hok : Cs.entOk f.data.toList = (Cs.idR (Cs.entS f.data.toList) && decide ((f.extract (1 + k) 24).data.toList = List.replicate (23 - k) 0)) := by
        unfold Cs.entOk
        rw [hSl, Cs.zeros_all, e2]
        congr 2
        rw [List.length_drop, Cs.entL_len H32.out]
      have hid : Cs.idR (Cs.entS f.data.toList) = (decide (1 ≤ k) && Cs.allP (Cs.entS f.data.toList)) := by
        unfold Cs.idR Cs.allP
        rw [hSl, decide_eq_true (show k ≤ 23 from hk)]
        rfl
      have cP := fun W => rPrintable_same (f.extract 1 (1 + k)) W (by simp; omega)
      rw [e1] at cP
      have cZ := fun W => vZeros_any (23 - (k : Int)) (by omega) (by omega) W
      rw [show (23 - (k : Int)).toNat = 23 - k by omega] at cZ
      have hdl := Kit.len_size f
      have hd24 : f.extract 24 f.size = ⟨(f.data.toList.drop 24).toArray⟩ := by rw [← Lib.extract_to_end f 24]
      have he1 : f.extract 1 (1 + k) = ⟨(Cs.entS f.data.toList).toArray⟩ := by rw [← e1]
      have hstop : (k < 23 ∧ Cs.byt f.data.toList (1 + k) = 0) ∨ k = 23 := by
        by_cases h23 : k = 23
        · right; exact h23
        · left
          refine ⟨by omega, ?_⟩
          by_cases hb : Cs.byt f.data.toList (1 + k) = 0
          · exact hb
          · exact absurd ⟨by omega, hb⟩ hgo
      have hR := HRR.out
      rw [hok, hid] at hR
      have hrl : (List.replicate (23 - k) (0 : UInt8)).length ≤ 23 := by simp
      have htl : ∀ r : Bool, decide ((f.extract (1 + k) 24).data.toList = List.replicate (23 - k) 0) = r → ((f.extract (1 + k) 24).toList == List.replicate (23 - k) (0 : UInt8)) = r := by
        intro r h
        rw [← h, Lib.toList_data]
        rw [Bool.eq_iff_iff]
        simp
      generalize hq : decide ((f.extract (1 + k) 24).data.toList = List.replicate (23 - k) 0) = q at *
      have htq := htl q rfl
      generalize List.replicate (23 - k) (0 : UInt8) = zl at *
      generalize Cs.entS f.data.toList = sl at *
      generalize Cs.allP sl = ap at *
      generalize f.data.toList.drop 24 = d24 at *
      have HE1 := Lib.hid he1
      have H24 := Lib.hid hd24
      have CP := Lib.hid cP; have CZ := Lib.hid cZ
      have hlt : 1 + 22 < f.size := by omega
      have hix : (1 + (k : Int)).toNat = 1 + k := by omega
      clear hgo hS e1 e2 hok hid cP cZ hdl htl hq hd24 he1 HK hSl HRR
      have y1 : IntKind.i64.wrap (1 + (k : Int)) = 1 + (k : Int) := IntWalk.i64_in _ (by omega)
      have y2 : IntKind.i64.wrap (23 - (k : Int)) = 23 - (k : Int) := IntWalk.i64_in _ (by omega)
      have HR := Lib.hid (hR.trans (if_neg (by rw [g0]; simp)))
      have hk0' : ((k : Int) == 0) = true := by rw [beq_iff_eq]; omega
      have G0 := Lib.hid g0
      clear hR g0
      rcases hstop with ⟨hk23, hb0⟩ | h23
      · have hlt2 : 1 + k < f.size := by omega
        have b0 := Kit.byt_get f (1 + k) hlt2
        rw [hb0] at b0
        clear hb0
        go_wp2_with fail
        go_quiet (fail)
        have hc5 := Kit.Below.drewN hbw nq
        generalize wr.drewN nq = wq at hc5 ⊢
        go_wp2_with fail
        go_returns
        rw [HR.out]
        exact ⟨rfl, hc5⟩
      · have hk23' : ¬ (k : Int) < 23 := by omega
        have := G0.out
        omega
end Go.Proofs.YthkppbimkjmbnaaGreatDoor

/-
  The walk through the reference's ParseEntity: one of its ways out.
-/
namespace Go.Proofs.YthkppbimkjmbnaaGreatDoor
open Go.RowKit
set_option maxHeartbeats 6400000 in
set_option maxRecDepth 100000 in
/-- masterdiscref32.ParseEntity. -/
theorem rPent_F (f : ByteArray) (w : World) (h32 : f.size = 32) (g1 : 1 ≤ (Cs.entS f.data.toList).length) (ga : Cs.allP (Cs.entS f.data.toList) = true) (gq : decide ((f.extract (1 + (Cs.entS f.data.toList).length) 24).data.toList = List.replicate (23 - (Cs.entS f.data.toList).length) 0) = false) :
    Calls Tryz.prog 90 #[.string f] w fun e w' => e = .returned (.tuple #[.string ⟨(Cs.pentR f.data.toList).1.1.toArray⟩, .string ⟨(Cs.pentR f.data.toList).1.2.toArray⟩, .int .i64 (Cs.pentR f.data.toList).2]) ∧ Below w.heap.size w w' := by
  have hdl := Kit.len_size f
  have h32l : f.data.toList.length = 32 := by omega
  have hR : Cs.pentR f.data.toList = if Cs.entOk f.data.toList = true then ((Cs.entS f.data.toList, f.data.toList.drop 24), 0) else (([], []), 10) := if_neg (by omega)
  have HRR := Lib.hid hR
  have H32 := Lib.hid h32l
  have h32' : ((f.size : Int) != 32) = false := by rw [bne_eq_false_iff_eq]; omega
  have hz : (32 : Int) ≤ (f.size : Int) := by omega
  clear hR h32l hdl
  go_enter Tryz.func90, Tryz.ntmps90
  go_wp2_with fail
  go_loopw [5] (fun nv wr => ∃ k : Nat, nv = .int .i64 k ∧ k ≤ 23 ∧ Hid (∀ j, j < k → Cs.byt f.data.toList (1 + j) ≠ 0) ∧ Below w.heap.size w wr) (fun nv _ => 23 - (intOf nv).toNat)
  case atStart => exact ⟨0, rfl, by omega, Lib.hid (fun j hj => by omega), Below.refl _ _⟩
  case round =>
    obtain ⟨k, rfl, hk, HK, hbw⟩ := hrel
    by_cases hgo : k < 23 ∧ Cs.byt f.data.toList (1 + k) ≠ 0
    · obtain ⟨hk1, hk2⟩ := hgo
      have hlt : 1 + k < f.size := by omega
      have b0 := Kit.byt_get f (1 + k) hlt
      have hix : (1 + (k : Int)).toNat = 1 + k := by omega
      have HN := Lib.hid (show ∀ j, j < k + 1 → Cs.byt f.data.toList (1 + j) ≠ 0 from fun j hj => by
        by_cases hjk : j = k
        · subst hjk; exact hk2
        · exact HK.out j (by omega))
      generalize Cs.byt f.data.toList (1 + k) = x at *
      have hx : ((x : Int) != 0) = true := by rw [bne_iff_ne]; omega
      go_wp2_with fail
      go_roundw
      case rel => exact ⟨k + 1, by go_num, by omega, HN, hbw⟩
      case measure => simp [intOf]; omega
    · have hS : Cs.entS f.data.toList = (Cs.entL f.data.toList).take k := by
        have hl := Cs.entL_len H32.out
        refine Cs.while_len _ k (by omega) (fun j hj => ?_) ?_
        · rw [Cs.byt_entL H32.out j (by omega)]; exact HK.out j hj
        · by_cases h23 : k = 23
          · left; omega
          · right
            rw [Cs.byt_entL H32.out k (by omega)]
            by_cases hb : Cs.byt f.data.toList (1 + k) = 0
            · exact hb
            · exact absurd ⟨by omega, hb⟩ hgo
      have hSl : (Cs.entS f.data.toList).length = k := by
        rw [hS, List.length_take, Cs.entL_len H32.out]; omega
      rw [hSl] at g1
      rw [hSl] at gq
      have e1 : (f.extract 1 (1 + k)).data.toList = Cs.entS f.data.toList := by
        rw [hS, Lib.extract_data]
        unfold Cs.entL
        rw [List.take_take]
        congr 1
        omega
      have e2 : (f.extract (1 + k) 24).data.toList = (Cs.entL f.data.toList).drop k := by
        rw [Lib.extract_data]
        unfold Cs.entL
        rw [List.drop_take, List.drop_drop]
        congr 1
        omega
      have hok : Cs.entOk f.data.toList = (Cs.idR (Cs.entS f.data.toList) && decide ((f.extract (1 + k) 24).data.toList = List.replicate (23 - k) 0)) := by
        unfold Cs.entOk
        rw [hSl, Cs.zeros_all, e2]
        congr 2
        rw [List.length_drop, Cs.entL_len H32.out]
      have hid : Cs.idR (Cs.entS f.data.toList) = (decide (1 ≤ k) && Cs.allP (Cs.entS f.data.toList)) := by
        unfold Cs.idR Cs.allP
        rw [hSl, decide_eq_true (show k ≤ 23 from hk)]
        rfl
      have cP := fun W => rPrintable_same (f.extract 1 (1 + k)) W (by simp; omega)
      rw [e1] at cP
      have cZ := fun W => vZeros_any (23 - (k : Int)) (by omega) (by omega) W
      rw [show (23 - (k : Int)).toNat = 23 - k by omega] at cZ
      have hdl := Kit.len_size f
      have hd24 : f.extract 24 f.size = ⟨(f.data.toList.drop 24).toArray⟩ := by rw [← Lib.extract_to_end f 24]
      have he1 : f.extract 1 (1 + k) = ⟨(Cs.entS f.data.toList).toArray⟩ := by rw [← e1]
      have hstop : (k < 23 ∧ Cs.byt f.data.toList (1 + k) = 0) ∨ k = 23 := by
        by_cases h23 : k = 23
        · right; exact h23
        · left
          refine ⟨by omega, ?_⟩
          by_cases hb : Cs.byt f.data.toList (1 + k) = 0
          · exact hb
          · exact absurd ⟨by omega, hb⟩ hgo
      have hR := HRR.out
      rw [hok, hid] at hR
      have hrl : (List.replicate (23 - k) (0 : UInt8)).length ≤ 23 := by simp
      have htl : ∀ r : Bool, decide ((f.extract (1 + k) 24).data.toList = List.replicate (23 - k) 0) = r → ((f.extract (1 + k) 24).toList == List.replicate (23 - k) (0 : UInt8)) = r := by
        intro r h
        rw [← h, Lib.toList_data]
        rw [Bool.eq_iff_iff]
        simp
      generalize hq : decide ((f.extract (1 + k) 24).data.toList = List.replicate (23 - k) 0) = q at *
      have htq := htl q rfl
      generalize List.replicate (23 - k) (0 : UInt8) = zl at *
      generalize Cs.entS f.data.toList = sl at *
      generalize Cs.allP sl = ap at *
      generalize f.data.toList.drop 24 = d24 at *
      have HE1 := Lib.hid he1
      have H24 := Lib.hid hd24
      have CP := Lib.hid cP; have CZ := Lib.hid cZ
      have hlt : 1 + 22 < f.size := by omega
      have hix : (1 + (k : Int)).toNat = 1 + k := by omega
      clear hgo hS e1 e2 hok hid cP cZ hdl htl hq hd24 he1 HK hSl HRR
      have y1 : IntKind.i64.wrap (1 + (k : Int)) = 1 + (k : Int) := IntWalk.i64_in _ (by omega)
      have y2 : IntKind.i64.wrap (23 - (k : Int)) = 23 - (k : Int) := IntWalk.i64_in _ (by omega)
      have hk0' : ((k : Int) == 0) = false := by rw [beq_eq_false_iff_ne]; omega
      rw [decide_eq_true (show 1 ≤ k from g1)] at hR
      subst ga
      subst gq
      have HR := Lib.hid (hR.trans (if_neg (by simp)))
      have htn : ((f.extract (1 + k) 24).toList != zl) = true := by rw [bne, htq]; rfl
      clear hR
      rcases hstop with ⟨hk23, hb0⟩ | h23
      · have hlt2 : 1 + k < f.size := by omega
        have b0 := Kit.byt_get f (1 + k) hlt2
        rw [hb0] at b0
        clear hb0
        go_wp2_with fail
        refine wp_region_later wr.heap.size (by kernel_rfl) (by kernel_rfl) ?_
        repeat (any_goals (first | go_big_quiet_skip | (go_big_quiet_want; go_big_quiet_op; first | go_big_quiet_on | (apply Exists.intro; refine ⟨fun _ => ?_, ?_⟩; (first | (go_at_call 146; exact Calls.later_same (CP.out _)) | (go_at_call 81; exact Calls.later_of (Nat.le_refl _) (CZ.out _))); go_big_quiet_on))))
        refine wpQuiet_nil ?_
        intro wq hw'
        obtain ⟨⟨wz, hbq⟩, hw''⟩ := hw'
        subst hw''
        have hc2 := hbw.trans (hbq.mono hbw.size)
        go_wp2_with fail
        go_returns
        rw [HR.out]
        exact ⟨rfl, hc2⟩
      · have hk23' : ¬ (k : Int) < 23 := by omega
        clear h23
        go_wp2_with fail
        refine wp_region_later wr.heap.size (by kernel_rfl) (by kernel_rfl) ?_
        repeat (any_goals (first | go_big_quiet_skip | (go_big_quiet_want; go_big_quiet_op; first | go_big_quiet_on | (apply Exists.intro; refine ⟨fun _ => ?_, ?_⟩; (first | (go_at_call 146; exact Calls.later_same (CP.out _)) | (go_at_call 81; exact Calls.later_of (Nat.le_refl _) (CZ.out _))); go_big_quiet_on))))
        refine wpQuiet_nil ?_
        intro wq hw'
        obtain ⟨⟨wz, hbq⟩, hw''⟩ := hw'
        subst hw''
        have hc2 := hbw.trans (hbq.mono hbw.size)
        go_wp2_with fail
        go_returns
        rw [HR.out]
        exact ⟨rfl, hc2⟩
end Go.Proofs.YthkppbimkjmbnaaGreatDoor

/-
  The walk through the reference's ParseEntity: one of its ways out.
-/
namespace Go.Proofs.YthkppbimkjmbnaaGreatDoor
open Go.RowKit
set_option maxHeartbeats 6400000 in
set_option maxRecDepth 100000 in
/-- masterdiscref32.ParseEntity. -/
theorem rPent_T (f : ByteArray) (w : World) (h32 : f.size = 32) (g1 : 1 ≤ (Cs.entS f.data.toList).length) (ga : Cs.allP (Cs.entS f.data.toList) = true) (gq : decide ((f.extract (1 + (Cs.entS f.data.toList).length) 24).data.toList = List.replicate (23 - (Cs.entS f.data.toList).length) 0) = true) :
    Calls Tryz.prog 90 #[.string f] w fun e w' => e = .returned (.tuple #[.string ⟨(Cs.pentR f.data.toList).1.1.toArray⟩, .string ⟨(Cs.pentR f.data.toList).1.2.toArray⟩, .int .i64 (Cs.pentR f.data.toList).2]) ∧ Below w.heap.size w w' := by
  have hdl := Kit.len_size f
  have h32l : f.data.toList.length = 32 := by omega
  have hR : Cs.pentR f.data.toList = if Cs.entOk f.data.toList = true then ((Cs.entS f.data.toList, f.data.toList.drop 24), 0) else (([], []), 10) := if_neg (by omega)
  have HRR := Lib.hid hR
  have H32 := Lib.hid h32l
  have h32' : ((f.size : Int) != 32) = false := by rw [bne_eq_false_iff_eq]; omega
  have hz : (32 : Int) ≤ (f.size : Int) := by omega
  clear hR h32l hdl
  go_enter Tryz.func90, Tryz.ntmps90
  go_wp2_with fail
  go_loopw [5] (fun nv wr => ∃ k : Nat, nv = .int .i64 k ∧ k ≤ 23 ∧ Hid (∀ j, j < k → Cs.byt f.data.toList (1 + j) ≠ 0) ∧ Below w.heap.size w wr) (fun nv _ => 23 - (intOf nv).toNat)
  case atStart => exact ⟨0, rfl, by omega, Lib.hid (fun j hj => by omega), Below.refl _ _⟩
  case round =>
    obtain ⟨k, rfl, hk, HK, hbw⟩ := hrel
    by_cases hgo : k < 23 ∧ Cs.byt f.data.toList (1 + k) ≠ 0
    · obtain ⟨hk1, hk2⟩ := hgo
      have hlt : 1 + k < f.size := by omega
      have b0 := Kit.byt_get f (1 + k) hlt
      have hix : (1 + (k : Int)).toNat = 1 + k := by omega
      have HN := Lib.hid (show ∀ j, j < k + 1 → Cs.byt f.data.toList (1 + j) ≠ 0 from fun j hj => by
        by_cases hjk : j = k
        · subst hjk; exact hk2
        · exact HK.out j (by omega))
      generalize Cs.byt f.data.toList (1 + k) = x at *
      have hx : ((x : Int) != 0) = true := by rw [bne_iff_ne]; omega
      go_wp2_with fail
      go_roundw
      case rel => exact ⟨k + 1, by go_num, by omega, HN, hbw⟩
      case measure => simp [intOf]; omega
    · have hS : Cs.entS f.data.toList = (Cs.entL f.data.toList).take k := by
        have hl := Cs.entL_len H32.out
        refine Cs.while_len _ k (by omega) (fun j hj => ?_) ?_
        · rw [Cs.byt_entL H32.out j (by omega)]; exact HK.out j hj
        · by_cases h23 : k = 23
          · left; omega
          · right
            rw [Cs.byt_entL H32.out k (by omega)]
            by_cases hb : Cs.byt f.data.toList (1 + k) = 0
            · exact hb
            · exact absurd ⟨by omega, hb⟩ hgo
      have hSl : (Cs.entS f.data.toList).length = k := by
        rw [hS, List.length_take, Cs.entL_len H32.out]; omega
      rw [hSl] at g1
      rw [hSl] at gq
      have e1 : (f.extract 1 (1 + k)).data.toList = Cs.entS f.data.toList := by
        rw [hS, Lib.extract_data]
        unfold Cs.entL
        rw [List.take_take]
        congr 1
        omega
      have e2 : (f.extract (1 + k) 24).data.toList = (Cs.entL f.data.toList).drop k := by
        rw [Lib.extract_data]
        unfold Cs.entL
        rw [List.drop_take, List.drop_drop]
        congr 1
        omega
      have hok : Cs.entOk f.data.toList = (Cs.idR (Cs.entS f.data.toList) && decide ((f.extract (1 + k) 24).data.toList = List.replicate (23 - k) 0)) := by
        unfold Cs.entOk
        rw [hSl, Cs.zeros_all, e2]
        congr 2
        rw [List.length_drop, Cs.entL_len H32.out]
      have hid : Cs.idR (Cs.entS f.data.toList) = (decide (1 ≤ k) && Cs.allP (Cs.entS f.data.toList)) := by
        unfold Cs.idR Cs.allP
        rw [hSl, decide_eq_true (show k ≤ 23 from hk)]
        rfl
      have cP := fun W => rPrintable_same (f.extract 1 (1 + k)) W (by simp; omega)
      rw [e1] at cP
      have cZ := fun W => vZeros_any (23 - (k : Int)) (by omega) (by omega) W
      rw [show (23 - (k : Int)).toNat = 23 - k by omega] at cZ
      have hdl := Kit.len_size f
      have hd24 : f.extract 24 f.size = ⟨(f.data.toList.drop 24).toArray⟩ := by rw [← Lib.extract_to_end f 24]
      have he1 : f.extract 1 (1 + k) = ⟨(Cs.entS f.data.toList).toArray⟩ := by rw [← e1]
      have hstop : (k < 23 ∧ Cs.byt f.data.toList (1 + k) = 0) ∨ k = 23 := by
        by_cases h23 : k = 23
        · right; exact h23
        · left
          refine ⟨by omega, ?_⟩
          by_cases hb : Cs.byt f.data.toList (1 + k) = 0
          · exact hb
          · exact absurd ⟨by omega, hb⟩ hgo
      have hR := HRR.out
      rw [hok, hid] at hR
      have hrl : (List.replicate (23 - k) (0 : UInt8)).length ≤ 23 := by simp
      have htl : ∀ r : Bool, decide ((f.extract (1 + k) 24).data.toList = List.replicate (23 - k) 0) = r → ((f.extract (1 + k) 24).toList == List.replicate (23 - k) (0 : UInt8)) = r := by
        intro r h
        rw [← h, Lib.toList_data]
        rw [Bool.eq_iff_iff]
        simp
      generalize hq : decide ((f.extract (1 + k) 24).data.toList = List.replicate (23 - k) 0) = q at *
      have htq := htl q rfl
      generalize List.replicate (23 - k) (0 : UInt8) = zl at *
      generalize Cs.entS f.data.toList = sl at *
      generalize Cs.allP sl = ap at *
      generalize f.data.toList.drop 24 = d24 at *
      have HE1 := Lib.hid he1
      have H24 := Lib.hid hd24
      have CP := Lib.hid cP; have CZ := Lib.hid cZ
      have hlt : 1 + 22 < f.size := by omega
      have hix : (1 + (k : Int)).toNat = 1 + k := by omega
      clear hgo hS e1 e2 hok hid cP cZ hdl htl hq hd24 he1 HK hSl HRR
      have y1 : IntKind.i64.wrap (1 + (k : Int)) = 1 + (k : Int) := IntWalk.i64_in _ (by omega)
      have y2 : IntKind.i64.wrap (23 - (k : Int)) = 23 - (k : Int) := IntWalk.i64_in _ (by omega)
      have hk0' : ((k : Int) == 0) = false := by rw [beq_eq_false_iff_ne]; omega
      rw [decide_eq_true (show 1 ≤ k from g1)] at hR
      subst ga
      subst gq
      have HR := Lib.hid (hR.trans (if_pos (by first | rfl | (simp; omega))))
      have htn : ((f.extract (1 + k) 24).toList != zl) = false := by rw [bne, htq]; rfl
      clear hR
      rcases hstop with ⟨hk23, hb0⟩ | h23
      · have hlt2 : 1 + k < f.size := by omega
        have b0 := Kit.byt_get f (1 + k) hlt2
        rw [hb0] at b0
        clear hb0
        go_wp2_with fail
        refine wp_region_later wr.heap.size (by kernel_rfl) (by kernel_rfl) ?_
        repeat (any_goals (first | go_big_quiet_skip | (go_big_quiet_want; go_big_quiet_op; first | go_big_quiet_on | (apply Exists.intro; refine ⟨fun _ => ?_, ?_⟩; (first | (go_at_call 146; exact Calls.later_same (CP.out _)) | (go_at_call 81; exact Calls.later_of (Nat.le_refl _) (CZ.out _))); go_big_quiet_on))))
        refine wpQuiet_nil ?_
        intro wq hw'
        obtain ⟨⟨wz, hbq⟩, hw''⟩ := hw'
        subst hw''
        have hc2 := hbw.trans (hbq.mono hbw.size)
        go_wp2_with fail
        go_quiet (fail)
        have hc5 := Kit.Below.drewN hc2 nq
        generalize wq.drewN nq = wy at hc5 ⊢
        go_wp2_with fail
        go_returns
        rw [HR.out]
        refine ⟨?_, hc5⟩
        with_reducible refine congrArg Ending.returned ?_
        simp
        rw [← h32]
        exact ⟨HE1.out, H24.out⟩
      · have hk23' : ¬ (k : Int) < 23 := by omega
        clear h23
        go_wp2_with fail
        refine wp_region_later wr.heap.size (by kernel_rfl) (by kernel_rfl) ?_
        repeat (any_goals (first | go_big_quiet_skip | (go_big_quiet_want; go_big_quiet_op; first | go_big_quiet_on | (apply Exists.intro; refine ⟨fun _ => ?_, ?_⟩; (first | (go_at_call 146; exact Calls.later_same (CP.out _)) | (go_at_call 81; exact Calls.later_of (Nat.le_refl _) (CZ.out _))); go_big_quiet_on))))
        refine wpQuiet_nil ?_
        intro wq hw'
        obtain ⟨⟨wz, hbq⟩, hw''⟩ := hw'
        subst hw''
        have hc2 := hbw.trans (hbq.mono hbw.size)
        go_wp2_with fail
        go_quiet (fail)
        have hc5 := Kit.Below.drewN hc2 nq
        generalize wq.drewN nq = wy at hc5 ⊢
        go_wp2_with fail
        go_returns
        rw [HR.out]
        refine ⟨?_, hc5⟩
        with_reducible refine congrArg Ending.returned ?_
        simp
        rw [← h32]
        exact ⟨HE1.out, H24.out⟩
end Go.Proofs.YthkppbimkjmbnaaGreatDoor

/-
  The reference's ParseEntity, whatever the field.
-/
namespace Go.Proofs.YthkppbimkjmbnaaGreatDoor
open Go.RowKit
set_option maxHeartbeats 1600000 in
set_option maxRecDepth 100000 in
/-- masterdiscref32.ParseEntity. -/
theorem rPent_any (f : ByteArray) (w : World) (_hs : f.size ≤ 9223372036854775807) :
    Calls Tryz.prog 90 #[.string f] w fun e w' => e = .returned (.tuple #[.string ⟨(Cs.pentR f.data.toList).1.1.toArray⟩, .string ⟨(Cs.pentR f.data.toList).1.2.toArray⟩, .int .i64 (Cs.pentR f.data.toList).2]) ∧ Below w.heap.size w w' := by
  have hdl := Kit.len_size f
  by_cases h32 : f.size = 32
  case neg =>
    have HR := Lib.hid (show Cs.pentR f.data.toList = (([], []), 1) from if_pos (by rw [hdl]; exact h32))
    have h32' : ((f.size : Int) != 32) = true := by rw [bne_iff_ne]; omega
    clear hdl h32
    go_enter Tryz.func90, Tryz.ntmps90
    go_wp2_with fail
    go_returns
    rw [HR.out]
    exact ⟨rfl, Below.refl _ _⟩
  case pos =>
  by_cases g0 : (Cs.entS f.data.toList).length = 0
  · exact rPent_Z f w h32 g0
  · cases ga : Cs.allP (Cs.entS f.data.toList) with
    | false => exact rPent_A f w h32 (by omega) ga
    | true =>
      cases gq : decide ((f.extract (1 + (Cs.entS f.data.toList).length) 24).data.toList = List.replicate (23 - (Cs.entS f.data.toList).length) 0) with
      | false => exact rPent_F f w h32 (by omega) ga gq
      | true => exact rPent_T f w h32 (by omega) ga gq
end Go.Proofs.YthkppbimkjmbnaaGreatDoor
