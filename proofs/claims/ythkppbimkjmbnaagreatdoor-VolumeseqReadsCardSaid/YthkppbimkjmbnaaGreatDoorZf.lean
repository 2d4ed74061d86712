/-
  The law's example: awake.
-/
import Derived.Test.YthkppbimkjmbnaaGreatDoorZa
import Derived.Test.YthkppbimkjmbnaaGreatDoorZe
namespace Go.Proofs.YthkppbimkjmbnaaGreatDoor
open Go.RowKit Go.Maps
open Vs (bs by_)
theorem row_new (w : World) (xs : List Value) (T : TypeId) (n : Nat) (hn : xs.length = n) (hl : n ≤ maxLen) : Kit.Row (w.alloc (.cells xs.toArray T)) (.slice (some ⟨w.heap.size, 0, none⟩) n n) xs := by
  subst hn
  refine ⟨some ⟨w.heap.size, 0, none⟩, xs.length, rfl, Nat.le_refl _, hl, fun _ => ⟨w.heap.size, 0, rfl, by simp, fun j u hu => ?_⟩⟩
  rw [Nat.zero_add, World.cell?_alloc_at _ _ _ _ (by simp)]
  simpa using hu

set_option maxHeartbeats 12800000 in
set_option maxRecDepth 100000 in
/-- awake. -/
theorem awake_any (w : World) (m : Int) (hT : Lib.Utf8Tabs 1 2 w) (hM : w.cell? ⟨0, 0, none⟩ = some (.int .i64 m)) :
    Calls Tryz.prog 11 #[] w fun e w' => e = .returned (.bool true) ∧ Below w.heap.size w w' := by
  have HT := Lib.hid hT
  have HM := Lib.hid hM
  obtain ⟨X, hX⟩ : ∃ X, X = Vs.dC Vs.exD := ⟨_, rfl⟩
  have HX1 := Lib.hid (show X.all (·.oneCell') = true by rw [hX]; exact Vs.dC_one _)
  have HXI := Lib.hid (show (Tryz.prog.info? 46).map (·.size) = some X.size by rw [hX]; exact Vs.zC_info)
  have hx22 : X.size = 22 := by rw [hX]; rfl
  have HEQ := Lib.hid (show ∀ W : World, (Op.equalIn 10000 46 (.agg X) (.agg X)).run Tryz.prog W = .ok true W from fun W => by rw [hX]; exact eqIn_refl _ W)
  have CE := Lib.hid (fun W => example_any W)
  have CS := Lib.hid (fun W h => seq_any Vs.exD 32 W h (by decide) (by decide) (by decide))
  have CP := Lib.hid (fun v W h1 h2 h3 => pseq_any v (Vs.seqR Vs.exD 32) 32 W m h1 h2 h3 (fun j hj => by rw [Vs.seqR_size j hj]; decide))
  have CA := Lib.hid (fun W => vAnchor_any 256 32 16 48 16 W)
  have CPA := Lib.hid (fun W => vParseAnchor_any (bs (Vs.blk 2 1 256 (Vs.ancL 32 16 48 16))) 256 W (by rw [Vs.bs_size, Vs.blk_len (by rw [Vs.ancL_len]; decide)]; decide))
  have C1 := Lib.hid (fun W => anchors_any 0 400 false W)
  have C2 := Lib.hid (fun W => anchors_any 100 257 false W)
  have C3 := Lib.hid (fun W => anchors_any 0 400 true W)
  have hlen := Vs.ex_len
  rw [Vs.ex_e] at CS
  rw [Vs.ex_par] at CP
  rw [Vs.ex_anchor] at CA
  rw [Vs.by_bs, Vs.ex_panc] at CPA
  rw [Vs.ex_anc1] at C1
  rw [Vs.ex_anc2] at C2
  rw [Vs.ex_anc3] at C3
  simp only [Vs.spV] at CPA CA CP
  have HXE := Lib.hid hX
  rw [← hX] at CE CS CP
  generalize bs (Vs.blk 2 1 256 (Vs.ancL 32 16 48 16)) = s at *
  obtain ⟨hr1, hr2⟩ := Vs.ex_rec0
  have CR := Lib.hid (fun W => recog_any W)
  have HR0 := Lib.hid (show ∀ u, (Vs.strs Vs.recL)[0]? = some u ↔ u = .string (Vs.recL.getD 0 ⟨#[]⟩) from fun u => ⟨fun h => by cases h; rfl, fun h => by rw [h]; rfl⟩)
  have hl3 : (Vs.strs Vs.recL).length = 3 := rfl
  generalize Vs.recL.getD 0 ⟨#[]⟩ = r0 at *
  generalize Vs.strs Vs.recL = RL at *
  generalize Vs.seqR Vs.exD 32 = SL at *
  clear hT hM hX
  go_enter Tryz.func11, Tryz.ntmps11
  go_wp2_with fail
  with_reducible refine (CR.out _).mono ?_
  rintro e w1 ⟨v1, rfl, ho1, hb1⟩
  obtain ⟨A1, c1, rfl, hcc1, -, hcl1⟩ := Kit.Row.of_own ho1
  rw [hl3] at hcl1 hcc1 ⊢
  obtain ⟨b1, o1, rfl, hbl1, hc1⟩ := hcl1 (by decide)
  have hq1 := hc1 0 _ ((HR0.out _).2 rfl)
  rw [Nat.add_zero] at hq1
  have HQ1 := Lib.hid (show ∀ W, Below w1.heap.size w1 W → W.cell? ⟨b1, o1, none⟩ = some (.string r0) from fun W h => (h.cell (p := ⟨b1, o1, none⟩) hbl1).trans hq1)
  have HB1 := Lib.hid hb1
  clear ho1 hb1 hcl1 hc1 hq1 hbl1
  go_wp2_with fail
  with_reducible refine (CE.out _).mono ?_
  rintro e w2 ⟨rfl, hb2⟩
  have HB2 := Lib.hid (HB1.out.trans (hb2.mono HB1.out.size))
  have HK2 := Lib.hid hb2
  clear hb2
  go_wp2_with fail
  with_reducible refine (CS.out _ (Kit.tabs_below HT.out HB2.out)).mono ?_
  rintro e w3 ⟨v2, rfl, ho2, hb3⟩
  have HB3 := Lib.hid (HB2.out.trans (hb3.mono HB2.out.size))
  have HK3 := Lib.hid (HK2.out.trans (hb3.mono HK2.out.size))
  have HR2 := Lib.hid (Kit.Row.of_own ho2)
  obtain ⟨A2, c2, rfl, -, -, -⟩ := Kit.Row.of_own ho2
  rw [Vs.strs_len, hlen] at *
  clear ho2 hb3
  go_wp2_with fail
  with_reducible refine (CP.out _ w3 HR2.out (Kit.tabs_below HT.out HB3.out) ((HB3.out.cell (p := ⟨0, 0, none⟩) (World.block_lt_of_cell? _ _ HM.out)).trans HM.out)).mono ?_
  rintro e w4 ⟨rfl, hb4⟩
  have hst := Vs.run_put (P := Tryz.prog) (heap_alloc_new w4 (.cells #[.string ⟨#[]⟩, .string ⟨#[]⟩, .string ⟨#[]⟩, .string ⟨#[]⟩, .string ⟨#[]⟩, .int .i64 0, .int .i64 0, .int .i64 0, .int .i64 0, .int .i64 0, .int .i64 0, .int .i64 0, .int .i64 0, .int .i64 0, .int .i64 0, .string ⟨#[]⟩, .int .i64 0, .int .i64 0, .int .i64 0, .int .i64 0, .int .i64 0, .int .i64 0] 46)) X (by rw [hx22]; rfl) HX1.out
  have hba := ((Below.refl w4.heap.size w4).alloc (Nat.le_refl _) (.cells #[.string ⟨#[]⟩, .string ⟨#[]⟩, .string ⟨#[]⟩, .string ⟨#[]⟩, .string ⟨#[]⟩, .int .i64 0, .int .i64 0, .int .i64 0, .int .i64 0, .int .i64 0, .int .i64 0, .int .i64 0, .int .i64 0, .int .i64 0, .int .i64 0, .string ⟨#[]⟩, .int .i64 0, .int .i64 0, .int .i64 0, .int .i64 0, .int .i64 0, .int .i64 0] 46))
  have hbp := Vs.below_put (Nat.le_refl w4.heap.size) X.toList 0 _ hba
  have HB5 := Lib.hid (HB3.out.trans ((hb4.trans (hbp.mono hb4.size)).mono HB3.out.size))
  have HK5 := Lib.hid (HK3.out.trans ((hb4.trans (hbp.mono hb4.size)).mono HK3.out.size))
  have HX5 := Lib.hid (Vs.row_put (cs := X) (heap_alloc_new w4 (.cells #[.string ⟨#[]⟩, .string ⟨#[]⟩, .string ⟨#[]⟩, .string ⟨#[]⟩, .string ⟨#[]⟩, .int .i64 0, .int .i64 0, .int .i64 0, .int .i64 0, .int .i64 0, .int .i64 0, .int .i64 0, .int .i64 0, .int .i64 0, .int .i64 0, .string ⟨#[]⟩, .int .i64 0, .int .i64 0, .int .i64 0, .int .i64 0, .int .i64 0, .int .i64 0] 46)) (by rw [hx22]; rfl))
  clear hb4 hba hbp
  go_upto_region 4 with fail
  clear hst
  generalize (w4.alloc (.cells #[.string ⟨#[]⟩, .string ⟨#[]⟩, .string ⟨#[]⟩, .string ⟨#[]⟩, .string ⟨#[]⟩, .int .i64 0, .int .i64 0, .int .i64 0, .int .i64 0, .int .i64 0, .int .i64 0, .int .i64 0, .int .i64 0, .int .i64 0, .int .i64 0, .string ⟨#[]⟩, .int .i64 0, .int .i64 0, .int .i64 0, .int .i64 0, .int .i64 0, .int .i64 0] 46)).setCells w4.heap.size 0 X.toList = w5 at *
  generalize w4.heap.size = g4 at *
  go_wp2_with fail
  with_reducible refine (CA.out _).mono ?_
  rintro e w6 ⟨rfl, hb6⟩
  have HB6 := Lib.hid (HB5.out.trans (hb6.mono HB5.out.size))
  have HK6 := Lib.hid (HK5.out.trans (hb6.mono HK5.out.size))
  have HX6 := Lib.hid ((hb6.block g4 (Array.getElem?_eq_some_iff.1 HX5.out).1).trans HX5.out)
  clear hb6 HB5 HK5 HX5
  go_wp2_with fail
  with_reducible refine (CPA.out _).mono ?_
  rintro e w7 ⟨rfl, hb7⟩
  have hba := ((Below.refl w7.heap.size w7).alloc (Nat.le_refl _) (.cells #[.int .i64 32, .int .i64 16] 23)).alloc (by simp) (.cells #[.int .i64 48, .int .i64 16] 23)
  have HB7 := Lib.hid (HB6.out.trans ((hb7.trans (hba.mono hb7.size)).mono HB6.out.size))
  have HK7 := Lib.hid (HK6.out.trans ((hb7.trans (hba.mono hb7.size)).mono HK6.out.size))
  have h67 := hb7.trans (hba.mono hb7.size)
  have HX7 := Lib.hid ((h67.block g4 (Array.getElem?_eq_some_iff.1 HX6.out).1).trans HX6.out)
  have HS1 := Lib.hid (heap_alloc2_old w7 (.cells #[.int .i64 32, .int .i64 16] 23) (.cells #[.int .i64 48, .int .i64 16] 23))
  have HS2 := Lib.hid (heap_alloc2_new w7 (.cells #[.int .i64 32, .int .i64 16] 23) (.cells #[.int .i64 48, .int .i64 16] 23))
  have q1 := HQ1.out _ HK7.out
  have hr1' : (r0.size : Int) = 2048 := by omega
  clear hb7 hba h67 HB6 HK6 HX6
  --SEGS
  go_upto_region 6 with fail
  clear q1
  generalize (w7.alloc (.cells #[.int .i64 32, .int .i64 16] 23)).alloc (.cells #[.int .i64 48, .int .i64 16] 23) = w8 at *
  generalize w7.heap.size = sp at *
  simp only [List.append_eq, List.cons_append, List.nil_append]
  refine Sg.first (n := 17) (by kernel_rfl) aw_back aw_g17 aw_lt17 (fun _ _ h => h) (Sg.line [0, 1, 2, 3, 4, 5, 6, 7, 8, 9, 10, 11, 12, 13, 14, 15, 16, 17] [_, _, _, _, _, _, _, _, _, _, _, _, _, _, _, _, _, _] rfl aw_f0 rfl ?_)
  have HB0 := Lib.hid (show Below w.heap.size w w8.drew from HB7.out.drew)
  have q1 := HQ1.out w8.drew HK7.out.drew
  have HX0 := Lib.hid (show w8.drew.heap[g4]? = some (.cells X 46 (0, 0)) from HX7.out)
  have HS1' := Lib.hid (show w8.drew.heap[sp]? = some (.cells #[.int .i64 32, .int .i64 16] 23 (0, 0)) from HS1.out)
  have HS2' := Lib.hid (show w8.drew.heap[sp + 1]? = some (.cells #[.int .i64 48, .int .i64 16] 23 (0, 0)) from HS2.out)
  clear HS1 HS2 HX7 HB7 HK7
  generalize w8.drew = x0 at *
  go_wp2_with fail
  clear q1
  refine Sg.cut (m := 17) (n := 21) [54, 55, 56, 57] (fun vs w' => ∃ v0 v1 v2, vs = [v0, v1, v2, .bool true] ∧ Hid (Below x0.heap.size x0 w')) aw_back aw_g17 (by decide) aw_g21 aw_lt21 ?_ ?_
  case refine_1 =>
    rintro vs x1 ⟨v0, v1, v2, rfl, hb⟩
    have hb0 := hb.out
    clear hb
    have HB1 := Lib.hid (HB0.out.trans (hb0.mono HB0.out.size))
    have HX1 := Lib.hid ((hb0.block g4 (Array.getElem?_eq_some_iff.1 HX0.out).1).trans HX0.out)
    have HS1'1 := Lib.hid ((hb0.block sp (Array.getElem?_eq_some_iff.1 HS1'.out).1).trans HS1'.out)
    have HS2'1 := Lib.hid ((hb0.block (sp + 1) (Array.getElem?_eq_some_iff.1 HS2'.out).1).trans HS2'.out)
    clear hb0 HB0 HX0 HS1' HS2'
    simp only [Sg.puts, Act.put, List.setIfInBounds_toArray, List.set_cons_zero, List.set_cons_succ]
    refine Sg.run (m := 21) (n := 23) [22, 23] [_, _] aw_back aw_g21 (by decide) aw_g23 aw_lt23 rfl aw_f4 rfl ?_
    go_wp2_with fail
    refine Sg.cut (m := 23) (n := 27) [60, 61, 62, 63] (fun vs w' => ∃ v0 v1 v2, vs = [v0, v1, v2, .bool true] ∧ Hid (Below x1.heap.size x1 w')) aw_back aw_g23 (by decide) aw_g27 aw_lt27 ?_ ?_
    case refine_1 =>
      rintro vs x2 ⟨v0, v1, v2, rfl, hb⟩
      have hb1 := hb.out
      clear hb
      have HB2 := Lib.hid (HB1.out.trans (hb1.mono HB1.out.size))
      have HX2 := Lib.hid ((hb1.block g4 (Array.getElem?_eq_some_iff.1 HX1.out).1).trans HX1.out)
      have HS1'2 := Lib.hid ((hb1.block sp (Array.getElem?_eq_some_iff.1 HS1'1.out).1).trans HS1'1.out)
      have HS2'2 := Lib.hid ((hb1.block (sp + 1) (Array.getElem?_eq_some_iff.1 HS2'1.out).1).trans HS2'1.out)
      clear hb1 HB1 HX1 HS1'1 HS2'1
      simp only [Sg.puts, Act.put, List.setIfInBounds_toArray, List.set_cons_zero, List.set_cons_succ]
      refine Sg.run (m := 27) (n := 29) [28, 29] [_, _] aw_back aw_g27 (by decide) aw_g29 aw_lt29 rfl aw_f8 rfl ?_
      go_wp2_with fail
      refine Sg.cut (m := 29) (n := 33) [66, 67, 68, 69] (fun vs w' => ∃ v0 v1 v2, vs = [v0, v1, v2, .bool true] ∧ Hid (Below x2.heap.size x2 w')) aw_back aw_g29 (by decide) aw_g33 aw_lt33 ?_ ?_
      case refine_1 =>
        rintro vs x3 ⟨v0, v1, v2, rfl, hb⟩
        have hb2 := hb.out
        clear hb
        have HB3 := Lib.hid (HB2.out.trans (hb2.mono HB2.out.size))
        have HX3 := Lib.hid ((hb2.block g4 (Array.getElem?_eq_some_iff.1 HX2.out).1).trans HX2.out)
        have HS1'3 := Lib.hid ((hb2.block sp (Array.getElem?_eq_some_iff.1 HS1'2.out).1).trans HS1'2.out)
        have HS2'3 := Lib.hid ((hb2.block (sp + 1) (Array.getElem?_eq_some_iff.1 HS2'2.out).1).trans HS2'2.out)
        clear hb2 HB2 HX2 HS1'2 HS2'2
        simp only [Sg.puts, Act.put, List.setIfInBounds_toArray, List.set_cons_zero, List.set_cons_succ]
        refine Sg.run (m := 33) (n := 52) [34, 35, 36, 37, 38, 39, 40, 41, 42, 43, 44, 45, 46, 47, 48, 49, 50, 51, 52] [_, _, _, _, _, _, _, _, _, _, _, _, _, _, _, _, _, _, _] aw_back aw_g33 (by decide) aw_g52 aw_lt52 rfl aw_f12 rfl ?_
        go_wp2_with fail
        refine Sg.cut (m := 52) (n := 55) [89, 90, 91] (fun vs w' => vs = [.agg X, .agg X, .bool true] ∧ Hid (Below x3.heap.size x3 w')) aw_back aw_g52 (by decide) aw_g55 aw_lt55 ?_ ?_
        case refine_1 =>
          rintro vs x4 ⟨rfl, hb⟩
          have hb3 := hb.out
          clear hb
          have HB4 := Lib.hid (HB3.out.trans (hb3.mono HB3.out.size))
          have HX4 := Lib.hid ((hb3.block g4 (Array.getElem?_eq_some_iff.1 HX3.out).1).trans HX3.out)
          have HS1'4 := Lib.hid ((hb3.block sp (Array.getElem?_eq_some_iff.1 HS1'3.out).1).trans HS1'3.out)
          have HS2'4 := Lib.hid ((hb3.block (sp + 1) (Array.getElem?_eq_some_iff.1 HS2'3.out).1).trans HS2'3.out)
          clear hb3 HB3 HX3 HS1'3 HS2'3
          simp only [Sg.puts, Act.put, List.setIfInBounds_toArray, List.set_cons_zero, List.set_cons_succ]
          refine Sg.run (m := 55) (n := 65) [56, 57, 58, 59, 60, 61, 62, 63, 64, 65] [_, _, _, _, _, _, _, _, _, _] aw_back aw_g55 (by decide) aw_g65 aw_lt65 rfl aw_f15 rfl ?_
          go_wp2_with fail
          refine Sg.cut (m := 65) (n := 68) [102, 103, 104] (fun vs w' => vs = [.agg #[.int .i64 32, .int .i64 16], .agg #[.int .i64 32, .int .i64 16], .bool true] ∧ x4 = w') aw_back aw_g65 (by decide) aw_g68 aw_lt68 ?_ ?_
          case refine_1 =>
            rintro vs w' ⟨rfl, rfl⟩
            simp only [Sg.puts, Act.put, List.setIfInBounds_toArray, List.set_cons_zero, List.set_cons_succ]
            refine Sg.run (m := 68) (n := 70) [69, 70] [_, _] aw_back aw_g68 (by decide) aw_g70 aw_lt70 rfl aw_f18 rfl ?_
            go_wp2_with fail
            refine Sg.cut (m := 70) (n := 73) [107, 108, 109] (fun vs w' => vs = [.agg #[.int .i64 48, .int .i64 16], .agg #[.int .i64 48, .int .i64 16], .bool true] ∧ x4 = w') aw_back aw_g70 (by decide) aw_g73 aw_lt73 ?_ ?_
            case refine_1 =>
              rintro vs w' ⟨rfl, rfl⟩
              simp only [Sg.puts, Act.put, List.setIfInBounds_toArray, List.set_cons_zero, List.set_cons_succ]
              refine Sg.run (m := 73) (n := 75) [74, 75] [_, _] aw_back aw_g73 (by decide) aw_g75 aw_lt75 rfl aw_f21 rfl ?_
              go_wp2_with fail
              refine Sg.last aw_sz ?_
              go_wp2_with fail
              go_ret
              exact ⟨rfl, HB4.out⟩
            case refine_2 =>
              have z0 := cell_of_row _ _ 0 _ _ _ HS2'4.out
              have z1 := cell_of_row _ _ 1 _ _ _ HS2'4.out
              simp only [List.getElem?_toArray, List.getElem?_cons_zero, List.getElem?_cons_succ] at z0 z1
              refine Sg.fork 71 72 _ _ aw_r8 rfl rfl ?_ ?_
              · go_wp2_with fail
                refine Sg.line [72, 73] [_, _] rfl aw_f19 rfl ?_
                go_wp2_with fail
                exact ⟨[_, _, _], rfl, rfl, trivial⟩
              · go_wp2_with fail
                refine Sg.line [71, 73] [_, _] rfl aw_f20 rfl ?_
                go_wp2_with fail
                exact ⟨[_, _, _], rfl, rfl, trivial⟩
          case refine_2 =>
            have z0 := cell_of_row _ _ 0 _ _ _ HS1'4.out
            have z1 := cell_of_row _ _ 1 _ _ _ HS1'4.out
            simp only [List.getElem?_toArray, List.getElem?_cons_zero, List.getElem?_cons_succ] at z0 z1
            refine Sg.fork 66 67 _ _ aw_r7 rfl rfl ?_ ?_
            · go_wp2_with fail
              refine Sg.line [67, 68] [_, _] rfl aw_f16 rfl ?_
              go_wp2_with fail
              exact ⟨[_, _, _], rfl, rfl, trivial⟩
            · go_wp2_with fail
              refine Sg.line [66, 68] [_, _] rfl aw_f17 rfl ?_
              go_wp2_with fail
              exact ⟨[_, _, _], rfl, rfl, trivial⟩
        case refine_2 =>
          refine Sg.fork 53 54 _ _ aw_r6 rfl rfl ?_ ?_
          · have HLD := Lib.hid (Vs.box_load _ HXE.out HX3.out)
            go_wp2_with (refine wpList_load_at 46 _ rfl g4 0 rfl _ HLD.out (by rfl) ?_)
            refine Sg.line [54, 55] [_, _] rfl aw_f13 rfl ?_
            go_wp2_with fail
            with_reducible refine (CE.out _).mono ?_
            rintro e wq ⟨rfl, hbq⟩
            have HBQ := Lib.hid hbq
            clear hbq
            go_wp2_with (refine wpList_eqD _ _ _ rfl X (by rfl) (by rfl) (HEQ.out _) (by rfl) ?_)
            exact ⟨[_, _, _], rfl, rfl, HBQ⟩
          · go_wp2_with fail
            with_reducible refine (CE.out _).mono ?_
            rintro e wq ⟨rfl, hbq⟩
            have HLD := Lib.hid (Vs.box_load _ HXE.out ((hbq.block g4 (Array.getElem?_eq_some_iff.1 HX3.out).1).trans HX3.out))
            have HBQ := Lib.hid hbq
            clear hbq
            go_wp2_with fail
            refine Sg.line [53, 55] [_, _] rfl aw_f14 rfl ?_
            go_wp2_with (first | (refine wpList_load_at 46 _ rfl g4 0 rfl _ HLD.out (by rfl) ?_) | (refine wpList_eqD _ _ _ rfl X (by rfl) (by rfl) (HEQ.out _) (by rfl) ?_))
            exact ⟨[_, _, _], rfl, rfl, HBQ⟩
      case refine_2 =>
        have HRB := Lib.hid (show Kit.Row (x2.alloc (.cells #[.int .i64 256] 3)) (.slice (some ⟨x2.heap.size, 0, none⟩) 1 1) (Kit.izs [256]) from row_new x2 (Kit.izs [256]) 3 1 rfl (by unfold maxLen; omega))
        have HAL := Lib.hid (show Below x2.heap.size x2 (x2.alloc (.cells #[.int .i64 256] 3)) from (Below.refl _ _).alloc (Nat.le_refl _) _)
        refine Sg.fork 30 32 _ _ aw_r4 rfl rfl ?_ ?_
        · go_wp2_with fail
          refine Sg.fork 31 32 _ _ aw_r5 rfl rfl ?_ ?_
          · go_wp2_with fail
            with_reducible refine (C3.out _).mono ?_
            rintro e wa ⟨va, rfl, hoa, hba⟩
            go_wp2_with fail
            refine Sg.line [32, 33] [_, _] rfl aw_f9 rfl ?_
            have hra := (Kit.Row.of_own hoa).below ((Below.refl wa.heap.size wa).alloc (Nat.le_refl _) (.cells #[.int .i64 256] 3))
            have hrb : Kit.Row (wa.alloc (.cells #[.int .i64 256] 3)) (.slice (some ⟨wa.heap.size, 0, none⟩) 1 1) (Kit.izs [256]) := row_new wa (Kit.izs [256]) 3 1 rfl (by unfold maxLen; omega)
            have CQ := Lib.hid (equalI_same _ _ [256] _ hra hrb)
            have HBA := Lib.hid (hba.trans (((Below.refl wa.heap.size wa).alloc (Nat.le_refl _) (.cells #[.int .i64 256] 3)).mono hba.size))
            clear hra hrb hoa hba
            go_wp2_with fail
            with_reducible refine CQ.out.mono ?_
            rintro e wq ⟨rfl, hbq⟩
            have HBQ := Lib.hid (HBA.out.trans (hbq.mono HBA.out.size))
            clear hbq
            go_wp2_with fail
            exact ⟨[_, _, _, _], rfl, _, _, _, rfl, HBQ⟩
          · go_wp2_with fail
            refine Sg.line [31, 33] [_, _] rfl aw_f10 rfl ?_
            go_wp2_with fail
            with_reducible refine (C3.out _).mono ?_
            rintro e wa ⟨va, rfl, hoa, hba⟩
            have hra := Kit.Row.of_own hoa
            have CQ := Lib.hid (equalI_same _ _ [256] _ hra (HRB.out.below hba))
            have HBA := Lib.hid (HAL.out.trans (hba.mono HAL.out.size))
            clear hra hoa hba
            go_wp2_with fail
            with_reducible refine CQ.out.mono ?_
            rintro e wq ⟨rfl, hbq⟩
            have HBQ := Lib.hid (HBA.out.trans (hbq.mono HBA.out.size))
            clear hbq
            go_wp2_with fail
            exact ⟨[_, _, _, _], rfl, _, _, _, rfl, HBQ⟩
        · go_wp2_with fail
          refine Sg.line [30, 31, 33] [_, _, _] rfl aw_f11 rfl ?_
          go_wp2_with fail
          with_reducible refine (C3.out _).mono ?_
          rintro e wa ⟨va, rfl, hoa, hba⟩
          have hra := Kit.Row.of_own hoa
          have CQ := Lib.hid (equalI_same _ _ [256] _ hra (HRB.out.below hba))
          have HBA := Lib.hid (HAL.out.trans (hba.mono HAL.out.size))
          clear hra hoa hba
          go_wp2_with fail
          with_reducible refine CQ.out.mono ?_
          rintro e wq ⟨rfl, hbq⟩
          have HBQ := Lib.hid (HBA.out.trans (hbq.mono HBA.out.size))
          clear hbq
          go_wp2_with fail
          exact ⟨[_, _, _, _], rfl, _, _, _, rfl, HBQ⟩
    case refine_2 =>
      have HRB := Lib.hid (show Kit.Row (x1.alloc (.cells #[.int .i64 100, .int .i64 356] 3)) (.slice (some ⟨x1.heap.size, 0, none⟩) 2 2) (Kit.izs [100, 356]) from row_new x1 (Kit.izs [100, 356]) 3 2 rfl (by unfold maxLen; omega))
      have HAL := Lib.hid (show Below x1.heap.size x1 (x1.alloc (.cells #[.int .i64 100, .int .i64 356] 3)) from (Below.refl _ _).alloc (Nat.le_refl _) _)
      refine Sg.fork 24 26 _ _ aw_r2 rfl rfl ?_ ?_
      · go_wp2_with fail
        refine Sg.fork 25 26 _ _ aw_r3 rfl rfl ?_ ?_
        · go_wp2_with fail
          with_reducible refine (C2.out _).mono ?_
          rintro e wa ⟨va, rfl, hoa, hba⟩
          go_wp2_with fail
          refine Sg.line [26, 27] [_, _] rfl aw_f5 rfl ?_
          have hra := (Kit.Row.of_own hoa).below ((Below.refl wa.heap.size wa).alloc (Nat.le_refl _) (.cells #[.int .i64 100, .int .i64 356] 3))
          have hrb : Kit.Row (wa.alloc (.cells #[.int .i64 100, .int .i64 356] 3)) (.slice (some ⟨wa.heap.size, 0, none⟩) 2 2) (Kit.izs [100, 356]) := row_new wa (Kit.izs [100, 356]) 3 2 rfl (by unfold maxLen; omega)
          have CQ := Lib.hid (equalI_same _ _ [100, 356] _ hra hrb)
          have HBA := Lib.hid (hba.trans (((Below.refl wa.heap.size wa).alloc (Nat.le_refl _) (.cells #[.int .i64 100, .int .i64 356] 3)).mono hba.size))
          clear hra hrb hoa hba
          go_wp2_with fail
          with_reducible refine CQ.out.mono ?_
          rintro e wq ⟨rfl, hbq⟩
          have HBQ := Lib.hid (HBA.out.trans (hbq.mono HBA.out.size))
          clear hbq
          go_wp2_with fail
          exact ⟨[_, _, _, _], rfl, _, _, _, rfl, HBQ⟩
        · go_wp2_with fail
          refine Sg.line [25, 27] [_, _] rfl aw_f6 rfl ?_
          go_wp2_with fail
          with_reducible refine (C2.out _).mono ?_
          rintro e wa ⟨va, rfl, hoa, hba⟩
          have hra := Kit.Row.of_own hoa
          have CQ := Lib.hid (equalI_same _ _ [100, 356] _ hra (HRB.out.below hba))
          have HBA := Lib.hid (HAL.out.trans (hba.mono HAL.out.size))
          clear hra hoa hba
          go_wp2_with fail
          with_reducible refine CQ.out.mono ?_
          rintro e wq ⟨rfl, hbq⟩
          have HBQ := Lib.hid (HBA.out.trans (hbq.mono HBA.out.size))
          clear hbq
          go_wp2_with fail
          exact ⟨[_, _, _, _], rfl, _, _, _, rfl, HBQ⟩
      · go_wp2_with fail
        refine Sg.line [24, 25, 27] [_, _, _] rfl aw_f7 rfl ?_
        go_wp2_with fail
        with_reducible refine (C2.out _).mono ?_
        rintro e wa ⟨va, rfl, hoa, hba⟩
        have hra := Kit.Row.of_own hoa
        have CQ := Lib.hid (equalI_same _ _ [100, 356] _ hra (HRB.out.below hba))
        have HBA := Lib.hid (HAL.out.trans (hba.mono HAL.out.size))
        clear hra hoa hba
        go_wp2_with fail
        with_reducible refine CQ.out.mono ?_
        rintro e wq ⟨rfl, hbq⟩
        have HBQ := Lib.hid (HBA.out.trans (hbq.mono HBA.out.size))
        clear hbq
        go_wp2_with fail
        exact ⟨[_, _, _, _], rfl, _, _, _, rfl, HBQ⟩
  case refine_2 =>
    have HRB := Lib.hid (show Kit.Row (x0.alloc (.cells #[.int .i64 143, .int .i64 256, .int .i64 399] 3)) (.slice (some ⟨x0.heap.size, 0, none⟩) 3 3) (Kit.izs [143, 256, 399]) from row_new x0 (Kit.izs [143, 256, 399]) 3 3 rfl (by unfold maxLen; omega))
    have HAL := Lib.hid (show Below x0.heap.size x0 (x0.alloc (.cells #[.int .i64 143, .int .i64 256, .int .i64 399] 3)) from (Below.refl _ _).alloc (Nat.le_refl _) _)
    refine Sg.fork 18 20 _ _ aw_r0 rfl rfl ?_ ?_
    · go_wp2_with fail
      refine Sg.fork 19 20 _ _ aw_r1 rfl rfl ?_ ?_
      · go_wp2_with fail
        with_reducible refine (C1.out _).mono ?_
        rintro e wa ⟨va, rfl, hoa, hba⟩
        go_wp2_with fail
        refine Sg.line [20, 21] [_, _] rfl aw_f1 rfl ?_
        have hra := (Kit.Row.of_own hoa).below ((Below.refl wa.heap.size wa).alloc (Nat.le_refl _) (.cells #[.int .i64 143, .int .i64 256, .int .i64 399] 3))
        have hrb : Kit.Row (wa.alloc (.cells #[.int .i64 143, .int .i64 256, .int .i64 399] 3)) (.slice (some ⟨wa.heap.size, 0, none⟩) 3 3) (Kit.izs [143, 256, 399]) := row_new wa (Kit.izs [143, 256, 399]) 3 3 rfl (by unfold maxLen; omega)
        have CQ := Lib.hid (equalI_same _ _ [143, 256, 399] _ hra hrb)
        have HBA := Lib.hid (hba.trans (((Below.refl wa.heap.size wa).alloc (Nat.le_refl _) (.cells #[.int .i64 143, .int .i64 256, .int .i64 399] 3)).mono hba.size))
        clear hra hrb hoa hba
        go_wp2_with fail
        with_reducible refine CQ.out.mono ?_
        rintro e wq ⟨rfl, hbq⟩
        have HBQ := Lib.hid (HBA.out.trans (hbq.mono HBA.out.size))
        clear hbq
        go_wp2_with fail
        exact ⟨[_, _, _, _], rfl, _, _, _, rfl, HBQ⟩
      · go_wp2_with fail
        refine Sg.line [19, 21] [_, _] rfl aw_f2 rfl ?_
        go_wp2_with fail
        with_reducible refine (C1.out _).mono ?_
        rintro e wa ⟨va, rfl, hoa, hba⟩
        have hra := Kit.Row.of_own hoa
        have CQ := Lib.hid (equalI_same _ _ [143, 256, 399] _ hra (HRB.out.below hba))
        have HBA := Lib.hid (HAL.out.trans (hba.mono HAL.out.size))
        clear hra hoa hba
        go_wp2_with fail
        with_reducible refine CQ.out.mono ?_
        rintro e wq ⟨rfl, hbq⟩
        have HBQ := Lib.hid (HBA.out.trans (hbq.mono HBA.out.size))
        clear hbq
        go_wp2_with fail
        exact ⟨[_, _, _, _], rfl, _, _, _, rfl, HBQ⟩
    · go_wp2_with fail
      refine Sg.line [18, 19, 21] [_, _, _] rfl aw_f3 rfl ?_
      go_wp2_with fail
      with_reducible refine (C1.out _).mono ?_
      rintro e wa ⟨va, rfl, hoa, hba⟩
      have hra := Kit.Row.of_own hoa
      have CQ := Lib.hid (equalI_same _ _ [143, 256, 399] _ hra (HRB.out.below hba))
      have HBA := Lib.hid (HAL.out.trans (hba.mono HAL.out.size))
      clear hra hoa hba
      go_wp2_with fail
      with_reducible refine CQ.out.mono ?_
      rintro e wq ⟨rfl, hbq⟩
      have HBQ := Lib.hid (HBA.out.trans (hbq.mono HBA.out.size))
      clear hbq
      go_wp2_with fail
      exact ⟨[_, _, _, _], rfl, _, _, _, rfl, HBQ⟩
end Go.Proofs.YthkppbimkjmbnaaGreatDoor
