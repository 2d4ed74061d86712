/-
  The walk through the reference's ParseSequence: the second descriptor.
-/
import Derived.Test.YthkppbimkjmbnaaGreatDoorXm
namespace Go.Proofs.YthkppbimkjmbnaaGreatDoor
set_option linter.unusedVariables false
open Go.RowKit
open Vs (bs by_)

set_option maxHeartbeats 25600000 in
set_option maxRecDepth 100000 in
/-- masterdiscref36.ParseSequence: the second descriptor. -/
theorem rpseq_second {u2 u3 u5 u6 u8 u10 u11 u12 u13 u14 u17 u18 u19 u20 u21 u22 u23 u24 u25 u26 u27 u28 u29 u30 u31 u32 u33 u34 u35 u36 u37 u38 u39 u40 u41 u42 u43 u44 u45 u46 u47 u48 u49 u50 u51 u52 u53 u54 u55 u56 u57 u58 u59 u60 u61 u62 u63 u64 u65 u66 u67 u68 u69 u70 u71 u72 u73 u74 u75 u76 u77 u78 u79 u80 u81 u82 u83 u84 u85 u86 u87 u88 u89 u90 u91 u92 u93 u94 u95 u96 u97 u98 u99 u100 u101 u102 u103 u104 u105 u106 u107 u108 u109 u110 u111 u112 u113 u114 u115 u116 u117 u118 u119 u120 u121 u122 u123 u124 u125 u126 u127 u128 u129 u130 u131 u132 u133 u134 u135 u136 u137 u138 u139 u140 u141 u142 u143 u144 u145 u146 u147 u148 u149 u150 u151 u152 u153 u154 u155 u156 u157 u158 u159 u160 u161 u162 u163 u164 u165 u166 u167 u168 u169 u170 u171 u172 u173 u174 u175 u176 u177 u178 u179 u180 u181 u182 u183 u184 u185 u186 u187 u188 u189 u190 u191 u192 u193 u194 u195 u196 u197 u198 u199 u200 u201 u202 u203 u204 u205 u206 u207 u208 u209 u210 u211 u212 u213 u214 u215 u216 u217 u218 u219 u220 u221 u222 u223 u224 u225 u226 u227 u228 u229 u230 u231 u232 u233 u234 u235 u236 u237 u238 u239 u240 u241 u242 u243 u244 u245 u246 u247 u248 u249 u250 u251 u252 u253 u254 u255 u256 u257 u258 u259 u260 u261 u262 u263 u264 u265 u266 u267 u268 u269 u270 u271 u272 u273 u274 u275 u276 u277 u278 u279 u280 u281 u282 u283 u284 u285 u286 u287 u288 u289 u290 u291 u292 u293 u294 u295 u296 u297 u298 u299 u300 u301 u302 u303 u304 u305 u306 u307 u308 u309 u310 u311 u312 u313 u314 u315 u316 : Value} (l : List ByteArray) (loc : Int) (w : World) (Z : Array Value) (bb o c gi gb gd na nb nc : Nat) (sa sb sc : ByteArray)
    (HZ : Hid (Z = Vs.dC Vs.d0)) (HZ1 : Hid (Z.all (·.oneCell') = true)) (HZI : Hid ((Tryz.prog.info? 46).map (·.size) = some Z.size)) (hz22 : Z.size = 22)
    (hl' : l.length ≤ 1024) (hna : na < l.length) (hnb : nb < l.length) (hnc : nc < l.length) (hza : sa.size = 2048) (hzb : sb.size = 2048) (hzc : sc.size = 2048)
    (HQ : Hid (∀ W : World, Below w.heap.size w W → W.cell? ⟨bb, o + na, none⟩ = some (.string sa) ∧ W.cell? ⟨bb, o + nb, none⟩ = some (.string sb) ∧ W.cell? ⟨bb, o + nc, none⟩ = some (.string sc)))
    (HR3 : Hid (Vs.parR l loc = Vs.par3 ⟨sa, na, Vs.sqB sa⟩ ⟨sb, nb, Vs.sqB sb⟩ ⟨sc, nc, Vs.sqB sc⟩))
    (HP1 : Hid (Vs.p1E (by_ sa) Vs.d0 = 0)) (HK1 : Hid (Vs.okVol (Vs.p1V (by_ sa) Vs.d0.vol) = true)) (w5 : World) (HD5 : Hid (Vs.Pd w w5 gi gb gd Z (na : Int) (nb : Int) (nc : Int) (Vs.p1D (by_ sa) Vs.exR))) :
    (Vs.dropC 16 (Tryz.f27.body.getD Code.skip)).wp Tryz.prog (bodyPost Tryz.prog Tryz.f27 (fun e w' => e = .returned (.tuple #[.agg (Vs.dC (Vs.parR l loc).1.1), .int .i64 (Vs.parR l loc).1.2, .int .i64 (Vs.parR l loc).2]) ∧ Below w.heap.size w w')) ⟨#[.slice (some ⟨bb, o, none⟩) l.length c, .int .i64 loc, u2, u3, .pointer (some ⟨w.heap.size, 0, none⟩), u5, u6, .pointer (some ⟨w.heap.size + 1, 0, none⟩), u8, .slice (some ⟨gb, 0, none⟩) 3 3, u10, u11, u12, u13, u14, .pointer (some ⟨gd, 0, none⟩), .string sb, u17, u18, u19, u20, u21, u22, u23, u24, u25, u26, u27, u28, u29, u30, u31, u32, u33, u34, u35, u36, u37, u38, u39, u40, u41, u42, u43, u44, u45, u46, u47, u48, u49, u50, u51, u52, u53, u54, u55, u56, u57, u58, u59, u60, u61, u62, u63, u64, u65, u66, u67, u68, u69, u70, u71, u72, u73, u74, u75, u76, u77, u78, u79, u80, u81, u82, u83, u84, u85, u86, u87, u88, u89, u90, u91, u92, u93, u94, u95, u96, u97, u98, u99, u100, u101, u102, u103, u104, u105, u106, u107, u108, u109, u110, u111, u112, u113, u114, u115, u116, u117, u118, u119, u120, u121, u122, u123, u124, u125, u126, u127, u128, u129, u130, u131, u132, u133, u134, u135, u136, u137, u138, u139, u140, u141, u142, u143, u144, u145, u146, u147, u148, u149, u150, u151, u152, u153, u154, u155, u156, u157, u158, u159, u160, u161, u162, u163, u164, u165, u166, u167, u168, u169, u170, u171, u172, u173, u174, u175, u176, u177, u178, u179, u180, u181, u182, u183, u184, u185, u186, u187, u188, u189, u190, u191, u192, u193, u194, u195, u196, u197, u198, u199, u200, u201, u202, u203, u204, u205, u206, u207, u208, u209, u210, u211, u212, u213, u214, u215, u216, u217, u218, u219, u220, u221, u222, u223, u224, u225, u226, u227, u228, u229, u230, u231, u232, u233, u234, u235, u236, u237, u238, u239, u240, u241, u242, u243, u244, u245, u246, u247, u248, u249, u250, u251, u252, u253, u254, u255, u256, u257, u258, u259, u260, u261, u262, u263, u264, u265, u266, u267, u268, u269, u270, u271, u272, u273, u274, u275, u276, u277, u278, u279, u280, u281, u282, u283, u284, u285, u286, u287, u288, u289, u290, u291, u292, u293, u294, u295, u296, u297, u298, u299, u300, u301, u302, u303, u304, u305, u306, u307, u308, u309, u310, u311, u312, u313, u314, u315, u316], []⟩ w5 := by
    generalize hQ : bodyPost Tryz.prog Tryz.f27 _ = Q
    rw [show Vs.dropC 16 (Tryz.f27.body.getD Code.skip) = Code.seq (Vs.headC (Vs.dropC 16 (Tryz.f27.body.getD Code.skip))) (Code.seq (Vs.headC (Vs.dropC 17 (Tryz.f27.body.getD Code.skip))) (Vs.dropC 18 (Tryz.f27.body.getD Code.skip))) from rfl]
    generalize hR : Vs.dropC 18 (Tryz.f27.body.getD Code.skip) = R
    have HRR := Lib.hid hR
    clear hR
    dsimp only [Vs.headC, Vs.dropC, Tryz.f27, Option.getD_some]
    let Q2 := bodyPost Tryz.prog Tryz.f27 (fun e w' => e = .returned (.tuple #[.agg (Vs.dC (Vs.parR l loc).1.1), .int .i64 (Vs.parR l loc).1.2, .int .i64 (Vs.parR l loc).2]) ∧ Below w.heap.size w w')
    obtain rfl : Q2 = Q := hQ
    -- the second descriptor
    obtain ⟨x2, ex2⟩ : ∃ x, sb.extract 24 56 = x := ⟨_, rfl⟩
    have bx2 : by_ x2 = Vs.sl (by_ sb) 24 32 := by rw [← ex2, Vs.bs_ext]; rfl
    have zx2 : x2.size ≤ 2048 := by rw [← ex2, ByteArray.size_extract]; omega
    have CE2 := Lib.hid (fun W => show Calls Tryz.prog 90 #[.string x2] W fun e w' => e = .returned (.tuple #[.string (bs (Cs.pentR (by_ x2)).1.1), .string (bs (Cs.pentR (by_ x2)).1.2), .int .i64 (Cs.pentR (by_ x2)).2]) ∧ Below W.heap.size W w' from rPent_any x2 W (by omega))
    rw [bx2] at CE2
    have HE2 := Lib.hid (Vs.p2E_eq (by_ sb))
    generalize Cs.pentR (Vs.sl (by_ sb) 24 32) = pr2 at *
    obtain ⟨⟨ci, cs⟩, pe2⟩ := pr2
    simp only [] at *
    clear bx2
    obtain ⟨-, b0, b1, b2⟩ := HD5.out.pq.cells
    obtain ⟨-, qb, -⟩ := HQ.out _ HD5.out.pq.box.bel
    have hsb : (sb.size : Int) = 2048 := by omega
    go_wp2_with fail
    with_reducible refine (CE2.out _).mono ?_
    rintro e w6 ⟨rfl, hb6⟩
    have HD6 := Lib.hid (HD5.out.below hb6)
    clear hb6 HD5 b0 b1 b2 qb CE2 hsb ex2
    obtain ⟨B2, hB2⟩ : ∃ B : Bool, B = decide (pe2 = 0 ∧ ci ≠ Vs.contN2 ∧ ci ≠ Vs.contN) := ⟨_, rfl⟩
    go_upto_region 35 with fail
    go_cut [211] (fun s211 wx => s211 = .bool B2 ∧ wx = w6)
    case first =>
      by_cases h1 : pe2 = 0
      case neg =>
        have d1 : (pe2 == 0) = false := by rw [beq_eq_false_iff_ne]; exact h1
        have hB := Lib.hid (hB2.trans (decide_eq_false (fun h => h1 h.1)))
        clear h1 hB2
        go_wp2_with fail
        go_meet
        exact ⟨by rw [hB.out], rfl⟩
      by_cases h2 : ci = Vs.contN2
      · have f1 : ((bs ci).toList == [43, 78, 83, 82, 48, 50]) = true := by rw [Lib.toList_data, beq_iff_eq]; exact h2
        have hB := Lib.hid (hB2.trans (decide_eq_false (fun h => h.2.1 h2)))
        clear h2 hB2
        subst h1
        go_wp2_with fail
        go_meet
        exact ⟨by rw [hB.out], rfl⟩
      have f1 : ((bs ci).toList == [43, 78, 83, 82, 48, 50]) = false := by rw [Lib.toList_data, beq_eq_false_iff_ne]; exact h2
      by_cases h3 : ci = Vs.contN
      · have f2 : ((bs ci).toList == [43, 78, 83, 82, 48, 51]) = true := by rw [Lib.toList_data, beq_iff_eq]; exact h3
        have hB := Lib.hid (hB2.trans (decide_eq_false (fun h => h.2.2 h3)))
        clear h2 h3 hB2
        subst h1
        go_wp2_with fail
        go_meet
        exact ⟨by rw [hB.out], rfl⟩
      have f2 : ((bs ci).toList == [43, 78, 83, 82, 48, 51]) = false := by rw [Lib.toList_data, beq_eq_false_iff_ne]; exact h3
      have hB := Lib.hid (hB2.trans (decide_eq_true ⟨h1, h2, h3⟩))
      clear h2 h3 hB2
      subst h1
      go_wp2_with fail
      go_meet
      exact ⟨by rw [hB.out], rfl⟩
    case rest =>
    obtain ⟨rfl, rfl⟩ := hcut
    have HB2 := Lib.hid hB2
    clear hB2
    cases B2 with
    | true =>
      have hh := of_decide_eq_true HB2.out.symm
      have HRE := Lib.hid (HR3.out.trans (Vs.par3_2 HP1.out (HE2.out.trans ((if_neg (by simp [hh.1])).trans (if_pos hh.2))) (by decide)))
      clear hh HR3 HE2
      go_wp2_with fail
      have HSD := (show Vs.Pq w wc.drew gi gb Z (na : Int) (nb : Int) (nc : Int) from HD6.out.pq.below (Below.refl _ _).drew)
      refine wp_region_held_drew (S := fun W => Vs.Pq w W gi gb Z (na : Int) (nb : Int) (nc : Int)) (by kernel_rfl) HSD (fun _ => ?_)
      refine wpAnyH_take (i := 0) (v := .agg Z) rfl (by kernel_rfl) (by kernel_rfl) (by kernel_rfl) (fun _ _ _ h => h) (Or.inl ⟨by rfl, yields_load3 46 _ rfl (w.heap.size + 1) 0 rfl _ (fun W h => Vs.box_load Vs.d0 HZ.out h.box.hn)⟩) (by assumption) ?_
      try simp only [Act.put, List.setIfInBounds_toArray, List.set_cons_zero, List.set_cons_succ, List.getElem_toArray, List.getElem_cons_zero]
      refine wpAnyH_take (i := 1) (v := .slice (some ⟨gb, 0, none⟩) 3 3) rfl (by kernel_rfl) (by kernel_rfl) (by kernel_rfl) (fun _ _ _ h => h) (Or.inl ⟨by rfl, by intro w hSw; go_simp⟩) (by assumption) ?_
      try simp only [Act.put, List.setIfInBounds_toArray, List.set_cons_zero, List.set_cons_succ, List.getElem_toArray, List.getElem_cons_zero, List.getElem_cons_succ]
      refine wpAnyH_take (i := 2) (v := .pointer (some ⟨gb, 1, none⟩)) rfl (by kernel_rfl) (by kernel_rfl) (by kernel_rfl) (fun _ _ _ h => h) (Or.inl ⟨by rfl, by intro w hSw; go_simp⟩) (by assumption) ?_
      try simp only [Act.put, List.setIfInBounds_toArray, List.set_cons_zero, List.set_cons_succ, List.getElem_toArray, List.getElem_cons_zero, List.getElem_cons_succ]
      refine wpAnyH_take (i := 3) (v := .int .i64 (nb : Int)) rfl (by kernel_rfl) (by kernel_rfl) (by kernel_rfl) (fun _ _ _ h => h) (Or.inl ⟨by rfl, by intro w hSw; have hc := hSw.cells.2.2.1; go_simp⟩) (by assumption) ?_
      try simp only [Act.put, List.setIfInBounds_toArray, List.set_cons_zero, List.set_cons_succ, List.getElem_toArray, List.getElem_cons_zero, List.getElem_cons_succ]
      have hst := Vs.run_put (P := Tryz.prog) HSD.box.hr Z rfl HZ1.out
      have HS1 := HSD.same
      refine wpAnyH_ready (rs := [4]) (by kernel_rfl) (by simp) ?_
      refine AllReadyH.cons rfl (fun K hK => ?_) AllReadyH.nil
      go_simp
      refine hK.out _ _ HS1 (fun _ => ?_)
      clear hK K hst
      try simp only [Act.put, List.setIfInBounds_toArray, List.set_cons_zero, List.set_cons_succ, List.getElem_toArray, List.getElem_cons_zero, List.getElem_cons_succ]
      refine wpAnyH_take (i := 5) (v := .int .i64 (nb : Int)) rfl (by kernel_rfl) (by kernel_rfl) (by kernel_rfl) (fun _ _ _ h => h) (Or.inl ⟨by rfl, by intro w hSw; go_simp⟩) (by assumption) ?_
      try simp only [Act.put, List.setIfInBounds_toArray, List.set_cons_zero, List.set_cons_succ, List.getElem_toArray, List.getElem_cons_zero, List.getElem_cons_succ]
      refine wpAnyH_take (i := 6) (v := .int .i64 14) rfl (by kernel_rfl) (by kernel_rfl) (by kernel_rfl) (fun _ _ _ h => h) (Or.inl ⟨by rfl, by intro w hSw; go_simp⟩) (by assumption) ?_
      try simp only [Act.put, List.setIfInBounds_toArray, List.set_cons_zero, List.set_cons_succ, List.getElem_toArray, List.getElem_cons_zero, List.getElem_cons_succ]
      refine wpAnyH_done (by kernel_rfl) ?_ _
      go_wp2_with fail
      exact bodyPost_ret (v := .tuple #[.agg Z, .int .i64 (nb : Int), .int .i64 14]) (res_ctt rfl _ _ w.heap.size 46 Z (0, 0) _ rfl HS1.box.hr Tryz.underlying46 rfl HZI.out _ _ rfl rfl) rfl ⟨by rw [HRE.out, HZ.out], HS1.box.bel⟩
    | false =>
    have HH := Lib.hid (of_decide_eq_false HB2.out.symm)
    clear HB2
    have HE2c := Lib.hid (show Vs.p2E (by_ sb) = if pe2 ≠ 0 then 10 else if Vs.okPart (Vs.p2P (by_ sb)) = true then 0 else 10 by
      rw [HE2.out]
      by_cases h1 : pe2 = 0
      · exact (if_neg (by simp [h1])).trans ((if_neg (fun h => HH.out ⟨h1, h⟩)).trans (if_neg (by simp [h1])).symm)
      · rw [if_pos h1, if_pos h1])
    go_wp2_with fail
    rw [← HRR.out]
    exact rpseq_seconda l loc w Z bb o c gi gb gd na nb nc sa sb sc HZ HZ1 HZI hz22 hl' hna hnb hnc hza hzb hzc HQ HR3 HP1 HK1 _ HE2c _ HD6
end Go.Proofs.YthkppbimkjmbnaaGreatDoor
