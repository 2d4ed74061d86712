/-
  The walk through the reference's ParseSequence: the first descriptor.
-/
import Derived.Test.YthkppbimkjmbnaaGreatDoorXn
namespace Go.Proofs.YthkppbimkjmbnaaGreatDoor
set_option linter.unusedVariables false
open Go.RowKit
open Vs (bs by_)

set_option maxHeartbeats 25600000 in
set_option maxRecDepth 100000 in
/-- masterdiscref36.ParseSequence: the first descriptor. -/
theorem rpseq_first {u2 u3 u5 u6 u8 u10 u11 u12 u13 u14 u16 u17 u18 u19 u20 u21 u22 u23 u24 u25 u26 u27 u28 u29 u30 u31 u32 u33 u34 u35 u36 u37 u38 u39 u40 u41 u42 u43 u44 u45 u46 u47 u48 u49 u50 u51 u52 u53 u54 u55 u56 u57 u58 u59 u60 u61 u62 u63 u64 u65 u66 u67 u68 u69 u70 u71 u72 u73 u74 u75 u76 u77 u78 u79 u80 u81 u82 u83 u84 u85 u86 u87 u88 u89 u90 u91 u92 u93 u94 u95 u96 u97 u98 u99 u100 u101 u102 u103 u104 u105 u106 u107 u108 u109 u110 u111 u112 u113 u114 u115 u116 u117 u118 u119 u120 u121 u122 u123 u124 u125 u126 u127 u128 u129 u130 u131 u132 u133 u134 u135 u136 u137 u138 u139 u140 u141 u142 u143 u144 u145 u146 u147 u148 u149 u150 u151 u152 u153 u154 u155 u156 u157 u158 u159 u160 u161 u162 u163 u164 u165 u166 u167 u168 u169 u170 u171 u172 u173 u174 u175 u176 u177 u178 u179 u180 u181 u182 u183 u184 u185 u186 u187 u188 u189 u190 u191 u192 u193 u194 u195 u196 u197 u198 u199 u200 u201 u202 u203 u204 u205 u206 u207 u208 u209 u210 u211 u212 u213 u214 u215 u216 u217 u218 u219 u220 u221 u222 u223 u224 u225 u226 u227 u228 u229 u230 u231 u232 u233 u234 u235 u236 u237 u238 u239 u240 u241 u242 u243 u244 u245 u246 u247 u248 u249 u250 u251 u252 u253 u254 u255 u256 u257 u258 u259 u260 u261 u262 u263 u264 u265 u266 u267 u268 u269 u270 u271 u272 u273 u274 u275 u276 u277 u278 u279 u280 u281 u282 u283 u284 u285 u286 u287 u288 u289 u290 u291 u292 u293 u294 u295 u296 u297 u298 u299 u300 u301 u302 u303 u304 u305 u306 u307 u308 u309 u310 u311 u312 u313 u314 u315 u316 : Value} (l : List ByteArray) (loc : Int) (w : World) (Z : Array Value) (bb o c gi gb gd na nb nc : Nat) (sa sb sc : ByteArray)
    (HZ : Hid (Z = Vs.dC Vs.d0)) (HZ1 : Hid (Z.all (·.oneCell') = true)) (HZI : Hid ((Tryz.prog.info? 46).map (·.size) = some Z.size)) (hz22 : Z.size = 22)
    (hl' : l.length ≤ 1024) (hna : na < l.length) (hnb : nb < l.length) (hnc : nc < l.length) (hza : sa.size = 2048) (hzb : sb.size = 2048) (hzc : sc.size = 2048)
    (HQ : Hid (∀ W : World, Below w.heap.size w W → W.cell? ⟨bb, o + na, none⟩ = some (.string sa) ∧ W.cell? ⟨bb, o + nb, none⟩ = some (.string sb) ∧ W.cell? ⟨bb, o + nc, none⟩ = some (.string sc)))
    (HR3 : Hid (Vs.parR l loc = Vs.par3 ⟨sa, na, Vs.sqB sa⟩ ⟨sb, nb, Vs.sqB sb⟩ ⟨sc, nc, Vs.sqB sc⟩))
    (w1 : World) (HD1 : Hid (Vs.Pd w w1 gi gb gd Z (na : Int) (nb : Int) (nc : Int) Vs.exR)) :
    (Vs.dropC 10 (Tryz.f27.body.getD Code.skip)).wp Tryz.prog (bodyPost Tryz.prog Tryz.f27 (fun e w' => e = .returned (.tuple #[.agg (Vs.dC (Vs.parR l loc).1.1), .int .i64 (Vs.parR l loc).1.2, .int .i64 (Vs.parR l loc).2]) ∧ Below w.heap.size w w')) ⟨#[.slice (some ⟨bb, o, none⟩) l.length c, .int .i64 loc, u2, u3, .pointer (some ⟨w.heap.size, 0, none⟩), u5, u6, .pointer (some ⟨w.heap.size + 1, 0, none⟩), u8, .slice (some ⟨gb, 0, none⟩) 3 3, u10, u11, u12, u13, u14, .pointer (some ⟨gd, 0, none⟩), u16, u17, u18, u19, u20, u21, u22, u23, u24, u25, u26, u27, u28, u29, u30, u31, u32, u33, u34, u35, u36, u37, u38, u39, u40, u41, u42, u43, u44, u45, u46, u47, u48, u49, u50, u51, u52, u53, u54, u55, u56, u57, u58, u59, u60, u61, u62, u63, u64, u65, u66, u67, u68, u69, u70, u71, u72, u73, u74, u75, u76, u77, u78, u79, u80, u81, u82, u83, u84, u85, u86, u87, u88, u89, u90, u91, u92, u93, u94, u95, u96, u97, u98, u99, u100, u101, u102, u103, u104, u105, u106, u107, u108, u109, u110, u111, u112, u113, u114, u115, u116, u117, u118, u119, u120, u121, u122, u123, u124, u125, u126, u127, u128, u129, u130, u131, u132, u133, u134, u135, u136, u137, u138, u139, u140, u141, u142, u143, u144, u145, u146, u147, u148, u149, u150, u151, u152, u153, u154, u155, u156, u157, u158, u159, u160, u161, u162, u163, u164, u165, u166, u167, u168, u169, u170, u171, u172, u173, u174, u175, u176, u177, u178, u179, u180, u181, u182, u183, u184, u185, u186, u187, u188, u189, u190, u191, u192, u193, u194, u195, u196, u197, u198, u199, u200, u201, u202, u203, u204, u205, u206, u207, u208, u209, u210, u211, u212, u213, u214, u215, u216, u217, u218, u219, u220, u221, u222, u223, u224, u225, u226, u227, u228, u229, u230, u231, u232, u233, u234, u235, u236, u237, u238, u239, u240, u241, u242, u243, u244, u245, u246, u247, u248, u249, u250, u251, u252, u253, u254, u255, u256, u257, u258, u259, u260, u261, u262, u263, u264, u265, u266, u267, u268, u269, u270, u271, u272, u273, u274, u275, u276, u277, u278, u279, u280, u281, u282, u283, u284, u285, u286, u287, u288, u289, u290, u291, u292, u293, u294, u295, u296, u297, u298, u299, u300, u301, u302, u303, u304, u305, u306, u307, u308, u309, u310, u311, u312, u313, u314, u315, u316], []⟩ w1 := by
    generalize hQ : bodyPost Tryz.prog Tryz.f27 _ = Q
    rw [show Vs.dropC 10 (Tryz.f27.body.getD Code.skip) = Code.seq (Vs.headC (Vs.dropC 10 (Tryz.f27.body.getD Code.skip))) (Code.seq (Vs.headC (Vs.dropC 11 (Tryz.f27.body.getD Code.skip))) (Code.seq (Vs.headC (Vs.dropC 12 (Tryz.f27.body.getD Code.skip))) (Code.seq (Vs.headC (Vs.dropC 13 (Tryz.f27.body.getD Code.skip))) (Code.seq (Vs.headC (Vs.dropC 14 (Tryz.f27.body.getD Code.skip))) (Code.seq (Vs.headC (Vs.dropC 15 (Tryz.f27.body.getD Code.skip))) (Vs.dropC 16 (Tryz.f27.body.getD Code.skip))))))) from rfl]
    generalize hR : Vs.dropC 16 (Tryz.f27.body.getD Code.skip) = R
    have HRR := Lib.hid hR
    clear hR
    dsimp only [Vs.headC, Vs.dropC, Tryz.f27, Option.getD_some]
    let Q2 := bodyPost Tryz.prog Tryz.f27 (fun e w' => e = .returned (.tuple #[.agg (Vs.dC (Vs.parR l loc).1.1), .int .i64 (Vs.parR l loc).1.2, .int .i64 (Vs.parR l loc).2]) ∧ Below w.heap.size w w')
    obtain rfl : Q2 = Q := hQ
    -- the first descriptor
    have CD1 := Lib.hid (fun W => r36Dstring_any sa 72 128 72 128 rfl rfl (by omega) (by omega) W)
    have CT1 := Lib.hid (fun W => r36ReadStamp_any sa 376 376 rfl (by omega) (by omega) W)
    have CA1 := Lib.hid (fun W => r31N_any sa 56 2 56 2 rfl rfl (by omega) (by omega) (by omega) W)
    have CA2 := Lib.hid (fun W => r31N_any sa 58 2 58 2 rfl rfl (by omega) (by omega) (by omega) W)
    have CV1 := Lib.hid (fun W => r36Valid_any (Vs.p1D (by_ sa) Vs.exR) W (by show (bs [120]).size ≤ _; decide) (by show (bs (Cs.parseR (Vs.sl (by_ sa) 72 128)).1).size ≤ _; rw [Vs.bs_size]; have h1 := Vs.parse_le (Vs.sl (by_ sa) 72 128); have h2 := Vs.sl_le (by_ sa) 72 128; omega) (by show (⟨#[]⟩ : ByteArray).size ≤ _; exact Nat.zero_le _))
    have HU1 := Lib.hid (Vs.put_d1 (by_ sa))
    have HE1 := Lib.hid (Vs.ref1 (by_ sa))
    have HV1 := Lib.hid (Vs.okD_p1 (by_ sa))
    generalize Vs.okD (Vs.p1D (by_ sa) Vs.exR) = ok1 at *
    generalize Cs.parseR (Vs.sl (by_ sa) 72 128) = pr at *
    generalize Vs.readSR (Vs.sl (by_ sa) 376 12) = sr at *
    generalize ((Pm.at_ (by_ sa) 56 2 : Nat) : Int) = a56 at *
    generalize ((Pm.at_ (by_ sa) 58 2 : Nat) : Int) = a58 at *
    obtain ⟨ps, pe⟩ := pr
    obtain ⟨⟨st, szz⟩, se⟩ := sr
    simp only [] at *
    generalize bs ps = q1 at *
    obtain ⟨-, b0, b1, b2⟩ := HD1.out.pq.cells
    obtain ⟨qa, -, -⟩ := HQ.out _ HD1.out.pq.box.bel
    generalize hdp : decide (pe = 0) = dp at *
    generalize hds : decide (se = 0) = ds at *
    go_wp2_with fail
    with_reducible refine (CD1.out _).mono ?_
    rintro e w2 ⟨rfl, hb2⟩
    have HD2 := Lib.hid (HD1.out.below hb2)
    clear hb2 HD1 b0 b1 b2 qa CD1
    go_wp2_with fail
    with_reducible refine (CT1.out _).mono ?_
    rintro e w3 ⟨rfl, hb3⟩
    have HD3 := Lib.hid (HD2.out.below hb3)
    clear hb3 HD2 CT1
    obtain ⟨-, c1, -, -, -, c5, c6, c7, -⟩ := Vs.dC_cells Vs.exR HD3.out.row
    have hfj := fun j => frozen_of_row _ _ j _ _ HD3.out.row
    go_upto_region 31 with (first | (with_reducible refine (CA1.out _).mono ?_; rintro e wx ⟨rfl, hw⟩; subst hw) | (with_reducible refine (CA2.out _).mono ?_; rintro e wx ⟨rfl, hw⟩; subst hw))
    have HD4 := Lib.hid (show Vs.Pd w ((((w3.setCell ⟨gd, 5, none⟩ (.int .i64 a56)).setCell ⟨gd, 6, none⟩ (.int .i64 a58)).setCell ⟨gd, 1, none⟩ (.string q1)).setCell ⟨gd, 7, none⟩ (.int .i64 st)) gi gb gd Z (na : Int) (nb : Int) (nc : Int) (Vs.p1D (by_ sa) Vs.exR) from HD3.out.sets _ HU1.out)
    generalize ((((w3.setCell ⟨gd, 5, none⟩ (.int .i64 a56)).setCell ⟨gd, 6, none⟩ (.int .i64 a58)).setCell ⟨gd, 1, none⟩ (.string q1)).setCell ⟨gd, 7, none⟩ (.int .i64 st)) = w4 at *
    clear HD3 c1 c5 c6 c7 hfj HU1 CA1 CA2
    by_cases h1 : pe = 0
    case neg =>
      have HRE := Lib.hid (HR3.out.trans (Vs.par3_1 (HE1.out.trans (if_neg (fun h => h1 h.1))) (by decide)))
      rw [decide_eq_false h1] at hdp
      subst hdp
      clear h1 HR3 HE1 HV1
      go_wp2_with fail
      have HSD := (show Vs.Pq w w4.drew gi gb Z (na : Int) (nb : Int) (nc : Int) from HD4.out.pq.below (Below.refl _ _).drew)
      refine wp_region_held_drew (S := fun W => Vs.Pq w W gi gb Z (na : Int) (nb : Int) (nc : Int)) (by kernel_rfl) HSD (fun _ => ?_)
      refine wpAnyH_take (i := 0) (v := .agg Z) rfl (by kernel_rfl) (by kernel_rfl) (by kernel_rfl) (fun _ _ _ h => h) (Or.inl ⟨by rfl, yields_load3 46 _ rfl (w.heap.size + 1) 0 rfl _ (fun W h => Vs.box_load Vs.d0 HZ.out h.box.hn)⟩) (by assumption) ?_
      try simp only [Act.put, List.setIfInBounds_toArray, List.set_cons_zero, List.set_cons_succ, List.getElem_toArray, List.getElem_cons_zero]
      refine wpAnyH_take (i := 1) (v := .slice (some ⟨gb, 0, none⟩) 3 3) rfl (by kernel_rfl) (by kernel_rfl) (by kernel_rfl) (fun _ _ _ h => h) (Or.inl ⟨by rfl, by intro w hSw; go_simp⟩) (by assumption) ?_
      try simp only [Act.put, List.setIfInBounds_toArray, List.set_cons_zero, List.set_cons_succ, List.getElem_toArray, List.getElem_cons_zero, List.getElem_cons_succ]
      refine wpAnyH_take (i := 2) (v := .pointer (some ⟨gb, 0, none⟩)) rfl (by kernel_rfl) (by kernel_rfl) (by kernel_rfl) (fun _ _ _ h => h) (Or.inl ⟨by rfl, by intro w hSw; go_simp⟩) (by assumption) ?_
      try simp only [Act.put, List.setIfInBounds_toArray, List.set_cons_zero, List.set_cons_succ, List.getElem_toArray, List.getElem_cons_zero, List.getElem_cons_succ]
      refine wpAnyH_take (i := 3) (v := .int .i64 (na : Int)) rfl (by kernel_rfl) (by kernel_rfl) (by kernel_rfl) (fun _ _ _ h => h) (Or.inl ⟨by rfl, by intro w hSw; have hc := hSw.cells.2.1; go_simp⟩) (by assumption) ?_
      try simp only [Act.put, List.setIfInBounds_toArray, List.set_cons_zero, List.set_cons_succ, List.getElem_toArray, List.getElem_cons_zero, List.getElem_cons_succ]
      have hst := Vs.run_put (P := Tryz.prog) HSD.box.hr Z rfl HZ1.out
      have HS1 := HSD.same
      refine wpAnyH_ready (rs := [4]) (by kernel_rfl) (by simp) ?_
      refine AllReadyH.cons rfl (fun K hK => ?_) AllReadyH.nil
      go_simp
      refine hK.out _ _ HS1 (fun _ => ?_)
      clear hK K hst
      try simp only [Act.put, List.setIfInBounds_toArray, List.set_cons_zero, List.set_cons_succ, List.getElem_toArray, List.getElem_cons_zero, List.getElem_cons_succ]
      refine wpAnyH_take (i := 5) (v := .int .i64 (na : Int)) rfl (by kernel_rfl) (by kernel_rfl) (by kernel_rfl) (fun _ _ _ h => h) (Or.inl ⟨by rfl, by intro w hSw; go_simp⟩) (by assumption) ?_
      try simp only [Act.put, List.setIfInBounds_toArray, List.set_cons_zero, List.set_cons_succ, List.getElem_toArray, List.getElem_cons_zero, List.getElem_cons_succ]
      refine wpAnyH_take (i := 6) (v := .int .i64 10) rfl (by kernel_rfl) (by kernel_rfl) (by kernel_rfl) (fun _ _ _ h => h) (Or.inl ⟨by rfl, by intro w hSw; go_simp⟩) (by assumption) ?_
      try simp only [Act.put, List.setIfInBounds_toArray, List.set_cons_zero, List.set_cons_succ, List.getElem_toArray, List.getElem_cons_zero, List.getElem_cons_succ]
      refine wpAnyH_done (by kernel_rfl) ?_ _
      go_wp2_with fail
      exact bodyPost_ret (v := .tuple #[.agg Z, .int .i64 (na : Int), .int .i64 10]) (res_ctt rfl _ _ w.heap.size 46 Z (0, 0) _ rfl HS1.box.hr Tryz.underlying46 rfl HZI.out _ _ rfl rfl) rfl ⟨by rw [HRE.out, HZ.out], HS1.box.bel⟩
    rw [decide_eq_true h1] at hdp
    subst hdp
    by_cases h2 : se = 0
    case neg =>
      have HRE := Lib.hid (HR3.out.trans (Vs.par3_1 (HE1.out.trans (if_neg (fun h => h2 h.2.1))) (by decide)))
      rw [decide_eq_false h2] at hds
      subst hds
      clear h1 h2 HR3 HE1 HV1
      go_wp2_with fail
      have HSD := (show Vs.Pq w w4.drew gi gb Z (na : Int) (nb : Int) (nc : Int) from HD4.out.pq.below (Below.refl _ _).drew)
      refine wp_region_held_drew (S := fun W => Vs.Pq w W gi gb Z (na : Int) (nb : Int) (nc : Int)) (by kernel_rfl) HSD (fun _ => ?_)
      refine wpAnyH_take (i := 0) (v := .agg Z) rfl (by kernel_rfl) (by kernel_rfl) (by kernel_rfl) (fun _ _ _ h => h) (Or.inl ⟨by rfl, yields_load3 46 _ rfl (w.heap.size + 1) 0 rfl _ (fun W h => Vs.box_load Vs.d0 HZ.out h.box.hn)⟩) (by assumption) ?_
      try simp only [Act.put, List.setIfInBounds_toArray, List.set_cons_zero, List.set_cons_succ, List.getElem_toArray, List.getElem_cons_zero]
      refine wpAnyH_take (i := 1) (v := .slice (some ⟨gb, 0, none⟩) 3 3) rfl (by kernel_rfl) (by kernel_rfl) (by kernel_rfl) (fun _ _ _ h => h) (Or.inl ⟨by rfl, by intro w hSw; go_simp⟩) (by assumption) ?_
      try simp only [Act.put, List.setIfInBounds_toArray, List.set_cons_zero, List.set_cons_succ, List.getElem_toArray, List.getElem_cons_zero, List.getElem_cons_succ]
      refine wpAnyH_take (i := 2) (v := .pointer (some ⟨gb, 0, none⟩)) rfl (by kernel_rfl) (by kernel_rfl) (by kernel_rfl) (fun _ _ _ h => h) (Or.inl ⟨by rfl, by intro w hSw; go_simp⟩) (by assumption) ?_
      try simp only [Act.put, List.setIfInBounds_toArray, List.set_cons_zero, List.set_cons_succ, List.getElem_toArray, List.getElem_cons_zero, List.getElem_cons_succ]
      refine wpAnyH_take (i := 3) (v := .int .i64 (na : Int)) rfl (by kernel_rfl) (by kernel_rfl) (by kernel_rfl) (fun _ _ _ h => h) (Or.inl ⟨by rfl, by intro w hSw; have hc := hSw.cells.2.1; go_simp⟩) (by assumption) ?_
      try simp only [Act.put, List.setIfInBounds_toArray, List.set_cons_zero, List.set_cons_succ, List.getElem_toArray, List.getElem_cons_zero, List.getElem_cons_succ]
      have hst := Vs.run_put (P := Tryz.prog) HSD.box.hr Z rfl HZ1.out
      have HS1 := HSD.same
      refine wpAnyH_ready (rs := [4]) (by kernel_rfl) (by simp) ?_
      refine AllReadyH.cons rfl (fun K hK => ?_) AllReadyH.nil
      go_simp
      refine hK.out _ _ HS1 (fun _ => ?_)
      clear hK K hst
      try simp only [Act.put, List.setIfInBounds_toArray, List.set_cons_zero, List.set_cons_succ, List.getElem_toArray, List.getElem_cons_zero, List.getElem_cons_succ]
      refine wpAnyH_take (i := 5) (v := .int .i64 (na : Int)) rfl (by kernel_rfl) (by kernel_rfl) (by kernel_rfl) (fun _ _ _ h => h) (Or.inl ⟨by rfl, by intro w hSw; go_simp⟩) (by assumption) ?_
      try simp only [Act.put, List.setIfInBounds_toArray, List.set_cons_zero, List.set_cons_succ, List.getElem_toArray, List.getElem_cons_zero, List.getElem_cons_succ]
      refine wpAnyH_take (i := 6) (v := .int .i64 10) rfl (by kernel_rfl) (by kernel_rfl) (by kernel_rfl) (fun _ _ _ h => h) (Or.inl ⟨by rfl, by intro w hSw; go_simp⟩) (by assumption) ?_
      try simp only [Act.put, List.setIfInBounds_toArray, List.set_cons_zero, List.set_cons_succ, List.getElem_toArray, List.getElem_cons_zero, List.getElem_cons_succ]
      refine wpAnyH_done (by kernel_rfl) ?_ _
      go_wp2_with fail
      exact bodyPost_ret (v := .tuple #[.agg Z, .int .i64 (na : Int), .int .i64 10]) (res_ctt rfl _ _ w.heap.size 46 Z (0, 0) _ rfl HS1.box.hr Tryz.underlying46 rfl HZI.out _ _ rfl rfl) rfl ⟨by rw [HRE.out, HZ.out], HS1.box.bel⟩
    rw [decide_eq_true h2] at hds
    subst hds
    have HL4 := Lib.hid (Vs.box_load (Vs.p1D (by_ sa) Vs.exR) rfl HD4.out.row)
    go_upto_if 184 with (first | (refine wpList_load_at 46 _ rfl gd 0 rfl _ HL4.out (by rfl) ?_) | (with_reducible refine (CV1.out _).mono ?_; rintro e w5 ⟨rfl, hb5⟩))
    have HD5 := Lib.hid (HD4.out.below hb5)
    clear hb5 HD4 HL4 CV1
    cases ok1 with
    | false =>
      have HRE := Lib.hid (HR3.out.trans (Vs.par3_1 (HE1.out.trans (if_neg (fun h => absurd h.2.2 (by decide)))) (by decide)))
      clear h1 h2 HR3 HE1 HV1
      go_wp2_with fail
      have HSD := (show Vs.Pq w w5.drew gi gb Z (na : Int) (nb : Int) (nc : Int) from HD5.out.pq.below (Below.refl _ _).drew)
      refine wp_region_held_drew (S := fun W => Vs.Pq w W gi gb Z (na : Int) (nb : Int) (nc : Int)) (by kernel_rfl) HSD (fun _ => ?_)
      refine wpAnyH_take (i := 0) (v := .agg Z) rfl (by kernel_rfl) (by kernel_rfl) (by kernel_rfl) (fun _ _ _ h => h) (Or.inl ⟨by rfl, yields_load3 46 _ rfl (w.heap.size + 1) 0 rfl _ (fun W h => Vs.box_load Vs.d0 HZ.out h.box.hn)⟩) (by assumption) ?_
      try simp only [Act.put, List.setIfInBounds_toArray, List.set_cons_zero, List.set_cons_succ, List.getElem_toArray, List.getElem_cons_zero]
      refine wpAnyH_take (i := 1) (v := .slice (some ⟨gb, 0, none⟩) 3 3) rfl (by kernel_rfl) (by kernel_rfl) (by kernel_rfl) (fun _ _ _ h => h) (Or.inl ⟨by rfl, by intro w hSw; go_simp⟩) (by assumption) ?_
      try simp only [Act.put, List.setIfInBounds_toArray, List.set_cons_zero, List.set_cons_succ, List.getElem_toArray, List.getElem_cons_zero, List.getElem_cons_succ]
      refine wpAnyH_take (i := 2) (v := .pointer (some ⟨gb, 0, none⟩)) rfl (by kernel_rfl) (by kernel_rfl) (by kernel_rfl) (fun _ _ _ h => h) (Or.inl ⟨by rfl, by intro w hSw; go_simp⟩) (by assumption) ?_
      try simp only [Act.put, List.setIfInBounds_toArray, List.set_cons_zero, List.set_cons_succ, List.getElem_toArray, List.getElem_cons_zero, List.getElem_cons_succ]
      refine wpAnyH_take (i := 3) (v := .int .i64 (na : Int)) rfl (by kernel_rfl) (by kernel_rfl) (by kernel_rfl) (fun _ _ _ h => h) (Or.inl ⟨by rfl, by intro w hSw; have hc := hSw.cells.2.1; go_simp⟩) (by assumption) ?_
      try simp only [Act.put, List.setIfInBounds_toArray, List.set_cons_zero, List.set_cons_succ, List.getElem_toArray, List.getElem_cons_zero, List.getElem_cons_succ]
      have hst := Vs.run_put (P := Tryz.prog) HSD.box.hr Z rfl HZ1.out
      have HS1 := HSD.same
      refine wpAnyH_ready (rs := [4]) (by kernel_rfl) (by simp) ?_
      refine AllReadyH.cons rfl (fun K hK => ?_) AllReadyH.nil
      go_simp
      refine hK.out _ _ HS1 (fun _ => ?_)
      clear hK K hst
      try simp only [Act.put, List.setIfInBounds_toArray, List.set_cons_zero, List.set_cons_succ, List.getElem_toArray, List.getElem_cons_zero, List.getElem_cons_succ]
      refine wpAnyH_take (i := 5) (v := .int .i64 (na : Int)) rfl (by kernel_rfl) (by kernel_rfl) (by kernel_rfl) (fun _ _ _ h => h) (Or.inl ⟨by rfl, by intro w hSw; go_simp⟩) (by assumption) ?_
      try simp only [Act.put, List.setIfInBounds_toArray, List.set_cons_zero, List.set_cons_succ, List.getElem_toArray, List.getElem_cons_zero, List.getElem_cons_succ]
      refine wpAnyH_take (i := 6) (v := .int .i64 10) rfl (by kernel_rfl) (by kernel_rfl) (by kernel_rfl) (fun _ _ _ h => h) (Or.inl ⟨by rfl, by intro w hSw; go_simp⟩) (by assumption) ?_
      try simp only [Act.put, List.setIfInBounds_toArray, List.set_cons_zero, List.set_cons_succ, List.getElem_toArray, List.getElem_cons_zero, List.getElem_cons_succ]
      refine wpAnyH_done (by kernel_rfl) ?_ _
      go_wp2_with fail
      exact bodyPost_ret (v := .tuple #[.agg Z, .int .i64 (na : Int), .int .i64 10]) (res_ctt rfl _ _ w.heap.size 46 Z (0, 0) _ rfl HS1.box.hr Tryz.underlying46 rfl HZI.out _ _ rfl rfl) rfl ⟨by rw [HRE.out, HZ.out], HS1.box.bel⟩
    | true =>
    have HP1 := Lib.hid (HE1.out.trans (if_pos ⟨h1, h2, rfl⟩))
    clear h1 h2 HE1
    have HK1 := Lib.hid (show Vs.okVol (Vs.p1V (by_ sa) Vs.d0.vol) = true from HV1.out.symm)
    obtain ⟨-, b0, b1, b2⟩ := HD5.out.pq.cells
    obtain ⟨-, qb, -⟩ := HQ.out _ HD5.out.pq.box.bel
    go_wp2_with fail
    rw [← HRR.out]
    exact rpseq_second l loc w Z bb o c gi gb gd na nb nc sa sb sc HZ HZ1 HZI hz22 hl' hna hnb hnc hza hzb hzc HQ HR3 HP1 HK1 _ HD5
end Go.Proofs.YthkppbimkjmbnaaGreatDoor
