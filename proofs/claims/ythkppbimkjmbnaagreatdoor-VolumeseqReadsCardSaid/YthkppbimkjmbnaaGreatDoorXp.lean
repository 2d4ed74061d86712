/-
  The walk through the reference's ParseSequence: behind its loop.
-/
import Derived.Test.YthkppbimkjmbnaaGreatDoorXo
namespace Go.Proofs.YthkppbimkjmbnaaGreatDoor
set_option linter.unusedVariables false
open Go.RowKit
open Vs (bs by_)

set_option maxHeartbeats 25600000 in
set_option maxRecDepth 100000 in
/-- masterdiscref36.ParseSequence: behind its loop. -/
theorem rpseq_tail {u2 u3 u5 u6 u8 u11 u12 u13 u14 u15 u16 u17 u18 u19 u20 u21 u22 u23 u24 u25 u26 u27 u28 u29 u30 u31 u32 u33 u34 u35 u36 u37 u38 u39 u40 u41 u42 u43 u44 u45 u46 u47 u48 u49 u50 u51 u52 u53 u54 u55 u56 u57 u58 u59 u60 u61 u62 u63 u64 u65 u66 u67 u68 u69 u70 u71 u72 u73 u74 u75 u76 u77 u78 u79 u80 u81 u82 u83 u84 u85 u86 u87 u88 u89 u90 u91 u92 u93 u94 u95 u96 u97 u98 u99 u100 u101 u102 u103 u104 u105 u106 u107 u108 u109 u110 u111 u112 u113 u114 u115 u116 u117 u118 u119 u120 u121 u122 u123 u124 u125 u126 u127 u128 u129 u130 u131 u132 u133 u134 u135 u136 u137 u138 u139 u140 u141 u142 u143 u144 u145 u146 u147 u148 u149 u150 u151 u152 u153 u154 u155 u156 u157 u158 u159 u160 u161 u162 u163 u164 u165 u166 u167 u168 u169 u170 u171 u172 u173 u174 u175 u176 u177 u178 u179 u180 u181 u182 u183 u184 u185 u186 u187 u188 u189 u190 u191 u192 u193 u194 u195 u196 u197 u198 u199 u200 u201 u202 u203 u204 u205 u206 u207 u208 u209 u210 u211 u212 u213 u214 u215 u216 u217 u218 u219 u220 u221 u222 u223 u224 u225 u226 u227 u228 u229 u230 u231 u232 u233 u234 u235 u236 u237 u238 u239 u240 u241 u242 u243 u244 u245 u246 u247 u248 u249 u250 u251 u252 u253 u254 u255 u256 u257 u258 u259 u260 u261 u262 u263 u264 u265 u266 u267 u268 u269 u270 u271 u272 u273 u274 u275 u276 u277 u278 u279 u280 u281 u282 u283 u284 u285 u286 u287 u288 u289 u290 u291 u292 u293 u294 u295 u296 u297 u298 u299 u300 u301 u302 u303 u304 u305 u306 u307 u308 u309 u310 u311 u312 u313 u314 u315 u316 : Value} (l : List ByteArray) (loc : Int) (w : World) (Z : Array Value) (A : Option Addr) (c gi gb k : Nat) (f : Int → Option Vs.Pv) (a b c' : Int)
    (HZ : Hid (Z = Vs.dC Vs.d0)) (HZ1 : Hid (Z.all (·.oneCell') = true)) (HZI : Hid ((Tryz.prog.info? 46).map (·.size) = some Z.size)) (HZL : Hid ((#[.string ⟨#[]⟩, .string ⟨#[]⟩, .string ⟨#[]⟩, .string ⟨#[]⟩, .string ⟨#[]⟩, .int .i64 0, .int .i64 0, .int .i64 0, .int .i64 0, .int .i64 0, .int .i64 0, .int .i64 0, .int .i64 0, .int .i64 0, .int .i64 0, .string ⟨#[]⟩, .int .i64 0, .int .i64 0, .int .i64 0, .int .i64 0, .int .i64 0, .int .i64 0] : Array Value) = Z)) (hz22 : Z.size = 22) (hl' : l.length ≤ 1024)
    (HV : Hid (Kit.Row w (.slice A l.length c) (Vs.strs l)))
    (HRP : Hid (Vs.parR l loc = Vs.parS (.ok f k))) (HAG : Hid (Vs.Agr l f a b c')) (HIX : Hid (Vs.Idx l a ∧ Vs.Idx l b ∧ Vs.Idx l c')) (wl : World) (HP : Hid (Vs.Pq w wl gi gb Z a b c')) :
    (Vs.dropC 8 (Tryz.f27.body.getD Code.skip)).wp Tryz.prog (bodyPost Tryz.prog Tryz.f27 (fun e w' => e = .returned (.tuple #[.agg (Vs.dC (Vs.parR l loc).1.1), .int .i64 (Vs.parR l loc).1.2, .int .i64 (Vs.parR l loc).2]) ∧ Below w.heap.size w w')) ⟨#[.slice A l.length c, .int .i64 loc, u2, u3, .pointer (some ⟨w.heap.size, 0, none⟩), u5, u6, .pointer (some ⟨w.heap.size + 1, 0, none⟩), u8, .slice (some ⟨gb, 0, none⟩) 3 3, .int .i64 (k : Int), u11, u12, u13, u14, u15, u16, u17, u18, u19, u20, u21, u22, u23, u24, u25, u26, u27, u28, u29, u30, u31, u32, u33, u34, u35, u36, u37, u38, u39, u40, u41, u42, u43, u44, u45, u46, u47, u48, u49, u50, u51, u52, u53, u54, u55, u56, u57, u58, u59, u60, u61, u62, u63, u64, u65, u66, u67, u68, u69, u70, u71, u72, u73, u74, u75, u76, u77, u78, u79, u80, u81, u82, u83, u84, u85, u86, u87, u88, u89, u90, u91, u92, u93, u94, u95, u96, u97, u98, u99, u100, u101, u102, u103, u104, u105, u106, u107, u108, u109, u110, u111, u112, u113, u114, u115, u116, u117, u118, u119, u120, u121, u122, u123, u124, u125, u126, u127, u128, u129, u130, u131, u132, u133, u134, u135, u136, u137, u138, u139, u140, u141, u142, u143, u144, u145, u146, u147, u148, u149, u150, u151, u152, u153, u154, u155, u156, u157, u158, u159, u160, u161, u162, u163, u164, u165, u166, u167, u168, u169, u170, u171, u172, u173, u174, u175, u176, u177, u178, u179, u180, u181, u182, u183, u184, u185, u186, u187, u188, u189, u190, u191, u192, u193, u194, u195, u196, u197, u198, u199, u200, u201, u202, u203, u204, u205, u206, u207, u208, u209, u210, u211, u212, u213, u214, u215, u216, u217, u218, u219, u220, u221, u222, u223, u224, u225, u226, u227, u228, u229, u230, u231, u232, u233, u234, u235, u236, u237, u238, u239, u240, u241, u242, u243, u244, u245, u246, u247, u248, u249, u250, u251, u252, u253, u254, u255, u256, u257, u258, u259, u260, u261, u262, u263, u264, u265, u266, u267, u268, u269, u270, u271, u272, u273, u274, u275, u276, u277, u278, u279, u280, u281, u282, u283, u284, u285, u286, u287, u288, u289, u290, u291, u292, u293, u294, u295, u296, u297, u298, u299, u300, u301, u302, u303, u304, u305, u306, u307, u308, u309, u310, u311, u312, u313, u314, u315, u316], []⟩ wl := by
    generalize hQ : bodyPost Tryz.prog Tryz.f27 _ = Q
    rw [show Vs.dropC 8 (Tryz.f27.body.getD Code.skip) = Code.seq (Vs.headC (Vs.dropC 8 (Tryz.f27.body.getD Code.skip))) (Code.seq (Vs.headC (Vs.dropC 9 (Tryz.f27.body.getD Code.skip))) (Vs.dropC 10 (Tryz.f27.body.getD Code.skip))) from rfl]
    generalize hR : Vs.dropC 10 (Tryz.f27.body.getD Code.skip) = R
    have HRR := Lib.hid hR
    clear hR
    dsimp only [Vs.headC, Vs.dropC, Tryz.f27, Option.getD_some]
    let Q2 := bodyPost Tryz.prog Tryz.f27 (fun e w' => e = .returned (.tuple #[.agg (Vs.dC (Vs.parR l loc).1.1), .int .i64 (Vs.parR l loc).1.2, .int .i64 (Vs.parR l loc).2]) ∧ Below w.heap.size w w')
    obtain rfl : Q2 = Q := hQ
    obtain ⟨⟨i0, i1, i2⟩, b0, b1, b2⟩ := HP.out.cells
    clear i0 i1 i2
    rcases HIX.out.1 with rfl | ⟨na, rfl, hna, hza⟩
    · have HRE := Lib.hid (HRP.out.trans (Vs.parS_none HAG.out k (.inl (by decide))))
      clear HRP HAG HIX
      have HLD := Lib.hid (Vs.box_load Vs.d0 HZ.out HP.out.box.hn)
      have hst := Vs.run_put (P := Tryz.prog) HP.out.box.hr Z rfl HZ1.out
      go_wp2_with (refine wpList_load_at 46 _ rfl (w.heap.size + 1) 0 rfl _ HLD.out (by rfl) ?_)
      exact bodyPost_ret (v := .tuple #[.agg Z, .int .i64 (k : Int), .int .i64 6]) (res_ctt rfl _ _ w.heap.size 46 Z (0, 0) _ rfl (HP.out.box.out rfl).1 Tryz.underlying46 rfl HZI.out _ _ rfl rfl) rfl ⟨by rw [HRE.out, HZ.out], (HP.out.box.out rfl).2⟩
    rcases HIX.out.2.1 with rfl | ⟨nb, rfl, hnb, hzb⟩
    · have HRE := Lib.hid (HRP.out.trans (Vs.parS_none HAG.out k (.inr (.inl (by decide)))))
      clear HRP HAG HIX
      have HLD := Lib.hid (Vs.box_load Vs.d0 HZ.out HP.out.box.hn)
      have hst := Vs.run_put (P := Tryz.prog) HP.out.box.hr Z rfl HZ1.out
      go_wp2_with (refine wpList_load_at 46 _ rfl (w.heap.size + 1) 0 rfl _ HLD.out (by rfl) ?_)
      exact bodyPost_ret (v := .tuple #[.agg Z, .int .i64 (k : Int), .int .i64 6]) (res_ctt rfl _ _ w.heap.size 46 Z (0, 0) _ rfl (HP.out.box.out rfl).1 Tryz.underlying46 rfl HZI.out _ _ rfl rfl) rfl ⟨by rw [HRE.out, HZ.out], (HP.out.box.out rfl).2⟩
    rcases HIX.out.2.2 with rfl | ⟨nc, rfl, hnc, hzc⟩
    · have HRE := Lib.hid (HRP.out.trans (Vs.parS_none HAG.out k (.inr (.inr (by decide)))))
      clear HRP HAG HIX
      have HLD := Lib.hid (Vs.box_load Vs.d0 HZ.out HP.out.box.hn)
      have hst := Vs.run_put (P := Tryz.prog) HP.out.box.hr Z rfl HZ1.out
      go_wp2_with (refine wpList_load_at 46 _ rfl (w.heap.size + 1) 0 rfl _ HLD.out (by rfl) ?_)
      exact bodyPost_ret (v := .tuple #[.agg Z, .int .i64 (k : Int), .int .i64 6]) (res_ctt rfl _ _ w.heap.size 46 Z (0, 0) _ rfl (HP.out.box.out rfl).1 Tryz.underlying46 rfl HZI.out _ _ rfl rfl) rfl ⟨by rw [HRE.out, HZ.out], (HP.out.box.out rfl).2⟩
    have HR3 := Lib.hid (HRP.out.trans (Vs.parS_three HAG.out k))
    clear HRP HAG HIX
    obtain ⟨A', k', hv', -, -, hcells⟩ := HV.out
    rw [Vs.strs_len] at hv' hcells
    obtain ⟨bb, o, rfl, hb, hc⟩ := hcells (by omega)
    obtain ⟨rfl, rfl⟩ : A = some ⟨bb, o, none⟩ ∧ c = k' := by simpa using hv'
    have HQ := Lib.hid (fun (W : World) (h : Below w.heap.size w W) => show W.cell? ⟨bb, o + na, none⟩ = some (.string (l.getD na ⟨#[]⟩)) ∧ W.cell? ⟨bb, o + nb, none⟩ = some (.string (l.getD nb ⟨#[]⟩)) ∧ W.cell? ⟨bb, o + nc, none⟩ = some (.string (l.getD nc ⟨#[]⟩)) from ⟨(h.cell (p := ⟨bb, o + na, none⟩) hb).trans (hc na _ (by simp [Vs.strs, List.getD, hna])), (h.cell (p := ⟨bb, o + nb, none⟩) hb).trans (hc nb _ (by simp [Vs.strs, List.getD, hnb])), (h.cell (p := ⟨bb, o + nc, none⟩) hb).trans (hc nc _ (by simp [Vs.strs, List.getD, hnc]))⟩)
    clear hv' hcells hc hb HV
    generalize l.getD na ⟨#[]⟩ = sa at *
    generalize l.getD nb ⟨#[]⟩ = sb at *
    generalize l.getD nc ⟨#[]⟩ = sc at *
    have e1 : decide ((na : Int) < 0) = false := decide_eq_false (by omega)
    have e2 : decide ((nb : Int) < 0) = false := decide_eq_false (by omega)
    have e3 : decide ((nc : Int) < 0) = false := decide_eq_false (by omega)
    go_upto_region 26 with fail
    clear e1 e2 e3 b0 b1 b2
    go_wp2_with (refine wpList_store_mid rfl 46 _ _ rfl wl.heap.size 0 Vs.exC (by rfl) (by rfl) (Vs.row_there (heap_alloc_new wl _) rfl) Vs.exC_info Vs.exC_one ?_)
    rw [HZL.out]
    have HD1 := Lib.hid (Vs.Pd.start HP.out hz22 Vs.exR Vs.exC_eq)
    rw [← HRR.out]
    exact rpseq_first l loc w Z bb o c gi gb _ na nb nc sa sb sc HZ HZ1 HZI hz22 hl' hna hnb hnc hza hzb hzc HQ HR3 _ HD1
end Go.Proofs.YthkppbimkjmbnaaGreatDoor

/-
  The walk through the reference's ParseSequence: its loop.
-/
namespace Go.Proofs.YthkppbimkjmbnaaGreatDoor
set_option linter.unusedVariables false
open Go.RowKit
open Vs (bs by_)

set_option maxHeartbeats 25600000 in
set_option maxRecDepth 100000 in
/-- masterdiscref36.ParseSequence: its loop. -/
theorem rpseq_loop {u2 u3 u5 u6 u11 u12 u13 u14 u15 u16 u17 u18 u19 u20 u21 u22 u23 u24 u25 u26 u27 u28 u29 u30 u31 u32 u33 u34 u35 u36 u37 u38 u39 u40 u41 u42 u43 u44 u45 u46 u47 u48 u49 u50 u51 u52 u53 u54 u55 u56 u57 u58 u59 u60 u61 u62 u63 u64 u65 u66 u67 u68 u69 u70 u71 u72 u73 u74 u75 u76 u77 u78 u79 u80 u81 u82 u83 u84 u85 u86 u87 u88 u89 u90 u91 u92 u93 u94 u95 u96 u97 u98 u99 u100 u101 u102 u103 u104 u105 u106 u107 u108 u109 u110 u111 u112 u113 u114 u115 u116 u117 u118 u119 u120 u121 u122 u123 u124 u125 u126 u127 u128 u129 u130 u131 u132 u133 u134 u135 u136 u137 u138 u139 u140 u141 u142 u143 u144 u145 u146 u147 u148 u149 u150 u151 u152 u153 u154 u155 u156 u157 u158 u159 u160 u161 u162 u163 u164 u165 u166 u167 u168 u169 u170 u171 u172 u173 u174 u175 u176 u177 u178 u179 u180 u181 u182 u183 u184 u185 u186 u187 u188 u189 u190 u191 u192 u193 u194 u195 u196 u197 u198 u199 u200 u201 u202 u203 u204 u205 u206 u207 u208 u209 u210 u211 u212 u213 u214 u215 u216 u217 u218 u219 u220 u221 u222 u223 u224 u225 u226 u227 u228 u229 u230 u231 u232 u233 u234 u235 u236 u237 u238 u239 u240 u241 u242 u243 u244 u245 u246 u247 u248 u249 u250 u251 u252 u253 u254 u255 u256 u257 u258 u259 u260 u261 u262 u263 u264 u265 u266 u267 u268 u269 u270 u271 u272 u273 u274 u275 u276 u277 u278 u279 u280 u281 u282 u283 u284 u285 u286 u287 u288 u289 u290 u291 u292 u293 u294 u295 u296 u297 u298 u299 u300 u301 u302 u303 u304 u305 u306 u307 u308 u309 u310 u311 u312 u313 u314 u315 u316 : Value} (l : List ByteArray) (loc : Int) (w : World) (Z : Array Value) (A : Option Addr) (c gi gb : Nat) (hw0 : 0 ≤ loc) (hw1 : loc < 4294967296)
    (HZ : Hid (Z = Vs.dC Vs.d0)) (HZ1 : Hid (Z.all (·.oneCell') = true)) (HZI : Hid ((Tryz.prog.info? 46).map (·.size) = some Z.size)) (HZL : Hid ((#[.string ⟨#[]⟩, .string ⟨#[]⟩, .string ⟨#[]⟩, .string ⟨#[]⟩, .string ⟨#[]⟩, .int .i64 0, .int .i64 0, .int .i64 0, .int .i64 0, .int .i64 0, .int .i64 0, .int .i64 0, .int .i64 0, .int .i64 0, .int .i64 0, .string ⟨#[]⟩, .int .i64 0, .int .i64 0, .int .i64 0, .int .i64 0, .int .i64 0, .int .i64 0] : Array Value) = Z)) (hz22 : Z.size = 22) (hl' : l.length ≤ 1024)
    (HV : Hid (Kit.Row w (.slice A l.length c) (Vs.strs l)))
    (HSZ : Hid (∀ j, j < l.length → (l.getD j ⟨#[]⟩).size ≤ 9223372036854775807)) (HR : Hid (Vs.parR l loc = Vs.parS (Vs.scan loc l 0 fun _ => none))) (W2 : World) (HP : Hid (Vs.Pq w W2 gi gb Z (-1) (-1) (-1))) :
    (Vs.dropC 7 (Tryz.f27.body.getD Code.skip)).wp Tryz.prog (bodyPost Tryz.prog Tryz.f27 (fun e w' => e = .returned (.tuple #[.agg (Vs.dC (Vs.parR l loc).1.1), .int .i64 (Vs.parR l loc).1.2, .int .i64 (Vs.parR l loc).2]) ∧ Below w.heap.size w w')) ⟨#[.slice A l.length c, .int .i64 loc, u2, u3, .pointer (some ⟨w.heap.size, 0, none⟩), u5, u6, .pointer (some ⟨w.heap.size + 1, 0, none⟩), .slice (some ⟨gi, 0, none⟩) 3 3, .slice (some ⟨gb, 0, none⟩) 3 3, .int .i64 0, u11, u12, u13, u14, u15, u16, u17, u18, u19, u20, u21, u22, u23, u24, u25, u26, u27, u28, u29, u30, u31, u32, u33, u34, u35, u36, u37, u38, u39, u40, u41, u42, u43, u44, u45, u46, u47, u48, u49, u50, u51, u52, u53, u54, u55, u56, u57, u58, u59, u60, u61, u62, u63, u64, u65, u66, u67, u68, u69, u70, u71, u72, u73, u74, u75, u76, u77, u78, u79, u80, u81, u82, u83, u84, u85, u86, u87, u88, u89, u90, u91, u92, u93, u94, u95, u96, u97, u98, u99, u100, u101, u102, u103, u104, u105, u106, u107, u108, u109, u110, u111, u112, u113, u114, u115, u116, u117, u118, u119, u120, u121, u122, u123, u124, u125, u126, u127, u128, u129, u130, u131, u132, u133, u134, u135, u136, u137, u138, u139, u140, u141, u142, u143, u144, u145, u146, u147, u148, u149, u150, u151, u152, u153, u154, u155, u156, u157, u158, u159, u160, u161, u162, u163, u164, u165, u166, u167, u168, u169, u170, u171, u172, u173, u174, u175, u176, u177, u178, u179, u180, u181, u182, u183, u184, u185, u186, u187, u188, u189, u190, u191, u192, u193, u194, u195, u196, u197, u198, u199, u200, u201, u202, u203, u204, u205, u206, u207, u208, u209, u210, u211, u212, u213, u214, u215, u216, u217, u218, u219, u220, u221, u222, u223, u224, u225, u226, u227, u228, u229, u230, u231, u232, u233, u234, u235, u236, u237, u238, u239, u240, u241, u242, u243, u244, u245, u246, u247, u248, u249, u250, u251, u252, u253, u254, u255, u256, u257, u258, u259, u260, u261, u262, u263, u264, u265, u266, u267, u268, u269, u270, u271, u272, u273, u274, u275, u276, u277, u278, u279, u280, u281, u282, u283, u284, u285, u286, u287, u288, u289, u290, u291, u292, u293, u294, u295, u296, u297, u298, u299, u300, u301, u302, u303, u304, u305, u306, u307, u308, u309, u310, u311, u312, u313, u314, u315, u316], []⟩ W2 := by
    generalize hQ : bodyPost Tryz.prog Tryz.f27 _ = Q
    rw [show Vs.dropC 7 (Tryz.f27.body.getD Code.skip) = Code.seq (Vs.headC (Vs.dropC 7 (Tryz.f27.body.getD Code.skip))) (Vs.dropC 8 (Tryz.f27.body.getD Code.skip)) from rfl]
    generalize hR : Vs.dropC 8 (Tryz.f27.body.getD Code.skip) = R
    have HRR := Lib.hid hR
    clear hR
    dsimp only [Vs.headC, Vs.dropC, Tryz.f27, Option.getD_some]
    let Q2 := bodyPost Tryz.prog Tryz.f27 (fun e w' => e = .returned (.tuple #[.agg (Vs.dC (Vs.parR l loc).1.1), .int .i64 (Vs.parR l loc).1.2, .int .i64 (Vs.parR l loc).2]) ∧ Below w.heap.size w w')
    obtain rfl : Q2 = Q := hQ
    go_upto_block 0 with fail
    go_cut [10, 11, 12, 13, 14] from 38 to 122 (fun cv _ _ _ _ wx => ∃ (k : Nat) (f : Int → Option Vs.Pv) (a b c' : Int), cv = .int .i64 (k : Int) ∧ k ≤ l.length ∧ Hid (Vs.scan loc l 0 (fun _ => none) = .ok f k) ∧ Hid (Vs.Agr l f a b c') ∧ Hid (Vs.Idx l a ∧ Vs.Idx l b ∧ Vs.Idx l c') ∧ Hid (Vs.Pq w wx gi gb Z a b c'))
    case first =>
      go_wp2_with fail
      go_loopw [10, 11, 12, 13, 14] (fun cv dv _ _ _ wr => ∃ (j : Nat) (dn : Bool) (f : Int → Option Vs.Pv) (a b c' : Int), cv = .int .i64 (j : Int) ∧ dv = .bool dn ∧ j ≤ l.length ∧ Hid (Vs.scan loc l 0 (fun _ => none) = if dn = true then .ok f j else Vs.scan loc (l.drop j) j f) ∧ Hid (Vs.Agr l f a b c') ∧ Hid (Vs.Idx l a ∧ Vs.Idx l b ∧ Vs.Idx l c') ∧ Hid (Vs.Pq w wr gi gb Z a b c')) (fun cv _ _ _ _ _ => l.length - (intOf cv).toNat)
      case atStart => exact ⟨0, false, fun _ => none, -1, -1, -1, rfl, rfl, Nat.zero_le _, Lib.hid rfl, Lib.hid ⟨rfl, rfl, rfl⟩, Lib.hid ⟨.inl rfl, .inl rfl, .inl rfl⟩, HP⟩
      case round =>
        clear HP
        obtain ⟨j, dn, f, a, b, c', rfl, rfl, hj, HSC, HAG, HIX, HP⟩ := hrel
        cases dn with
        | true =>
          have HSE := Lib.hid (HSC.out.trans (if_pos rfl))
          go_wp2_with fail
          go_meet
          exact ⟨j, f, a, b, c', rfl, hj, HSE, HAG, HIX, HP⟩
        | false =>
        have HSD := Lib.hid (HSC.out.trans (if_neg (by decide)))
        clear HSC
        by_cases hlt : j < l.length
        case neg =>
          have HSE := Lib.hid (HSD.out.trans (Vs.scan_out loc hlt f))
          have d1 : decide ((j : Int) < (l.length : Int)) = false := decide_eq_false (by omega)
          go_wp2_with fail
          go_meet
          exact ⟨j, f, a, b, c', rfl, hj, HSE, HAG, HIX, HP⟩
        obtain ⟨A', k', hv', -, -, hcells⟩ := HV.out.below HP.out.box.bel
        rw [Vs.strs_len] at hv' hcells
        obtain ⟨bb, o, rfl, hb, hc⟩ := hcells (by omega)
        obtain ⟨rfl, rfl⟩ : A = some ⟨bb, o, none⟩ ∧ c = k' := by simpa using hv'
        have q0 : wr.cell? ⟨bb, o + j, none⟩ = some (.string (l.getD j ⟨#[]⟩)) := hc j _ (by simp [Vs.strs, List.getD, hlt])
        have hsz := HSZ.out j hlt
        have HS1 := Lib.hid (HSD.out.trans (Vs.scan_cons loc hlt f))
        have HNX := Lib.hid (HAG.out.next j)
        obtain ⟨s, hse⟩ : ∃ s, l.getD j ⟨#[]⟩ = s := ⟨_, rfl⟩
        rw [hse] at q0 hsz HS1 HNX
        have HSEQ := Lib.hid hse
        clear hv' hcells hc hse HSD
        by_cases he0 : by_ s = []
        · have e0 : s.toList.isEmpty = true := by rw [Lib.toList_data]; show (by_ s).isEmpty = true; rw [he0]; rfl
          have HSE := Lib.hid (HS1.out.trans (if_pos (by unfold Vs.endB; rw [decide_eq_true he0]; rfl)))
          clear he0
          go_wp2_with fail
          go_meet
          exact ⟨j, f, a, b, c', rfl, hj, HSE, HAG, HIX, HP⟩
        have e0 : s.toList.isEmpty = false := by
          rw [Lib.toList_data]
          show (by_ s).isEmpty = false
          cases h : by_ s with
          | nil => exact absurd h he0
          | cons a t => rfl
        have CZ := Lib.hid (fun W => r36Zero_any s W hsz)
        by_cases hez : by_ s = Vs.z 2048
        · rw [decide_eq_true hez] at CZ
          have HSE := Lib.hid (HS1.out.trans (if_pos (by unfold Vs.endB; rw [decide_eq_true hez, Bool.or_true])))
          clear he0 hez
          go_wp2_with (with_reducible refine (CZ.out _).mono ?_; rintro e wx ⟨rfl, hw⟩; subst hw)
          go_meet
          exact ⟨j, f, a, b, c', rfl, hj, HSE, HAG, HIX, HP⟩
        rw [decide_eq_false hez] at CZ
        have HE := Lib.hid (show ¬ Vs.endB s = true by unfold Vs.endB; rw [decide_eq_false he0, decide_eq_false hez]; decide)
        clear he0 hez
        by_cases h33 : by_ s = [33]
        · have e2 : (s.toList == [33]) = true := by rw [Lib.toList_data, beq_iff_eq]; exact h33
          have HRE := Lib.hid (show Vs.parR l loc = ((Vs.d0, (j : Int)), 9) from HR.out.trans (congrArg Vs.parS (HS1.out.trans ((if_neg HE.out).trans (if_pos h33)))))
          clear h33
          have HLD := Lib.hid (Vs.box_load Vs.d0 HZ.out HP.out.box.hn)
          have hst := Vs.run_put (P := Tryz.prog) HP.out.box.hr Z rfl HZ1.out
          go_wp2_with (first | (with_reducible refine (CZ.out _).mono ?_; rintro e wx ⟨rfl, hw⟩; subst hw) | (refine wpList_load_at 46 _ rfl (w.heap.size + 1) 0 rfl _ HLD.out (by rfl) ?_))
          exact bodyPost_ret (v := .tuple #[.agg Z, .int .i64 (j : Int), .int .i64 9]) (res_ctt rfl _ _ w.heap.size 46 Z (0, 0) _ rfl (HP.out.box.out rfl).1 Tryz.underlying46 rfl HZI.out _ _ rfl rfl) rfl ⟨by rw [HRE.out, HZ.out], (HP.out.box.out rfl).2⟩
        have e2 : (s.toList == [33]) = false := by rw [Lib.toList_data, beq_eq_false_iff_ne]; exact h33
        have H33 := Lib.hid h33
        clear h33
        have CF := Lib.hid (fun W => r31Faults_any s (loc + (j : Int)) W hsz)
        have m1 : IntKind.i64.wrap (loc + (j : Int)) = loc + (j : Int) := IntWalk.i64_in _ (by omega)
        by_cases h20 : s.size = 2048
        case neg =>
          have HRE := Lib.hid (show Vs.parR l loc = ((Vs.d0, (j : Int)), 10) from HR.out.trans (congrArg Vs.parS (HS1.out.trans ((if_neg HE.out).trans ((if_neg H33.out).trans (if_neg (by unfold Vs.goodB; rw [decide_eq_false h20, Bool.false_and]; decide)))))))
          have d2 : ((s.size : Int) != 2048) = true := by rw [bne_iff_ne]; omega
          clear h20
          have HLD := Lib.hid (Vs.box_load Vs.d0 HZ.out HP.out.box.hn)
          have hst := Vs.run_put (P := Tryz.prog) HP.out.box.hr Z rfl HZ1.out
          go_wp2_with (first | (with_reducible refine (CZ.out _).mono ?_; rintro e wx ⟨rfl, hw⟩; subst hw) | (refine wpList_load_at 46 _ rfl (w.heap.size + 1) 0 rfl _ HLD.out (by rfl) ?_))
          exact bodyPost_ret (v := .tuple #[.agg Z, .int .i64 (j : Int), .int .i64 10]) (res_ctt rfl _ _ w.heap.size 46 Z (0, 0) _ rfl (HP.out.box.out rfl).1 Tryz.underlying46 rfl HZI.out _ _ rfl rfl) rfl ⟨by rw [HRE.out, HZ.out], (HP.out.box.out rfl).2⟩
        have d2 : ((s.size : Int) != 2048) = false := by rw [bne_eq_false_iff_eq]; omega
        go_upto_region 15 with (with_reducible refine (CZ.out _).mono ?_; rintro e wx ⟨rfl, hw⟩; subst hw)
        go_wp2_with fail
        with_reducible refine (CF.out _).mono ?_
        rintro e w3 ⟨fv, rfl, ho3, hb3⟩
        obtain ⟨fa, fc, rfl⟩ := own_shape ho3
        have HP3 := Lib.hid (HP.out.below hb3)
        clear hb3 ho3 HP CF q0 CZ m1 e0 e2
        have HRE2 := Lib.hid (fun (hf : ¬ Vs.faultsR (by_ s) (loc + (j : Int)) = []) => show Vs.parR l loc = ((Vs.d0, (j : Int)), 10) from HR.out.trans (congrArg Vs.parS (HS1.out.trans ((if_neg HE.out).trans ((if_neg H33.out).trans (if_neg (by unfold Vs.goodB; rw [decide_eq_false hf, Bool.and_false]; decide)))))))
        have HGO := Lib.hid (fun (hf : Vs.faultsR (by_ s) (loc + (j : Int)) = []) => HS1.out.trans ((if_neg HE.out).trans ((if_neg H33.out).trans (if_pos (by unfold Vs.goodB; rw [decide_eq_true hf, decide_eq_true h20]; rfl)))))
        generalize Vs.faultsR (by_ s) (loc + (j : Int)) = FT at *
        by_cases hft : FT = []
        case neg =>
          have HRE := Lib.hid (HRE2.out hft)
          have d3 : 0 < FT.length := List.length_pos_iff.2 hft
          have d4 : decide (0 < FT.length) = true := decide_eq_true d3
          clear hft HRE2 HGO h20
          have HLD := Lib.hid (Vs.box_load Vs.d0 HZ.out HP3.out.box.hn)
          have hst := Vs.run_put (P := Tryz.prog) HP3.out.box.hr Z rfl HZ1.out
          go_wp2_with (refine wpList_load_at 46 _ rfl (w.heap.size + 1) 0 rfl _ HLD.out (by rfl) ?_)
          exact bodyPost_ret (v := .tuple #[.agg Z, .int .i64 (j : Int), .int .i64 10]) (res_ctt rfl _ _ w.heap.size 46 Z (0, 0) _ rfl (HP3.out.box.out rfl).1 Tryz.underlying46 rfl HZI.out _ _ rfl rfl) rfl ⟨by rw [HRE.out, HZ.out], (HP3.out.box.out rfl).2⟩
        have HGD := Lib.hid (HGO.out hft)
        subst hft
        have CN := Lib.hid (fun W => r31N_any s 0 2 0 2 rfl rfl (by omega) (by omega) (by omega) W)
        have CS := Lib.hid (fun W => r31N_any s 16 4 16 4 rfl rfl (by omega) (by omega) (by omega) W)
        have hid := Vs.idB_bd s
        have HQS := Lib.hid (show ((Pm.at_ (by_ s) 16 4 : Nat) : Int) = Vs.sqB s from rfl)
        have HQI := Lib.hid (show ((Pm.at_ (by_ s) 0 2 : Nat) : Int) = Vs.idB s from rfl)
        rw [HQS.out] at CS
        rw [HQI.out] at CN
        have HIN := Lib.hid (show Vs.Idx l (Vs.nxt l j 1 a) ∧ Vs.Idx l (Vs.nxt l j 5 b) ∧ Vs.Idx l (Vs.nxt l j 6 c') from ⟨HIX.out.1.next hlt (by rw [HSEQ.out]; exact h20) 1, HIX.out.2.1.next hlt (by rw [HSEQ.out]; exact h20) 5, HIX.out.2.2.next hlt (by rw [HSEQ.out]; exact h20) 6⟩)
        have HNE := Lib.hid (fun (k : Nat) (W : World) (hk : k < l.length) (hz : (l.getD k ⟨#[]⟩).size = 2048) => show Calls Tryz.prog 87 #[.string (l.getD k ⟨#[]⟩), .int .i64 16, .int .i64 4] W fun e w' => e = .returned (.int .i64 (Vs.sqB (l.getD k ⟨#[]⟩))) ∧ W = w' from r31N_any (l.getD k ⟨#[]⟩) 16 4 16 4 rfl rfl (by omega) (by omega) (by omega) W)
        have HNXT := Lib.hid (fun (id x : Int) => show Vs.nxt l j id x = if Vs.idB s = id ∧ (x < 0 ∨ Vs.sqB (l.getD x.toNat ⟨#[]⟩) < Vs.sqB s) then (j : Int) else x by unfold Vs.nxt; rw [HSEQ.out])
        clear HRE2 HGO HQS HQI h20 HS1 HSEQ
        go_upto_region 18 with (with_reducible refine (CN.out _).mono ?_; rintro e wx ⟨rfl, hw⟩; subst hw)
        clear CN
        generalize Vs.idB s = ID at *
        generalize Vs.sqB s = SQ at *
        have HGD2 := Lib.hid (HGD.out.trans (show (if ID = 8 then Vs.Sc.ok (Vs.upd f ID ⟨s, j, SQ⟩) (j + 1) else Vs.scan loc (l.drop (j + 1)) (j + 1) (Vs.upd f ID ⟨s, j, SQ⟩)) = if (ID == 8) = true then Vs.Sc.ok (Vs.upd f ID ⟨s, j, SQ⟩) (j + 1) else Vs.scan loc (l.drop (j + 1)) (j + 1) (Vs.upd f ID ⟨s, j, SQ⟩) by by_cases h : ID = 8 <;> simp [h]))
        go_upto_block 2 with fail
        generalize (ID == 8) = dn at *
        clear HGD
        go_wp2_with fail
        go_loopw [14] (fun iv wr => ∃ k : Nat, k ≤ 3 ∧ iv = .int .i64 k ∧ Hid (Vs.Pq w wr gi gb Z (Vs.stp l j a b c' k).1 (Vs.stp l j a b c' k).2.1 (Vs.stp l j a b c' k).2.2)) (fun iv _ => 3 - (intOf iv).toNat)
        case atStart => exact ⟨0, by omega, rfl, HP3⟩
        case round =>
          clear HP3
          obtain ⟨k, hk, rfl, HPI⟩ := hrel
          obtain rfl | rfl | rfl | rfl : k = 0 ∨ k = 1 ∨ k = 2 ∨ k = 3 := by omega
          · have HPk := Lib.hid (show Vs.Pq w wr gi gb Z a b c' from HPI.out)
            have HXN := Lib.hid (HNXT.out 1 a)
            obtain ⟨⟨i0, i1, i2⟩, b0, b1, b2⟩ := HPk.out.cells
            have HBL := Lib.hid (HV.out.below HPk.out.box.bel)
            have HIK := Lib.hid HIX.out.1
            clear HPI
            by_cases hi : ID = 1
            case neg =>
              have z1 : (ID == 1) = false := by rw [beq_eq_false_iff_ne]; exact hi
              have HXE := Lib.hid (HXN.out.trans (if_neg (fun h => hi h.1)))
              clear hi HXN
              go_wp2_with fail
              go_quiet ((go_at_call 87; first | exact Calls.quiet_of_same ((CS.out _).mono fun _ _ h => ⟨h.1, h.2.symm⟩) | exact Calls.quiet_of_same ((CS.out _).mono fun _ _ h => ⟨h.1, h.2.symm⟩)))
              have HPq := Lib.hid (HPk.out.below (Kit.Below.drewN (Below.refl _ _) nq))
              generalize wr.drewN nq = wq at *
              have HPw := HPq
              go_wp2_with fail
              go_roundw
              case rel => exact ⟨1, by omega, by go_num, by show Hid (Vs.Pq w _ gi gb Z (Vs.nxt l j 1 a) b c'); rw [HXE.out]; exact HPw⟩
              case measure => simp [intOf]
            have z1 : (ID == 1) = true := by rw [beq_iff_eq]; exact hi
            rcases HIK.out with hx | ⟨xk, hx, hxl, hxz⟩
            · have HXE := Lib.hid (HXN.out.trans (if_pos ⟨hi, .inl (by omega)⟩))
              have z2 : decide (a < 0) = true := decide_eq_true (by omega)
              clear hi HXN hx
              go_wp2_with fail
              go_quiet ((go_at_call 87; first | exact Calls.quiet_of_same ((CS.out _).mono fun _ _ h => ⟨h.1, h.2.symm⟩) | exact Calls.quiet_of_same ((CS.out _).mono fun _ _ h => ⟨h.1, h.2.symm⟩)))
              have HPq := Lib.hid (HPk.out.below (Kit.Below.drewN (Below.refl _ _) nq))
              generalize wr.drewN nq = wq at *
              obtain ⟨⟨i0, i1, i2⟩, b0, b1, b2⟩ := HPq.out.cells
              have hfj := fun j => frozen_of_row _ _ j _ _ HPq.out.best
              have HPw := Lib.hid (HPq.out.put0 (j : Int))
              go_wp2_with fail
              go_roundw
              case rel => exact ⟨1, by omega, by go_num, by show Hid (Vs.Pq w _ gi gb Z (Vs.nxt l j 1 a) b c'); rw [HXE.out]; exact HPw⟩
              case measure => simp [intOf]
            · have z2 : decide (a < 0) = false := decide_eq_false (by omega)
              obtain ⟨A', k', hv', -, -, hcells⟩ := HBL.out
              rw [Vs.strs_len] at hv' hcells
              obtain ⟨bb', o', hbb, hb', hc'⟩ := hcells (by omega)
              obtain ⟨rfl, rfl⟩ : some ⟨bb, o, none⟩ = A' ∧ c = k' := by simpa using hv'
              obtain ⟨rfl, rfl⟩ : bb = bb' ∧ o = o' := by simpa using hbb
              have q1 : wr.cell? ⟨bb, o + xk, none⟩ = some (.string (l.getD xk ⟨#[]⟩)) := hc' xk _ (by simp [Vs.strs, List.getD, hxl])
              have CX := Lib.hid (fun W => HNE.out xk W hxl hxz)
              rw [show a.toNat = xk by omega] at HXN
              have hxs : a = (xk : Int) := hx
              clear hv' hcells hc' hbb hb'
              generalize l.getD xk ⟨#[]⟩ = sx at *
              generalize Vs.sqB sx = SX at *
              by_cases hq : SX < SQ
              · have HXE := Lib.hid (HXN.out.trans (if_pos ⟨hi, .inr hq⟩))
                have z3 : decide (SX < SQ) = true := decide_eq_true hq
                clear hi HXN hx hq
                rw [hxs] at b0 z2
                clear hxs
                go_wp2_with fail
                go_quiet ((go_at_call 87; first | with_reducible exact Calls.quiet_of_same ((CS.out _).mono fun _ _ h => ⟨h.1, h.2.symm⟩) | with_reducible exact Calls.quiet_of_same ((CX.out _).mono fun _ _ h => ⟨h.1, h.2.symm⟩)))
                have HPq := Lib.hid (HPk.out.below (Kit.Below.drewN (Below.refl _ _) nq))
                generalize wr.drewN nq = wq at *
                obtain ⟨⟨i0, i1, i2⟩, b0, b1, b2⟩ := HPq.out.cells
                have hfj := fun j => frozen_of_row _ _ j _ _ HPq.out.best
                have HPw := Lib.hid (HPq.out.put0 (j : Int))
                go_wp2_with fail
                go_roundw
                case rel => exact ⟨1, by omega, by go_num, by show Hid (Vs.Pq w _ gi gb Z (Vs.nxt l j 1 a) b c'); rw [HXE.out]; exact HPw⟩
                case measure => simp [intOf]
              · have HXE := Lib.hid (HXN.out.trans (if_neg (fun h => by rcases h.2 with g | g; omega; exact hq g)))
                have z3 : decide (SX < SQ) = false := decide_eq_false hq
                clear hi HXN hx hq
                rw [hxs] at b0 z2
                clear hxs
                go_wp2_with fail
                go_quiet ((go_at_call 87; first | with_reducible exact Calls.quiet_of_same ((CS.out _).mono fun _ _ h => ⟨h.1, h.2.symm⟩) | with_reducible exact Calls.quiet_of_same ((CX.out _).mono fun _ _ h => ⟨h.1, h.2.symm⟩)))
                have HPq := Lib.hid (HPk.out.below (Kit.Below.drewN (Below.refl _ _) nq))
                generalize wr.drewN nq = wq at *
                have HPw := HPq
                go_wp2_with fail
                go_roundw
                case rel => exact ⟨1, by omega, by go_num, by show Hid (Vs.Pq w _ gi gb Z (Vs.nxt l j 1 a) b c'); rw [HXE.out]; exact HPw⟩
                case measure => simp [intOf]
          · have HPk := Lib.hid (show Vs.Pq w wr gi gb Z (Vs.nxt l j 1 a) b c' from HPI.out)
            have HXN := Lib.hid (HNXT.out 5 b)
            obtain ⟨⟨i0, i1, i2⟩, b0, b1, b2⟩ := HPk.out.cells
            have HBL := Lib.hid (HV.out.below HPk.out.box.bel)
            have HIK := Lib.hid HIX.out.2.1
            clear HPI
            by_cases hi : ID = 5
            case neg =>
              have z1 : (ID == 5) = false := by rw [beq_eq_false_iff_ne]; exact hi
              have HXE := Lib.hid (HXN.out.trans (if_neg (fun h => hi h.1)))
              clear hi HXN
              go_wp2_with fail
              go_quiet ((go_at_call 87; first | exact Calls.quiet_of_same ((CS.out _).mono fun _ _ h => ⟨h.1, h.2.symm⟩) | exact Calls.quiet_of_same ((CS.out _).mono fun _ _ h => ⟨h.1, h.2.symm⟩)))
              have HPq := Lib.hid (HPk.out.below (Kit.Below.drewN (Below.refl _ _) nq))
              generalize wr.drewN nq = wq at *
              have HPw := HPq
              go_wp2_with fail
              go_roundw
              case rel => exact ⟨2, by omega, by go_num, by show Hid (Vs.Pq w _ gi gb Z (Vs.nxt l j 1 a) (Vs.nxt l j 5 b) c'); rw [HXE.out]; exact HPw⟩
              case measure => simp [intOf]
            have z1 : (ID == 5) = true := by rw [beq_iff_eq]; exact hi
            rcases HIK.out with hx | ⟨xk, hx, hxl, hxz⟩
            · have HXE := Lib.hid (HXN.out.trans (if_pos ⟨hi, .inl (by omega)⟩))
              have z2 : decide (b < 0) = true := decide_eq_true (by omega)
              clear hi HXN hx
              go_wp2_with fail
              go_quiet ((go_at_call 87; first | exact Calls.quiet_of_same ((CS.out _).mono fun _ _ h => ⟨h.1, h.2.symm⟩) | exact Calls.quiet_of_same ((CS.out _).mono fun _ _ h => ⟨h.1, h.2.symm⟩)))
              have HPq := Lib.hid (HPk.out.below (Kit.Below.drewN (Below.refl _ _) nq))
              generalize wr.drewN nq = wq at *
              obtain ⟨⟨i0, i1, i2⟩, b0, b1, b2⟩ := HPq.out.cells
              have hfj := fun j => frozen_of_row _ _ j _ _ HPq.out.best
              have HPw := Lib.hid (HPq.out.put1 (j : Int))
              go_wp2_with fail
              go_roundw
              case rel => exact ⟨2, by omega, by go_num, by show Hid (Vs.Pq w _ gi gb Z (Vs.nxt l j 1 a) (Vs.nxt l j 5 b) c'); rw [HXE.out]; exact HPw⟩
              case measure => simp [intOf]
            · have z2 : decide (b < 0) = false := decide_eq_false (by omega)
              obtain ⟨A', k', hv', -, -, hcells⟩ := HBL.out
              rw [Vs.strs_len] at hv' hcells
              obtain ⟨bb', o', hbb, hb', hc'⟩ := hcells (by omega)
              obtain ⟨rfl, rfl⟩ : some ⟨bb, o, none⟩ = A' ∧ c = k' := by simpa using hv'
              obtain ⟨rfl, rfl⟩ : bb = bb' ∧ o = o' := by simpa using hbb
              have q1 : wr.cell? ⟨bb, o + xk, none⟩ = some (.string (l.getD xk ⟨#[]⟩)) := hc' xk _ (by simp [Vs.strs, List.getD, hxl])
              have CX := Lib.hid (fun W => HNE.out xk W hxl hxz)
              rw [show b.toNat = xk by omega] at HXN
              have hxs : b = (xk : Int) := hx
              clear hv' hcells hc' hbb hb'
              generalize l.getD xk ⟨#[]⟩ = sx at *
              generalize Vs.sqB sx = SX at *
              by_cases hq : SX < SQ
              · have HXE := Lib.hid (HXN.out.trans (if_pos ⟨hi, .inr hq⟩))
                have z3 : decide (SX < SQ) = true := decide_eq_true hq
                clear hi HXN hx hq
                rw [hxs] at b1 z2
                clear hxs
                go_wp2_with fail
                go_quiet ((go_at_call 87; first | with_reducible exact Calls.quiet_of_same ((CS.out _).mono fun _ _ h => ⟨h.1, h.2.symm⟩) | with_reducible exact Calls.quiet_of_same ((CX.out _).mono fun _ _ h => ⟨h.1, h.2.symm⟩)))
                have HPq := Lib.hid (HPk.out.below (Kit.Below.drewN (Below.refl _ _) nq))
                generalize wr.drewN nq = wq at *
                obtain ⟨⟨i0, i1, i2⟩, b0, b1, b2⟩ := HPq.out.cells
                have hfj := fun j => frozen_of_row _ _ j _ _ HPq.out.best
                have HPw := Lib.hid (HPq.out.put1 (j : Int))
                go_wp2_with fail
                go_roundw
                case rel => exact ⟨2, by omega, by go_num, by show Hid (Vs.Pq w _ gi gb Z (Vs.nxt l j 1 a) (Vs.nxt l j 5 b) c'); rw [HXE.out]; exact HPw⟩
                case measure => simp [intOf]
              · have HXE := Lib.hid (HXN.out.trans (if_neg (fun h => by rcases h.2 with g | g; omega; exact hq g)))
                have z3 : decide (SX < SQ) = false := decide_eq_false hq
                clear hi HXN hx hq
                rw [hxs] at b1 z2
                clear hxs
                go_wp2_with fail
                go_quiet ((go_at_call 87; first | with_reducible exact Calls.quiet_of_same ((CS.out _).mono fun _ _ h => ⟨h.1, h.2.symm⟩) | with_reducible exact Calls.quiet_of_same ((CX.out _).mono fun _ _ h => ⟨h.1, h.2.symm⟩)))
                have HPq := Lib.hid (HPk.out.below (Kit.Below.drewN (Below.refl _ _) nq))
                generalize wr.drewN nq = wq at *
                have HPw := HPq
                go_wp2_with fail
                go_roundw
                case rel => exact ⟨2, by omega, by go_num, by show Hid (Vs.Pq w _ gi gb Z (Vs.nxt l j 1 a) (Vs.nxt l j 5 b) c'); rw [HXE.out]; exact HPw⟩
                case measure => simp [intOf]
          · have HPk := Lib.hid (show Vs.Pq w wr gi gb Z (Vs.nxt l j 1 a) (Vs.nxt l j 5 b) c' from HPI.out)
            have HXN := Lib.hid (HNXT.out 6 c')
            obtain ⟨⟨i0, i1, i2⟩, b0, b1, b2⟩ := HPk.out.cells
            have HBL := Lib.hid (HV.out.below HPk.out.box.bel)
            have HIK := Lib.hid HIX.out.2.2
            clear HPI
            by_cases hi : ID = 6
            case neg =>
              have z1 : (ID == 6) = false := by rw [beq_eq_false_iff_ne]; exact hi
              have HXE := Lib.hid (HXN.out.trans (if_neg (fun h => hi h.1)))
              clear hi HXN
              go_wp2_with fail
              go_quiet ((go_at_call 87; first | exact Calls.quiet_of_same ((CS.out _).mono fun _ _ h => ⟨h.1, h.2.symm⟩) | exact Calls.quiet_of_same ((CS.out _).mono fun _ _ h => ⟨h.1, h.2.symm⟩)))
              have HPq := Lib.hid (HPk.out.below (Kit.Below.drewN (Below.refl _ _) nq))
              generalize wr.drewN nq = wq at *
              have HPw := HPq
              go_wp2_with fail
              go_roundw
              case rel => exact ⟨3, by omega, by go_num, by show Hid (Vs.Pq w _ gi gb Z (Vs.nxt l j 1 a) (Vs.nxt l j 5 b) (Vs.nxt l j 6 c')); rw [HXE.out]; exact HPw⟩
              case measure => simp [intOf]
            have z1 : (ID == 6) = true := by rw [beq_iff_eq]; exact hi
            rcases HIK.out with hx | ⟨xk, hx, hxl, hxz⟩
            · have HXE := Lib.hid (HXN.out.trans (if_pos ⟨hi, .inl (by omega)⟩))
              have z2 : decide (c' < 0) = true := decide_eq_true (by omega)
              clear hi HXN hx
              go_wp2_with fail
              go_quiet ((go_at_call 87; first | exact Calls.quiet_of_same ((CS.out _).mono fun _ _ h => ⟨h.1, h.2.symm⟩) | exact Calls.quiet_of_same ((CS.out _).mono fun _ _ h => ⟨h.1, h.2.symm⟩)))
              have HPq := Lib.hid (HPk.out.below (Kit.Below.drewN (Below.refl _ _) nq))
              generalize wr.drewN nq = wq at *
              obtain ⟨⟨i0, i1, i2⟩, b0, b1, b2⟩ := HPq.out.cells
              have hfj := fun j => frozen_of_row _ _ j _ _ HPq.out.best
              have HPw := Lib.hid (HPq.out.put2 (j : Int))
              go_wp2_with fail
              go_roundw
              case rel => exact ⟨3, by omega, by go_num, by show Hid (Vs.Pq w _ gi gb Z (Vs.nxt l j 1 a) (Vs.nxt l j 5 b) (Vs.nxt l j 6 c')); rw [HXE.out]; exact HPw⟩
              case measure => simp [intOf]
            · have z2 : decide (c' < 0) = false := decide_eq_false (by omega)
              obtain ⟨A', k', hv', -, -, hcells⟩ := HBL.out
              rw [Vs.strs_len] at hv' hcells
              obtain ⟨bb', o', hbb, hb', hc'⟩ := hcells (by omega)
              obtain ⟨rfl, rfl⟩ : some ⟨bb, o, none⟩ = A' ∧ c = k' := by simpa using hv'
              obtain ⟨rfl, rfl⟩ : bb = bb' ∧ o = o' := by simpa using hbb
              have q1 : wr.cell? ⟨bb, o + xk, none⟩ = some (.string (l.getD xk ⟨#[]⟩)) := hc' xk _ (by simp [Vs.strs, List.getD, hxl])
              have CX := Lib.hid (fun W => HNE.out xk W hxl hxz)
              rw [show c'.toNat = xk by omega] at HXN
              have hxs : c' = (xk : Int) := hx
              clear hv' hcells hc' hbb hb'
              generalize l.getD xk ⟨#[]⟩ = sx at *
              generalize Vs.sqB sx = SX at *
              by_cases hq : SX < SQ
              · have HXE := Lib.hid (HXN.out.trans (if_pos ⟨hi, .inr hq⟩))
                have z3 : decide (SX < SQ) = true := decide_eq_true hq
                clear hi HXN hx hq
                rw [hxs] at b2 z2
                clear hxs
                go_wp2_with fail
                go_quiet ((go_at_call 87; first | with_reducible exact Calls.quiet_of_same ((CS.out _).mono fun _ _ h => ⟨h.1, h.2.symm⟩) | with_reducible exact Calls.quiet_of_same ((CX.out _).mono fun _ _ h => ⟨h.1, h.2.symm⟩)))
                have HPq := Lib.hid (HPk.out.below (Kit.Below.drewN (Below.refl _ _) nq))
                generalize wr.drewN nq = wq at *
                obtain ⟨⟨i0, i1, i2⟩, b0, b1, b2⟩ := HPq.out.cells
                have hfj := fun j => frozen_of_row _ _ j _ _ HPq.out.best
                have HPw := Lib.hid (HPq.out.put2 (j : Int))
                go_wp2_with fail
                go_roundw
                case rel => exact ⟨3, by omega, by go_num, by show Hid (Vs.Pq w _ gi gb Z (Vs.nxt l j 1 a) (Vs.nxt l j 5 b) (Vs.nxt l j 6 c')); rw [HXE.out]; exact HPw⟩
                case measure => simp [intOf]
              · have HXE := Lib.hid (HXN.out.trans (if_neg (fun h => by rcases h.2 with g | g; omega; exact hq g)))
                have z3 : decide (SX < SQ) = false := decide_eq_false hq
                clear hi HXN hx hq
                rw [hxs] at b2 z2
                clear hxs
                go_wp2_with fail
                go_quiet ((go_at_call 87; first | with_reducible exact Calls.quiet_of_same ((CS.out _).mono fun _ _ h => ⟨h.1, h.2.symm⟩) | with_reducible exact Calls.quiet_of_same ((CX.out _).mono fun _ _ h => ⟨h.1, h.2.symm⟩)))
                have HPq := Lib.hid (HPk.out.below (Kit.Below.drewN (Below.refl _ _) nq))
                generalize wr.drewN nq = wq at *
                have HPw := HPq
                go_wp2_with fail
                go_roundw
                case rel => exact ⟨3, by omega, by go_num, by show Hid (Vs.Pq w _ gi gb Z (Vs.nxt l j 1 a) (Vs.nxt l j 5 b) (Vs.nxt l j 6 c')); rw [HXE.out]; exact HPw⟩
                case measure => simp [intOf]
          · have HPk := Lib.hid (show Vs.Pq w wr gi gb Z (Vs.nxt l j 1 a) (Vs.nxt l j 5 b) (Vs.nxt l j 6 c') from HPI.out)
            go_wp2_with fail
            go_roundw
            case rel => exact ⟨j + 1, dn, Vs.upd f ID ⟨s, j, SQ⟩, _, _, _, by go_num, rfl, by omega, HGD2, HNX, HIN, HPk⟩
            case measure => simp [intOf]; omega
    case rest =>
    clear HP
    obtain ⟨k, f, a, b, c', rfl, hk, HSC, HAG, HIX, HP⟩ := hcut
    have HRP := Lib.hid (HR.out.trans (congrArg Vs.parS HSC.out))
    refine ‹∀ (a : Act) (w : World), Code.wp _ _ _ a w → _› _ _ ?_
    rw [← HRR.out]
    exact rpseq_tail l loc w Z A c gi gb k f a b c' HZ HZ1 HZI HZL hz22 hl' HV HRP HAG HIX _ HP
end Go.Proofs.YthkppbimkjmbnaaGreatDoor

/-
  The walk through the reference's ParseSequence: the whole.
-/
namespace Go.Proofs.YthkppbimkjmbnaaGreatDoor
set_option linter.unusedVariables false
open Go.RowKit
open Vs (bs by_)

set_option maxHeartbeats 25600000 in
set_option maxRecDepth 100000 in
/-- masterdiscref36.ParseSequence. -/
theorem rpseq_main (v : Value) (l : List ByteArray) (loc : Int) (w : World) (hv : Kit.Row w v (Vs.strs l)) (hs : ∀ j, j < l.length → (l.getD j ⟨#[]⟩).size ≤ 9223372036854775807) (hw : Vs.word loc = true) (hl : ¬ 1024 < l.length) :
    Calls Tryz.prog 27 #[v, .int .i64 loc] w fun e w' => e = .returned (.tuple #[.agg (Vs.dC (Vs.parR l loc).1.1), .int .i64 (Vs.parR l loc).1.2, .int .i64 (Vs.parR l loc).2]) ∧ Below w.heap.size w w' := by
  have HR := Lib.hid (show Vs.parR l loc = Vs.parS (Vs.scan loc l 0 fun _ => none) from (if_neg (by rw [hw]; decide)).trans (if_neg hl))
  have CW := Lib.hid (fun W => r36Word_any loc W)
  rw [hw] at CW
  have HV := Lib.hid hv
  have HSZ := Lib.hid hs
  obtain ⟨hw0, hw1⟩ := (Vs.word_iff loc).1 hw
  obtain ⟨Z, hZ⟩ : ∃ Z, Z = Vs.zC := ⟨_, rfl⟩
  have HS := Lib.hid (Vs.PsB.start w Z)
  have HZ := Lib.hid (show Z = Vs.dC Vs.d0 from hZ)
  have HZ1 := Lib.hid (show Z.all (·.oneCell') = true by rw [hZ]; exact Vs.zC_one)
  have HZI := Lib.hid (show (Tryz.prog.info? 46).map (·.size) = some Z.size by rw [hZ]; exact Vs.zC_info)
  have HZL := Lib.hid (show (#[.string ⟨#[]⟩, .string ⟨#[]⟩, .string ⟨#[]⟩, .string ⟨#[]⟩, .string ⟨#[]⟩, .int .i64 0, .int .i64 0, .int .i64 0, .int .i64 0, .int .i64 0, .int .i64 0, .int .i64 0, .int .i64 0, .int .i64 0, .int .i64 0, .string ⟨#[]⟩, .int .i64 0, .int .i64 0, .int .i64 0, .int .i64 0, .int .i64 0, .int .i64 0] : Array Value) = Z from hZ.symm)
  have hz22 : Z.size = 22 := by rw [hZ]; rfl
  obtain ⟨A, c, rfl, hlc, hcm, -⟩ := hv
  rw [Vs.strs_len] at *
  have d1 : decide ((1024 : Int) < (l.length : Int)) = false := decide_eq_false (by omega)
  have hl' : l.length ≤ 1024 := by omega
  clear hZ hw hs hlc hcm hl
  go_enter Tryz.func27, Tryz.ntmps27
  show (Vs.dropC 0 (Tryz.f27.body.getD Code.skip)).wp _ _ _ _
  rw [show Vs.dropC 0 (Tryz.f27.body.getD Code.skip) = Code.seq (Vs.headC (Vs.dropC 0 (Tryz.f27.body.getD Code.skip))) (Code.seq (Vs.headC (Vs.dropC 1 (Tryz.f27.body.getD Code.skip))) (Code.seq (Vs.headC (Vs.dropC 2 (Tryz.f27.body.getD Code.skip))) (Code.seq (Vs.headC (Vs.dropC 3 (Tryz.f27.body.getD Code.skip))) (Code.seq (Vs.headC (Vs.dropC 4 (Tryz.f27.body.getD Code.skip))) (Code.seq (Vs.headC (Vs.dropC 5 (Tryz.f27.body.getD Code.skip))) (Code.seq (Vs.headC (Vs.dropC 6 (Tryz.f27.body.getD Code.skip))) (Vs.dropC 7 (Tryz.f27.body.getD Code.skip)))))))) from rfl]
  generalize hR : Vs.dropC 7 (Tryz.f27.body.getD Code.skip) = R
  have HRR := Lib.hid hR
  clear hR
  dsimp only [Vs.headC, Vs.dropC, Tryz.f27, Option.getD_some]
  go_upto_region 1 with fail
  go_upto_region 2 with (refine wpList_store_mid rfl 46 _ _ rfl (w.heap.size + 1) 0 Vs.zC (by rfl) (by rfl) (Vs.row_there (heap_alloc2_new w _ _) rfl) Vs.zC_info Vs.zC_one ?_)
  unfold Vs.zC
  rw [HZL.out]
  generalize (((w.alloc (.cells Z 46)).alloc (.cells Z 46)).setCells (w.heap.size + 1) 0 Z.toList) = W1 at *
  go_wp2_with fail
  with_reducible refine (CW.out _).mono ?_
  rintro e wx ⟨rfl, hx⟩
  subst hx
  go_wp2_with fail
  have HP := Lib.hid (Vs.Pq.start HS.out)
  generalize ((W1.alloc (.cells #[.int .i64 1, .int .i64 5, .int .i64 6] 3)).alloc (.cells #[.int .i64 (-1), .int .i64 (-1), .int .i64 (-1)] 3)) = W2 at *
  have HGB := Lib.hid (show W1.heap.size + 1 = W1.heap.size + 1 from rfl)
  generalize W1.heap.size = gi at *
  clear HS CW d1
  generalize gi + 1 = gb at *
  rw [← HRR.out]
  exact rpseq_loop l loc w Z A c gi gb hw0 hw1 HZ HZ1 HZI HZL hz22 hl' HV HSZ HR _ HP
/-- masterdiscref36.ParseSequence. -/
theorem rpseq_any (v : Value) (l : List ByteArray) (loc : Int) (w : World) (hv : Kit.Row w v (Vs.strs l)) (hs : ∀ j, j < l.length → (l.getD j ⟨#[]⟩).size ≤ 9223372036854775807) :
    Calls Tryz.prog 27 #[v, .int .i64 loc] w fun e w' => e = .returned (.tuple #[.agg (Vs.dC (Vs.parR l loc).1.1), .int .i64 (Vs.parR l loc).1.2, .int .i64 (Vs.parR l loc).2]) ∧ Below w.heap.size w w' := by
  cases hw : Vs.word loc with
  | false => exact rpseq_range v l loc w hw
  | true =>
    by_cases hl : 1024 < l.length
    · exact rpseq_many v l loc w hv hw hl
    · exact rpseq_main v l loc w hv hs hw hl
end Go.Proofs.YthkppbimkjmbnaaGreatDoor
