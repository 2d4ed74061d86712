/-
  The walk through the reference's ParseSequence: the second descriptor, its latter half.
-/
import Derived.Test.YthkppbimkjmbnaaGreatDoorXl
namespace Go.Proofs.YthkppbimkjmbnaaGreatDoor
set_option linter.unusedVariables false
open Go.RowKit
open Vs (bs by_)

set_option maxHeartbeats 25600000 in
set_option maxRecDepth 100000 in
/-- masterdiscref36.ParseSequence: the second descriptor, its latter half. -/
theorem rpseq_secondb {u2 u3 u5 u6 u8 u10 u11 u12 u13 u14 u17 u18 u19 u20 u21 u22 u24 u25 u26 u27 u28 u29 u30 u31 u32 u33 u34 u35 u36 u37 u38 u39 u40 u41 u42 u43 u44 u45 u46 u47 u48 u49 u50 u51 u52 u53 u54 u55 u56 u57 u58 u59 u60 u61 u62 u63 u64 u65 u66 u67 u68 u69 u70 u71 u72 u73 u74 u75 u76 u77 u78 u79 u80 u81 u82 u83 u84 u85 u86 u87 u88 u89 u90 u91 u92 u93 u94 u95 u96 u97 u98 u99 u100 u101 u102 u103 u104 u105 u106 u107 u108 u109 u110 u111 u112 u113 u114 u115 u116 u117 u118 u119 u120 u121 u122 u123 u124 u125 u126 u127 u128 u129 u130 u131 u132 u133 u134 u135 u136 u137 u138 u139 u140 u141 u142 u143 u144 u145 u146 u147 u148 u149 u150 u151 u152 u153 u154 u155 u156 u157 u158 u159 u160 u161 u162 u163 u164 u165 u166 u167 u168 u169 u170 u171 u172 u173 u174 u175 u176 u177 u178 u179 u180 u181 u182 u183 u184 u185 u186 u187 u188 u189 u190 u191 u192 u193 u194 u195 u196 u197 u198 u199 u200 u201 u202 u203 u204 u205 u206 u207 u208 u209 u210 u211 u212 u213 u214 u215 u216 u217 u218 u219 u220 u221 u222 u223 u224 u225 u226 u227 u228 u229 u230 u231 u232 u233 u234 u235 u236 u237 u238 u239 u240 u241 u242 u243 u244 u245 u246 u247 u248 u249 u250 u251 u252 u253 u254 u255 u256 u257 u258 u259 u260 u261 u262 u263 u264 u265 u266 u267 u268 u269 u270 u271 u272 u273 u274 u275 u276 u277 u278 u279 u280 u281 u282 u283 u284 u285 u286 u287 u288 u289 u290 u291 u292 u293 u294 u295 u296 u297 u298 u299 u300 u301 u302 u303 u304 u305 u306 u307 u308 u309 u310 u311 u312 u313 u314 u315 u316 : Value} (l : List ByteArray) (loc : Int) (w : World) (Z : Array Value) (bb o c gi gb gd na nb nc : Nat) (sa sb sc : ByteArray)
    (HZ : Hid (Z = Vs.dC Vs.d0)) (HZ1 : Hid (Z.all (·.oneCell') = true)) (HZI : Hid ((Tryz.prog.info? 46).map (·.size) = some Z.size)) (hz22 : Z.size = 22)
    (hl' : l.length ≤ 1024) (hna : na < l.length) (hnb : nb < l.length) (hnc : nc < l.length) (hza : sa.size = 2048) (hzb : sb.size = 2048) (hzc : sc.size = 2048)
    (HQ : Hid (∀ W : World, Below w.heap.size w W → W.cell? ⟨bb, o + na, none⟩ = some (.string sa) ∧ W.cell? ⟨bb, o + nb, none⟩ = some (.string sb) ∧ W.cell? ⟨bb, o + nc, none⟩ = some (.string sc)))
    (HR3 : Hid (Vs.parR l loc = Vs.par3 ⟨sa, na, Vs.sqB sa⟩ ⟨sb, nb, Vs.sqB sb⟩ ⟨sc, nc, Vs.sqB sc⟩))
    (HP1 : Hid (Vs.p1E (by_ sa) Vs.d0 = 0)) (HK1 : Hid (Vs.okVol (Vs.p1V (by_ sa) Vs.d0.vol) = true)) (pe2 : Int) (HE2 : Hid (Vs.p2E (by_ sb) = if pe2 ≠ 0 then 10 else if Vs.okPart (Vs.p2P (by_ sb)) = true then 0 else 10)) (w7 : World) (HD7 : Hid (Vs.Pd w w7 gi gb gd Z (na : Int) (nb : Int) (nc : Int) { (Vs.p1D (by_ sa) Vs.exR) with part := ⟨(Pm.at_ (by_ sb) 22 2 : Nat), (Pm.at_ (by_ sb) 184 4 : Nat), (Pm.at_ (by_ sb) 188 4 : Nat), (Pm.at_ (by_ sb) 192 4 : Nat), 0, 0⟩ })) :
    (Vs.dropC 19 (Tryz.f27.body.getD Code.skip)).wp Tryz.prog (bodyPost Tryz.prog Tryz.f27 (fun e w' => e = .returned (.tuple #[.agg (Vs.dC (Vs.parR l loc).1.1), .int .i64 (Vs.parR l loc).1.2, .int .i64 (Vs.parR l loc).2]) ∧ Below w.heap.size w w')) ⟨#[.slice (some ⟨bb, o, none⟩) l.length c, .int .i64 loc, u2, u3, .pointer (some ⟨w.heap.size, 0, none⟩), u5, u6, .pointer (some ⟨w.heap.size + 1, 0, none⟩), u8, .slice (some ⟨gb, 0, none⟩) 3 3, u10, u11, u12, u13, u14, .pointer (some ⟨gd, 0, none⟩), .string sb, u17, u18, u19, u20, u21, u22, .int .i64 pe2, u24, u25, u26, u27, u28, u29, u30, u31, u32, u33, u34, u35, u36, u37, u38, u39, u40, u41, u42, u43, u44, u45, u46, u47, u48, u49, u50, u51, u52, u53, u54, u55, u56, u57, u58, u59, u60, u61, u62, u63, u64, u65, u66, u67, u68, u69, u70, u71, u72, u73, u74, u75, u76, u77, u78, u79, u80, u81, u82, u83, u84, u85, u86, u87, u88, u89, u90, u91, u92, u93, u94, u95, u96, u97, u98, u99, u100, u101, u102, u103, u104, u105, u106, u107, u108, u109, u110, u111, u112, u113, u114, u115, u116, u117, u118, u119, u120, u121, u122, u123, u124, u125, u126, u127, u128, u129, u130, u131, u132, u133, u134, u135, u136, u137, u138, u139, u140, u141, u142, u143, u144, u145, u146, u147, u148, u149, u150, u151, u152, u153, u154, u155, u156, u157, u158, u159, u160, u161, u162, u163, u164, u165, u166, u167, u168, u169, u170, u171, u172, u173, u174, u175, u176, u177, u178, u179, u180, u181, u182, u183, u184, u185, u186, u187, u188, u189, u190, u191, u192, u193, u194, u195, u196, u197, u198, u199, u200, u201, u202, u203, u204, u205, u206, u207, u208, u209, u210, u211, u212, u213, u214, u215, u216, u217, u218, u219, u220, u221, u222, u223, u224, u225, u226, u227, u228, u229, u230, u231, u232, u233, u234, u235, u236, u237, u238, u239, u240, u241, u242, u243, u244, u245, u246, u247, u248, u249, u250, u251, u252, u253, u254, u255, u256, u257, u258, u259, u260, u261, u262, u263, u264, u265, u266, u267, u268, u269, u270, u271, u272, u273, u274, u275, u276, u277, u278, u279, u280, u281, u282, u283, u284, u285, u286, u287, u288, u289, u290, u291, u292, u293, u294, u295, u296, u297, u298, u299, u300, u301, u302, u303, u304, u305, u306, u307, u308, u309, u310, u311, u312, u313, u314, u315, u316], []⟩ w7 := by
    generalize hQ : bodyPost Tryz.prog Tryz.f27 _ = Q
    dsimp only [Vs.dropC, Tryz.f27, Option.getD_some]
    let Q2 := bodyPost Tryz.prog Tryz.f27 (fun e w' => e = .returned (.tuple #[.agg (Vs.dC (Vs.parR l loc).1.1), .int .i64 (Vs.parR l loc).1.2, .int .i64 (Vs.parR l loc).2]) ∧ Below w.heap.size w w')
    obtain rfl : Q2 = Q := hQ
    have CB5 := Lib.hid (fun W => r31N_any sb 68 4 68 4 rfl rfl (by omega) (by omega) (by omega) W)
    have CB6 := Lib.hid (fun W => r31N_any sb 64 4 64 4 rfl rfl (by omega) (by omega) (by omega) W)
    have CBC := Lib.hid (fun W => show Calls Tryz.prog 91 #[.int .i64 (((Pm.at_ (by_ sb) 64 4 : Nat) : Int) % 1073741824)] W fun e w' => e = .returned (.int .i64 ((Pm.at_ (by_ sb) 64 4 % 1073741824 + 2047) / 2048 : Nat)) ∧ W = w' from r33Count_any (Pm.at_ (by_ sb) 64 4 % 1073741824) (by omega) W)
    have CV2 := Lib.hid (fun W => r36Valid_any (Vs.p2D (by_ sb) (Vs.p1D (by_ sa) Vs.exR)) W (by show (bs [120]).size ≤ _; decide) (by show (bs (Cs.parseR (Vs.sl (by_ sa) 72 128)).1).size ≤ _; rw [Vs.bs_size]; have h1 := Vs.parse_le (Vs.sl (by_ sa) 72 128); have h2 := Vs.sl_le (by_ sa) 72 128; omega) (by show (⟨#[]⟩ : ByteArray).size ≤ _; exact Nat.zero_le _))
    have HO2 := Lib.hid (Vs.ref2 (by_ sb) (by_ sa) HK1.out)
    have hb64 := Pm.at_lt (by_ sb) 64 4
    rw [← HO2.out] at HE2
    have HF2 := Lib.hid (show ({ (Vs.p1D (by_ sa) Vs.exR) with part := ⟨(Pm.at_ (by_ sb) 22 2 : Nat), (Pm.at_ (by_ sb) 184 4 : Nat), (Pm.at_ (by_ sb) 188 4 : Nat), (Pm.at_ (by_ sb) 192 4 : Nat), (Pm.at_ (by_ sb) 68 4 : Nat), ((Pm.at_ (by_ sb) 64 4 % 1073741824 + 2047) / 2048 : Nat)⟩ } : Vs.D) = Vs.p2D (by_ sb) (Vs.p1D (by_ sa) Vs.exR) from rfl)
    generalize Vs.okD (Vs.p2D (by_ sb) (Vs.p1D (by_ sa) Vs.exR)) = ok2 at *
    generalize ((Pm.at_ (by_ sb) 22 2 : Nat) : Int) = a22 at *
    generalize ((Pm.at_ (by_ sb) 184 4 : Nat) : Int) = a184 at *
    generalize ((Pm.at_ (by_ sb) 188 4 : Nat) : Int) = a188 at *
    generalize ((Pm.at_ (by_ sb) 192 4 : Nat) : Int) = a192 at *
    generalize ((Pm.at_ (by_ sb) 68 4 : Nat) : Int) = a68 at *
    generalize (((Pm.at_ (by_ sb) 64 4 % 1073741824 + 2047) / 2048 : Nat) : Int) = abc at *
    have h64 : ((Pm.at_ (by_ sb) 64 4 : Nat) : Int) < 4294967296 := by omega
    have h640 : (0 : Int) ≤ ((Pm.at_ (by_ sb) 64 4 : Nat) : Int) := by omega
    generalize ((Pm.at_ (by_ sb) 64 4 : Nat) : Int) = a64 at *
    have d1 : IntKind.i64.wrap (a64 % 1073741824) = a64 % 1073741824 := IntWalk.i64_in _ (by omega)
    clear hb64
    obtain ⟨-, -, -, -, -, -, -, -, -, -, -, -, c12, c13, -⟩ := Vs.dC_cells _ HD7.out.row
    have hfj := fun j => frozen_of_row _ _ j _ _ HD7.out.row
    go_upto_region 39 with (first | (with_reducible refine (CB5.out _).mono ?_; rintro e wx ⟨rfl, hw⟩; subst hw) | (with_reducible refine (CB6.out _).mono ?_; rintro e wx ⟨rfl, hw⟩; subst hw) | (with_reducible refine (CBC.out _).mono ?_; rintro e wx ⟨rfl, hw⟩; subst hw))
    have HD8 := Lib.hid (show Vs.Pd w ((w7.setCell ⟨gd, 12, none⟩ (.int .i64 a68)).setCell ⟨gd, 13, none⟩ (.int .i64 abc)) gi gb gd Z (na : Int) (nb : Int) (nc : Int) (Vs.p2D (by_ sb) (Vs.p1D (by_ sa) Vs.exR)) by rw [← HF2.out]; exact HD7.out.sets _ (Vs.put_db _ a68 abc))
    generalize ((w7.setCell ⟨gd, 12, none⟩ (.int .i64 a68)).setCell ⟨gd, 13, none⟩ (.int .i64 abc)) = w8 at *
    clear HD7 c12 c13 hfj CB5 CB6 CBC HF2 d1 h64 h640
    by_cases h1 : pe2 = 0
    case neg =>
      have d2 : (pe2 != 0) = true := by rw [bne_iff_ne]; exact h1
      have HRE := Lib.hid (HR3.out.trans (Vs.par3_2 HP1.out (HE2.out.trans (if_pos h1)) (by decide)))
      clear h1 HR3 HE2
      go_wp2_with fail
      have HSD := (show Vs.Pq w w8.drew gi gb Z (na : Int) (nb : Int) (nc : Int) from HD8.out.pq.below (Below.refl _ _).drew)
      refine wp_region_held_drew (S := fun W => Vs.Pq w W gi gb Z (na : Int) (nb : Int) (nc : Int)) (by kernel_rfl) HSD (fun _ => ?_)
      refine wpAnyH_take (i := 0) (v := .agg Z) rfl (by kernel_rfl) (by kernel_rfl) (by kernel_rfl) (fun _ _ _ h => h) (Or.inl ⟨by rfl, yields_load3 46 _ rfl (w.heap.size + 1) 0 rfl _ (fun W h => Vs.box_load Vs.d0 HZ.out h.box.hn)⟩) (by assumption) ?_
      try simp only [Act.put, List.setIfInBounds_toArray, List.set_cons_zero, List.set_cons_succ, List.getElem_toArray, List.getElem_cons_zero]
      refine wpAnyH_take (i := 1) (v := .slice (some ⟨gb, 0, none⟩) 3 3) rfl (by kernel_rfl) (by kernel_rfl) (by kernel_rfl) (fun _ _ _ h => h) (Or.inl ⟨by rfl, by intro w hSw; go_simp⟩) (by assumption) ?_
      try simp only [Act.put, List.setIfInBounds_toArray, List.set_cons_zero, List.set_cons_succ, List.getElem_toArray, List.getElem_cons_zero, List.getElem_cons_succ]
      refine wpAnyH_take (i := 2) (v := .pointer (some ⟨gb, 1, none⟩)) rfl (by kernel_rfl) (by kernel_rfl) (by kernel_rfl) (fun _ _ _ h => h) (Or.inl ⟨by rfl, by intro w hSw; go_simp⟩) (by assumption) ?_
      try simp only [Act.put, List.setIfInBounds_toArray, List.set_cons_zero, List.set_cons_succ, List.getElem_toArray, List.getElem_cons_zero, List.getElem_cons_succ]
      refine wpAnyH_take (i := 3) (v := .int .i64 (nb : Int)) rfl (by kernel_rfl) (by kernel_rfl) (by kernel_rfl) (fun _ _ _ h => h) (Or.inl ⟨by rfl, by intro w hSw; have hc := hSw.cells.2.2.1; go_simp⟩) (by assumption) ?_
      try simp only [Act.put, List.setIfInBounds_toArray, List.set_cons_zero, List.set_cons_succ, List.getElem_toArray, List.getElem_cons_zero, List.getElem_cons_succ]
      have hst := Vs.run_put (P := Tryz.prog) HSD.box.hr Z rfl HZ1.out
      have HS1 := HSD.same
      refine wpAnyH_ready (rs := [4]) (by kernel_rfl) (by simp) ?_
      refine AllReadyH.cons rfl (fun K hK => ?_) AllReadyH.nil
      go_simp
      refine hK.out _ _ HS1 (fun _ => ?_)
      clear hK K hst
      try simp only [Act.put, List.setIfInBounds_toArray, List.set_cons_zero, List.set_cons_succ, List.getElem_toArray, List.getElem_cons_zero, List.getElem_cons_succ]
      refine wpAnyH_take (i := 5) (v := .int .i64 (nb : Int)) rfl (by kernel_rfl) (by kernel_rfl) (by kernel_rfl) (fun _ _ _ h => h) (Or.inl ⟨by rfl, by intro w hSw; go_simp⟩) (by assumption) ?_
      try simp only [Act.put, List.setIfInBounds_toArray, List.set_cons_zero, List.set_cons_succ, List.getElem_toArray, List.getElem_cons_zero, List.getElem_cons_succ]
      refine wpAnyH_take (i := 6) (v := .int .i64 10) rfl (by kernel_rfl) (by kernel_rfl) (by kernel_rfl) (fun _ _ _ h => h) (Or.inl ⟨by rfl, by intro w hSw; go_simp⟩) (by assumption) ?_
      try simp only [Act.put, List.setIfInBounds_toArray, List.set_cons_zero, List.set_cons_succ, List.getElem_toArray, List.getElem_cons_zero, List.getElem_cons_succ]
      refine wpAnyH_done (by kernel_rfl) ?_ _
      go_wp2_with fail
      exact bodyPost_ret (v := .tuple #[.agg Z, .int .i64 (nb : Int), .int .i64 10]) (res_ctt rfl _ _ w.heap.size 46 Z (0, 0) _ rfl HS1.box.hr Tryz.underlying46 rfl HZI.out _ _ rfl rfl) rfl ⟨by rw [HRE.out, HZ.out], HS1.box.bel⟩
    subst h1
    have HE2b := Lib.hid (HE2.out.trans (if_neg (by simp)))
    clear HE2
    have HL8 := Lib.hid (Vs.box_load (Vs.p2D (by_ sb) (Vs.p1D (by_ sa) Vs.exR)) rfl HD8.out.row)
    go_upto_if 242 with (first | (refine wpList_load_at 46 _ rfl gd 0 rfl _ HL8.out (by rfl) ?_) | (with_reducible refine (CV2.out _).mono ?_; rintro e w9 ⟨rfl, hb9⟩))
    have HD9 := Lib.hid (HD8.out.below hb9)
    clear hb9 HD8 HL8 CV2
    cases ok2 with
    | false =>
      have HRE := Lib.hid (HR3.out.trans (Vs.par3_2 HP1.out (HE2b.out.trans (if_neg (by decide))) (by decide)))
      clear HR3 HE2b
      go_wp2_with fail
      have HSD := (show Vs.Pq w w9.drew gi gb Z (na : Int) (nb : Int) (nc : Int) from HD9.out.pq.below (Below.refl _ _).drew)
      refine wp_region_held_drew (S := fun W => Vs.Pq w W gi gb Z (na : Int) (nb : Int) (nc : Int)) (by kernel_rfl) HSD (fun _ => ?_)
      refine wpAnyH_take (i := 0) (v := .agg Z) rfl (by kernel_rfl) (by kernel_rfl) (by kernel_rfl) (fun _ _ _ h => h) (Or.inl ⟨by rfl, yields_load3 46 _ rfl (w.heap.size + 1) 0 rfl _ (fun W h => Vs.box_load Vs.d0 HZ.out h.box.hn)⟩) (by assumption) ?_
      try simp only [Act.put, List.setIfInBounds_toArray, List.set_cons_zero, List.set_cons_succ, List.getElem_toArray, List.getElem_cons_zero]
      refine wpAnyH_take (i := 1) (v := .slice (some ⟨gb, 0, none⟩) 3 3) rfl (by kernel_rfl) (by kernel_rfl) (by kernel_rfl) (fun _ _ _ h => h) (Or.inl ⟨by rfl, by intro w hSw; go_simp⟩) (by assumption) ?_
      try simp only [Act.put, List.setIfInBounds_toArray, List.set_cons_zero, List.set_cons_succ, List.getElem_toArray, List.getElem_cons_zero, List.getElem_cons_succ]
      refine wpAnyH_take (i := 2) (v := .pointer (some ⟨gb, 1, none⟩)) rfl (by kernel_rfl) (by kernel_rfl) (by kernel_rfl) (fun _ _ _ h => h) (Or.inl ⟨by rfl, by intro w hSw; go_simp⟩) (by assumption) ?_
      try simp only [Act.put, List.setIfInBounds_toArray, List.set_cons_zero, List.set_cons_succ, List.getElem_toArray, List.getElem_cons_zero, List.getElem_cons_succ]
      refine wpAnyH_take (i := 3) (v := .int .i64 (nb : Int)) rfl (by kernel_rfl) (by kernel_rfl) (by kernel_rfl) (fun _ _ _ h => h) (Or.inl ⟨by rfl, by intro w hSw; have hc := hSw.cells.2.2.1; go_simp⟩) (by assumption) ?_
      try simp only [Act.put, List.setIfInBounds_toArray, List.set_cons_zero, List.set_cons_succ, List.getElem_toArray, List.getElem_cons_zero, List.getElem_cons_succ]
      have hst := Vs.run_put (P := Tryz.prog) HSD.box.hr Z rfl HZ1.out
      have HS1 := HSD.same
      refine wpAnyH_ready (rs := [4]) (by kernel_rfl) (by simp) ?_
      refine AllReadyH.cons rfl (fun K hK => ?_) AllReadyH.nil
      go_simp
      refine hK.out _ _ HS1 (fun _ => ?_)
      clear hK K hst
      try simp only [Act.put, List.setIfInBounds_toArray, List.set_cons_zero, List.set_cons_succ, List.getElem_toArray, List.getElem_cons_zero, List.getElem_cons_succ]
      refine wpAnyH_take (i := 5) (v := .int .i64 (nb : Int)) rfl (by kernel_rfl) (by kernel_rfl) (by kernel_rfl) (fun _ _ _ h => h) (Or.inl ⟨by rfl, by intro w hSw; go_simp⟩) (by assumption) ?_
      try simp only [Act.put, List.setIfInBounds_toArray, List.set_cons_zero, List.set_cons_succ, List.getElem_toArray, List.getElem_cons_zero, List.getElem_cons_succ]
      refine wpAnyH_take (i := 6) (v := .int .i64 10) rfl (by kernel_rfl) (by kernel_rfl) (by kernel_rfl) (fun _ _ _ h => h) (Or.inl ⟨by rfl, by intro w hSw; go_simp⟩) (by assumption) ?_
      try simp only [Act.put, List.setIfInBounds_toArray, List.set_cons_zero, List.set_cons_succ, List.getElem_toArray, List.getElem_cons_zero, List.getElem_cons_succ]
      refine wpAnyH_done (by kernel_rfl) ?_ _
      go_wp2_with fail
      exact bodyPost_ret (v := .tuple #[.agg Z, .int .i64 (nb : Int), .int .i64 10]) (res_ctt rfl _ _ w.heap.size 46 Z (0, 0) _ rfl HS1.box.hr Tryz.underlying46 rfl HZI.out _ _ rfl rfl) rfl ⟨by rw [HRE.out, HZ.out], HS1.box.bel⟩
    | true =>
    have HP2 := Lib.hid (HE2b.out.trans (if_pos rfl))
    clear HE2b
    have HK2 := Lib.hid (show Vs.okPart (Vs.p2P (by_ sb)) = true from HO2.out.symm)
    go_upto_region 41 with fail
    go_cut [16] (fun s16 wx => s16 = .string sc ∧ wx = w9)
    case first =>
      obtain ⟨-, b0, b1, b2⟩ := HD9.out.pq.cells
      obtain ⟨-, -, qc⟩ := HQ.out _ HD9.out.pq.box.bel
      go_wp2_with fail
      go_meet
      exact ⟨rfl, rfl⟩
    case rest =>
    obtain ⟨rfl, rfl⟩ := hcut
    refine ‹∀ (a : Act) (w : World), Code.wp _ _ _ a w → _› _ _ ?_
    exact rpseq_third l loc w Z bb o c gi gb gd na nb nc sa sb sc HZ HZ1 HZI hz22 hl' hna hnb hnc hza hzb hzc HQ HR3 HP1 HP2 HK1 HK2 _ HD9
end Go.Proofs.YthkppbimkjmbnaaGreatDoor

/-
  The walk through the reference's ParseSequence: the second descriptor's numbers.
-/
namespace Go.Proofs.YthkppbimkjmbnaaGreatDoor
set_option linter.unusedVariables false
open Go.RowKit
open Vs (bs by_)

/-- The first statement of a body. -/
def Vs.headC : Code → Code
  | .seq a _ => a
  | c => c
set_option maxHeartbeats 25600000 in
set_option maxRecDepth 100000 in
/-- masterdiscref36.ParseSequence: the second descriptor's numbers. -/
theorem rpseq_seconda {u2 u3 u5 u6 u8 u10 u11 u12 u13 u14 u17 u18 u19 u20 u21 u22 u24 u25 u26 u27 u28 u29 u30 u31 u32 u33 u34 u35 u36 u37 u38 u39 u40 u41 u42 u43 u44 u45 u46 u47 u48 u49 u50 u51 u52 u53 u54 u55 u56 u57 u58 u59 u60 u61 u62 u63 u64 u65 u66 u67 u68 u69 u70 u71 u72 u73 u74 u75 u76 u77 u78 u79 u80 u81 u82 u83 u84 u85 u86 u87 u88 u89 u90 u91 u92 u93 u94 u95 u96 u97 u98 u99 u100 u101 u102 u103 u104 u105 u106 u107 u108 u109 u110 u111 u112 u113 u114 u115 u116 u117 u118 u119 u120 u121 u122 u123 u124 u125 u126 u127 u128 u129 u130 u131 u132 u133 u134 u135 u136 u137 u138 u139 u140 u141 u142 u143 u144 u145 u146 u147 u148 u149 u150 u151 u152 u153 u154 u155 u156 u157 u158 u159 u160 u161 u162 u163 u164 u165 u166 u167 u168 u169 u170 u171 u172 u173 u174 u175 u176 u177 u178 u179 u180 u181 u182 u183 u184 u185 u186 u187 u188 u189 u190 u191 u192 u193 u194 u195 u196 u197 u198 u199 u200 u201 u202 u203 u204 u205 u206 u207 u208 u209 u210 u211 u212 u213 u214 u215 u216 u217 u218 u219 u220 u221 u222 u223 u224 u225 u226 u227 u228 u229 u230 u231 u232 u233 u234 u235 u236 u237 u238 u239 u240 u241 u242 u243 u244 u245 u246 u247 u248 u249 u250 u251 u252 u253 u254 u255 u256 u257 u258 u259 u260 u261 u262 u263 u264 u265 u266 u267 u268 u269 u270 u271 u272 u273 u274 u275 u276 u277 u278 u279 u280 u281 u282 u283 u284 u285 u286 u287 u288 u289 u290 u291 u292 u293 u294 u295 u296 u297 u298 u299 u300 u301 u302 u303 u304 u305 u306 u307 u308 u309 u310 u311 u312 u313 u314 u315 u316 : Value} (l : List ByteArray) (loc : Int) (w : World) (Z : Array Value) (bb o c gi gb gd na nb nc : Nat) (sa sb sc : ByteArray)
    (HZ : Hid (Z = Vs.dC Vs.d0)) (HZ1 : Hid (Z.all (·.oneCell') = true)) (HZI : Hid ((Tryz.prog.info? 46).map (·.size) = some Z.size)) (hz22 : Z.size = 22)
    (hl' : l.length ≤ 1024) (hna : na < l.length) (hnb : nb < l.length) (hnc : nc < l.length) (hza : sa.size = 2048) (hzb : sb.size = 2048) (hzc : sc.size = 2048)
    (HQ : Hid (∀ W : World, Below w.heap.size w W → W.cell? ⟨bb, o + na, none⟩ = some (.string sa) ∧ W.cell? ⟨bb, o + nb, none⟩ = some (.string sb) ∧ W.cell? ⟨bb, o + nc, none⟩ = some (.string sc)))
    (HR3 : Hid (Vs.parR l loc = Vs.par3 ⟨sa, na, Vs.sqB sa⟩ ⟨sb, nb, Vs.sqB sb⟩ ⟨sc, nc, Vs.sqB sc⟩))
    (HP1 : Hid (Vs.p1E (by_ sa) Vs.d0 = 0)) (HK1 : Hid (Vs.okVol (Vs.p1V (by_ sa) Vs.d0.vol) = true)) (pe2 : Int) (HE2 : Hid (Vs.p2E (by_ sb) = if pe2 ≠ 0 then 10 else if Vs.okPart (Vs.p2P (by_ sb)) = true then 0 else 10)) (w6 : World) (HD6 : Hid (Vs.Pd w w6 gi gb gd Z (na : Int) (nb : Int) (nc : Int) (Vs.p1D (by_ sa) Vs.exR))) :
    (Vs.dropC 18 (Tryz.f27.body.getD Code.skip)).wp Tryz.prog (bodyPost Tryz.prog Tryz.f27 (fun e w' => e = .returned (.tuple #[.agg (Vs.dC (Vs.parR l loc).1.1), .int .i64 (Vs.parR l loc).1.2, .int .i64 (Vs.parR l loc).2]) ∧ Below w.heap.size w w')) ⟨#[.slice (some ⟨bb, o, none⟩) l.length c, .int .i64 loc, u2, u3, .pointer (some ⟨w.heap.size, 0, none⟩), u5, u6, .pointer (some ⟨w.heap.size + 1, 0, none⟩), u8, .slice (some ⟨gb, 0, none⟩) 3 3, u10, u11, u12, u13, u14, .pointer (some ⟨gd, 0, none⟩), .string sb, u17, u18, u19, u20, u21, u22, .int .i64 pe2, u24, u25, u26, u27, u28, u29, u30, u31, u32, u33, u34, u35, u36, u37, u38, u39, u40, u41, u42, u43, u44, u45, u46, u47, u48, u49, u50, u51, u52, u53, u54, u55, u56, u57, u58, u59, u60, u61, u62, u63, u64, u65, u66, u67, u68, u69, u70, u71, u72, u73, u74, u75, u76, u77, u78, u79, u80, u81, u82, u83, u84, u85, u86, u87, u88, u89, u90, u91, u92, u93, u94, u95, u96, u97, u98, u99, u100, u101, u102, u103, u104, u105, u106, u107, u108, u109, u110, u111, u112, u113, u114, u115, u116, u117, u118, u119, u120, u121, u122, u123, u124, u125, u126, u127, u128, u129, u130, u131, u132, u133, u134, u135, u136, u137, u138, u139, u140, u141, u142, u143, u144, u145, u146, u147, u148, u149, u150, u151, u152, u153, u154, u155, u156, u157, u158, u159, u160, u161, u162, u163, u164, u165, u166, u167, u168, u169, u170, u171, u172, u173, u174, u175, u176, u177, u178, u179, u180, u181, u182, u183, u184, u185, u186, u187, u188, u189, u190, u191, u192, u193, u194, u195, u196, u197, u198, u199, u200, u201, u202, u203, u204, u205, u206, u207, u208, u209, u210, u211, u212, u213, u214, u215, u216, u217, u218, u219, u220, u221, u222, u223, u224, u225, u226, u227, u228, u229, u230, u231, u232, u233, u234, u235, u236, u237, u238, u239, u240, u241, u242, u243, u244, u245, u246, u247, u248, u249, u250, u251, u252, u253, u254, u255, u256, u257, u258, u259, u260, u261, u262, u263, u264, u265, u266, u267, u268, u269, u270, u271, u272, u273, u274, u275, u276, u277, u278, u279, u280, u281, u282, u283, u284, u285, u286, u287, u288, u289, u290, u291, u292, u293, u294, u295, u296, u297, u298, u299, u300, u301, u302, u303, u304, u305, u306, u307, u308, u309, u310, u311, u312, u313, u314, u315, u316], []⟩ w6 := by
    generalize hQ : bodyPost Tryz.prog Tryz.f27 _ = Q
    rw [show Vs.dropC 18 (Tryz.f27.body.getD Code.skip) = Code.seq (Vs.headC (Vs.dropC 18 (Tryz.f27.body.getD Code.skip))) (Vs.dropC 19 (Tryz.f27.body.getD Code.skip)) from rfl]
    generalize hR : Vs.dropC 19 (Tryz.f27.body.getD Code.skip) = R
    have HRR := Lib.hid hR
    clear hR
    dsimp only [Vs.headC, Vs.dropC, Tryz.f27, Option.getD_some]
    let Q2 := bodyPost Tryz.prog Tryz.f27 (fun e w' => e = .returned (.tuple #[.agg (Vs.dC (Vs.parR l loc).1.1), .int .i64 (Vs.parR l loc).1.2, .int .i64 (Vs.parR l loc).2]) ∧ Below w.heap.size w w')
    obtain rfl : Q2 = Q := hQ
    have CB1 := Lib.hid (fun W => r31N_any sb 22 2 22 2 rfl rfl (by omega) (by omega) (by omega) W)
    have CB2 := Lib.hid (fun W => r31N_any sb 184 4 184 4 rfl rfl (by omega) (by omega) (by omega) W)
    have CB3 := Lib.hid (fun W => r31N_any sb 188 4 188 4 rfl rfl (by omega) (by omega) (by omega) W)
    have CB4 := Lib.hid (fun W => r31N_any sb 192 4 192 4 rfl rfl (by omega) (by omega) (by omega) W)
    obtain ⟨a22, e22⟩ : ∃ a : Int, a = ((Pm.at_ (by_ sb) 22 2 : Nat) : Int) := ⟨_, rfl⟩
    obtain ⟨a184, e184⟩ : ∃ a : Int, a = ((Pm.at_ (by_ sb) 184 4 : Nat) : Int) := ⟨_, rfl⟩
    obtain ⟨a188, e188⟩ : ∃ a : Int, a = ((Pm.at_ (by_ sb) 188 4 : Nat) : Int) := ⟨_, rfl⟩
    obtain ⟨a192, e192⟩ : ∃ a : Int, a = ((Pm.at_ (by_ sb) 192 4 : Nat) : Int) := ⟨_, rfl⟩
    rw [← e22] at CB1
    rw [← e184] at CB2
    rw [← e188] at CB3
    rw [← e192] at CB4
    have HEE := Lib.hid (show a22 = ((Pm.at_ (by_ sb) 22 2 : Nat) : Int) ∧ a184 = ((Pm.at_ (by_ sb) 184 4 : Nat) : Int) ∧ a188 = ((Pm.at_ (by_ sb) 188 4 : Nat) : Int) ∧ a192 = ((Pm.at_ (by_ sb) 192 4 : Nat) : Int) from ⟨e22, e184, e188, e192⟩)
    clear e22 e184 e188 e192
    have hput := Vs.put_da (Vs.p1D (by_ sa) Vs.exR) a22 a184 a188 a192 0 0
    have hsets := Lib.hid (HD6.out.sets _ hput)
    clear hput
    obtain ⟨-, -, -, -, -, -, -, -, c8, c9, c10, c11, c12, c13, -⟩ := Vs.dC_cells _ HD6.out.row
    have hfj := fun j => frozen_of_row _ _ j _ _ HD6.out.row
    go_wp2_with (first | (with_reducible refine (CB1.out _).mono ?_; rintro e wx ⟨rfl, hw⟩; subst hw) | (with_reducible refine (CB2.out _).mono ?_; rintro e wx ⟨rfl, hw⟩; subst hw) | (with_reducible refine (CB3.out _).mono ?_; rintro e wx ⟨rfl, hw⟩; subst hw) | (with_reducible refine (CB4.out _).mono ?_; rintro e wx ⟨rfl, hw⟩; subst hw))
    rw [← HRR.out]
    obtain ⟨rfl, rfl, rfl, rfl⟩ := HEE.out
    exact rpseq_secondb l loc w Z bb o c gi gb gd na nb nc sa sb sc HZ HZ1 HZI hz22 hl' hna hnb hnc hza hzb hzc HQ HR3 HP1 HK1 _ HE2 _ hsets
end Go.Proofs.YthkppbimkjmbnaaGreatDoor
