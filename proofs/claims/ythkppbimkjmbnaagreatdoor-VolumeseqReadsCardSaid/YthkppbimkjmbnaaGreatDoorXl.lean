/-
  The walk through the reference's ParseSequence: the third descriptor.
-/
import Derived.Test.YthkppbimkjmbnaaGreatDoorXk
namespace Go.Proofs.YthkppbimkjmbnaaGreatDoor
set_option linter.unusedVariables false
open Go.RowKit
open Vs (bs by_)

set_option maxHeartbeats 25600000 in
set_option maxRecDepth 100000 in
/-- masterdiscref36.ParseSequence: the third descriptor. -/
theorem rpseq_third {u2 u3 u5 u6 u8 u10 u11 u12 u13 u14 u17 u18 u19 u20 u21 u22 u23 u24 u25 u26 u27 u28 u29 u30 u31 u32 u33 u34 u35 u36 u37 u38 u39 u40 u41 u42 u43 u44 u45 u46 u47 u48 u49 u50 u51 u52 u53 u54 u55 u56 u57 u58 u59 u60 u61 u62 u63 u64 u65 u66 u67 u68 u69 u70 u71 u72 u73 u74 u75 u76 u77 u78 u79 u80 u81 u82 u83 u84 u85 u86 u87 u88 u89 u90 u91 u92 u93 u94 u95 u96 u97 u98 u99 u100 u101 u102 u103 u104 u105 u106 u107 u108 u109 u110 u111 u112 u113 u114 u115 u116 u117 u118 u119 u120 u121 u122 u123 u124 u125 u126 u127 u128 u129 u130 u131 u132 u133 u134 u135 u136 u137 u138 u139 u140 u141 u142 u143 u144 u145 u146 u147 u148 u149 u150 u151 u152 u153 u154 u155 u156 u157 u158 u159 u160 u161 u162 u163 u164 u165 u166 u167 u168 u169 u170 u171 u172 u173 u174 u175 u176 u177 u178 u179 u180 u181 u182 u183 u184 u185 u186 u187 u188 u189 u190 u191 u192 u193 u194 u195 u196 u197 u198 u199 u200 u201 u202 u203 u204 u205 u206 u207 u208 u209 u210 u211 u212 u213 u214 u215 u216 u217 u218 u219 u220 u221 u222 u223 u224 u225 u226 u227 u228 u229 u230 u231 u232 u233 u234 u235 u236 u237 u238 u239 u240 u241 u242 u243 u244 u245 u246 u247 u248 u249 u250 u251 u252 u253 u254 u255 u256 u257 u258 u259 u260 u261 u262 u263 u264 u265 u266 u267 u268 u269 u270 u271 u272 u273 u274 u275 u276 u277 u278 u279 u280 u281 u282 u283 u284 u285 u286 u287 u288 u289 u290 u291 u292 u293 u294 u295 u296 u297 u298 u299 u300 u301 u302 u303 u304 u305 u306 u307 u308 u309 u310 u311 u312 u313 u314 u315 u316 : Value} (l : List ByteArray) (loc : Int) (w : World) (Z : Array Value) (bb o c gi gb gd na nb nc : Nat) (sa sb sc : ByteArray)
    (HZ : Hid (Z = Vs.dC Vs.d0)) (HZ1 : Hid (Z.all (·.oneCell') = true)) (HZI : Hid ((Tryz.prog.info? 46).map (·.size) = some Z.size)) (hz22 : Z.size = 22)
    (hl' : l.length ≤ 1024) (hna : na < l.length) (hnb : nb < l.length) (hnc : nc < l.length) (hza : sa.size = 2048) (hzb : sb.size = 2048) (hzc : sc.size = 2048)
    (HQ : Hid (∀ W : World, Below w.heap.size w W → W.cell? ⟨bb, o + na, none⟩ = some (.string sa) ∧ W.cell? ⟨bb, o + nb, none⟩ = some (.string sb) ∧ W.cell? ⟨bb, o + nc, none⟩ = some (.string sc)))
    (HR3 : Hid (Vs.parR l loc = Vs.par3 ⟨sa, na, Vs.sqB sa⟩ ⟨sb, nb, Vs.sqB sb⟩ ⟨sc, nc, Vs.sqB sc⟩))
    (HP1 : Hid (Vs.p1E (by_ sa) Vs.d0 = 0)) (HP2 : Hid (Vs.p2E (by_ sb) = 0)) (HK1 : Hid (Vs.okVol (Vs.p1V (by_ sa) Vs.d0.vol) = true)) (HK2 : Hid (Vs.okPart (Vs.p2P (by_ sb)) = true)) (w9 : World) (HD9 : Hid (Vs.Pd w w9 gi gb gd Z (na : Int) (nb : Int) (nc : Int) (Vs.p2D (by_ sb) (Vs.p1D (by_ sa) Vs.exR)))) :
    (Vs.dropC 22 (Tryz.f27.body.getD Code.skip)).wp Tryz.prog (bodyPost Tryz.prog Tryz.f27 (fun e w' => e = .returned (.tuple #[.agg (Vs.dC (Vs.parR l loc).1.1), .int .i64 (Vs.parR l loc).1.2, .int .i64 (Vs.parR l loc).2]) ∧ Below w.heap.size w w')) ⟨#[.slice (some ⟨bb, o, none⟩) l.length c, .int .i64 loc, u2, u3, .pointer (some ⟨w.heap.size, 0, none⟩), u5, u6, .pointer (some ⟨w.heap.size + 1, 0, none⟩), u8, .slice (some ⟨gb, 0, none⟩) 3 3, u10, u11, u12, u13, u14, .pointer (some ⟨gd, 0, none⟩), .string sc, u17, u18, u19, u20, u21, u22, u23, u24, u25, u26, u27, u28, u29, u30, u31, u32, u33, u34, u35, u36, u37, u38, u39, u40, u41, u42, u43, u44, u45, u46, u47, u48, u49, u50, u51, u52, u53, u54, u55, u56, u57, u58, u59, u60, u61, u62, u63, u64, u65, u66, u67, u68, u69, u70, u71, u72, u73, u74, u75, u76, u77, u78, u79, u80, u81, u82, u83, u84, u85, u86, u87, u88, u89, u90, u91, u92, u93, u94, u95, u96, u97, u98, u99, u100, u101, u102, u103, u104, u105, u106, u107, u108, u109, u110, u111, u112, u113, u114, u115, u116, u117, u118, u119, u120, u121, u122, u123, u124, u125, u126, u127, u128, u129, u130, u131, u132, u133, u134, u135, u136, u137, u138, u139, u140, u141, u142, u143, u144, u145, u146, u147, u148, u149, u150, u151, u152, u153, u154, u155, u156, u157, u158, u159, u160, u161, u162, u163, u164, u165, u166, u167, u168, u169, u170, u171, u172, u173, u174, u175, u176, u177, u178, u179, u180, u181, u182, u183, u184, u185, u186, u187, u188, u189, u190, u191, u192, u193, u194, u195, u196, u197, u198, u199, u200, u201, u202, u203, u204, u205, u206, u207, u208, u209, u210, u211, u212, u213, u214, u215, u216, u217, u218, u219, u220, u221, u222, u223, u224, u225, u226, u227, u228, u229, u230, u231, u232, u233, u234, u235, u236, u237, u238, u239, u240, u241, u242, u243, u244, u245, u246, u247, u248, u249, u250, u251, u252, u253, u254, u255, u256, u257, u258, u259, u260, u261, u262, u263, u264, u265, u266, u267, u268, u269, u270, u271, u272, u273, u274, u275, u276, u277, u278, u279, u280, u281, u282, u283, u284, u285, u286, u287, u288, u289, u290, u291, u292, u293, u294, u295, u296, u297, u298, u299, u300, u301, u302, u303, u304, u305, u306, u307, u308, u309, u310, u311, u312, u313, u314, u315, u316], []⟩ w9 := by
    generalize hQ : bodyPost Tryz.prog Tryz.f27 _ = Q
    dsimp only [Vs.dropC, Tryz.f27, Option.getD_some]
    let Q2 := bodyPost Tryz.prog Tryz.f27 (fun e w' => e = .returned (.tuple #[.agg (Vs.dC (Vs.parR l loc).1.1), .int .i64 (Vs.parR l loc).1.2, .int .i64 (Vs.parR l loc).2]) ∧ Below w.heap.size w w')
    obtain rfl : Q2 = Q := hQ
    -- the third descriptor
    obtain ⟨x3, ex3⟩ : ∃ x, sc.extract 248 264 = x := ⟨_, rfl⟩
    have bx3 : by_ x3 = Vs.sl (by_ sc) 248 16 := by rw [← ex3, Vs.bs_ext]; rfl
    have zx3 : x3.size = 16 := by rw [← ex3, ByteArray.size_extract]; omega
    have CDL := Lib.hid (fun W => r33DecodeLong_any x3 zx3 W)
    have hdl : Vs.dlX (by_ x3) = if Pm.at_ (by_ sc) 248 4 % 1073741824 = 0 then [] else [⟨(Pm.at_ (by_ sc) 248 4 / 1073741824 : Nat), (Pm.at_ (by_ sc) 248 4 % 1073741824 : Nat), (Pm.at_ (by_ sc) 252 4 : Nat), (Pm.at_ (by_ sc) 256 2 : Nat)⟩] := by
      unfold Vs.dlX
      rw [bx3, Vs.at_sl2 _ (by decide), Vs.at_sl2 _ (by decide), Vs.at_sl2 _ (by decide)]
    rw [hdl] at CDL
    have CC0 := Lib.hid (fun W => r31N_any sc 212 4 212 4 rfl rfl (by omega) (by omega) (by omega) W)
    have CC1 := Lib.hid (fun W => r31N_any sc 264 4 264 4 rfl rfl (by omega) (by omega) (by omega) W)
    have CC2 := Lib.hid (fun W => r31N_any sc 268 4 268 4 rfl rfl (by omega) (by omega) (by omega) W)
    have CD3 := Lib.hid (fun W => r36Dstring_any sc 84 128 84 128 rfl rfl (by omega) (by omega) W)
    have CX := Lib.hid (fun W => r36ReadExtent_any sc 432 432 rfl (by omega) (by omega) W)
    have HTL : Hid (Pm.at_ (by_ sc) 264 4 ≤ 1608 → sc.extract 440 (440 + Pm.at_ (by_ sc) 264 4) = bs (Vs.sl (by_ sc) 440 (Pm.at_ (by_ sc) 264 4))) := Lib.hid (fun h => by rw [Vs.bs_ext, Nat.add_sub_cancel_left])
    have hb264 : Pm.at_ (by_ sc) 264 4 < 4294967296 := Pm.at_lt (by_ sc) 264 4
    have CV3 := Lib.hid (fun W => r36Valid_any (Vs.p3D (by_ sc) (Vs.p2D (by_ sb) (Vs.p1D (by_ sa) Vs.exR))) W (by show (bs (Cs.parseR (Vs.sl (by_ sc) 84 128)).1).size ≤ _; rw [Vs.bs_size]; have h1 := Vs.parse_le (Vs.sl (by_ sc) 84 128); have h2 := Vs.sl_le (by_ sc) 84 128; omega) (by show (bs (Cs.parseR (Vs.sl (by_ sa) 72 128)).1).size ≤ _; rw [Vs.bs_size]; have h1 := Vs.parse_le (Vs.sl (by_ sa) 72 128); have h2 := Vs.sl_le (by_ sa) 72 128; omega) (by show (bs (Vs.sl (by_ sc) 440 (Pm.at_ (by_ sc) 264 4))).size ≤ _; rw [Vs.bs_size]; have h2 := Vs.sl_le (by_ sc) 440 (Pm.at_ (by_ sc) 264 4); omega))
    have HE3 := Lib.hid (Vs.p3E_eq (by_ sc) (Vs.p2D (by_ sb) (Vs.p1D (by_ sa) Vs.d0)))
    rw [← Vs.ref3 (by_ sc) (by_ sb) (by_ sa) HK1.out HK2.out] at HE3
    obtain ⟨P2, hP2⟩ : ∃ P2, P2 = Vs.p2D (by_ sb) (Vs.p1D (by_ sa) Vs.exR) := ⟨_, rfl⟩
    have HF3 := Lib.hid (show ({ ({ P2 with vol := { P2.vol with name := bs (Cs.parseR (Vs.sl (by_ sc) 84 128)).1 } } : Vs.D) with fk := (Pm.at_ (by_ sc) 248 4 / 1073741824 : Nat), fl := (Pm.at_ (by_ sc) 248 4 % 1073741824 : Nat), fb := (Pm.at_ (by_ sc) 252 4 : Nat), fp := (Pm.at_ (by_ sc) 256 2 : Nat), maps := (Pm.at_ (by_ sc) 268 4 : Nat), table := bs (Vs.sl (by_ sc) 440 (Pm.at_ (by_ sc) 264 4)), istart := (Pm.at_ (by_ sc) (432 + 4) 4 : Nat), icount := (Pm.at_ (by_ sc) 432 4 / 2048 : Nat) } : Vs.D) = Vs.p3D (by_ sc) P2 from rfl)
    have HR0 := Lib.hid (fun h3 => HR3.out.trans (Vs.par3_0 HP1.out HP2.out h3))
    rw [← hP2] at HR0 CV3 HE3 HD9
    clear hP2 bx3 zx3 hdl
    obtain ⟨P3, hP3⟩ : ∃ P3, P3 = Vs.p3D (by_ sc) P2 := ⟨_, rfl⟩
    rw [← hP3] at HF3 CV3 HE3 HR0
    clear hP3
    generalize Vs.okD P3 = ok3 at *
    generalize Cs.parseR (Vs.sl (by_ sc) 84 128) = pr3 at *
    obtain ⟨ps3, pe3⟩ := pr3
    simp only [] at *
    generalize bs ps3 = q3 at *
    generalize bs (Vs.sl (by_ sc) 440 (Pm.at_ (by_ sc) 264 4)) = tl at *
    generalize Pm.at_ (by_ sc) 264 4 = sz at *
    generalize Pm.at_ (by_ sc) 212 4 = a212 at *
    generalize Pm.at_ (by_ sc) 248 4 = a248 at *
    generalize ((Pm.at_ (by_ sc) 252 4 : Nat) : Int) = b' at *
    generalize ((Pm.at_ (by_ sc) 256 2 : Nat) : Int) = p' at *
    generalize ((Pm.at_ (by_ sc) 268 4 : Nat) : Int) = m' at *
    generalize ((Pm.at_ (by_ sc) (432 + 4) 4 : Nat) : Int) = i1 at *
    generalize ((Pm.at_ (by_ sc) 432 4 / 2048 : Nat) : Int) = i2 at *
    obtain ⟨k', hk'⟩ : ∃ k' : Int, ((a248 / 1073741824 : Nat) : Int) = k' := ⟨_, rfl⟩
    obtain ⟨l', hl'⟩ : ∃ l' : Int, ((a248 % 1073741824 : Nat) : Int) = l' := ⟨_, rfl⟩
    rw [hk', hl'] at CDL HF3
    clear hk' hl'
    obtain ⟨X, hX⟩ : ∃ X : List Pm.X, (if a248 % 1073741824 = 0 then [] else [(⟨k', l', b', p'⟩ : Pm.X)]) = X := ⟨_, rfl⟩
    rw [hX] at CDL
    have HX := Lib.hid hX
    clear hX
    obtain ⟨-, b0, b1, b2⟩ := HD9.out.pq.cells
    obtain ⟨-, -, qc⟩ := HQ.out _ HD9.out.pq.box.bel
    have hsc : (sc.size : Int) = 2048 := by omega
    have hszI : (sz : Int) < 4294967296 := by omega
    generalize hd3 : decide (pe3 = 0) = dp3 at *
    by_cases h212 : a212 = 2048
    case neg =>
      have d0 : ((a212 : Int) != 2048) = true := by rw [bne_iff_ne]; omega
      have HRE := Lib.hid (HR3.out.trans (Vs.par3_3 HP1.out HP2.out (HE3.out.trans (if_pos h212)) (by decide)))
      clear h212 HR3 HE3 HR0 hb264 hszI
      go_wp2_with (with_reducible refine (CC0.out _).mono ?_; rintro e wx ⟨rfl, hw⟩; subst hw)
      have HSD := (show Vs.Pq w w9.drew gi gb Z (na : Int) (nb : Int) (nc : Int) from HD9.out.pq.below (Below.refl _ _).drew)
      refine wp_region_held_drew (S := fun W => Vs.Pq w W gi gb Z (na : Int) (nb : Int) (nc : Int)) (by kernel_rfl) HSD (fun _ => ?_)
      refine wpAnyH_take (i := 0) (v := .agg Z) rfl (by kernel_rfl) (by kernel_rfl) (by kernel_rfl) (fun _ _ _ h => h) (Or.inl ⟨by rfl, yields_load3 46 _ rfl (w.heap.size + 1) 0 rfl _ (fun W h => Vs.box_load Vs.d0 HZ.out h.box.hn)⟩) (by assumption) ?_
      try simp only [Act.put, List.setIfInBounds_toArray, List.set_cons_zero, List.set_cons_succ, List.getElem_toArray, List.getElem_cons_zero]
      refine wpAnyH_take (i := 1) (v := .slice (some ⟨gb, 0, none⟩) 3 3) rfl (by kernel_rfl) (by kernel_rfl) (by kernel_rfl) (fun _ _ _ h => h) (Or.inl ⟨by rfl, by intro w hSw; go_simp⟩) (by assumption) ?_
      try simp only [Act.put, List.setIfInBounds_toArray, List.set_cons_zero, List.set_cons_succ, List.getElem_toArray, List.getElem_cons_zero, List.getElem_cons_succ]
      refine wpAnyH_take (i := 2) (v := .pointer (some ⟨gb, 2, none⟩)) rfl (by kernel_rfl) (by kernel_rfl) (by kernel_rfl) (fun _ _ _ h => h) (Or.inl ⟨by rfl, by intro w hSw; go_simp⟩) (by assumption) ?_
      try simp only [Act.put, List.setIfInBounds_toArray, List.set_cons_zero, List.set_cons_succ, List.getElem_toArray, List.getElem_cons_zero, List.getElem_cons_succ]
      refine wpAnyH_take (i := 3) (v := .int .i64 (nc : Int)) rfl (by kernel_rfl) (by kernel_rfl) (by kernel_rfl) (fun _ _ _ h => h) (Or.inl ⟨by rfl, by intro w hSw; have hc := hSw.cells.2.2.2; go_simp⟩) (by assumption) ?_
      try simp only [Act.put, List.setIfInBounds_toArray, List.set_cons_zero, List.set_cons_succ, List.getElem_toArray, List.getElem_cons_zero, List.getElem_cons_succ]
      have hst := Vs.run_put (P := Tryz.prog) HSD.box.hr Z rfl HZ1.out
      have HS1 := HSD.same
      refine wpAnyH_ready (rs := [4]) (by kernel_rfl) (by simp) ?_
      refine AllReadyH.cons rfl (fun K hK => ?_) AllReadyH.nil
      go_simp
      refine hK.out _ _ HS1 (fun _ => ?_)
      clear hK K hst
      try simp only [Act.put, List.setIfInBounds_toArray, List.set_cons_zero, List.set_cons_succ, List.getElem_toArray, List.getElem_cons_zero, List.getElem_cons_succ]
      refine wpAnyH_take (i := 5) (v := .int .i64 (nc : Int)) rfl (by kernel_rfl) (by kernel_rfl) (by kernel_rfl) (fun _ _ _ h => h) (Or.inl ⟨by rfl, by intro w hSw; go_simp⟩) (by assumption) ?_
      try simp only [Act.put, List.setIfInBounds_toArray, List.set_cons_zero, List.set_cons_succ, List.getElem_toArray, List.getElem_cons_zero, List.getElem_cons_succ]
      refine wpAnyH_take (i := 6) (v := .int .i64 14) rfl (by kernel_rfl) (by kernel_rfl) (by kernel_rfl) (fun _ _ _ h => h) (Or.inl ⟨by rfl, by intro w hSw; go_simp⟩) (by assumption) ?_
      try simp only [Act.put, List.setIfInBounds_toArray, List.set_cons_zero, List.set_cons_succ, List.getElem_toArray, List.getElem_cons_zero, List.getElem_cons_succ]
      refine wpAnyH_done (by kernel_rfl) ?_ _
      go_wp2_with fail
      exact bodyPost_ret (v := .tuple #[.agg Z, .int .i64 (nc : Int), .int .i64 14]) (res_ctt rfl _ _ w.heap.size 46 Z (0, 0) _ rfl HS1.box.hr Tryz.underlying46 rfl HZI.out _ _ rfl rfl) rfl ⟨by rw [HRE.out, HZ.out], HS1.box.bel⟩
    have d0 : ((a212 : Int) != 2048) = false := by rw [bne_eq_false_iff_eq]; omega
    have HE3b := Lib.hid (HE3.out.trans (if_neg (by simp [h212])))
    clear HE3 h212 hb264
    go_upto_region 45 with (first | (with_reducible refine (CC0.out _).mono ?_; rintro e wx ⟨rfl, hw⟩; subst hw) | (with_reducible refine (CC1.out _).mono ?_; rintro e wx ⟨rfl, hw⟩; subst hw))
    clear d0 b0 b1 b2 qc CC0 CC1
    go_wp2_with fail
    with_reducible refine (CDL.out _).mono ?_
    rintro e wd ⟨v, rfl, ho, hbd⟩
    obtain ⟨Ax, cx, rfl⟩ := own_shape ho
    have HD10 := Lib.hid (HD9.out.below hbd)
    have HLT := Lib.hid (show gd < w9.heap.size from (Array.getElem?_eq_some_iff.1 HD9.out.row).1)
    have HO := Lib.hid ho
    clear hbd HD9 ho CDL
    go_wp2_with fail
    with_reducible refine (CD3.out _).mono ?_
    rintro e we ⟨rfl, hbe⟩
    have HD11 := Lib.hid (HD10.out.below hbe)
    have HO11 := Lib.hid (Kit.own_below HO.out hbe)
    clear hbe HD10 HO CD3
    obtain ⟨c0, -⟩ := Vs.dC_cells _ HD11.out.row
    have hfj := fun j => frozen_of_row _ _ j _ _ HD11.out.row
    go_upto_region 47 with fail
    have HD12 := Lib.hid (show Vs.Pd w (we.setCell ⟨gd, 0, none⟩ (.string q3)) gi gb gd Z (na : Int) (nb : Int) (nc : Int) ({ P2 with vol := { P2.vol with name := q3 } } : Vs.D) from HD11.out.sets _ (Vs.put_dc _ q3))
    have HO12 := Lib.hid (show Vs.OwnX (we.setCell ⟨gd, 0, none⟩ (.string q3)) w9.heap.size (.slice Ax X.length cx) X from World.ownsRow.kept HO11.out (Vs.grown_one we gd 0 (.string q3)) (.inr (fun e => by have h1 := (HO11.out.lt _ e).1; have h2 := HLT.out; omega)))
    generalize we.setCell ⟨gd, 0, none⟩ (.string q3) = wf at *
    clear HD11 HO11 c0 hfj
    by_cases h1 : pe3 = 0
    case neg =>
      have HRE := Lib.hid (HR3.out.trans (Vs.par3_3 HP1.out HP2.out (HE3b.out.trans (if_pos (.inl h1))) (by decide)))
      rw [decide_eq_false h1] at hd3
      subst hd3
      clear h1 HR3 HE3b HR0 hszI
      go_wp2_with fail
      have HSD := (show Vs.Pq w wf.drew gi gb Z (na : Int) (nb : Int) (nc : Int) from HD12.out.pq.below (Below.refl _ _).drew)
      refine wp_region_held_drew (S := fun W => Vs.Pq w W gi gb Z (na : Int) (nb : Int) (nc : Int)) (by kernel_rfl) HSD (fun _ => ?_)
      refine wpAnyH_take (i := 0) (v := .agg Z) rfl (by kernel_rfl) (by kernel_rfl) (by kernel_rfl) (fun _ _ _ h => h) (Or.inl ⟨by rfl, yields_load3 46 _ rfl (w.heap.size + 1) 0 rfl _ (fun W h => Vs.box_load Vs.d0 HZ.out h.box.hn)⟩) (by assumption) ?_
      try simp only [Act.put, List.setIfInBounds_toArray, List.set_cons_zero, List.set_cons_succ, List.getElem_toArray, List.getElem_cons_zero]
      refine wpAnyH_take (i := 1) (v := .slice (some ⟨gb, 0, none⟩) 3 3) rfl (by kernel_rfl) (by kernel_rfl) (by kernel_rfl) (fun _ _ _ h => h) (Or.inl ⟨by rfl, by intro w hSw; go_simp⟩) (by assumption) ?_
      try simp only [Act.put, List.setIfInBounds_toArray, List.set_cons_zero, List.set_cons_succ, List.getElem_toArray, List.getElem_cons_zero, List.getElem_cons_succ]
      refine wpAnyH_take (i := 2) (v := .pointer (some ⟨gb, 2, none⟩)) rfl (by kernel_rfl) (by kernel_rfl) (by kernel_rfl) (fun _ _ _ h => h) (Or.inl ⟨by rfl, by intro w hSw; go_simp⟩) (by assumption) ?_
      try simp only [Act.put, List.setIfInBounds_toArray, List.set_cons_zero, List.set_cons_succ, List.getElem_toArray, List.getElem_cons_zero, List.getElem_cons_succ]
      refine wpAnyH_take (i := 3) (v := .int .i64 (nc : Int)) rfl (by kernel_rfl) (by kernel_rfl) (by kernel_rfl) (fun _ _ _ h => h) (Or.inl ⟨by rfl, by intro w hSw; have hc := hSw.cells.2.2.2; go_simp⟩) (by assumption) ?_
      try simp only [Act.put, List.setIfInBounds_toArray, List.set_cons_zero, List.set_cons_succ, List.getElem_toArray, List.getElem_cons_zero, List.getElem_cons_succ]
      have hst := Vs.run_put (P := Tryz.prog) HSD.box.hr Z rfl HZ1.out
      have HS1 := HSD.same
      refine wpAnyH_ready (rs := [4]) (by kernel_rfl) (by simp) ?_
      refine AllReadyH.cons rfl (fun K hK => ?_) AllReadyH.nil
      go_simp
      refine hK.out _ _ HS1 (fun _ => ?_)
      clear hK K hst
      try simp only [Act.put, List.setIfInBounds_toArray, List.set_cons_zero, List.set_cons_succ, List.getElem_toArray, List.getElem_cons_zero, List.getElem_cons_succ]
      refine wpAnyH_take (i := 5) (v := .int .i64 (nc : Int)) rfl (by kernel_rfl) (by kernel_rfl) (by kernel_rfl) (fun _ _ _ h => h) (Or.inl ⟨by rfl, by intro w hSw; go_simp⟩) (by assumption) ?_
      try simp only [Act.put, List.setIfInBounds_toArray, List.set_cons_zero, List.set_cons_succ, List.getElem_toArray, List.getElem_cons_zero, List.getElem_cons_succ]
      refine wpAnyH_take (i := 6) (v := .int .i64 10) rfl (by kernel_rfl) (by kernel_rfl) (by kernel_rfl) (fun _ _ _ h => h) (Or.inl ⟨by rfl, by intro w hSw; go_simp⟩) (by assumption) ?_
      try simp only [Act.put, List.setIfInBounds_toArray, List.set_cons_zero, List.set_cons_succ, List.getElem_toArray, List.getElem_cons_zero, List.getElem_cons_succ]
      refine wpAnyH_done (by kernel_rfl) ?_ _
      go_wp2_with fail
      exact bodyPost_ret (v := .tuple #[.agg Z, .int .i64 (nc : Int), .int .i64 10]) (res_ctt rfl _ _ w.heap.size 46 Z (0, 0) _ rfl HS1.box.hr Tryz.underlying46 rfl HZI.out _ _ rfl rfl) rfl ⟨by rw [HRE.out, HZ.out], HS1.box.bel⟩
    rw [decide_eq_true h1] at hd3
    subst hd3
    by_cases hsz : sz ≤ 1608
    case neg =>
      have HRE := Lib.hid (HR3.out.trans (Vs.par3_3 HP1.out HP2.out (HE3b.out.trans (if_pos (.inr (.inr (by omega))))) (by decide)))
      have d1 : decide ((1608 : Int) < (sz : Int)) = true := decide_eq_true (by omega)
      clear h1 hsz HR3 HE3b HR0
      go_wp2_with fail
      have HSD := (show Vs.Pq w wf.drew gi gb Z (na : Int) (nb : Int) (nc : Int) from HD12.out.pq.below (Below.refl _ _).drew)
      refine wp_region_held_drew (S := fun W => Vs.Pq w W gi gb Z (na : Int) (nb : Int) (nc : Int)) (by kernel_rfl) HSD (fun _ => ?_)
      refine wpAnyH_take (i := 0) (v := .agg Z) rfl (by kernel_rfl) (by kernel_rfl) (by kernel_rfl) (fun _ _ _ h => h) (Or.inl ⟨by rfl, yields_load3 46 _ rfl (w.heap.size + 1) 0 rfl _ (fun W h => Vs.box_load Vs.d0 HZ.out h.box.hn)⟩) (by assumption) ?_
      try simp only [Act.put, List.setIfInBounds_toArray, List.set_cons_zero, List.set_cons_succ, List.getElem_toArray, List.getElem_cons_zero]
      refine wpAnyH_take (i := 1) (v := .slice (some ⟨gb, 0, none⟩) 3 3) rfl (by kernel_rfl) (by kernel_rfl) (by kernel_rfl) (fun _ _ _ h => h) (Or.inl ⟨by rfl, by intro w hSw; go_simp⟩) (by assumption) ?_
      try simp only [Act.put, List.setIfInBounds_toArray, List.set_cons_zero, List.set_cons_succ, List.getElem_toArray, List.getElem_cons_zero, List.getElem_cons_succ]
      refine wpAnyH_take (i := 2) (v := .pointer (some ⟨gb, 2, none⟩)) rfl (by kernel_rfl) (by kernel_rfl) (by kernel_rfl) (fun _ _ _ h => h) (Or.inl ⟨by rfl, by intro w hSw; go_simp⟩) (by assumption) ?_
      try simp only [Act.put, List.setIfInBounds_toArray, List.set_cons_zero, List.set_cons_succ, List.getElem_toArray, List.getElem_cons_zero, List.getElem_cons_succ]
      refine wpAnyH_take (i := 3) (v := .int .i64 (nc : Int)) rfl (by kernel_rfl) (by kernel_rfl) (by kernel_rfl) (fun _ _ _ h => h) (Or.inl ⟨by rfl, by intro w hSw; have hc := hSw.cells.2.2.2; go_simp⟩) (by assumption) ?_
      try simp only [Act.put, List.setIfInBounds_toArray, List.set_cons_zero, List.set_cons_succ, List.getElem_toArray, List.getElem_cons_zero, List.getElem_cons_succ]
      have hst := Vs.run_put (P := Tryz.prog) HSD.box.hr Z rfl HZ1.out
      have HS1 := HSD.same
      refine wpAnyH_ready (rs := [4]) (by kernel_rfl) (by simp) ?_
      refine AllReadyH.cons rfl (fun K hK => ?_) AllReadyH.nil
      go_simp
      refine hK.out _ _ HS1 (fun _ => ?_)
      clear hK K hst
      try simp only [Act.put, List.setIfInBounds_toArray, List.set_cons_zero, List.set_cons_succ, List.getElem_toArray, List.getElem_cons_zero, List.getElem_cons_succ]
      refine wpAnyH_take (i := 5) (v := .int .i64 (nc : Int)) rfl (by kernel_rfl) (by kernel_rfl) (by kernel_rfl) (fun _ _ _ h => h) (Or.inl ⟨by rfl, by intro w hSw; go_simp⟩) (by assumption) ?_
      try simp only [Act.put, List.setIfInBounds_toArray, List.set_cons_zero, List.set_cons_succ, List.getElem_toArray, List.getElem_cons_zero, List.getElem_cons_succ]
      refine wpAnyH_take (i := 6) (v := .int .i64 10) rfl (by kernel_rfl) (by kernel_rfl) (by kernel_rfl) (fun _ _ _ h => h) (Or.inl ⟨by rfl, by intro w hSw; go_simp⟩) (by assumption) ?_
      try simp only [Act.put, List.setIfInBounds_toArray, List.set_cons_zero, List.set_cons_succ, List.getElem_toArray, List.getElem_cons_zero, List.getElem_cons_succ]
      refine wpAnyH_done (by kernel_rfl) ?_ _
      go_wp2_with fail
      exact bodyPost_ret (v := .tuple #[.agg Z, .int .i64 (nc : Int), .int .i64 10]) (res_ctt rfl _ _ w.heap.size 46 Z (0, 0) _ rfl HS1.box.hr Tryz.underlying46 rfl HZI.out _ _ rfl rfl) rfl ⟨by rw [HRE.out, HZ.out], HS1.box.bel⟩
    have d1 : decide ((1608 : Int) < (sz : Int)) = false := decide_eq_false (by omega)
    by_cases h0 : a248 % 1073741824 = 0
    · have HRE := Lib.hid (HR3.out.trans (Vs.par3_3 HP1.out HP2.out (HE3b.out.trans (if_pos (.inr (.inl h0)))) (by decide)))
      have hXn : X = [] := HX.out.symm.trans (if_pos h0)
      subst hXn
      simp only [List.length_nil] at *
      clear h1 hsz h0 HR3 HE3b HR0 HX HO12
      go_wp2_with fail
      have HSD := (show Vs.Pq w wf.drew gi gb Z (na : Int) (nb : Int) (nc : Int) from HD12.out.pq.below (Below.refl _ _).drew)
      refine wp_region_held_drew (S := fun W => Vs.Pq w W gi gb Z (na : Int) (nb : Int) (nc : Int)) (by kernel_rfl) HSD (fun _ => ?_)
      refine wpAnyH_take (i := 0) (v := .agg Z) rfl (by kernel_rfl) (by kernel_rfl) (by kernel_rfl) (fun _ _ _ h => h) (Or.inl ⟨by rfl, yields_load3 46 _ rfl (w.heap.size + 1) 0 rfl _ (fun W h => Vs.box_load Vs.d0 HZ.out h.box.hn)⟩) (by assumption) ?_
      try simp only [Act.put, List.setIfInBounds_toArray, List.set_cons_zero, List.set_cons_succ, List.getElem_toArray, List.getElem_cons_zero]
      refine wpAnyH_take (i := 1) (v := .slice (some ⟨gb, 0, none⟩) 3 3) rfl (by kernel_rfl) (by kernel_rfl) (by kernel_rfl) (fun _ _ _ h => h) (Or.inl ⟨by rfl, by intro w hSw; go_simp⟩) (by assumption) ?_
      try simp only [Act.put, List.setIfInBounds_toArray, List.set_cons_zero, List.set_cons_succ, List.getElem_toArray, List.getElem_cons_zero, List.getElem_cons_succ]
      refine wpAnyH_take (i := 2) (v := .pointer (some ⟨gb, 2, none⟩)) rfl (by kernel_rfl) (by kernel_rfl) (by kernel_rfl) (fun _ _ _ h => h) (Or.inl ⟨by rfl, by intro w hSw; go_simp⟩) (by assumption) ?_
      try simp only [Act.put, List.setIfInBounds_toArray, List.set_cons_zero, List.set_cons_succ, List.getElem_toArray, List.getElem_cons_zero, List.getElem_cons_succ]
      refine wpAnyH_take (i := 3) (v := .int .i64 (nc : Int)) rfl (by kernel_rfl) (by kernel_rfl) (by kernel_rfl) (fun _ _ _ h => h) (Or.inl ⟨by rfl, by intro w hSw; have hc := hSw.cells.2.2.2; go_simp⟩) (by assumption) ?_
      try simp only [Act.put, List.setIfInBounds_toArray, List.set_cons_zero, List.set_cons_succ, List.getElem_toArray, List.getElem_cons_zero, List.getElem_cons_succ]
      have hst := Vs.run_put (P := Tryz.prog) HSD.box.hr Z rfl HZ1.out
      have HS1 := HSD.same
      refine wpAnyH_ready (rs := [4]) (by kernel_rfl) (by simp) ?_
      refine AllReadyH.cons rfl (fun K hK => ?_) AllReadyH.nil
      go_simp
      refine hK.out _ _ HS1 (fun _ => ?_)
      clear hK K hst
      try simp only [Act.put, List.setIfInBounds_toArray, List.set_cons_zero, List.set_cons_succ, List.getElem_toArray, List.getElem_cons_zero, List.getElem_cons_succ]
      refine wpAnyH_take (i := 5) (v := .int .i64 (nc : Int)) rfl (by kernel_rfl) (by kernel_rfl) (by kernel_rfl) (fun _ _ _ h => h) (Or.inl ⟨by rfl, by intro w hSw; go_simp⟩) (by assumption) ?_
      try simp only [Act.put, List.setIfInBounds_toArray, List.set_cons_zero, List.set_cons_succ, List.getElem_toArray, List.getElem_cons_zero, List.getElem_cons_succ]
      refine wpAnyH_take (i := 6) (v := .int .i64 10) rfl (by kernel_rfl) (by kernel_rfl) (by kernel_rfl) (fun _ _ _ h => h) (Or.inl ⟨by rfl, by intro w hSw; go_simp⟩) (by assumption) ?_
      try simp only [Act.put, List.setIfInBounds_toArray, List.set_cons_zero, List.set_cons_succ, List.getElem_toArray, List.getElem_cons_zero, List.getElem_cons_succ]
      refine wpAnyH_done (by kernel_rfl) ?_ _
      go_wp2_with fail
      exact bodyPost_ret (v := .tuple #[.agg Z, .int .i64 (nc : Int), .int .i64 10]) (res_ctt rfl _ _ w.heap.size 46 Z (0, 0) _ rfl HS1.box.hr Tryz.underlying46 rfl HZI.out _ _ rfl rfl) rfl ⟨by rw [HRE.out, HZ.out], HS1.box.bel⟩
    have HE4 := Lib.hid (HE3b.out.trans (if_neg (fun h => by rcases h with h | h | h; exact h h1; exact h0 h; omega)))
    have hX1 : X = [⟨k', l', b', p'⟩] := HX.out.symm.trans (if_neg h0)
    subst hX1
    obtain ⟨g, cap, hv, hg0, hg1, -, cg0, cg1, cg2, cg3⟩ := Vs.OwnX.one HO12.out
    simp only [List.length_cons, List.length_nil] at *
    obtain ⟨rfl, rfl⟩ : Ax = some ⟨g, 0, none⟩ ∧ cx = cap := by simpa using hv
    have et := HTL.out hsz
    have hgd : gd ≠ g := by have := HLT.out; omega
    have HGL := Lib.hid hg1
    have HG0 := Lib.hid cg0
    have HG1 := Lib.hid cg1
    have HG2 := Lib.hid cg2
    have HG3 := Lib.hid cg3
    have d2 : (sz : Int) ≤ 1608 := by omega
    clear HE3b h1 h0 hv hg0 hg1 HO12 HX HTL HLT hsz
    go_upto_region 49 with fail
    obtain ⟨mm, hmm⟩ : ∃ mm : Nat, mm = 440 + sz := ⟨_, rfl⟩
    rw [← hmm] at et
    have hmI : (440 : Int) + (sz : Int) = (mm : Int) := by omega
    have hwr : IntKind.i64.wrap ((440 : Int) + (sz : Int)) = (mm : Int) := by rw [hmI]; exact IntWalk.i64_in _ (by omega)
    have hm1 : (440 : Int) ≤ (mm : Int) := by omega
    have hm3 : (mm : Int) ≤ 2048 := by omega
    have hm4 : IntKind.i64.wrap (mm : Int) = (mm : Int) := IntWalk.i64_in _ (by omega)
    have hm5 : 440 ≤ mm := by omega
    have hm6 : mm ≤ sc.size := by omega
    have hm2 : (mm : Int) ≤ (sc.size : Int) := by omega
    have HGD := Lib.hid hgd
    clear d1 d2 hsc hmm hszI ex3 hza hzb hzc
    have HBD := Lib.hid (show Vs.Pd w wf.drew gi gb gd Z (na : Int) (nb : Int) (nc : Int) ({ P2 with vol := { P2.vol with name := q3 } } : Vs.D) from HD12.out.below (Below.refl _ _).drew)
    have HGW := Lib.hid (show g < wf.drew.heap.size from HGL.out)
    have HGE := Lib.hid (show wf.drew.cell? ⟨g, 0, none⟩ = some (.int .i64 k') ∧ wf.drew.cell? ⟨g, 1, none⟩ = some (.int .i64 l') ∧ wf.drew.cell? ⟨g, 2, none⟩ = some (.int .i64 b') ∧ wf.drew.cell? ⟨g, 3, none⟩ = some (.int .i64 p') from ⟨HG0.out, HG1.out, HG2.out, HG3.out⟩)
    go_region_held3 (fun w' => w'.cell? ⟨g, 0, none⟩ = some (.int .i64 k') ∧ w'.cell? ⟨g, 1, none⟩ = some (.int .i64 l') ∧ w'.cell? ⟨g, 2, none⟩ = some (.int .i64 b') ∧ w'.cell? ⟨g, 3, none⟩ = some (.int .i64 p')) (first | go_keep | with_reducible exact ⟨hs1, hs2, hs3, hs4⟩) (first
      | (go_at_call 87; refine (CC2.out _).mono ?_; rintro e wx ⟨rfl, hw⟩; subst hw)
      | (go_at_call 56; refine (CX.out wf.drew).mono ?_; rintro e w13 ⟨rfl, hb13⟩; have HD13 := Lib.hid (HBD.out.below hb13); have hs1 := (hb13.cell (p := ⟨g, 0, none⟩) HGW.out).trans HGE.out.1; have hs2 := (hb13.cell (p := ⟨g, 1, none⟩) HGW.out).trans HGE.out.2.1; have hs3 := (hb13.cell (p := ⟨g, 2, none⟩) HGW.out).trans HGE.out.2.2.1; have hs4 := (hb13.cell (p := ⟨g, 3, none⟩) HGW.out).trans HGE.out.2.2.2; obtain ⟨-, -, -, -, -, -, -, -, -, -, -, -, -, -, c14, c15, c16, c17, c18, c19, c20, c21⟩ := Vs.dC_cells _ HD13.out.row; have hfj := fun j => frozen_of_row _ _ j _ _ HD13.out.row; clear hb13))
    have hput := Vs.put_dd ({ P2 with vol := { P2.vol with name := q3 } } : Vs.D) tl k' l' b' p' m' i1 i2
    rw [HF3.out] at hput
    have hsets := HD13.out.sets _ hput
    clear hput
    have HD14 := Lib.hid (show Vs.Pd w ((((((((w13.setCell ⟨gd, 16, none⟩ (.int .i64 k')).setCell ⟨gd, 17, none⟩ (.int .i64 l')).setCell ⟨gd, 18, none⟩ (.int .i64 b')).setCell ⟨gd, 19, none⟩ (.int .i64 p')).setCell ⟨gd, 14, none⟩ (.int .i64 m')).setCell ⟨gd, 15, none⟩ (.string tl)).setCell ⟨gd, 20, none⟩ (.int .i64 i1)).setCell ⟨gd, 21, none⟩ (.int .i64 i2)) gi gb gd Z (na : Int) (nb : Int) (nc : Int) P3 from hsets)
    clear hsets
    go_upto_region 50 with fail
    generalize ((((((((w13.setCell ⟨gd, 16, none⟩ (.int .i64 k')).setCell ⟨gd, 17, none⟩ (.int .i64 l')).setCell ⟨gd, 18, none⟩ (.int .i64 b')).setCell ⟨gd, 19, none⟩ (.int .i64 p')).setCell ⟨gd, 14, none⟩ (.int .i64 m')).setCell ⟨gd, 15, none⟩ (.string tl)).setCell ⟨gd, 20, none⟩ (.int .i64 i1)).setCell ⟨gd, 21, none⟩ (.int .i64 i2)) = wg at *
    clear c14 c15 c16 c17 c18 c19 c20 c21 hfj hs1 hs2 hs3 hs4 HD13 HBD HGW HGE HGD HG0 HG1 HG2 HG3 HGL HD12 hm1 hm2 hm3 hm4 hm5 hm6 hwr hmI et hgd cg0 cg1 cg2 cg3 HF3 CC2 CX
    have HL14 := Lib.hid (Vs.box_load P3 rfl HD14.out.row)
    go_upto_if 311 with (first | (refine wpList_load_at 46 _ rfl gd 0 rfl _ HL14.out (by rfl) ?_) | (with_reducible refine (CV3.out _).mono ?_; rintro e wh ⟨rfl, hbh⟩))
    have HD15 := Lib.hid (HD14.out.below hbh)
    clear hbh HD14 HL14 CV3
    cases ok3 with
    | false =>
      have HRE := Lib.hid (HR3.out.trans (Vs.par3_3 HP1.out HP2.out (HE4.out.trans (if_neg (by decide))) (by decide)))
      clear HR3 HE4 HR0
      go_wp2_with fail
      have HSD := (show Vs.Pq w wh.drew gi gb Z (na : Int) (nb : Int) (nc : Int) from HD15.out.pq.below (Below.refl _ _).drew)
      refine wp_region_held_drew (S := fun W => Vs.Pq w W gi gb Z (na : Int) (nb : Int) (nc : Int)) (by kernel_rfl) HSD (fun _ => ?_)
      refine wpAnyH_take (i := 0) (v := .agg Z) rfl (by kernel_rfl) (by kernel_rfl) (by kernel_rfl) (fun _ _ _ h => h) (Or.inl ⟨by rfl, yields_load3 46 _ rfl (w.heap.size + 1) 0 rfl _ (fun W h => Vs.box_load Vs.d0 HZ.out h.box.hn)⟩) (by assumption) ?_
      try simp only [Act.put, List.setIfInBounds_toArray, List.set_cons_zero, List.set_cons_succ, List.getElem_toArray, List.getElem_cons_zero]
      refine wpAnyH_take (i := 1) (v := .slice (some ⟨gb, 0, none⟩) 3 3) rfl (by kernel_rfl) (by kernel_rfl) (by kernel_rfl) (fun _ _ _ h => h) (Or.inl ⟨by rfl, by intro w hSw; go_simp⟩) (by assumption) ?_
      try simp only [Act.put, List.setIfInBounds_toArray, List.set_cons_zero, List.set_cons_succ, List.getElem_toArray, List.getElem_cons_zero, List.getElem_cons_succ]
      refine wpAnyH_take (i := 2) (v := .pointer (some ⟨gb, 2, none⟩)) rfl (by kernel_rfl) (by kernel_rfl) (by kernel_rfl) (fun _ _ _ h => h) (Or.inl ⟨by rfl, by intro w hSw; go_simp⟩) (by assumption) ?_
      try simp only [Act.put, List.setIfInBounds_toArray, List.set_cons_zero, List.set_cons_succ, List.getElem_toArray, List.getElem_cons_zero, List.getElem_cons_succ]
      refine wpAnyH_take (i := 3) (v := .int .i64 (nc : Int)) rfl (by kernel_rfl) (by kernel_rfl) (by kernel_rfl) (fun _ _ _ h => h) (Or.inl ⟨by rfl, by intro w hSw; have hc := hSw.cells.2.2.2; go_simp⟩) (by assumption) ?_
      try simp only [Act.put, List.setIfInBounds_toArray, List.set_cons_zero, List.set_cons_succ, List.getElem_toArray, List.getElem_cons_zero, List.getElem_cons_succ]
      have hst := Vs.run_put (P := Tryz.prog) HSD.box.hr Z rfl HZ1.out
      have HS1 := HSD.same
      refine wpAnyH_ready (rs := [4]) (by kernel_rfl) (by simp) ?_
      refine AllReadyH.cons rfl (fun K hK => ?_) AllReadyH.nil
      go_simp
      refine hK.out _ _ HS1 (fun _ => ?_)
      clear hK K hst
      try simp only [Act.put, List.setIfInBounds_toArray, List.set_cons_zero, List.set_cons_succ, List.getElem_toArray, List.getElem_cons_zero, List.getElem_cons_succ]
      refine wpAnyH_take (i := 5) (v := .int .i64 (nc : Int)) rfl (by kernel_rfl) (by kernel_rfl) (by kernel_rfl) (fun _ _ _ h => h) (Or.inl ⟨by rfl, by intro w hSw; go_simp⟩) (by assumption) ?_
      try simp only [Act.put, List.setIfInBounds_toArray, List.set_cons_zero, List.set_cons_succ, List.getElem_toArray, List.getElem_cons_zero, List.getElem_cons_succ]
      refine wpAnyH_take (i := 6) (v := .int .i64 10) rfl (by kernel_rfl) (by kernel_rfl) (by kernel_rfl) (fun _ _ _ h => h) (Or.inl ⟨by rfl, by intro w hSw; go_simp⟩) (by assumption) ?_
      try simp only [Act.put, List.setIfInBounds_toArray, List.set_cons_zero, List.set_cons_succ, List.getElem_toArray, List.getElem_cons_zero, List.getElem_cons_succ]
      refine wpAnyH_done (by kernel_rfl) ?_ _
      go_wp2_with fail
      exact bodyPost_ret (v := .tuple #[.agg Z, .int .i64 (nc : Int), .int .i64 10]) (res_ctt rfl _ _ w.heap.size 46 Z (0, 0) _ rfl HS1.box.hr Tryz.underlying46 rfl HZI.out _ _ rfl rfl) rfl ⟨by rw [HRE.out, HZ.out], HS1.box.bel⟩
    | true =>
    have HRE := Lib.hid (HR0.out (HE4.out.trans (if_pos rfl)))
    clear HR3 HE4 HR0
    have HL15 := Lib.hid (Vs.box_load P3 rfl HD15.out.row)
    obtain ⟨Y, hY⟩ : ∃ Y, Y = Vs.dC P3 := ⟨_, rfl⟩
    have HY1 := Lib.hid (show Y.all (·.oneCell') = true by rw [hY]; exact Vs.dC_one _)
    have HYI := Lib.hid (show (Tryz.prog.info? 46).map (·.size) = some Y.size by rw [hY]; exact Vs.zC_info)
    have hzy : Z.size = Y.size := by rw [hz22, hY]; rfl
    have hst := Vs.run_put (P := Tryz.prog) HD15.out.pq.box.hr Y hzy HY1.out
    have HYE := Lib.hid hY
    rw [← hY] at HL15
    clear hY
    go_wp2_with (refine wpList_load_at 46 _ rfl gd 0 rfl _ HL15.out (by rfl) ?_)
    exact bodyPost_ret (v := .tuple #[.agg Y, .int .i64 0, .int .i64 0]) (res_ctt rfl _ _ w.heap.size 46 Y (0, 0) _ rfl (HD15.out.pq.box.out hzy).1 Tryz.underlying46 rfl HYI.out _ _ rfl rfl) rfl ⟨by rw [HRE.out, HYE.out], (HD15.out.pq.box.out hzy).2⟩
end Go.Proofs.YthkppbimkjmbnaaGreatDoor
