/-
  The law's example (awake).
-/
import Derived.Test.YtlhechlbmbjffaaDoorKf
import Derived.Test.YtlhechlbmbjffaaDoorKc
import Derived.Test.YtlhechlbmbjffaaDoorKb
import Derived.Test.YtlhechlbmbjffaaDoorJn
import Derived.Test.YtlhechlbmbjffaaDoorJd
namespace Go.Proofs.YtlhechlbmbjffaaDoor
open Go.RowKit
/-- slices.Equal of strings, of rows that read alike. -/
theorem equalS_same (v1 v2 : Value) (l : List ByteArray) (w : World) (h1 : Lm.Strs w v1 l) (h2 : Lm.Strs w v2 l) (h0 : 0 < l.length) :
    Calls Tryd.prog 23 #[v1, v2] w fun e w' => e = .returned (.bool true) ∧ Below w.heap.size w w' := by
  obtain ⟨A, c, rfl, _, hm1, h1⟩ := h1
  obtain ⟨B, d, rfl, _, hm2, h2⟩ := h2
  rw [Lm.strs_length] at *
  unfold maxLen at hm1 hm2
  obtain ⟨b1, o1, rfl, _, c1⟩ := h1 h0
  obtain ⟨b2, o2, rfl, _, c2⟩ := h2 h0
  refine (Tryd.slices_Equal_string b1 o1 l.length c b2 o2 l.length d l l w (Nat.le_refl _) (Nat.le_refl _) (by omega) (by omega) (fun j hj => c1 j _ (by simp [Lm.strs, List.getD, hj, ByteArray.empty, ByteArray.emptyWithCapacity])) (fun j hj => c2 j _ (by simp [Lm.strs, List.getD, hj, ByteArray.empty, ByteArray.emptyWithCapacity]))).mono ?_
  rintro e w' ⟨rfl, q, rfl⟩
  exact ⟨by simp, Kit.Below.drewN (Below.refl _ _) q⟩
namespace Lm
theorem strs_rep (b : ByteArray) (n : Nat) : List.replicate n (Value.string b) = strs (List.replicate n b) := by simp [strs]
/-- A fresh row of copies is owned. -/
theorem OwnB.rep {w : World} {B g n : Nat} {b : ByteArray} (h : w.heap[g]? = some (.cells (List.replicate n (.string b)).toArray 9 (0, 0))) (hB : B ≤ g) (hn : n ≤ 4096) : OwnB w B (.slice (some ⟨g, 0, none⟩) (List.replicate n b).length n) (List.replicate n b) := by
  refine ⟨by simp [strs], .inr ⟨g, n, _, by rw [List.length_replicate], hB, h, by simp, by unfold maxLen; omega, by simp, ?_⟩⟩
  rw [strs_rep]
  simp [strs]
theorem OwnB.strs {w : World} {B : Nat} {v : Value} {l : List ByteArray} (h : OwnB w B v l) : Strs w v l := by
  have := Kit.Row.of_own h
  exact this
end Lm
theorem cat_eq (b : ByteArray) (Z : List UInt8) : (⟨(b.data.toList ++ Z).toArray⟩ : ByteArray) = b ++ ⟨Z.toArray⟩ := by
  have h := Kit.append_mk b.data.toList Z
  rw [← h]
theorem rep_x (w : World) : Calls Tryd.prog 21 #[.string ⟨#[120]⟩, .int .i64 2048] w fun e w' => e = .returned (.string ⟨(Lib.repeatL [120] 2048).toArray⟩) ∧ Below w.heap.size w w' :=
  Tryd.strings_Repeat ⟨#[120]⟩ 2048 w (by omega) (by decide)
theorem rep_z (w : World) : Calls Tryd.prog 21 #[.string ⟨#[0]⟩, .int .i64 2148] w fun e w' => e = .returned (.string ⟨(List.replicate 2148 0).toArray⟩) ∧ Below w.heap.size w w' := by
  have h := Tryd.strings_Repeat ⟨#[0]⟩ 2148 w (by omega) (by decide)
  rw [show (⟨#[0]⟩ : ByteArray).data.toList = [0] from rfl, Lm.repeatL_zero] at h
  exact h
theorem rep_30 (s : ByteArray) (xg xc : Nat) (w : World) (hx : w.cell? ⟨xg, 0, none⟩ = some (.string s)) :
    Calls Tryd.prog 22 #[.slice (some ⟨xg, 0, none⟩) 1 xc, .int .i64 30] w fun e w' => ∃ g, e = .returned (.slice (some ⟨g, 0, none⟩) 30 30) ∧ w.heap.size ≤ g ∧ w'.heap[g]? = some (.cells (List.replicate 30 (.string s)).toArray 9 (0, 0)) ∧ Below w.heap.size w w' := repeatI_any s 30 xg xc w hx (by decide) (by decide)
theorem rep_15 (s : ByteArray) (xg xc : Nat) (w : World) (hx : w.cell? ⟨xg, 0, none⟩ = some (.string s)) :
    Calls Tryd.prog 22 #[.slice (some ⟨xg, 0, none⟩) 1 xc, .int .i64 15] w fun e w' => ∃ g, e = .returned (.slice (some ⟨g, 0, none⟩) 15 15) ∧ w.heap.size ≤ g ∧ w'.heap[g]? = some (.cells (List.replicate 15 (.string s)).toArray 9 (0, 0)) ∧ Below w.heap.size w w' := repeatI_any s 15 xg xc w hx (by decide) (by decide)

set_option maxHeartbeats 12800000 in
set_option maxRecDepth 100000 in
/-- awake. -/
theorem awake_any (w : World) (hp : Lm.Pow w) : Calls Tryd.prog 7 #[] w fun e w' => e = .returned (.bool true) ∧ Below w.heap.size w w' := by
  have HP := Lib.hid hp
  clear hp
  have CR := Lib.hid (rep_x w)
  have hbs : (⟨(Lib.repeatL [120] 2048).toArray⟩ : ByteArray).size = 2048 := by
    show (Lib.repeatL _ 2048).toArray.size = 2048
    rw [List.size_toArray, Lib.repeatL_length]
    rfl
  generalize (⟨(Lib.repeatL [120] 2048).toArray⟩ : ByteArray) = b at *
  have HBS := Lib.hid hbs
  clear hbs
  go_enter Tryd.func7, Tryd.ntmps7
  go_wp2_with fail
  with_reducible refine CR.out.mono ?_
  rintro e w1 ⟨rfl, hb1⟩
  have hx1 := Lm.newCells w1 #[.string b] 9 0 _ rfl
  have CI := Lib.hid (rep_30 b w1.heap.size 1 _ hx1)
  have HBA := Lib.hid (show Below w1.heap.size w1 (w1.alloc (.cells #[.string b] 9)) from (Below.refl _ w1).alloc (Nat.le_refl _) _)
  clear hx1
  go_wp2_with fail
  with_reducible refine CI.out.mono ?_
  rintro e w2 ⟨g, rfl, hg, hh, hb2⟩
  have hsz1 := HBA.out.size
  have hOW := Lm.OwnB.rep hh (Nat.le_of_lt (Nat.lt_of_lt_of_le (by simp : w1.heap.size < (w1.alloc (.cells #[.string b] 9)).heap.size) hg)) (by decide)
  have hO1 := hOW.put 11 ⟨#[33]⟩
  have hO2 := Lm.OwnB.put (l := (List.replicate 30 b).set 11 ⟨#[33]⟩) (by simpa using hO1) 20 ⟨#[]⟩
  have z11 : w2.frozen? ⟨g, 11, none⟩ = false := hOW.frozenAt 11
  have z20 : (w2.setCell ⟨g, 11, none⟩ (.string ⟨#[33]⟩)).frozen? ⟨g, 20, none⟩ = false := by rw [World.frozen?_setCell]; exact hOW.frozenAt 20
  have c11 := hOW.cell (j := 11) (by simp)
  have c20 := hOW.cell (j := 20) (by simp)
  have hs3 : ((w2.setCell ⟨g, 11, none⟩ (.string ⟨#[33]⟩)).setCell ⟨g, 20, none⟩ (.string ⟨#[]⟩)).heap.size = w2.heap.size := by simp
  have hgw : w1.heap.size < g := Nat.lt_of_lt_of_le (by simp) hg
  have hb3 : Below w1.heap.size w1 ((w2.setCell ⟨g, 11, none⟩ (.string ⟨#[33]⟩)).setCell ⟨g, 20, none⟩ (.string ⟨#[]⟩)) := ((HBA.out.trans (hb2.mono hsz1)).setCell (p := ⟨g, 11, none⟩) (Nat.le_of_lt hgw) _).setCell (p := ⟨g, 20, none⟩) (Nat.le_of_lt hgw) _
  have hI3 : Lm.Strs ((w2.setCell ⟨g, 11, none⟩ (.string ⟨#[33]⟩)).setCell ⟨g, 20, none⟩ (.string ⟨#[]⟩)) (.slice (some ⟨g, 0, none⟩) 30 30) (Lm.exI b) := by
    have := Lm.OwnB.strs hO2
    simpa [Lm.exI] using this
  have HS3 := Lib.hid hs3
  have HB3 := Lib.hid hb3
  have HI3 := Lib.hid hI3
  clear hs3 hb3 hI3 hO1 hO2 hOW hh hg CI CR
  go_upto_region 4 with fail
  generalize (w2.setCell ⟨g, 11, none⟩ (.string ⟨#[33]⟩)).setCell ⟨g, 20, none⟩ (.string ⟨#[]⟩) = X at *
  have hba := (Below.refl X.heap.size X).alloc (Nat.le_refl _) (.cells #[.string Lm.pA, .int .i64 10, .int .i64 4096, .string Lm.pA, .int .i64 20, .int .i64 100] 41)
  have hI4 := HI3.out.below hba
  have hn4 := Lm.newCells X #[.string Lm.pA, .int .i64 10, .int .i64 4096, .string Lm.pA, .int .i64 20, .int .i64 100] 41
  have hF4 : Lm.Files (X.alloc (.cells #[.string Lm.pA, .int .i64 10, .int .i64 4096, .string Lm.pA, .int .i64 20, .int .i64 100] 41)) (.slice (some ⟨X.heap.size, 0, none⟩) 2 2) Lm.exF := by
    refine ⟨some ⟨X.heap.size, 0, none⟩, 2, rfl, Nat.le_refl _, by unfold maxLen; omega, fun _ => ⟨X.heap.size, 0, rfl, by simp, fun j hj k u hu => ?_⟩⟩
    have hj2 : j < 2 := hj
    have hk : k < 3 := (List.getElem?_eq_some_iff.1 hu).1
    rw [Nat.zero_add]
    refine hn4 (j * 3 + k) u ?_
    rw [← hu]
    rcases (by omega : j = 0 ∨ j = 1) with rfl | rfl
    · rcases (by omega : k = 0 ∨ k = 1 ∨ k = 2) with rfl | rfl | rfl <;> rfl
    · rcases (by omega : k = 0 ∨ k = 1 ∨ k = 2) with rfl | rfl | rfl <;> rfl
  have HB4 := Lib.hid (HB3.out.trans (hba.mono HB3.out.size))
  unfold Lm.pA at hF4 hI4 HB4
  have HI4 := Lib.hid hI4
  have HF4 := Lib.hid hF4
  clear hba hI4 hn4 hF4 HI3
  go_upto_region 5 with fail
  generalize (X.alloc (.cells #[.string ⟨#[97]⟩, .int .i64 10, .int .i64 4096, .string ⟨#[97]⟩, .int .i64 20, .int .i64 100] 41)) = W4 at *
  have hps : ∀ j, j < Lm.exF.length → (Lm.exF.getD j Lm.f0).path.size ≤ 500 := fun j hj => by
    have hj2 : j < 2 := hj
    rcases (by omega : j = 0 ∨ j = 1) with rfl | rfl <;> decide
  have hcl := lost_any _ _ (Lm.exI b) Lm.exF W4 HI4.out HF4.out hps
  rw [Lm.ex_chk HBS.out, if_pos rfl, Lm.ex_lost HBS.out] at hcl
  have CL := Lib.hid hcl
  clear hcl
  go_wp2_with fail
  with_reducible refine CL.out.mono ?_
  rintro e w5 ⟨r1, rfl, hO5, hb5⟩
  have hcr := recover_any _ _ (Lm.exI b) Lm.exF Lm.pA w5 (HI4.out.below hb5) (HF4.out.below hb5) hps
  rw [(Lm.ex_rec HBS.out).1, if_pos rfl, (Lm.ex_rec HBS.out).2, cat_eq] at hcr
  unfold Lm.pA at hcr
  have hcz := fun W => rep_z W
  have hzs : (⟨(List.replicate 2148 (0 : UInt8)).toArray⟩ : ByteArray).size = 2148 := by
    show (List.replicate 2148 (0 : UInt8)).toArray.size = 2148
    rw [List.size_toArray, List.length_replicate]
  generalize (⟨(List.replicate 2148 (0 : UInt8)).toArray⟩ : ByteArray) = zz at *
  have HAD := Lib.hid (fun W => run_string_add_sum (P := Tryd.prog) W b zz (by rw [HBS.out, hzs]; omega))
  have CZF := Lib.hid hcz
  clear hcz hzs
  have CV := Lib.hid hcr
  have HL5 := Lib.hid (Lm.OwnL.row hO5)
  have HB5 := Lib.hid hb5
  clear hcr hO5 hb5 CL
  go_wp2_with fail
  with_reducible refine CV.out.mono ?_
  rintro e w6 ⟨rfl, hb6⟩
  have HB6 := Lib.hid hb6
  clear hb6 CV
  have hx6 := Lm.newCells w6 #[.string b] 9 0 _ rfl
  have C7 := Lib.hid (rep_15 b w6.heap.size 1 _ hx6)
  have HB6a := Lib.hid (show Below w6.heap.size w6 (w6.alloc (.cells #[.string b] 9)) from (Below.refl _ w6).alloc (Nat.le_refl _) _)
  clear hx6
  go_wp2_with fail
  with_reducible refine C7.out.mono ?_
  rintro e w7 ⟨g7, rfl, hg7, hh7, hb7⟩
  have hI7 : Lm.Strs w7 (.slice (some ⟨g7, 0, none⟩) 15 15) (List.replicate 15 b) := Lm.OwnB.strs (Lm.OwnB.rep (B := 0) hh7 (Nat.zero_le _) (by decide))
  have hb67 : Below w6.heap.size w6 w7 := HB6a.out.trans (hb7.mono HB6a.out.size)
  have hi7 := ((HI4.out.below HB5.out).below HB6.out).below hb67
  have hba7 := (Below.refl w7.heap.size w7).alloc (Nat.le_refl _) (.cells #[.slice (some ⟨g, 0, none⟩) 30 30, .slice (some ⟨g7, 0, none⟩) 15 15] 23)
  have hn7 := Lm.newCells w7 #[.slice (some ⟨g, 0, none⟩) 30 30, .slice (some ⟨g7, 0, none⟩) 15 15] 23
  have hIM : Lm.Imgs (w7.alloc (.cells #[.slice (some ⟨g, 0, none⟩) 30 30, .slice (some ⟨g7, 0, none⟩) 15 15] 23)) (.slice (some ⟨w7.heap.size, 0, none⟩) 2 2) [.slice (some ⟨g, 0, none⟩) 30 30, .slice (some ⟨g7, 0, none⟩) 15 15] [Lm.exI b, List.replicate 15 b] := by
    refine ⟨⟨some ⟨w7.heap.size, 0, none⟩, 2, rfl, Nat.le_refl _, by unfold maxLen; omega, fun _ => ⟨w7.heap.size, 0, rfl, by simp, fun j u hu => ?_⟩⟩, rfl, fun i hi => ?_⟩
    · rw [Nat.zero_add]
      exact hn7 j u (by simpa using hu)
    · have hi2 : i < 2 := hi
      rcases (by omega : i = 0 ∨ i = 1) with rfl | rfl
      · exact hi7.below hba7
      · exact hI7.below hba7
  have hcc := combine_any _ _ _ _ hIM
  rw [(Lm.ex_comb HBS.out).1, if_pos rfl] at hcc
  have C8 := Lib.hid hcc
  have HB7 := Lib.hid (hb67.trans (hba7.mono hb67.size))
  clear hcc hIM hn7 hba7 hi7 hb67 hI7 hh7 hg7 hb7 C7 HB6a
  go_wp2_with fail
  generalize (w7.alloc (.cells #[.slice (some ⟨g, 0, none⟩) 30 30, .slice (some ⟨g7, 0, none⟩) 15 15] 23)) = W7 at *
  with_reducible refine C8.out.mono ?_
  rintro e w8 ⟨r8, rfl, hO8, hb8⟩
  have hlc := (Lm.ex_comb HBS.out).2
  obtain ⟨A8, c8, hv8, hg8⟩ := Lm.OwnB.shape hO8
  obtain ⟨g8, rfl, _⟩ := hg8 (by rw [hlc.1]; decide)
  subst hv8
  have k11 := hO8.cell (j := 11) (by rw [hlc.1]; decide)
  have k20 := hO8.cell (j := 20) (by rw [hlc.1]; decide)
  rw [hlc.2.1] at k11
  rw [hlc.2.2] at k20
  rw [hlc.1] at *
  have HB8 := Lib.hid (HB7.out.trans (hb8.mono HB7.out.size))
  have hL8 := (HL5.out.below HB6.out).below HB8.out
  clear hlc hO8 hb8 C8 hg8 HB7
  have hba8 := (Below.refl w8.heap.size w8).alloc (Nat.le_refl _) (.cells #[.string ⟨#[97]⟩, .int .i64 2048, .int .i64 2148] 35)
  have hn8 := Lm.newCells w8 #[.string ⟨#[97]⟩, .int .i64 2048, .int .i64 2148] 35
  have hLL : Lm.Losses (w8.alloc (.cells #[.string ⟨#[97]⟩, .int .i64 2048, .int .i64 2148] 35)) (.slice (some ⟨w8.heap.size, 0, none⟩) 1 1) Lm.exL := by
    refine ⟨some ⟨w8.heap.size, 0, none⟩, 1, rfl, Nat.le_refl _, by unfold maxLen; omega, fun _ => ⟨w8.heap.size, 0, rfl, by simp, fun j hj k u hu => ?_⟩⟩
    have hj1 : j < 1 := hj
    obtain rfl : j = 0 := by omega
    have hk : k < 3 := (List.getElem?_eq_some_iff.1 hu).1
    rw [show 0 + 0 * 3 + k = k by omega]
    refine hn8 k u ?_
    rw [← hu]
    rcases (by omega : k = 0 ∨ k = 1 ∨ k = 2) with rfl | rfl | rfl <;> rfl
  have C9 := Lib.hid (equalL_same r1 _ Lm.exL _ (hL8.below hba8) hLL)
  have HL8 := Lib.hid hL8
  have HK11 := Lib.hid (show ∀ W, Below w8.heap.size w8 W → W.cell? ⟨g8, 11, none⟩ = some (.string b) from fun W h => (h.cell (p := ⟨g8, 11, none⟩) (World.block_lt_of_cell? _ _ k11)).trans k11)
  have HK20 := Lib.hid (show ∀ W, Below w8.heap.size w8 W → W.cell? ⟨g8, 20, none⟩ = some (.string ⟨#[]⟩) from fun W h => (h.cell (p := ⟨g8, 20, none⟩) (World.block_lt_of_cell? _ _ k20)).trans k20)
  have HBA8 := Lib.hid hba8
  clear hba8 hn8 hLL hL8 k11 k20
  go_wp2_with fail
  with_reducible refine C9.out.mono ?_
  rintro e w9 ⟨rfl, hb9⟩
  have HB9 := Lib.hid (HBA8.out.trans (hb9.mono HBA8.out.size))
  clear hb9 C9
  have CZ := Lib.hid (CZF.out w9)
  have a1 := HAD.out
  go_wp2_with fail
  with_reducible refine CZ.out.mono ?_
  rintro e w10 ⟨rfl, hb10⟩
  have HB10 := Lib.hid (HB9.out.trans (hb10.mono HB9.out.size))
  have k11 := HK11.out w10 HB10.out
  have k20 := HK20.out w10 HB10.out
  have CB := Lib.hid (bytes_any r1 Lm.exL w10 (HL8.out.below HB10.out) (by
    intro x hx
    have : x = ⟨Lm.pA, 2048, 2148⟩ := by simpa [Lm.exL] using hx
    subst this
    exact ⟨by decide, by decide⟩) (by decide))
  rw [Lm.ex_bytes] at CB
  clear hb10 CZ
  go_wp2_with fail
  with_reducible refine CB.out.mono ?_
  rintro e w11 ⟨rfl, hb11⟩
  have HB11 := Lib.hid (HB10.out.trans (hb11.mono HB10.out.size))
  have CD := Lib.hid (damaged_any r1 Lm.exL w11 (HL8.out.below HB11.out) (by decide))
  rw [Lm.ex_dam] at CD
  clear hb11 CB k11 k20 a1
  go_wp2_with fail
  with_reducible refine CD.out.mono ?_
  rintro e w12 ⟨r12, rfl, hO12, hb12⟩
  have HB12 := Lib.hid (HB11.out.trans (hb12.mono HB11.out.size))
  have hba := (Below.refl w12.heap.size w12).alloc (Nat.le_refl _) (.cells #[.string ⟨#[97]⟩] 9)
  have hS : Lm.Strs (w12.alloc (.cells #[.string ⟨#[97]⟩] 9)) (.slice (some ⟨w12.heap.size, 0, none⟩) 1 1) [Lm.pA] :=
    ⟨some ⟨w12.heap.size, 0, none⟩, 1, rfl, Nat.le_refl _, by unfold maxLen; omega, fun _ => ⟨w12.heap.size, 0, rfl, by simp, fun j u hu => by rw [Nat.zero_add]; exact Lm.newCells w12 #[.string ⟨#[97]⟩] 9 j u (by simpa [Lm.strs, Lm.pA] using hu)⟩⟩
  have CE := Lib.hid (equalS_same r12 _ [Lm.pA] _ ((Lm.OwnB.strs hO12).below hba) hS (by decide))
  have HBA := Lib.hid hba
  clear hba hS hO12 hb12 CD HBA8
  go_wp2_with fail
  with_reducible refine CE.out.mono ?_
  rintro e w13 ⟨rfl, hb13⟩
  have HB13 := Lib.hid (HB12.out.trans ((HBA.out.trans (hb13.mono HBA.out.size)).mono HB12.out.size))
  have HBW := Lib.hid (show Below w.heap.size w w13 from hb1.trans ((HB4.out.trans (((HB5.out.trans (HB6.out.mono HB5.out.size)).trans ((HB8.out.trans (HB13.out.mono HB8.out.size)).mono (Nat.le_trans HB5.out.size HB6.out.size))).mono HB4.out.size)).mono hb1.size))
  have CF := Lib.hid (format_any r1 Lm.exL w13 (HL8.out.below HB13.out) (by decide) (HP.out.below HBW.out HP.out.lt) (fun j hj => by
    have hj1 : j < 1 := hj
    obtain rfl : j = 0 := by omega
    have : Lm.lineR (Lm.exL.getD 0 Lm.l0) = ⟨#[97, 32, 50, 48, 52, 56, 32, 50, 49, 52, 56]⟩ := by
      have := Lm.ex_fmt
      exact List.head_eq_of_cons_eq this
    refine ⟨by decide, by decide, by decide, by decide, ?_⟩
    rw [this]
    decide))
  rw [Lm.ex_fmt] at CF
  clear hb13 CE HBA
  go_wp2_with fail
  with_reducible refine CF.out.mono ?_
  rintro e w14 ⟨r14, rfl, hO14, hb14⟩
  have hba := (Below.refl w14.heap.size w14).alloc (Nat.le_refl _) (.cells #[.string ⟨#[97, 32, 50, 48, 52, 56, 32, 50, 49, 52, 56]⟩] 9)
  have hS : Lm.Strs (w14.alloc (.cells #[.string ⟨#[97, 32, 50, 48, 52, 56, 32, 50, 49, 52, 56]⟩] 9)) (.slice (some ⟨w14.heap.size, 0, none⟩) 1 1) [⟨#[97, 32, 50, 48, 52, 56, 32, 50, 49, 52, 56]⟩] :=
    ⟨some ⟨w14.heap.size, 0, none⟩, 1, rfl, Nat.le_refl _, by unfold maxLen; omega, fun _ => ⟨w14.heap.size, 0, rfl, by simp, fun j u hu => by rw [Nat.zero_add]; exact Lm.newCells w14 #[.string ⟨#[97, 32, 50, 48, 52, 56, 32, 50, 49, 52, 56]⟩] 9 j u (by simpa [Lm.strs] using hu)⟩⟩
  have CE := Lib.hid (equalS_same r14 _ _ _ ((Lm.OwnB.strs hO14).below hba) hS (by decide))
  have HB14 := Lib.hid (HBW.out.trans ((hb14.trans (hba.mono hb14.size)).mono HBW.out.size))
  clear hba hS hO14 hb14 CF
  go_wp2_with fail
  with_reducible refine CE.out.mono ?_
  rintro e w15 ⟨rfl, hb15⟩
  go_wp2_with fail
  go_ret
  exact ⟨rfl, HB14.out.trans (hb15.mono HB14.out.size)⟩
end Go.Proofs.YtlhechlbmbjffaaDoor
