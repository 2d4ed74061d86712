/-
  The walks through Ucs2 of charset and of the reference of layer 17.
-/
import Derived.Test.YtdcknfdileomoaaDoorKit2
import Derived.Test.YtdcknfdileomoaaDoorCh
import Derived.Test.YtdcknfdileomoaaDoorW17b
import Derived.Test.YtdcknfdileomoaaDoorR17b
import Derived.Test.YtdcknfdileomoaaDoorStep
namespace Go.Proofs.YtdcknfdileomoaaDoor
open Go.RowKit

theorem cu_cells (z : Nat) (h : z ≤ 65535) : Kit.bytes (Cs.cu 2 z) = [Value.int .u8 ((z : Int) / 256), Value.int .u8 ((z : Int) % 256)] := by
  unfold Cs.cu Kit.bytes
  rw [if_neg (by decide)]
  simp only [List.map_cons, List.map_nil, UInt8.toNat_ofNat']
  have e1 : z / 256 % 2 ^ 8 = z / 256 := by omega
  have e2 : ((z / 256 : Nat) : Int) = (z : Int) / 256 := by omega
  have e3 : ((z % 2 ^ 8 : Nat) : Int) = (z : Int) % 256 := by omega
  rw [e1, e2, e3]

theorem ucs2_ok {l : List UInt8} {cs : List Nat} (h : Cs.charsR l = (cs, 0)) : Cs.ucs2R l = (cs.flatMap (Cs.cu 2), 0) := by
  unfold Cs.ucs2R
  rw [h]
  rfl
theorem ucs2_err {l : List UInt8} (h : ¬ (Cs.charsR l).2 = 0) : Cs.ucs2R l = ([], (Cs.charsR l).2) := if_neg h

theorem flat_snoc {cs : List Nat} {j : Nat} (h : j < cs.length) : (cs.take (j + 1)).flatMap (Cs.cu 2) = (cs.take j).flatMap (Cs.cu 2) ++ Cs.cu 2 (cs.getD j 0) := by
  rw [List.take_succ_eq_append_getElem h, List.flatMap_append]
  simp [List.getD, h]

set_option maxHeartbeats 1600000 in
set_option maxRecDepth 100000 in
/-- charset.Ucs2. -/
theorem ucs2_any (s : ByteArray) (w : World) (hT : Lib.Utf8Tabs 1 2 w) (hs : s.size ≤ 9223372036854775807) :
    Calls Tryd.prog 27 #[.string s] w fun e w' => e = .returned (.tuple #[.string ⟨(Cs.ucs2R s.data.toList).1.toArray⟩, .int .i64 (Cs.ucs2R s.data.toList).2]) ∧ Below w.heap.size w w' := by
  have cC := characters_any s w hT hs
  by_cases h0 : (Cs.charsR s.data.toList).2 = 0
  case neg =>
    have HR := Lib.hid (ucs2_err h0)
    generalize (Cs.charsR s.data.toList).1 = cs at *
    generalize (Cs.charsR s.data.toList).2 = er at *
    have h0'' : (er != 0) = true := by rw [bne_iff_ne]; exact h0
    have CC := Lib.hid cC
    clear cC h0 hT
    go_enter Tryd.func27, Tryd.ntmps27
    go_wp2_with fail
    with_reducible refine CC.out.mono ?_
    rintro e w2 ⟨v, rfl, _, hb2⟩
    go_wp2_with fail
    go_ret2
    rw [HR.out]
    exact ⟨rfl, hb2⟩
  case pos =>
  obtain ⟨hl, hch⟩ := Cs.charsR_zero h0
  have hRR := ucs2_ok (l := s.data.toList) (cs := (Cs.charsR s.data.toList).1) (by rw [← h0])
  have h655 : ∀ c ∈ (Cs.charsR s.data.toList).1, c ≤ 65535 := fun c hc => by
    have := Cs.isChar_le ((Cs.chars_len hch).2 c hc)
    omega
  have hcl : (Cs.charsR s.data.toList).1.length ≤ 65536 := by have := (Cs.chars_len hch).1; omega
  rw [h0] at cC
  generalize (Cs.charsR s.data.toList).1 = cs at *
  have HR := Lib.hid hRR
  have HW := Lib.hid h655
  have CC := Lib.hid cC
  clear cC h0 hT hl hch hRR h655
  obtain ⟨i0, hi, hz0, hz1, hz2⟩ := info_parts byteInfo
  go_enter Tryd.func27, Tryd.ntmps27
  go_wp2_with fail
  with_reducible refine CC.out.mono ?_
  rintro e w2 ⟨v, rfl, hown, hb2⟩
  have hrow := Kit.Row.of_own hown
  clear hown
  obtain ⟨A, c, rfl, hlc, hcm, hcell⟩ := hrow
  rw [Kit.ints_length] at *
  unfold maxLen at hcm
  have HC := Lib.hid hcell
  clear hcell
  have hsz2 := hb2.size
  go_wp2_with (at_make; refine wpList_make_own _ rfl _ _ 47 rfl w2.heap.size 5 i0 (.int .u8 0) 1 Tryd.underlying47 hi hz0 hz1 _ _ _ (2 * cs.length) rfl rfl (by omega) (by rw [hz2]; omega) (by unfold maxLen; omega) (Nat.le_refl _) ?_)
  intro w1 hown hgrow
  have hb1 : Below w2.heap.size w2 w1 := (Below.refl _ _).grown hgrow (Nat.le_refl _) (fun k hk => by cases hk)
  go_wp2_with fail
  go_loopw [23, 6] (fun iv ov wr => ∃ j : Nat, j ≤ cs.length ∧ iv = .int .i64 j ∧ wr.ownsRow w2.heap.size 5 1 ov (2 * j) (Kit.bytes ((cs.take j).flatMap (Cs.cu 2))) ∧ Below w2.heap.size w2 wr) (fun iv _ _ => cs.length - (intOf iv).toNat)
  case atStart => exact ⟨0, by omega, rfl, hown, hb1⟩
  case round =>
    obtain ⟨j, hj, rfl, hown, hbw⟩ := hrel
    have HOWN := Lib.hid hown
    clear hown hb1
    have hsz := hbw.size
    by_cases hlt : j < cs.length
    · obtain ⟨b, o, rfl, hbl, hce⟩ := HC.out (by omega)
      have hcj : wr.cell? ⟨b, o + j, none⟩ = some (.int .i64 (cs.getD j 0 : Nat)) := by
        rw [hbw.cell (p := ⟨b, o + j, none⟩) hbl]
        exact hce j _ (by simp [Kit.ints, List.getD, hlt])
      clear hce
      have hz := HW.out (cs.getD j 0) (by simp [List.getD, hlt])
      have HFL := Lib.hid (flat_snoc hlt)
      have HCU := Lib.hid (cu_cells _ hz)
      generalize cs.getD j 0 = z at *
      have hz' : (z : Int) ≤ 65535 := by omega
      go_wp2_with (at_builtin; refine Kit.app byteInfo rfl (by decide) rfl _ _ 47 rfl Tryd.underlying47 w2.heap.size _ _ _ rfl HOWN.out [_, _] 2 2 rfl rfl (Kit.one_u8s [_, _]) ?c1 hsz ?_)
      case c1 => omega
      intro v' w4 hown' hb4
      have HOWN' := Lib.hid hown'
      clear hown'
      go_wp2_with fail
      go_roundw
      case rel => exact ⟨j + 1, by omega, by go_num, by
        rw [HFL.out, Kit.bytes_append, HCU.out]
        exact HOWN'.out, hbw.trans hb4⟩
      case measure => simp [intOf]; omega
    · obtain rfl : j = cs.length := by omega
      have hcv := Kit.str_own HOWN.out
      rw [List.take_length] at hcv
      go_wp2_with fail
      go_ret2
      rw [HR.out]
      exact ⟨rfl, hb2.trans (hbw.mono hsz2)⟩
set_option maxHeartbeats 1600000 in
set_option maxRecDepth 100000 in
/-- masterdiscref17.Ucs2. -/
theorem rUcs2_any (s : ByteArray) (w : World) (hs : s.size ≤ 9223372036854775807) :
    Calls Tryd.prog 28 #[.string s] w fun e w' => e = .returned (.tuple #[.string ⟨(Cs.ucs2R s.data.toList).1.toArray⟩, .int .i64 (Cs.ucs2R s.data.toList).2]) ∧ Below w.heap.size w w' := by
  have cC := rCharacters_any s w hs
  by_cases h0 : (Cs.charsR s.data.toList).2 = 0
  case neg =>
    have HR := Lib.hid (ucs2_err h0)
    generalize (Cs.charsR s.data.toList).1 = cs at *
    generalize (Cs.charsR s.data.toList).2 = er at *
    have h0'' : (er != 0) = true := by rw [bne_iff_ne]; exact h0
    have CC := Lib.hid cC
    clear cC h0
    go_enter Tryd.func28, Tryd.ntmps28
    go_wp2_with fail
    with_reducible refine CC.out.mono ?_
    rintro e w2 ⟨v, rfl, _, hb2⟩
    go_wp2_with fail
    go_ret2
    rw [HR.out]
    exact ⟨rfl, hb2⟩
  case pos =>
  obtain ⟨hl, hch⟩ := Cs.charsR_zero h0
  have hRR := ucs2_ok (l := s.data.toList) (cs := (Cs.charsR s.data.toList).1) (by rw [← h0])
  have h655 : ∀ c ∈ (Cs.charsR s.data.toList).1, c ≤ 65535 := fun c hc => by
    have := Cs.isChar_le ((Cs.chars_len hch).2 c hc)
    omega
  have hcl : (Cs.charsR s.data.toList).1.length ≤ 65536 := by have := (Cs.chars_len hch).1; omega
  rw [h0] at cC
  generalize (Cs.charsR s.data.toList).1 = cs at *
  have HR := Lib.hid hRR
  have HW := Lib.hid h655
  have CC := Lib.hid cC
  clear cC h0 hl hch hRR h655
  go_enter Tryd.func28, Tryd.ntmps28
  go_wp2_with fail
  with_reducible refine CC.out.mono ?_
  rintro e w2 ⟨v, rfl, hown, hb2⟩
  have hrow := Kit.Row.of_own hown
  clear hown
  obtain ⟨A, c, rfl, hlc, hcm, hcell⟩ := hrow
  rw [Kit.ints_length] at *
  unfold maxLen at hcm
  have HC := Lib.hid hcell
  clear hcell
  have hsz2 := hb2.size
  go_wp2_with fail
  go_loopw [7, 6] (fun iv ov wr => ∃ j : Nat, j ≤ cs.length ∧ iv = .int .i64 j ∧ wr.ownsRow w2.heap.size 5 1 ov (2 * j) (Kit.bytes ((cs.take j).flatMap (Cs.cu 2))) ∧ Below w2.heap.size w2 wr) (fun iv _ _ => cs.length - (intOf iv).toNat)
  case atStart => exact ⟨0, by omega, rfl, World.ownsRow_nil _ _ _ _, Below.refl _ _⟩
  case round =>
    obtain ⟨j, hj, rfl, hown, hbw⟩ := hrel
    have HOWN := Lib.hid hown
    clear hown
    have hsz := hbw.size
    by_cases hlt : j < cs.length
    · obtain ⟨b, o, rfl, hbl, hce⟩ := HC.out (by omega)
      have hcj : wr.cell? ⟨b, o + j, none⟩ = some (.int .i64 (cs.getD j 0 : Nat)) := by
        rw [hbw.cell (p := ⟨b, o + j, none⟩) hbl]
        exact hce j _ (by simp [Kit.ints, List.getD, hlt])
      clear hce
      have hz := HW.out (cs.getD j 0) (by simp [List.getD, hlt])
      have HFL := Lib.hid (flat_snoc hlt)
      have HCU := Lib.hid (cu_cells _ hz)
      generalize cs.getD j 0 = z at *
      have hz' : (z : Int) ≤ 65535 := by omega
      go_wp2_with fail
      have k1 : IntKind.i64.wrap ((z : Int) / 256) = (z : Int) / 256 := IntWalk.i64_in _ (by omega)
      have k2 : IntKind.u8.wrap ((z : Int) / 256) = (z : Int) / 256 := IntWalk.u8_in _ (by omega)
      have k3 : (z : Int).tmod 256 = (z : Int) % 256 := Int.tmod_eq_emod_of_nonneg (by omega)
      have k4 : IntKind.u8.wrap ((z : Int) % 256) = (z : Int) % 256 := IntWalk.u8_in _ (by omega)
      go_region_law (refine Kit.step_app byteInfo (by rfl) (by decide) (by rfl) (.tmp 22) (.tmp 35) 47 (by rfl) Tryd.underlying47 w2.heap.size _ _ _ (by rfl) (by exact Kit.own_below HOWN.out ((Below.refl _ _).drew)) [.int .u8 ((z : Int) / 256), .int .u8 ((z : Int) % 256)] 2 2 (by rfl) (by rfl) (by exact Kit.one_u8s [(z : Int) / 256, (z : Int) % 256]) (by rfl) (by omega) (by first | exact hsz | (simp; exact hsz)) ?_; intro v' w4 hown' hb4; have HOWN' := Lib.hid hown'; clear hown')
      all_goals try go_wp2_with fail
      all_goals
        go_roundw
        case rel => exact ⟨j + 1, by omega, by go_num, by
          rw [HFL.out, Kit.bytes_append, HCU.out]
          exact HOWN'.out, (hbw.drew).trans hb4⟩
        case measure => simp [intOf]; omega
    · obtain rfl : j = cs.length := by omega
      have hcv := Kit.str_own HOWN.out
      rw [List.take_length] at hcv
      go_wp2_with fail
      go_ret2
      rw [HR.out]
      exact ⟨rfl, hb2.trans (hbw.mono hsz2)⟩
end Go.Proofs.YtdcknfdileomoaaDoor
