/-
  The walks through udfstring.compressed and udfstring.Compress.
-/
import Derived.Test.YtfdlnhflgiemiaaDoorW17b
import Derived.Test.YtfdlnhflgiemiaaDoorUs
import Derived.Test.YtfdlnhflgiemiaaDoorKit2
namespace Go.Proofs.YtfdlnhflgiemiaaDoor
open Go.RowKit

set_option maxHeartbeats 1600000 in
set_option maxRecDepth 100000 in
/-- udfstring.compressed with one byte for each character. -/
theorem compressed_one (v : Value) (cs : List Nat) (w : World) (hr : Kit.Row w v (Kit.ints cs)) (hc : ∀ c ∈ cs, c ≤ 255) (hl : cs.length ≤ 65536) :
    Calls Tryd.prog 33 #[v, .int .i64 1] w fun e w' => e = .returned (.string ⟨(Cs.comp cs 1).toArray⟩) ∧ Below w.heap.size w w' := by
  obtain ⟨A, c, rfl, hlc, hcm, hcell⟩ := hr
  obtain ⟨i0, hi, hz0, hz1, hz2⟩ := info_parts byteInfo
  rw [Kit.ints_length] at hlc hcell ⊢
  unfold maxLen at hcm
  have HC := Lib.hid hcell
  have HW := Lib.hid hc
  clear hcell hc
  go_enter Tryd.func33, Tryd.ntmps33
  go_wp2_with fail
  go_loopw [15, 5] (fun iv ov wr => ∃ j : Nat, j ≤ cs.length ∧ iv = .int .i64 j ∧ wr.ownsRow w.heap.size 5 1 ov (1 + j) (Kit.bytes (8 :: (cs.take j).flatMap (Cs.cu 1))) ∧ Below w.heap.size w wr) (fun iv _ _ => cs.length - (intOf iv).toNat)
  case atStart => exact ⟨0, by omega, rfl, Kit.own_new w 5 (Kit.bytes [8]) (by simp [Kit.bytes, maxLen]), (Below.refl _ _).alloc (Nat.le_refl _) _⟩
  case round =>
    obtain ⟨j, hj, rfl, hown, hbw⟩ := hrel
    have HOWN := Lib.hid hown
    clear hown
    have hsz := hbw.size
    by_cases hlt : j < cs.length
    · obtain ⟨b, o, rfl, hbl, hce⟩ := HC.out (by omega)
      have hcj : wr.cell? ⟨b, o + j, none⟩ = some (.int .i64 (cs.getD j 0 : Nat)) := by
        rw [hbw.cell (p := ⟨b, o + j, none⟩) hbl]
        exact hce j _ (by simp [Kit.ints, List.getD, hlt])
      clear hce
      have hz1 := HW.out (cs.getD j 0) (by simp [List.getD, hlt])
      have hz2 : ((cs.getD j 0 : Nat) : Int) ≤ 255 := by omega
      generalize hgz : cs.getD j 0 = z at *
      have HGZ := Lib.hid hgz
      clear hgz
      go_wp2_with fail
      refine wp_loop_rounds 2 ?_
      rw [rounds_succ]
      go_wp2_with (at_builtin; refine Kit.app byteInfo rfl (by decide) rfl _ _ 48 rfl Tryd.underlying48 w.heap.size _ _ _ rfl HOWN.out [_] 1 1 rfl rfl (Kit.one1 rfl) ?c1 hsz ?_)
      case c1 => omega
      intro v' w4 hown' hb4
      have HOWN' := Lib.hid (Kit.snoc_byte hown' (by omega) (by omega))
      clear hown'
      go_wp2_with fail
      rw [rounds_succ]
      go_wp2_with fail
      go_roundw
      case rel => exact ⟨j + 1, by omega, by go_num, by
        have h := HOWN'.out
        rw [List.take_succ_eq_append_getElem hlt, List.flatMap_append, ← List.cons_append]
        have e : (cs[j]'hlt) = z := by rw [← HGZ.out]; simp [List.getD, hlt]
        simpa [e, Cs.cu, Nat.add_assoc] using h, hbw.trans hb4⟩
      case measure => simp [intOf]; omega
    · obtain rfl : j = cs.length := by omega
      have hcv := Kit.str_own HOWN.out
      rw [List.take_length] at hcv
      go_wp2_with fail
      go_ret
      exact ⟨rfl, hbw⟩

set_option maxHeartbeats 1600000 in
set_option maxRecDepth 100000 in
/-- udfstring.compressed with two bytes for each character. -/
theorem compressed_two (v : Value) (cs : List Nat) (w : World) (hr : Kit.Row w v (Kit.ints cs)) (hc : ∀ c ∈ cs, c ≤ 65535) (hl : cs.length ≤ 65536) :
    Calls Tryd.prog 33 #[v, .int .i64 2] w fun e w' => e = .returned (.string ⟨(Cs.comp cs 2).toArray⟩) ∧ Below w.heap.size w w' := by
  obtain ⟨A, c, rfl, hlc, hcm, hcell⟩ := hr
  rw [Kit.ints_length] at hlc hcell ⊢
  unfold maxLen at hcm
  have HC := Lib.hid hcell
  have HW := Lib.hid hc
  clear hcell hc
  go_enter Tryd.func33, Tryd.ntmps33
  go_wp2_with fail
  go_loopw [15, 5] (fun iv ov wr => ∃ j : Nat, j ≤ cs.length ∧ iv = .int .i64 j ∧ wr.ownsRow w.heap.size 5 1 ov (1 + 2 * j) (Kit.bytes (16 :: (cs.take j).flatMap (Cs.cu 2))) ∧ Below w.heap.size w wr) (fun iv _ _ => cs.length - (intOf iv).toNat)
  case atStart => exact ⟨0, by omega, rfl, Kit.own_new w 5 (Kit.bytes [16]) (by simp [Kit.bytes, maxLen]), (Below.refl _ _).alloc (Nat.le_refl _) _⟩
  case round =>
    obtain ⟨j, hj, rfl, hown, hbw⟩ := hrel
    have HOWN := Lib.hid hown
    clear hown
    have hsz := hbw.size
    by_cases hlt : j < cs.length
    · obtain ⟨b, o, rfl, hbl, hce⟩ := HC.out (by omega)
      have hcj : wr.cell? ⟨b, o + j, none⟩ = some (.int .i64 (cs.getD j 0 : Nat)) := by
        rw [hbw.cell (p := ⟨b, o + j, none⟩) hbl]
        exact hce j _ (by simp [Kit.ints, List.getD, hlt])
      clear hce
      have hz1 := HW.out (cs.getD j 0) (by simp [List.getD, hlt])
      have hz2 : ((cs.getD j 0 : Nat) : Int) ≤ 65535 := by omega
      generalize hgz : cs.getD j 0 = z at *
      have HGZ := Lib.hid hgz
      clear hgz
      go_wp2_with fail
      refine wp_loop_rounds 3 ?_
      rw [rounds_succ]
      go_wp2_with (at_builtin; refine Kit.app byteInfo rfl (by decide) rfl _ _ 48 rfl Tryd.underlying48 w.heap.size _ _ _ rfl HOWN.out [_] 1 1 rfl rfl (Kit.one1 rfl) ?c1 hsz ?_)
      case c1 => omega
      intro v' w4 hown' hb4
      have HOWN' := Lib.hid (Kit.snoc_byte hown' (by omega) (by omega))
      have hsz4 := hb4.size
      clear hown'
      go_wp2_with fail
      rw [rounds_succ]
      go_wp2_with (at_builtin; refine Kit.app byteInfo rfl (by decide) rfl _ _ 48 rfl Tryd.underlying48 w.heap.size _ _ _ rfl HOWN'.out [_] 1 1 rfl rfl (Kit.one1 rfl) ?c1 (by omega) ?_)
      case c1 => omega
      intro v'' w5 hown'' hb5
      have HOWN'' := Lib.hid (Kit.snoc_byte hown'' (by omega) (by omega))
      clear hown''
      go_wp2_with fail
      rw [rounds_succ]
      go_wp2_with fail
      go_roundw
      case rel => exact ⟨j + 1, by omega, by go_num, by
        have h := HOWN''.out
        rw [List.take_succ_eq_append_getElem hlt, List.flatMap_append, ← List.cons_append]
        have e : (cs[j]'hlt) = z := by rw [← HGZ.out]; simp [List.getD, hlt]
        have e1 : ((z : Int) / 256).toNat = z / 256 := by omega
        have e2 : UInt8.ofNat ((z : Int) % 256).toNat = UInt8.ofNat z := by
          apply UInt8.toNat_inj.1
          rw [UInt8.toNat_ofNat', UInt8.toNat_ofNat']
          omega
        rw [e1, e2, show 1 + 2 * j + 1 + 1 = 1 + 2 * (j + 1) by omega] at h
        simpa [e, Cs.cu] using h, hbw.trans (hb4.trans hb5)⟩
      case measure => simp [intOf]; omega
    · obtain rfl : j = cs.length := by omega
      have hcv := Kit.str_own HOWN.out
      rw [List.take_length] at hcv
      go_wp2_with fail
      go_ret
      exact ⟨rfl, hbw⟩

set_option maxHeartbeats 1600000 in
set_option maxRecDepth 100000 in
/-- udfstring.Compress. -/
theorem compress_any (s : ByteArray) (w : World) (hT : Lib.Utf8Tabs 0 1 w) (hs : s.size ≤ 9223372036854775807) :
    Calls Tryd.prog 11 #[.string s] w fun e w' => e = .returned (.tuple #[.string ⟨(Cs.compressR s.data.toList).1.toArray⟩, .int .i64 (Cs.compressR s.data.toList).2]) ∧ Below w.heap.size w w' := by
  have cC := characters_any s w hT hs
  by_cases h0 : (Cs.charsR s.data.toList).2 = 0
  · obtain ⟨hl, hch⟩ := Cs.charsR_zero h0
    have hall := Cs.chars_len hch
    have HR := Lib.hid (Cs.compressR_ok hl hch)
    have hs1 : ¬ (65536 : Int) < (s.size : Int) := by simp at hl; omega
    rw [h0] at cC
    generalize (Cs.charsR s.data.toList).1 = cs at *
    have hcl : cs.length ≤ 65536 := by omega
    have HALL := Lib.hid hall.2
    clear h0 hl hch hall hT hs
    have CC := Lib.hid cC
    clear cC
    go_enter Tryd.func11, Tryd.ntmps11
    go_wp2_with fail
    with_reducible refine CC.out.mono ?_
    rintro e w2 ⟨v, rfl, hown, hb2⟩
    have hrow := Kit.Row.of_own hown
    have HROW := Lib.hid hrow
    obtain ⟨A, c, rfl, hlc, hcm, hcell⟩ := hrow
    have HCELL := Lib.hid hcell
    clear hown hcell
    rw [Kit.ints_length] at *
    unfold maxLen at hcm
    by_cases hz : cs.length = 0
    · have hz1 : ((cs.length : Int) == 0) = true := by rw [beq_iff_eq]; omega
      have HZ := Lib.hid hz
      clear hz
      go_wp2_with fail
      go_ret2
      rw [HR.out, show Cs.squeeze cs = [] from if_pos HZ.out]
      exact ⟨rfl, hb2⟩
    · have hz1 : ((cs.length : Int) == 0) = false := by rw [beq_eq_false_iff_ne]; omega
      obtain ⟨b, o, rfl, hbl, hce⟩ := HCELL.out (by omega)
      have HZ := Lib.hid hz
      have cM := Tryd.slices_Max_int b o cs.length c (cs.map fun (n : Nat) => (n : Int)) w2 (by omega) (by simp) (by omega) (fun j hj => by
        have hj' : j < cs.length := by simpa using hj
        exact hce j _ (by simp [Kit.ints, List.getD, hj']))
      rw [List.take_of_length_le (by simp)] at cM
      clear hce hz
      have cM1 := fun h W hr => compressed_one (.slice (some ⟨b, o, none⟩) cs.length c) cs W hr h hcl
      have cM2 := fun h W hr => compressed_two (.slice (some ⟨b, o, none⟩) cs.length c) cs W hr h hcl
      by_cases hm : Lib.maxOf (cs.map fun (n : Nat) => (n : Int)) ≤ 255
      · obtain ⟨hq, h255⟩ := Cs.squeeze_narrow HZ.out hm
        have HQ := Lib.hid hq
        generalize Lib.maxOf (cs.map fun (n : Nat) => (n : Int)) = m at *
        have CM := Lib.hid cM
        have CM1 := Lib.hid (cM1 h255)
        clear hq h255 cM cM1 cM2
        go_wp2_with fail
        with_reducible refine CM.out.mono ?_
        rintro e w3 ⟨rfl, rfl⟩
        go_wp2_with fail
        with_reducible refine (CM1.out _ HROW.out).mono ?_
        rintro e w4 ⟨rfl, hb4⟩
        go_wp2_with fail
        go_ret2
        rw [HR.out, HQ.out]
        exact ⟨rfl, hb2.trans (hb4.mono hb2.size)⟩
      · have hq := Cs.squeeze_wide HZ.out hm
        have h655 : ∀ c ∈ cs, c ≤ 65535 := fun c hc => by
          have := Cs.isChar_le (HALL.out c hc)
          omega
        have HQ := Lib.hid hq
        generalize Lib.maxOf (cs.map fun (n : Nat) => (n : Int)) = m at *
        have CM := Lib.hid cM
        have CM2 := Lib.hid (cM2 h655)
        clear hq h655 cM cM1 cM2
        go_wp2_with fail
        with_reducible refine CM.out.mono ?_
        rintro e w3 ⟨rfl, rfl⟩
        go_wp2_with fail
        with_reducible refine (CM2.out _ HROW.out).mono ?_
        rintro e w4 ⟨rfl, hb4⟩
        go_wp2_with fail
        go_ret2
        rw [HR.out, HQ.out]
        exact ⟨rfl, hb2.trans (hb4.mono hb2.size)⟩
  · obtain ⟨hnil, h7⟩ := Cs.charsR_err h0
    have HR := Lib.hid (Cs.compressR_err h0)
    rcases h7 with ⟨h7, hl⟩ | ⟨h3, hl⟩
    · have hs1 : (65536 : Int) < (s.size : Int) := by simp at hl; omega
      have H7 := Lib.hid h7
      clear hnil h7 hl cC h0
      go_enter Tryd.func11, Tryd.ntmps11
      go_wp2_with fail
      go_ret2
      rw [HR.out, H7.out]
      exact ⟨rfl, Below.refl _ _⟩
    · have hs1 : ¬ (65536 : Int) < (s.size : Int) := by simp at hl; omega
      have H3 := Lib.hid h3
      rw [h3] at cC
      have CC := Lib.hid cC
      clear hnil h3 hl cC h0
      go_enter Tryd.func11, Tryd.ntmps11
      go_wp2_with fail
      with_reducible refine CC.out.mono ?_
      rintro e w2 ⟨v, rfl, _, hb2⟩
      go_wp2_with fail
      go_ret2
      rw [HR.out, H3.out]
      exact ⟨rfl, hb2⟩
end Go.Proofs.YtfdlnhflgiemiaaDoor
