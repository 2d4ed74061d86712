/-
  The walks through the reference's Bytes, Reverse, squeeze and Compress.
-/
import Derived.Test.YtfdlnhflgiemiaaDoorR17b
import Derived.Test.YtfdlnhflgiemiaaDoorUs
import Derived.Test.YtfdlnhflgiemiaaDoorKit2
namespace Go.Proofs.YtfdlnhflgiemiaaDoor
open Go.RowKit

set_option maxHeartbeats 1600000 in
set_option maxRecDepth 100000 in
/-- masterdiscref01.Reverse. -/
theorem reverse_any (s : ByteArray) (w : World) (hs : s.size ≤ 65536) :
    Calls Tryd.prog 58 #[.string s] w fun e w' => e = .returned (.string ⟨s.data.toList.reverse.toArray⟩) ∧ Below w.heap.size w w' := by
  obtain ⟨i0, hi, hz0, hz1, hz2⟩ := info_parts byteInfo
  go_enter Tryd.func58, Tryd.ntmps58
  go_wp2_with fail
  go_loopw [4, 3] (fun iv ov wr => ∃ j : Nat, j ≤ s.size ∧ iv = .int .i64 ((j : Int) - 1) ∧ wr.ownsRow w.heap.size 5 1 ov (s.size - j) (Kit.bytes (s.data.toList.drop j).reverse) ∧ Below w.heap.size w wr) (fun iv _ _ => (intOf iv + 1).toNat)
  case atStart => exact ⟨s.size, by omega, rfl, by
    rw [List.drop_of_length_le (by simp), Nat.sub_self]
    exact Kit.own_empty w _, (Below.refl _ _).alloc (Nat.le_refl _) _⟩
  case round =>
    obtain ⟨j, hj, rfl, hown, hbw⟩ := hrel
    have HOWN := Lib.hid hown
    clear hown
    have hsz := hbw.size
    by_cases hlt : 0 < j
    · obtain ⟨k, rfl⟩ : ∃ k, j = k + 1 := ⟨j - 1, by omega⟩
      have hb := byt_get s k (by omega)
      have hbl := Cs.byt_lt s.data.toList k
      have hk : (k : Int) < (s.size : Int) := by omega
      go_wp2_with (at_builtin; refine Kit.app byteInfo rfl (by decide) rfl _ _ 48 rfl Tryd.underlying48 w.heap.size _ _ _ rfl HOWN.out [_] 1 1 rfl rfl (Kit.one1 rfl) ?c1 hsz ?_)
      case c1 => omega
      intro v' w4 hown' hb4
      have HOWN' := Lib.hid (Kit.snoc_byte hown' (by omega) (by omega))
      clear hown'
      go_wp2_with fail
      go_roundw
      case rel => exact ⟨k, by omega, by go_num, by
        have h := HOWN'.out
        have hk' : k < s.data.toList.length := by simp; omega
        rw [List.drop_eq_getElem_cons hk', List.reverse_cons, show s.size - k = s.size - (k + 1) + 1 by omega]
        have e : UInt8.ofNat ((Cs.byt s.data.toList k : Nat) : Int).toNat = s.data.toList[k]'hk' := by
          rw [Int.toNat_natCast]
          unfold Cs.byt
          simp only [List.getD, List.getElem?_eq_getElem hk', Option.getD_some]
          exact UInt8.ofNat_toNat
        rw [e] at h
        exact h, hbw.trans hb4⟩
      case measure => simp [intOf]
    · obtain rfl : j = 0 := by omega
      have hcv := Kit.str_own HOWN.out
      rw [List.drop_zero] at hcv
      go_wp2_with fail
      go_ret
      exact ⟨rfl, hbw⟩

set_option maxHeartbeats 1600000 in
set_option maxRecDepth 100000 in
/-- masterdiscref01.Bytes of one byte. -/
theorem bytes_one (n : Nat) (w : World) (hn : n ≤ 65535) :
    Calls Tryd.prog 59 #[.int .i64 n, .int .i64 1] w fun e w' => e = .returned (.string ⟨#[UInt8.ofNat n]⟩) ∧ Below w.heap.size w w' := by
  have hn1 : (n : Int) ≤ 65535 := by omega
  go_enter Tryd.func59, Tryd.ntmps59
  go_wp2_with fail
  have hown0 := Kit.own_empty w 5
  have hb0 : Below w.heap.size w (w.alloc (.cells #[] 5)) := (Below.refl _ _).alloc (Nat.le_refl _) _
  generalize w.alloc (.cells #[] 5) = W0 at hown0 hb0 ⊢
  have HOWN0 := Lib.hid hown0
  have hsz0 := hb0.size
  clear hown0
  refine wp_loop_rounds 2 ?_
  rw [rounds_succ]
  go_wp2_with (at_builtin; refine Kit.app byteInfo rfl (by decide) rfl _ _ 48 rfl Tryd.underlying48 w.heap.size _ _ _ rfl HOWN0.out [_] 1 1 rfl rfl (Kit.one1 rfl) ?c1 hsz0 ?_)
  case c1 => omega
  intro v' w4 hown' hb4
  have HOWN' := Lib.hid (Kit.snoc_byte hown' (by omega) (by omega))
  clear hown'
  go_wp2_with fail
  rw [rounds_succ]
  have hcv := Kit.str_own HOWN'.out
  go_wp2_with fail
  go_ret
  refine ⟨?_, hb0.trans hb4⟩
  simp [Cs.u8_mod]

set_option maxHeartbeats 1600000 in
set_option maxRecDepth 100000 in
/-- masterdiscref01.Bytes of two bytes. -/
theorem bytes_two (n : Nat) (w : World) (hn : n ≤ 65535) :
    Calls Tryd.prog 59 #[.int .i64 n, .int .i64 2] w fun e w' => e = .returned (.string ⟨#[UInt8.ofNat n, UInt8.ofNat (n / 256)]⟩) ∧ Below w.heap.size w w' := by
  have hn1 : (n : Int) ≤ 65535 := by omega
  go_enter Tryd.func59, Tryd.ntmps59
  go_wp2_with fail
  have hown0 := Kit.own_empty w 5
  have hb0 : Below w.heap.size w (w.alloc (.cells #[] 5)) := (Below.refl _ _).alloc (Nat.le_refl _) _
  generalize w.alloc (.cells #[] 5) = W0 at hown0 hb0 ⊢
  have HOWN0 := Lib.hid hown0
  have hsz0 := hb0.size
  clear hown0
  refine wp_loop_rounds 3 ?_
  rw [rounds_succ]
  go_wp2_with (at_builtin; refine Kit.app byteInfo rfl (by decide) rfl _ _ 48 rfl Tryd.underlying48 w.heap.size _ _ _ rfl HOWN0.out [_] 1 1 rfl rfl (Kit.one1 rfl) ?c1 hsz0 ?_)
  case c1 => omega
  intro v' w4 hown' hb4
  have HOWN' := Lib.hid (Kit.snoc_byte hown' (by omega) (by omega))
  have hsz4 := hb4.size
  clear hown'
  go_wp2_with fail
  rw [rounds_succ]
  go_wp2_with (at_builtin; refine Kit.app byteInfo rfl (by decide) rfl _ _ 48 rfl Tryd.underlying48 w.heap.size _ _ _ rfl HOWN'.out [_] 1 1 rfl rfl (Kit.one1 rfl) ?c1 ?c2 ?_)
  case c1 => omega
  case c2 => omega
  intro v'' w5 hown'' hb5
  have HOWN'' := Lib.hid (Kit.snoc_byte hown'' (by omega) (by omega))
  clear hown''
  go_wp2_with fail
  rw [rounds_succ]
  have hcv := Kit.str_own HOWN''.out
  go_wp2_with fail
  go_ret
  refine ⟨?_, hb0.trans (hb4.trans hb5)⟩
  simp [Cs.u8_mod]

theorem append_mk (a b : List UInt8) : (⟨a.toArray⟩ : ByteArray) ++ ⟨b.toArray⟩ = ⟨(a ++ b).toArray⟩ := by
  apply ByteArray.ext
  simp [ByteArray.data_append]

set_option maxHeartbeats 1600000 in
set_option maxRecDepth 100000 in
/-- masterdiscref32.squeeze. -/
theorem rSqueeze_any (v : Value) (cs : List Nat) (w : World) (hr : Kit.Row w v (Kit.ints cs)) (hc : ∀ c ∈ cs, c ≤ 65535) (hl : cs.length ≤ 65536) :
    Calls Tryd.prog 35 #[v] w fun e w' => e = .returned (.string ⟨(Cs.squeeze cs).toArray⟩) ∧ Below w.heap.size w w' := by
  obtain ⟨A, c, rfl, hlc, hcm, hcell⟩ := hr
  rw [Kit.ints_length] at hlc hcell ⊢
  unfold maxLen at hcm
  have HC := Lib.hid hcell
  have HW := Lib.hid hc
  clear hcell hc
  by_cases h0 : cs.length = 0
  · have hz1 : ((cs.length : Int) == 0) = true := by rw [beq_iff_eq]; omega
    have HZ := Lib.hid h0
    clear h0
    go_enter Tryd.func35, Tryd.ntmps35
    go_wp2_with fail
    go_ret
    rw [show Cs.squeeze cs = [] from if_pos HZ.out]
    exact ⟨rfl, Below.refl _ _⟩
  have hz1 : ((cs.length : Int) == 0) = false := by rw [beq_eq_false_iff_ne]; omega
  have HZ := Lib.hid h0
  clear h0
  go_enter Tryd.func35, Tryd.ntmps35
  go_wp2_with fail
  go_loop [4, 3] (fun iv zv => ∃ j z : Nat, j ≤ cs.length ∧ iv = .int .i64 j ∧ zv = .int .i64 z ∧ Hid (z = Cs.wid (cs.take j))) (fun iv _ => cs.length - (intOf iv).toNat)
  case atStart => exact ⟨0, 1, by omega, rfl, rfl, Lib.hid rfl⟩
  case round =>
    obtain ⟨j, z, hj, rfl, rfl, HZW⟩ := hrel
    by_cases hlt : j < cs.length
    · obtain ⟨b, o, rfl, hbl, hce⟩ := HC.out (by omega)
      have hcj : w.cell? ⟨b, o + j, none⟩ = some (.int .i64 (cs.getD j 0 : Nat)) := hce j _ (by simp [Kit.ints, List.getD, hlt])
      clear hce
      have hst := Cs.wid_step cs j hlt
      generalize cs.getD j 0 = y at *
      by_cases hy : y ≤ 255
      · have hy' : (y : Int) ≤ 255 := by omega
        rw [if_pos hy, ← HZW.out] at hst
        have HST := Lib.hid hst
        clear hst hy
        go_wp2_with fail
        go_round
        case rel => exact ⟨j + 1, z, by omega, by go_num, rfl, Lib.hid HST.out.symm⟩
        case measure => simp [intOf]; omega
      · have hy' : ¬ (y : Int) ≤ 255 := by omega
        rw [if_neg hy] at hst
        have HST := Lib.hid hst
        clear hst hy
        go_wp2_with fail
        go_round
        case rel => exact ⟨j + 1, 2, by omega, by go_num, rfl, Lib.hid HST.out.symm⟩
        case measure => simp [intOf]; omega
    · obtain rfl : j = cs.length := by omega
      have hzw := HZW.out
      rw [List.take_length] at hzw
      have hz12 : z = 1 ∨ z = 2 := by rw [hzw]; exact Cs.wid_or cs
      have HZW' := Lib.hid hzw
      clear HZW hzw
      rcases hz12 with rfl | rfl
      · have hcv := Kit.str_one w 8 (by decide) (by decide)
        go_wp2_with fail
        clear hcv
        have hb0 : Below w.heap.size w (w.alloc (.cells #[.int .u8 8] 5)) := (Below.refl _ _).alloc (Nat.le_refl _) _
        generalize w.alloc (.cells #[.int .u8 8] 5) = W0 at hb0 ⊢
        go_loopw [6, 5] (fun iv ov wr => ∃ j : Nat, j ≤ cs.length ∧ iv = .int .i64 j ∧ ov = .string ⟨(8 :: (cs.take j).flatMap (Cs.cu 1)).toArray⟩ ∧ Below w.heap.size w wr) (fun iv _ _ => cs.length - (intOf iv).toNat)
        case atStart => exact ⟨0, by omega, rfl, rfl, hb0⟩
        case round =>
          obtain ⟨j, hj, rfl, rfl, hbw⟩ := hrel
          have hsz := hbw.size
          by_cases hlt : j < cs.length
          · obtain ⟨b, o, rfl, hbl, hce⟩ := HC.out (by omega)
            have hcj : wr.cell? ⟨b, o + j, none⟩ = some (.int .i64 (cs.getD j 0 : Nat)) := by
              rw [hbw.cell (p := ⟨b, o + j, none⟩) hbl]
              exact hce j _ (by simp [Kit.ints, List.getD, hlt])
            clear hce
            have hy := HW.out (cs.getD j 0) (by simp [List.getD, hlt])
            have hst : 8 :: (cs.take (j + 1)).flatMap (Cs.cu 1) = 8 :: (cs.take j).flatMap (Cs.cu 1) ++ Cs.cu 1 (cs.getD j 0) := by
              rw [List.take_succ_eq_append_getElem hlt, List.flatMap_append, ← List.cons_append]
              simp [List.getD, hlt]
            generalize cs.getD j 0 = y at *
            have HST := Lib.hid hst
            have cB := fun W => bytes_one y W hy
            have cR := fun W => reverse_any ⟨#[UInt8.ofNat y]⟩ W (by simp [ByteArray.size])
            have CB := Lib.hid cB
            have CR := Lib.hid cR
            have hal : (8 :: (cs.take j).flatMap (Cs.cu 1)).length ≤ 131073 := by
              rw [List.length_cons, Cs.flat_cu_len _ (by decide), List.length_take]
              omega
            generalize hacc : 8 :: (cs.take j).flatMap (Cs.cu 1) = acc at *
            clear hst cB cR hacc
            go_wp2_with fail
            with_reducible refine (CB.out _).mono ?_
            rintro e w3 ⟨rfl, hb3⟩
            go_wp2_with fail
            with_reducible refine (CR.out _).mono ?_
            rintro e w4 ⟨rfl, hb4⟩
            go_wp2_with fail
            go_roundw
            case rel =>
              refine ⟨j + 1, by omega, by go_num, ?_, hbw.trans ((hb3.mono hsz).trans (hb4.mono (Nat.le_trans hsz hb3.size)))⟩
              rw [HST.out, ← append_mk]
              rfl
            case measure => simp [intOf]; omega
          · obtain rfl : j = cs.length := by omega
            go_wp2_with fail
            go_ret
            refine ⟨?_, hbw⟩
            rw [List.take_length, show Cs.squeeze cs = Cs.comp cs 1 from by rw [Cs.squeeze, if_neg HZ.out, ← HZW'.out]]
            rfl
      · have hcv := Kit.str_one w 16 (by decide) (by decide)
        go_wp2_with fail
        clear hcv
        have hb0 : Below w.heap.size w (w.alloc (.cells #[.int .u8 16] 5)) := (Below.refl _ _).alloc (Nat.le_refl _) _
        generalize w.alloc (.cells #[.int .u8 16] 5) = W0 at hb0 ⊢
        go_loopw [6, 5] (fun iv ov wr => ∃ j : Nat, j ≤ cs.length ∧ iv = .int .i64 j ∧ ov = .string ⟨(16 :: (cs.take j).flatMap (Cs.cu 2)).toArray⟩ ∧ Below w.heap.size w wr) (fun iv _ _ => cs.length - (intOf iv).toNat)
        case atStart => exact ⟨0, by omega, rfl, rfl, hb0⟩
        case round =>
          obtain ⟨j, hj, rfl, rfl, hbw⟩ := hrel
          have hsz := hbw.size
          by_cases hlt : j < cs.length
          · obtain ⟨b, o, rfl, hbl, hce⟩ := HC.out (by omega)
            have hcj : wr.cell? ⟨b, o + j, none⟩ = some (.int .i64 (cs.getD j 0 : Nat)) := by
              rw [hbw.cell (p := ⟨b, o + j, none⟩) hbl]
              exact hce j _ (by simp [Kit.ints, List.getD, hlt])
            clear hce
            have hy := HW.out (cs.getD j 0) (by simp [List.getD, hlt])
            have hst : 16 :: (cs.take (j + 1)).flatMap (Cs.cu 2) = 16 :: (cs.take j).flatMap (Cs.cu 2) ++ Cs.cu 2 (cs.getD j 0) := by
              rw [List.take_succ_eq_append_getElem hlt, List.flatMap_append, ← List.cons_append]
              simp [List.getD, hlt]
            generalize cs.getD j 0 = y at *
            have HST := Lib.hid hst
            have cB := fun W => bytes_two y W hy
            have cR := fun W => reverse_any ⟨#[UInt8.ofNat y, UInt8.ofNat (y / 256)]⟩ W (by simp [ByteArray.size])
            have CB := Lib.hid cB
            have CR := Lib.hid cR
            have hal : (16 :: (cs.take j).flatMap (Cs.cu 2)).length ≤ 131073 := by
              rw [List.length_cons, Cs.flat_cu_len _ (by decide), List.length_take]
              omega
            generalize hacc : 16 :: (cs.take j).flatMap (Cs.cu 2) = acc at *
            clear hst cB cR hacc
            go_wp2_with fail
            with_reducible refine (CB.out _).mono ?_
            rintro e w3 ⟨rfl, hb3⟩
            go_wp2_with fail
            with_reducible refine (CR.out _).mono ?_
            rintro e w4 ⟨rfl, hb4⟩
            go_wp2_with fail
            go_roundw
            case rel =>
              refine ⟨j + 1, by omega, by go_num, ?_, hbw.trans ((hb3.mono hsz).trans (hb4.mono (Nat.le_trans hsz hb3.size)))⟩
              rw [HST.out, ← append_mk]
              rfl
            case measure => simp [intOf]; omega
          · obtain rfl : j = cs.length := by omega
            go_wp2_with fail
            go_ret
            refine ⟨?_, hbw⟩
            rw [List.take_length, show Cs.squeeze cs = Cs.comp cs 2 from by rw [Cs.squeeze, if_neg HZ.out, ← HZW'.out]]
            rfl

set_option maxHeartbeats 1600000 in
set_option maxRecDepth 100000 in
/-- masterdiscref32.Compress. -/
theorem rCompress_any (s : ByteArray) (w : World) (hs : s.size ≤ 9223372036854775807) :
    Calls Tryd.prog 12 #[.string s] w fun e w' => e = .returned (.tuple #[.string ⟨(Cs.compressR s.data.toList).1.toArray⟩, .int .i64 (Cs.compressR s.data.toList).2]) ∧ Below w.heap.size w w' := by
  have cC := rCharacters_any s w hs
  by_cases h0 : (Cs.charsR s.data.toList).2 = 0
  · obtain ⟨hl, hch⟩ := Cs.charsR_zero h0
    have hall := Cs.chars_len hch
    have HR := Lib.hid (Cs.compressR_ok hl hch)
    rw [h0] at cC
    generalize (Cs.charsR s.data.toList).1 = cs at *
    have hcl : cs.length ≤ 65536 := by omega
    have h655 : ∀ c ∈ cs, c ≤ 65535 := fun c hc => by
      have := Cs.isChar_le (hall.2 c hc)
      omega
    have H655 := Lib.hid h655
    clear h0 hl hch hall hs h655
    have CC := Lib.hid cC
    clear cC
    go_enter Tryd.func12, Tryd.ntmps12
    go_wp2_with fail
    with_reducible refine CC.out.mono ?_
    rintro e w2 ⟨v, rfl, hown, hb2⟩
    have HROW := Lib.hid (Kit.Row.of_own hown)
    clear hown
    go_wp2_with fail
    with_reducible refine (rSqueeze_any _ cs _ HROW.out H655.out hcl).mono ?_
    rintro e w3 ⟨rfl, hb3⟩
    go_wp2_with fail
    go_ret2
    rw [HR.out]
    exact ⟨rfl, hb2.trans (hb3.mono hb2.size)⟩
  · obtain ⟨hnil, h7⟩ := Cs.charsR_err h0
    have HR := Lib.hid (Cs.compressR_err h0)
    generalize (Cs.charsR s.data.toList).1 = cs at *
    generalize (Cs.charsR s.data.toList).2 = er at *
    have h0' : (er == 0) = false := by rw [beq_eq_false_iff_ne]; exact h0
    have h0'' : (er != 0) = true := by rw [bne_iff_ne]; exact h0
    have CC := Lib.hid cC
    clear cC h7 hnil h0
    go_enter Tryd.func12, Tryd.ntmps12
    go_wp2_with fail
    with_reducible refine CC.out.mono ?_
    rintro e w2 ⟨v, rfl, hown, hb2⟩
    clear hown
    go_wp2_with fail
    go_ret2
    rw [HR.out]
    exact ⟨rfl, hb2⟩
end Go.Proofs.YtfdlnhflgiemiaaDoor
