/-
  The walk through masterdiscref17.Characters: the same result as the program's.
-/
import Derived.Test.YthkppbimkjmbnaaGreatDoorZb
import Derived.Test.YthkppbimkjmbnaaGreatDoorZD
import Derived.Test.YthkppbimkjmbnaaGreatDoorZA
import Derived.Test.YthkppbimkjmbnaaGreatDoorZJ
import Derived.Test.YthkppbimkjmbnaaGreatDoorZE
namespace Go.Proofs.YthkppbimkjmbnaaGreatDoor
open Go.RowKit

set_option maxHeartbeats 1600000 in
set_option maxRecDepth 100000 in
/-- masterdiscref17.Characters. -/
theorem rCharacters_any (s : ByteArray) (w : World) (hs : s.size ≤ 9223372036854775807) :
    Calls Tryz.prog 133 #[.string s] w fun e w' => ∃ v, e = .returned (.tuple #[v, .int .i64 (Cs.charsR s.data.toList).2]) ∧ w'.ownsRow w.heap.size 3 1 v (Cs.charsR s.data.toList).1.length (Kit.ints (Cs.charsR s.data.toList).1) ∧ Below w.heap.size w w' := by
  by_cases hl : s.size ≤ 65536
  case neg =>
    rw [Cs.charsR_long (by simp; omega)]
    have hl' : (65536 : Int) < (s.size : Int) := by omega
    go_enter Tryz.func133, Tryz.ntmps133
    go_wp2_with fail
    go_ret2
    exact ⟨_, rfl, World.ownsRow_nil _ _ _ _, Below.refl _ _⟩
  case pos =>
  obtain ⟨i0, hi, hz0, hz1, hz2⟩ := info_parts intInfo
  have hl' : ¬ (65536 : Int) < (s.size : Int) := by omega
  go_enter Tryz.func133, Tryz.ntmps133
  go_wp2_with fail
  go_loopw [0, 4] (fun sv v wr => ∃ (rest : ByteArray) (acc : List Nat), sv = .string rest ∧ Cs.Read s.data.toList acc rest.data.toList ∧ acc.length + rest.size ≤ s.size ∧ wr.ownsRow w.heap.size 3 1 v acc.length (Kit.ints acc) ∧ Below w.heap.size w wr)
     (fun sv _ _ => Kit.strLen sv)
  case atStart => exact ⟨s, [], rfl, Cs.Read.start _, by simp, World.ownsRow_nil _ _ _ _, Below.refl _ _⟩
  case round =>
    obtain ⟨rest, acc, rfl, hrd, hlen, hown, hbw⟩ := hrel
    have HRD := Lib.hid hrd
    have HOWN := Lib.hid hown
    clear hrd hown
    have hsz := hbw.size
    by_cases h0 : 0 < rest.size
    · have h00 : 0 < rest.data.toList.length := by simpa using h0
      have h0' : (0 : Int) < (rest.size : Int) := by omega
      have cF := rFirst_any rest wr h0
      cases hd : Cs.dec rest.data.toList with
      | some p =>
        obtain ⟨n, k⟩ := p
        have hw := Cs.dec_width h00 hd
        rw [show Cs.fr rest.data.toList = (n, k) from Cs.fr_some hd] at cF
        have CF := Lib.hid cF
        have hg := Cs.dec_char hd
        have hkr : k ≤ rest.size := by have := hw.2.1; simp at this; omega
        have hk0 : 1 ≤ k := hw.1
        have hk1 : (k : Int) ≤ (rest.size : Int) := by omega
        have hk2 : ((k : Int) == 0) = false := by simp; omega
        have HD := Lib.hid hd
        clear hw hd cF hg
        go_wp2_with fail
        with_reducible refine CF.out.mono ?_
        rintro e w2 ⟨rfl, hb2⟩
        have HB2 := Lib.hid hb2
        have hsz2 := hb2.size
        clear hb2
        go_wp2_with (at_builtin; refine Kit.push rfl _ _ 34 rfl w.heap.size 3 i0 (.int .i64 0) 8 Tryz.underlying34 hi hz0 hz1 hz2 rfl _ _ _ rfl (Kit.own_below HOWN.out HB2.out) (Kit.ints [n]) 1 1 rfl rfl (Kit.one_i64 _) ?c1 ?c2 ?c3 ?_)
        case c1 => unfold maxLen; omega
        case c2 => omega
        case c3 => omega
        intro v' w4 hown' hb4
        have HOWN' := Lib.hid hown'
        clear hown'
        go_wp2_with fail
        go_roundw
        case rel =>
          exact ⟨rest.extract k rest.size, acc ++ [n], rfl, by rw [Lib.extract_to_end]; exact HRD.out.step h00 HD.out, by simp; omega, by
            have h := HOWN'.out
            rw [← Kit.ints_append] at h
            simpa using h, hbw.trans ((HB2.out.mono hsz).trans hb4)⟩
        case measure => simp [Kit.strLen]; omega
      | none =>
        have hch := HRD.out.fail h00 hd
        have HR := Lib.hid (Cs.charsR_none (by simpa using hl) hch)
        rw [show Cs.fr rest.data.toList = (0, 0) by unfold Cs.fr; rw [hd]; rfl] at cF
        have CF := Lib.hid cF
        clear cF hd hch
        go_wp2_with fail
        with_reducible refine CF.out.mono ?_
        rintro e w2 ⟨rfl, hb2⟩
        go_wp2_with fail
        go_ret2
        rw [HR.out]
        exact ⟨_, rfl, World.ownsRow_nil _ _ _ _, hbw.trans (hb2.mono hsz)⟩
    · have h0' : ¬ (0 : Int) < (rest.size : Int) := by omega
      have hch := HRD.out.done (len0 rest h0)
      have HR := Lib.hid (Cs.charsR_some (by simpa using hl) hch)
      clear hch
      go_wp2_with fail
      go_ret2
      rw [HR.out]
      exact ⟨_, rfl, HOWN.out, hbw⟩
end Go.Proofs.YthkppbimkjmbnaaGreatDoor

/-
  The walks through the reference's Bytes, Reverse, squeeze and Compress.
-/
namespace Go.Proofs.YthkppbimkjmbnaaGreatDoor
open Go.RowKit

set_option maxHeartbeats 1600000 in
set_option maxRecDepth 100000 in
/-- masterdiscref01.Reverse. -/
theorem reverse_any (s : ByteArray) (w : World) (hs : s.size ≤ 65536) :
    Calls Tryz.prog 213 #[.string s] w fun e w' => e = .returned (.string ⟨s.data.toList.reverse.toArray⟩) ∧ Below w.heap.size w w' := by
  obtain ⟨i0, hi, hz0, hz1, hz2⟩ := info_parts byteInfo
  go_enter Tryz.func213, Tryz.ntmps213
  go_wp2_with fail
  go_loopw [4, 3] (fun iv ov wr => ∃ j : Nat, j ≤ s.size ∧ iv = .int .i64 ((j : Int) - 1) ∧ wr.ownsRow w.heap.size 5 1 ov (s.size - j) (Kit.bytes (s.data.toList.drop j).reverse) ∧ Below w.heap.size w wr) (fun iv _ _ => (intOf iv + 1).toNat)
  case atStart => exact ⟨s.size, by omega, rfl, by
    rw [List.drop_of_length_le (by simp), Nat.sub_self]
    exact Kit.own_empty w _, (Below.refl _ _).alloc (Nat.le_refl _) _⟩
  case round =>
    obtain ⟨j, hj, rfl, hown, hbw⟩ := hrel
    have HOWN := Lib.hid hown
    clear hown
    have hsz := hbw.size
    by_cases hlt : 0 < j
    · obtain ⟨k, rfl⟩ : ∃ k, j = k + 1 := ⟨j - 1, by omega⟩
      have hb := byt_get s k (by omega)
      have hbl := Cs.byt_lt s.data.toList k
      have hk : (k : Int) < (s.size : Int) := by omega
      go_wp2_with (at_builtin; refine Kit.app byteInfo rfl (by decide) rfl _ _ 126 rfl Tryz.underlying126 w.heap.size _ _ _ rfl HOWN.out [_] 1 1 rfl rfl (Kit.one1 rfl) ?c1 hsz ?_)
      case c1 => omega
      intro v' w4 hown' hb4
      have HOWN' := Lib.hid (Kit.snoc_byte hown' (by omega) (by omega))
      clear hown'
      go_wp2_with fail
      go_roundw
      case rel => exact ⟨k, by omega, by go_num, by
        have h := HOWN'.out
        have hk' : k < s.data.toList.length := by simp; omega
        rw [List.drop_eq_getElem_cons hk', List.reverse_cons, show s.size - k = s.size - (k + 1) + 1 by omega]
        have e : UInt8.ofNat ((Cs.byt s.data.toList k : Nat) : Int).toNat = s.data.toList[k]'hk' := by
          rw [Int.toNat_natCast]
          unfold Cs.byt
          simp only [List.getD, List.getElem?_eq_getElem hk', Option.getD_some]
          exact UInt8.ofNat_toNat
        rw [e] at h
        exact h, hbw.trans hb4⟩
      case measure => simp [intOf]
    · obtain rfl : j = 0 := by omega
      have hcv := Kit.str_own HOWN.out
      rw [List.drop_zero] at hcv
      go_wp2_with fail
      go_ret
      exact ⟨rfl, hbw⟩

set_option maxHeartbeats 1600000 in
set_option maxRecDepth 100000 in
/-- masterdiscref01.Bytes of one byte. -/
theorem bytes_one (n : Nat) (w : World) (hn : n ≤ 65535) :
    Calls Tryz.prog 80 #[.int .i64 n, .int .i64 1] w fun e w' => e = .returned (.string ⟨#[UInt8.ofNat n]⟩) ∧ Below w.heap.size w w' := by
  have hn1 : (n : Int) ≤ 65535 := by omega
  go_enter Tryz.func80, Tryz.ntmps80
  go_wp2_with fail
  have hown0 := Kit.own_empty w 5
  have hb0 : Below w.heap.size w (w.alloc (.cells #[] 5)) := (Below.refl _ _).alloc (Nat.le_refl _) _
  generalize w.alloc (.cells #[] 5) = W0 at hown0 hb0 ⊢
  have HOWN0 := Lib.hid hown0
  have hsz0 := hb0.size
  clear hown0
  refine wp_loop_rounds 2 ?_
  rw [rounds_succ]
  go_wp2_with (at_builtin; refine Kit.app byteInfo rfl (by decide) rfl _ _ 126 rfl Tryz.underlying126 w.heap.size _ _ _ rfl HOWN0.out [_] 1 1 rfl rfl (Kit.one1 rfl) ?c1 hsz0 ?_)
  case c1 => omega
  intro v' w4 hown' hb4
  have HOWN' := Lib.hid (Kit.snoc_byte hown' (by omega) (by omega))
  clear hown'
  go_wp2_with fail
  rw [rounds_succ]
  have hcv := Kit.str_own HOWN'.out
  go_wp2_with fail
  go_ret
  refine ⟨?_, hb0.trans hb4⟩
  simp [Cs.u8_mod]

set_option maxHeartbeats 1600000 in
set_option maxRecDepth 100000 in
/-- masterdiscref01.Bytes of two bytes. -/
theorem bytes_two (n : Nat) (w : World) (hn : n ≤ 65535) :
    Calls Tryz.prog 80 #[.int .i64 n, .int .i64 2] w fun e w' => e = .returned (.string ⟨#[UInt8.ofNat n, UInt8.ofNat (n / 256)]⟩) ∧ Below w.heap.size w w' := by
  have hn1 : (n : Int) ≤ 65535 := by omega
  go_enter Tryz.func80, Tryz.ntmps80
  go_wp2_with fail
  have hown0 := Kit.own_empty w 5
  have hb0 : Below w.heap.size w (w.alloc (.cells #[] 5)) := (Below.refl _ _).alloc (Nat.le_refl _) _
  generalize w.alloc (.cells #[] 5) = W0 at hown0 hb0 ⊢
  have HOWN0 := Lib.hid hown0
  have hsz0 := hb0.size
  clear hown0
  refine wp_loop_rounds 3 ?_
  rw [rounds_succ]
  go_wp2_with (at_builtin; refine Kit.app byteInfo rfl (by decide) rfl _ _ 126 rfl Tryz.underlying126 w.heap.size _ _ _ rfl HOWN0.out [_] 1 1 rfl rfl (Kit.one1 rfl) ?c1 hsz0 ?_)
  case c1 => omega
  intro v' w4 hown' hb4
  have HOWN' := Lib.hid (Kit.snoc_byte hown' (by omega) (by omega))
  have hsz4 := hb4.size
  clear hown'
  go_wp2_with fail
  rw [rounds_succ]
  go_wp2_with (at_builtin; refine Kit.app byteInfo rfl (by decide) rfl _ _ 126 rfl Tryz.underlying126 w.heap.size _ _ _ rfl HOWN'.out [_] 1 1 rfl rfl (Kit.one1 rfl) ?c1 ?c2 ?_)
  case c1 => omega
  case c2 => omega
  intro v'' w5 hown'' hb5
  have HOWN'' := Lib.hid (Kit.snoc_byte hown'' (by omega) (by omega))
  clear hown''
  go_wp2_with fail
  rw [rounds_succ]
  have hcv := Kit.str_own HOWN''.out
  go_wp2_with fail
  go_ret
  refine ⟨?_, hb0.trans (hb4.trans hb5)⟩
  simp [Cs.u8_mod]

theorem append_mk (a b : List UInt8) : (⟨a.toArray⟩ : ByteArray) ++ ⟨b.toArray⟩ = ⟨(a ++ b).toArray⟩ := by
  apply ByteArray.ext
  simp [ByteArray.data_append]

set_option maxHeartbeats 1600000 in
set_option maxRecDepth 100000 in
/-- masterdiscref32.squeeze. -/
theorem rSqueeze_any (v : Value) (cs : List Nat) (w : World) (hr : Kit.Row w v (Kit.ints cs)) (hc : ∀ c ∈ cs, c ≤ 65535) (hl : cs.length ≤ 65536) :
    Calls Tryz.prog 148 #[v] w fun e w' => e = .returned (.string ⟨(Cs.squeeze cs).toArray⟩) ∧ Below w.heap.size w w' := by
  obtain ⟨A, c, rfl, hlc, hcm, hcell⟩ := hr
  rw [Kit.ints_length] at hlc hcell ⊢
  unfold maxLen at hcm
  have HC := Lib.hid hcell
  have HW := Lib.hid hc
  clear hcell hc
  by_cases h0 : cs.length = 0
  · have hz1 : ((cs.length : Int) == 0) = true := by rw [beq_iff_eq]; omega
    have HZ := Lib.hid h0
    clear h0
    go_enter Tryz.func148, Tryz.ntmps148
    go_wp2_with fail
    go_ret
    rw [show Cs.squeeze cs = [] from if_pos HZ.out]
    exact ⟨rfl, Below.refl _ _⟩
  have hz1 : ((cs.length : Int) == 0) = false := by rw [beq_eq_false_iff_ne]; omega
  have HZ := Lib.hid h0
  clear h0
  go_enter Tryz.func148, Tryz.ntmps148
  go_wp2_with fail
  go_loop [4, 3] (fun iv zv => ∃ j z : Nat, j ≤ cs.length ∧ iv = .int .i64 j ∧ zv = .int .i64 z ∧ Hid (z = Cs.wid (cs.take j))) (fun iv _ => cs.length - (intOf iv).toNat)
  case atStart => exact ⟨0, 1, by omega, rfl, rfl, Lib.hid rfl⟩
  case round =>
    obtain ⟨j, z, hj, rfl, rfl, HZW⟩ := hrel
    by_cases hlt : j < cs.length
    · obtain ⟨b, o, rfl, hbl, hce⟩ := HC.out (by omega)
      have hcj : w.cell? ⟨b, o + j, none⟩ = some (.int .i64 (cs.getD j 0 : Nat)) := hce j _ (by simp [Kit.ints, List.getD, hlt])
      clear hce
      have hst := Cs.wid_step cs j hlt
      generalize cs.getD j 0 = y at *
      by_cases hy : y ≤ 255
      · have hy' : (y : Int) ≤ 255 := by omega
        rw [if_pos hy, ← HZW.out] at hst
        have HST := Lib.hid hst
        clear hst hy
        go_wp2_with fail
        go_round
        case rel => exact ⟨j + 1, z, by omega, by go_num, rfl, Lib.hid HST.out.symm⟩
        case measure => simp [intOf]; omega
      · have hy' : ¬ (y : Int) ≤ 255 := by omega
        rw [if_neg hy] at hst
        have HST := Lib.hid hst
        clear hst hy
        go_wp2_with fail
        go_round
        case rel => exact ⟨j + 1, 2, by omega, by go_num, rfl, Lib.hid HST.out.symm⟩
        case measure => simp [intOf]; omega
    · obtain rfl : j = cs.length := by omega
      have hzw := HZW.out
      rw [List.take_length] at hzw
      have hz12 : z = 1 ∨ z = 2 := by rw [hzw]; exact Cs.wid_or cs
      have HZW' := Lib.hid hzw
      clear HZW hzw
      rcases hz12 with rfl | rfl
      · have hcv := Kit.str_one w 8 (by decide) (by decide)
        go_wp2_with fail
        clear hcv
        have hb0 : Below w.heap.size w (w.alloc (.cells #[.int .u8 8] 5)) := (Below.refl _ _).alloc (Nat.le_refl _) _
        generalize w.alloc (.cells #[.int .u8 8] 5) = W0 at hb0 ⊢
        go_loopw [6, 5] (fun iv ov wr => ∃ j : Nat, j ≤ cs.length ∧ iv = .int .i64 j ∧ ov = .string ⟨(8 :: (cs.take j).flatMap (Cs.cu 1)).toArray⟩ ∧ Below w.heap.size w wr) (fun iv _ _ => cs.length - (intOf iv).toNat)
        case atStart => exact ⟨0, by omega, rfl, rfl, hb0⟩
        case round =>
          obtain ⟨j, hj, rfl, rfl, hbw⟩ := hrel
          have hsz := hbw.size
          by_cases hlt : j < cs.length
          · obtain ⟨b, o, rfl, hbl, hce⟩ := HC.out (by omega)
            have hcj : wr.cell? ⟨b, o + j, none⟩ = some (.int .i64 (cs.getD j 0 : Nat)) := by
              rw [hbw.cell (p := ⟨b, o + j, none⟩) hbl]
              exact hce j _ (by simp [Kit.ints, List.getD, hlt])
            clear hce
            have hy := HW.out (cs.getD j 0) (by simp [List.getD, hlt])
            have hst : 8 :: (cs.take (j + 1)).flatMap (Cs.cu 1) = 8 :: (cs.take j).flatMap (Cs.cu 1) ++ Cs.cu 1 (cs.getD j 0) := by
              rw [List.take_succ_eq_append_getElem hlt, List.flatMap_append, ← List.cons_append]
              simp [List.getD, hlt]
            generalize cs.getD j 0 = y at *
            have HST := Lib.hid hst
            have cB := fun W => bytes_one y W hy
            have cR := fun W => reverse_any ⟨#[UInt8.ofNat y]⟩ W (by simp [ByteArray.size])
            have CB := Lib.hid cB
            have CR := Lib.hid cR
            have hal : (8 :: (cs.take j).flatMap (Cs.cu 1)).length ≤ 131073 := by
              rw [List.length_cons, Cs.flat_cu_len _ (by decide), List.length_take]
              omega
            generalize hacc : 8 :: (cs.take j).flatMap (Cs.cu 1) = acc at *
            clear hst cB cR hacc
            go_wp2_with fail
            with_reducible refine (CB.out _).mono ?_
            rintro e w3 ⟨rfl, hb3⟩
            go_wp2_with fail
            with_reducible refine (CR.out _).mono ?_
            rintro e w4 ⟨rfl, hb4⟩
            go_wp2_with fail
            go_roundw
            case rel =>
              refine ⟨j + 1, by omega, by go_num, ?_, hbw.trans ((hb3.mono hsz).trans (hb4.mono (Nat.le_trans hsz hb3.size)))⟩
              rw [HST.out, ← append_mk]
              rfl
            case measure => simp [intOf]; omega
          · obtain rfl : j = cs.length := by omega
            go_wp2_with fail
            go_ret
            refine ⟨?_, hbw⟩
            rw [List.take_length, show Cs.squeeze cs = Cs.comp cs 1 from by rw [Cs.squeeze, if_neg HZ.out, ← HZW'.out]]
            rfl
      · have hcv := Kit.str_one w 16 (by decide) (by decide)
        go_wp2_with fail
        clear hcv
        have hb0 : Below w.heap.size w (w.alloc (.cells #[.int .u8 16] 5)) := (Below.refl _ _).alloc (Nat.le_refl _) _
        generalize w.alloc (.cells #[.int .u8 16] 5) = W0 at hb0 ⊢
        go_loopw [6, 5] (fun iv ov wr => ∃ j : Nat, j ≤ cs.length ∧ iv = .int .i64 j ∧ ov = .string ⟨(16 :: (cs.take j).flatMap (Cs.cu 2)).toArray⟩ ∧ Below w.heap.size w wr) (fun iv _ _ => cs.length - (intOf iv).toNat)
        case atStart => exact ⟨0, by omega, rfl, rfl, hb0⟩
        case round =>
          obtain ⟨j, hj, rfl, rfl, hbw⟩ := hrel
          have hsz := hbw.size
          by_cases hlt : j < cs.length
          · obtain ⟨b, o, rfl, hbl, hce⟩ := HC.out (by omega)
            have hcj : wr.cell? ⟨b, o + j, none⟩ = some (.int .i64 (cs.getD j 0 : Nat)) := by
              rw [hbw.cell (p := ⟨b, o + j, none⟩) hbl]
              exact hce j _ (by simp [Kit.ints, List.getD, hlt])
            clear hce
            have hy := HW.out (cs.getD j 0) (by simp [List.getD, hlt])
            have hst : 16 :: (cs.take (j + 1)).flatMap (Cs.cu 2) = 16 :: (cs.take j).flatMap (Cs.cu 2) ++ Cs.cu 2 (cs.getD j 0) := by
              rw [List.take_succ_eq_append_getElem hlt, List.flatMap_append, ← List.cons_append]
              simp [List.getD, hlt]
            generalize cs.getD j 0 = y at *
            have HST := Lib.hid hst
            have cB := fun W => bytes_two y W hy
            have cR := fun W => reverse_any ⟨#[UInt8.ofNat y, UInt8.ofNat (y / 256)]⟩ W (by simp [ByteArray.size])
            have CB := Lib.hid cB
            have CR := Lib.hid cR
            have hal : (16 :: (cs.take j).flatMap (Cs.cu 2)).length ≤ 131073 := by
              rw [List.length_cons, Cs.flat_cu_len _ (by decide), List.length_take]
              omega
            generalize hacc : 16 :: (cs.take j).flatMap (Cs.cu 2) = acc at *
            clear hst cB cR hacc
            go_wp2_with fail
            with_reducible refine (CB.out _).mono ?_
            rintro e w3 ⟨rfl, hb3⟩
            go_wp2_with fail
            with_reducible refine (CR.out _).mono ?_
            rintro e w4 ⟨rfl, hb4⟩
            go_wp2_with fail
            go_roundw
            case rel =>
              refine ⟨j + 1, by omega, by go_num, ?_, hbw.trans ((hb3.mono hsz).trans (hb4.mono (Nat.le_trans hsz hb3.size)))⟩
              rw [HST.out, ← append_mk]
              rfl
            case measure => simp [intOf]; omega
          · obtain rfl : j = cs.length := by omega
            go_wp2_with fail
            go_ret
            refine ⟨?_, hbw⟩
            rw [List.take_length, show Cs.squeeze cs = Cs.comp cs 2 from by rw [Cs.squeeze, if_neg HZ.out, ← HZW'.out]]
            rfl

set_option maxHeartbeats 1600000 in
set_option maxRecDepth 100000 in
/-- masterdiscref32.Compress. -/
theorem rCompress_any (s : ByteArray) (w : World) (hs : s.size ≤ 9223372036854775807) :
    Calls Tryz.prog 217 #[.string s] w fun e w' => e = .returned (.tuple #[.string ⟨(Cs.compressR s.data.toList).1.toArray⟩, .int .i64 (Cs.compressR s.data.toList).2]) ∧ Below w.heap.size w w' := by
  have cC := rCharacters_any s w hs
  by_cases h0 : (Cs.charsR s.data.toList).2 = 0
  · obtain ⟨hl, hch⟩ := Cs.charsR_zero h0
    have hall := Cs.chars_len hch
    have HR := Lib.hid (Cs.compressR_ok hl hch)
    rw [h0] at cC
    generalize (Cs.charsR s.data.toList).1 = cs at *
    have hcl : cs.length ≤ 65536 := by omega
    have h655 : ∀ c ∈ cs, c ≤ 65535 := fun c hc => by
      have := Cs.isChar_le (hall.2 c hc)
      omega
    have H655 := Lib.hid h655
    clear h0 hl hch hall hs h655
    have CC := Lib.hid cC
    clear cC
    go_enter Tryz.func217, Tryz.ntmps217
    go_wp2_with fail
    with_reducible refine CC.out.mono ?_
    rintro e w2 ⟨v, rfl, hown, hb2⟩
    have HROW := Lib.hid (Kit.Row.of_own hown)
    clear hown
    go_wp2_with fail
    with_reducible refine (rSqueeze_any _ cs _ HROW.out H655.out hcl).mono ?_
    rintro e w3 ⟨rfl, hb3⟩
    go_wp2_with fail
    go_ret2
    rw [HR.out]
    exact ⟨rfl, hb2.trans (hb3.mono hb2.size)⟩
  · obtain ⟨hnil, h7⟩ := Cs.charsR_err h0
    have HR := Lib.hid (Cs.compressR_err h0)
    generalize (Cs.charsR s.data.toList).1 = cs at *
    generalize (Cs.charsR s.data.toList).2 = er at *
    have h0' : (er == 0) = false := by rw [beq_eq_false_iff_ne]; exact h0
    have h0'' : (er != 0) = true := by rw [bne_iff_ne]; exact h0
    have CC := Lib.hid cC
    clear cC h7 hnil h0
    go_enter Tryz.func217, Tryz.ntmps217
    go_wp2_with fail
    with_reducible refine CC.out.mono ?_
    rintro e w2 ⟨v, rfl, hown, hb2⟩
    clear hown
    go_wp2_with fail
    go_ret2
    rw [HR.out]
    exact ⟨rfl, hb2⟩
end Go.Proofs.YthkppbimkjmbnaaGreatDoor

/-
  The walks through the reference's Utf8 and Expand.
-/
namespace Go.Proofs.YthkppbimkjmbnaaGreatDoor
open Go.RowKit

set_option maxHeartbeats 400000 in
/-- masterdiscref32.character. -/
theorem vCharacter_any (n : Int) (w : World) : Calls Tryz.prog 260 #[.int .i64 n] w fun e w' => e = .returned (.bool (Cs.isChar n)) ∧ w = w' := by
  by_cases h1 : 32 ≤ n <;> by_cases h2 : n ≤ 65533 <;> by_cases h3 : n < 55296 <;> by_cases h4 : 57343 < n
  all_goals
    go_enter Tryz.func260, Tryz.ntmps260
    go_wp2
    go_ret
    refine ⟨congrArg (fun b => Ending.returned (.bool b)) ?_, rfl⟩
    unfold Cs.isChar
    simp [*]

theorem bytes_enc (n : Nat) (h : n ≤ 65535) : Kit.bytes (Cs.enc (n : Int)) = (Cs.encZ (n : Int)).map (Value.int .u8) := by
  rw [← Cs.enc_toNat (n : Int) (by omega) (by omega)]
  simp [Kit.bytes]

set_option maxHeartbeats 1600000 in
set_option maxRecDepth 100000 in
/-- masterdiscref32.Utf8. -/
theorem utf8_any (v : Value) (cs : List Nat) (w : World) (hr : Kit.Row w v (Kit.ints cs)) (hc : ∀ c ∈ cs, c ≤ 65535) (hl : cs.length ≤ 65536) :
    Calls Tryz.prog 149 #[v] w fun e w' => e = .returned (.string ⟨(Cs.text cs).toArray⟩) ∧ Below w.heap.size w w' := by
  obtain ⟨A, c, rfl, hlc, hcm, hcell⟩ := hr
  rw [Kit.ints_length] at hlc hcell ⊢
  unfold maxLen at hcm
  have HC := Lib.hid hcell
  have HW := Lib.hid hc
  clear hcell hc
  go_enter Tryz.func149, Tryz.ntmps149
  go_wp2_with fail
  go_loopw [4, 3] (fun iv ov wr => ∃ (j n : Nat), j ≤ cs.length ∧ iv = .int .i64 j ∧ wr.ownsRow w.heap.size 5 1 ov n (Kit.bytes (Cs.text (cs.take j))) ∧ n ≤ 3 * j ∧ Below w.heap.size w wr) (fun iv _ _ => cs.length - (intOf iv).toNat)
  case atStart => exact ⟨0, 0, by omega, rfl, Kit.own_empty w _, by omega, (Below.refl _ _).alloc (Nat.le_refl _) _⟩
  case round =>
    obtain ⟨j, n, hj, rfl, hown, hn, hbw⟩ := hrel
    have HOWN := Lib.hid hown
    clear hown
    have hsz := hbw.size
    by_cases hlt : j < cs.length
    · obtain ⟨b, o, rfl, hbl, hce⟩ := HC.out (by omega)
      have hcj : wr.cell? ⟨b, o + j, none⟩ = some (.int .i64 (cs.getD j 0 : Nat)) := by
        rw [hbw.cell (p := ⟨b, o + j, none⟩) hbl]
        exact hce j _ (by simp [Kit.ints, List.getD, hlt])
      clear hce
      have hy := HW.out (cs.getD j 0) (by simp [List.getD, hlt])
      have hst : Cs.text (cs.take (j + 1)) = Cs.text (cs.take j) ++ Cs.enc ((cs.getD j 0 : Nat) : Int) := by
        rw [List.take_succ_eq_append_getElem hlt, Cs.text_snoc]
        simp [List.getD, hlt]
      have hbe := bytes_enc _ hy
      generalize cs.getD j 0 = y at *
      have hst' : Kit.bytes (Cs.text (cs.take (j + 1))) = Kit.bytes (Cs.text (cs.take j)) ++ (Cs.encZ (y : Int)).map (Value.int .u8) := by rw [hst, Kit.bytes_append, hbe]
      have HST := Lib.hid hst'
      have hy1 : (y : Int) ≤ 65535 := by omega
      clear hst hbe hst'
      by_cases ha : (y : Int) < 128
      · have he : Cs.encZ (y : Int) = [(y : Int)] := by unfold Cs.encZ; rw [if_pos ha]
        have HE := Lib.hid he
        clear he
        go_wp2_with (at_builtin; refine Kit.app byteInfo rfl (by decide) rfl _ _ 126 rfl Tryz.underlying126 w.heap.size _ _ _ rfl HOWN.out [_] 1 1 rfl rfl (Kit.one1 rfl) ?c1 hsz ?_)
        case c1 => omega
        intro v' w4 hown' hb4
        have HOWN' := Lib.hid hown'
        clear hown'
        go_wp2_with fail
        go_roundw
        case rel => exact ⟨j + 1, n + 1, by omega, by go_num, by
          rw [HST.out, HE.out]
          exact HOWN'.out, by omega, hbw.trans hb4⟩
        case measure => simp [intOf]; omega
      · by_cases hb : (y : Int) < 2048
        · have he : Cs.encZ (y : Int) = [192 + (y : Int) / 64, 128 + (y : Int) % 64] := by unfold Cs.encZ; rw [if_neg ha, if_pos hb]
          have HE := Lib.hid he
          clear he
          go_wp2_with (at_builtin; refine Kit.app byteInfo rfl (by decide) rfl _ _ 126 rfl Tryz.underlying126 w.heap.size _ _ _ rfl HOWN.out [_, _] 2 2 rfl rfl (Kit.one_u8s [_, _]) ?c1 hsz ?_)
          case c1 => omega
          intro v' w4 hown' hb4
          have HOWN' := Lib.hid hown'
          clear hown'
          go_wp2_with fail
          go_roundw
          case rel => exact ⟨j + 1, n + 2, by omega, by go_num, by
            rw [HST.out, HE.out]
            exact HOWN'.out, by omega, hbw.trans hb4⟩
          case measure => simp [intOf]; omega
        · have he : Cs.encZ (y : Int) = [224 + (y : Int) / 4096, 128 + (y : Int) / 64 % 64, 128 + (y : Int) % 64] := by unfold Cs.encZ; rw [if_neg ha, if_neg hb]
          have HE := Lib.hid he
          clear he
          go_wp2_with (at_builtin; refine Kit.app byteInfo rfl (by decide) rfl _ _ 126 rfl Tryz.underlying126 w.heap.size _ _ _ rfl HOWN.out [_, _, _] 3 3 rfl rfl (Kit.one_u8s [_, _, _]) ?c1 hsz ?_)
          case c1 => omega
          intro v' w4 hown' hb4
          have HOWN' := Lib.hid hown'
          clear hown'
          go_wp2_with fail
          go_roundw
          case rel => exact ⟨j + 1, n + 3, by omega, by go_num, by
            rw [HST.out, HE.out]
            exact HOWN'.out, by omega, hbw.trans hb4⟩
          case measure => simp [intOf]; omega
    · obtain rfl : j = cs.length := by omega
      have hcv := Kit.str_own HOWN.out
      rw [List.take_length] at hcv
      go_wp2_with fail
      go_ret
      exact ⟨rfl, hbw⟩
end Go.Proofs.YthkppbimkjmbnaaGreatDoor

/-
  The walk through the reference's Expand.
-/
namespace Go.Proofs.YthkppbimkjmbnaaGreatDoor
open Go.RowKit

set_option maxHeartbeats 1600000 in
set_option maxRecDepth 100000 in
/-- masterdiscref32.Expand behind its checks. -/
theorem vExpand_body (d : ByteArray) (size : Nat) (w : World) (hd : d.size ≤ 65536) (h1 : 1 ≤ d.size) (hsz : size = 1 ∨ size = 2) (hb : Cs.byt d.data.toList 0 = 8 * size) (hev : (d.size - 1) % size = 0) :
    Calls Tryz.prog 209 #[.string d] w fun e w' => e = .returned (.tuple #[.string ⟨(Cs.expandR d.data.toList).1.toArray⟩, .int .i64 (Cs.expandR d.data.toList).2]) ∧ Below w.heap.size w w' := by
  have HBT := Lib.hid hb
  have HEV := Lib.hid hev
  have b0 := Kit.byt_get d 0 (by omega)
  have hb' : ((Cs.byt d.data.toList 0 : Nat) : Int) = 8 * size := by omega
  have hd' : ¬ (65536 : Int) < (d.size : Int) := by omega
  have hne := Kit.not_empty d (by omega)
  have hz : (0 : Int) < (d.size : Int) := by omega
  rcases hsz with rfl | rfl
  · have e1 : (((Cs.byt d.data.toList 0 : Nat) : Int) != 8) = false := by rw [bne_eq_false_iff_eq]; omega
    have e2 : (((d.size : Int) - 1) % 1 != 0) = false := by rw [bne_eq_false_iff_eq]; omega
    go_enter Tryz.func209, Tryz.ntmps209
    go_wp2_with fail
    go_loopw [6, 5] (fun iv lv wr => ∃ (i : Nat) (ns : List Nat), iv = .int .i64 i ∧ Hid (Done d.data.toList 1 i ns) ∧ 1 ≤ i ∧ i ≤ d.size ∧ wr.ownsRow w.heap.size 3 1 lv ns.length (Kit.ints ns) ∧ Below w.heap.size w wr) (fun iv _ _ => d.size - (intOf iv).toNat)
    case atStart => exact ⟨1, [], rfl, Lib.hid (Done.start (by simpa using h1) (by simpa using hev)), by omega, h1, Kit.own_nil w _, (Below.refl _ _).alloc (Nat.le_refl _) _⟩
    case round =>
      obtain ⟨i, ns, rfl, HD, hi1, hid, hown, hbw⟩ := hrel
      have HOWN := Lib.hid hown
      clear hown b0 hb' hb e1 e2
      have hsz := hbw.size
      by_cases hlt : i < d.size
      · have hdl : d.data.toList.length = d.size := Kit.len_size d
        have hik : i + 1 ≤ d.size := by have := HD.out.ev; omega
        have hu := fun h => HD.out.step (size := 1) (by omega) (by omega) rfl h
        have hf := fun h => HD.out.fail (size := 1) (by omega) (by omega) rfl h
        have hlt' : (i : Int) < (d.size : Int) := by omega
        have bi := Kit.byt_get d i hlt
        have l0 := Cs.byt_lt d.data.toList i
        rw [if_pos rfl] at hu hf
        generalize hz0 : Cs.byt d.data.toList i = z0 at *
        have hfew := HD.out.few
        have HU := Lib.hid hu
        have HF := Lib.hid hf
        clear hu hf
        have HZ0 := Lib.hid hz0
        clear hz0
        have cC := fun W => vCharacter_any (z0 : Int) W
        by_cases hic : Cs.isChar (z0 : Int) = true
        · have hbd := (Cs.isChar_iff _).1 hic
          have HDN := Lib.hid (HU.out (by exact hic))
          rw [hic] at cC
          have CC := Lib.hid cC
          clear cC hic hbd
          go_wp2_with fail
          with_reducible refine (CC.out _).mono ?_
          rintro e w3 ⟨rfl, rfl⟩
          go_wp2_with (at_builtin; refine Kit.app intInfo rfl (by decide) rfl _ _ 34 rfl Tryz.underlying34 w.heap.size _ _ _ rfl HOWN.out [_] 1 1 rfl rfl (Kit.one1 rfl) ?c1 hsz ?_)
          case c1 => omega
          intro v' w4 hown' hb4
          have HOWN' := Lib.hid hown'
          clear hown'
          go_wp2_with fail
          go_roundw
          case rel => exact ⟨i + 1, ns ++ [z0], by go_num, HDN, by omega, hik, by
            have h := HOWN'.out
            rw [Kit.ints_append]
            simpa [Kit.ints] using h, hbw.trans hb4⟩
          case measure => simp [intOf]; omega
        · have hic' : Cs.isChar (z0 : Int) = false := by simpa using hic
          rw [hic'] at cC
          have CC := Lib.hid cC
          have hall := HF.out (by exact hic')
          have hR := Cs.expandR_units (size := 1) (by omega) (by omega) (by omega) HBT.out (by rw [hdl]; exact HEV.out)
          rw [if_neg (by rw [hall]; simp)] at hR
          have HR := Lib.hid hR
          clear cC hic hic' hall hR
          go_wp2_with fail
          with_reducible refine (CC.out _).mono ?_
          rintro e w3 ⟨rfl, rfl⟩
          go_wp2_with fail
          go_ret2
          rw [HR.out]
          exact ⟨rfl, hbw⟩
      · obtain rfl : i = d.size := by omega
        have hdl : d.data.toList.length = d.size := Kit.len_size d
        have hD := HD.out
        rw [← hdl] at hD
        have hun := hD.done
        have hR := Cs.expandR_units (size := 1) (by omega) (by omega) (by omega) HBT.out (by rw [hdl]; exact HEV.out)
        rw [hun, if_pos hD.all] at hR
        have HR := Lib.hid hR
        have h655 : ∀ c ∈ ns, c ≤ 65535 := fun c hc => by
          have := Cs.isChar_le (List.all_eq_true.1 hD.all c hc)
          omega
        have hnl : ns.length ≤ 65536 := by have := hD.few; omega
        have CU := Lib.hid (fun v W hr => utf8_any v ns W hr h655 hnl)
        clear hun hD hR h655
        go_wp2_with fail
        with_reducible refine (CU.out _ _ (Kit.Row.of_own HOWN.out)).mono ?_
        rintro e w3 ⟨rfl, hb3⟩
        go_wp2_with fail
        go_ret2
        rw [HR.out]
        exact ⟨rfl, hbw.trans (hb3.mono hsz)⟩
  · have e1 : (((Cs.byt d.data.toList 0 : Nat) : Int) != 8) = true := by rw [bne_iff_ne]; omega
    have e2 : (((Cs.byt d.data.toList 0 : Nat) : Int) != 16) = false := by rw [bne_eq_false_iff_eq]; omega
    have e3 : (((d.size : Int) - 1) % 2 != 0) = false := by rw [bne_eq_false_iff_eq]; omega
    go_enter Tryz.func209, Tryz.ntmps209
    go_wp2_with fail
    go_loopw [6, 5] (fun iv lv wr => ∃ (i : Nat) (ns : List Nat), iv = .int .i64 i ∧ Hid (Done d.data.toList 2 i ns) ∧ 1 ≤ i ∧ i ≤ d.size ∧ wr.ownsRow w.heap.size 3 1 lv ns.length (Kit.ints ns) ∧ Below w.heap.size w wr) (fun iv _ _ => d.size - (intOf iv).toNat)
    case atStart => exact ⟨1, [], rfl, Lib.hid (Done.start (by simpa using h1) (by simpa using hev)), by omega, h1, Kit.own_nil w _, (Below.refl _ _).alloc (Nat.le_refl _) _⟩
    case round =>
      obtain ⟨i, ns, rfl, HD, hi1, hid, hown, hbw⟩ := hrel
      have HOWN := Lib.hid hown
      clear hown b0 hb' hb e1 e2 e3
      have hsz := hbw.size
      by_cases hlt : i < d.size
      · have hdl : d.data.toList.length = d.size := Kit.len_size d
        have hik : i + 2 ≤ d.size := by have := HD.out.ev; omega
        have hu := fun h => HD.out.step (size := 2) (by omega) (by omega) rfl h
        have hf := fun h => HD.out.fail (size := 2) (by omega) (by omega) rfl h
        have hlt' : (i : Int) < (d.size : Int) := by omega
        have bi := Kit.byt_get d i hlt
        have hi1 : i + 1 < d.size := by omega
        have bi1 := Kit.byt_get d (i + 1) hi1
        have l0 := Cs.byt_lt d.data.toList i
        rw [if_neg (by decide)] at hu hf
        have l1 := Cs.byt_lt d.data.toList (i + 1)
        generalize hz0 : Cs.byt d.data.toList i = z0 at *
        generalize hz1 : Cs.byt d.data.toList (i + 1) = z1 at *
        have hfew := HD.out.few
        have HU := Lib.hid hu
        have HF := Lib.hid hf
        clear hu hf
        have HZ0 := Lib.hid hz0
        have HZ1 := Lib.hid hz1
        clear hz0 hz1
        have cC := fun W => vCharacter_any (256 * (z0 : Int) + (z1 : Int)) W
        by_cases hic : Cs.isChar (256 * (z0 : Int) + (z1 : Int)) = true
        · have hbd := (Cs.isChar_iff _).1 hic
          have hcast : ((z0 * 256 + z1 : Nat) : Int) = 256 * (z0 : Int) + (z1 : Int) := by omega
          have HDN := Lib.hid (HU.out (by rw [hcast]; exact hic))
          rw [hic] at cC
          have CC := Lib.hid cC
          clear cC hic hbd
          go_wp2_with fail
          with_reducible refine (CC.out _).mono ?_
          rintro e w3 ⟨rfl, rfl⟩
          go_wp2_with (at_builtin; refine Kit.app intInfo rfl (by decide) rfl _ _ 34 rfl Tryz.underlying34 w.heap.size _ _ _ rfl HOWN.out [_] 1 1 rfl rfl (Kit.one1 rfl) ?c1 hsz ?_)
          case c1 => omega
          intro v' w4 hown' hb4
          have HOWN' := Lib.hid hown'
          clear hown'
          go_wp2_with fail
          go_roundw
          case rel => exact ⟨i + 2, ns ++ [z0 * 256 + z1], by go_num, HDN, by omega, hik, by
            have h := HOWN'.out
            rw [show (256 * (z0 : Int) + (z1 : Int)) = ((z0 * 256 + z1 : Nat) : Int) by omega] at h
            rw [Kit.ints_append]
            simpa [Kit.ints] using h, hbw.trans hb4⟩
          case measure => simp [intOf]; omega
        · have hic' : Cs.isChar (256 * (z0 : Int) + (z1 : Int)) = false := by simpa using hic
          rw [hic'] at cC
          have CC := Lib.hid cC
          have hcast : ((z0 * 256 + z1 : Nat) : Int) = 256 * (z0 : Int) + (z1 : Int) := by omega
          have hall := HF.out (by rw [hcast]; exact hic')
          have hR := Cs.expandR_units (size := 2) (by omega) (by omega) (by omega) HBT.out (by rw [hdl]; exact HEV.out)
          rw [if_neg (by rw [hall]; simp)] at hR
          have HR := Lib.hid hR
          clear cC hic hic' hall hR
          go_wp2_with fail
          with_reducible refine (CC.out _).mono ?_
          rintro e w3 ⟨rfl, rfl⟩
          go_wp2_with fail
          go_ret2
          rw [HR.out]
          exact ⟨rfl, hbw⟩
      · obtain rfl : i = d.size := by omega
        have hdl : d.data.toList.length = d.size := Kit.len_size d
        have hD := HD.out
        rw [← hdl] at hD
        have hun := hD.done
        have hR := Cs.expandR_units (size := 2) (by omega) (by omega) (by omega) HBT.out (by rw [hdl]; exact HEV.out)
        rw [hun, if_pos hD.all] at hR
        have HR := Lib.hid hR
        have h655 : ∀ c ∈ ns, c ≤ 65535 := fun c hc => by
          have := Cs.isChar_le (List.all_eq_true.1 hD.all c hc)
          omega
        have hnl : ns.length ≤ 65536 := by have := hD.few; omega
        have CU := Lib.hid (fun v W hr => utf8_any v ns W hr h655 hnl)
        clear hun hD hR h655
        go_wp2_with fail
        with_reducible refine (CU.out _ _ (Kit.Row.of_own HOWN.out)).mono ?_
        rintro e w3 ⟨rfl, hb3⟩
        go_wp2_with fail
        go_ret2
        rw [HR.out]
        exact ⟨rfl, hbw.trans (hb3.mono hsz)⟩

set_option maxHeartbeats 1600000 in
set_option maxRecDepth 100000 in
/-- masterdiscref32.Expand. -/
theorem vExpand_any (d : ByteArray) (w : World) (hs : d.size ≤ 9223372036854775807) :
    Calls Tryz.prog 209 #[.string d] w fun e w' => e = .returned (.tuple #[.string ⟨(Cs.expandR d.data.toList).1.toArray⟩, .int .i64 (Cs.expandR d.data.toList).2]) ∧ Below w.heap.size w w' := by
  have hdl := Kit.len_size d
  by_cases hl : d.size ≤ 65536
  case neg =>
    have hR : Cs.expandR d.data.toList = ([], 7) := if_pos (by omega)
    have HR := Lib.hid hR
    have hl' : (65536 : Int) < (d.size : Int) := by omega
    clear hR hdl
    go_enter Tryz.func209, Tryz.ntmps209
    go_wp2_with fail
    go_ret2
    rw [HR.out]
    exact ⟨rfl, Below.refl _ _⟩
  case pos =>
  have hl' : ¬ (65536 : Int) < (d.size : Int) := by omega
  by_cases h0 : d.size = 0
  · have hR : Cs.expandR d.data.toList = ([], 0) := by
      unfold Cs.expandR
      rw [if_neg (by omega), if_pos (by omega)]
    have HR := Lib.hid hR
    have he := Kit.is_empty d h0
    clear hR hdl h0
    go_enter Tryz.func209, Tryz.ntmps209
    go_wp2_with fail
    go_ret2
    rw [HR.out]
    exact ⟨rfl, Below.refl _ _⟩
  have hz : (0 : Int) < (d.size : Int) := by omega
  have he := Kit.not_empty d (by omega)
  have hpos : 0 < d.size := by omega
  have b0 := Kit.byt_get d 0 hpos
  by_cases h8 : Cs.byt d.data.toList 0 = 8
  · exact vExpand_body d 1 w hl (by omega) (.inl rfl) h8 (mod_one _)
  by_cases h16 : Cs.byt d.data.toList 0 = 16
  · by_cases hev : (d.size - 1) % 2 = 0
    · exact vExpand_body d 2 w hl (by omega) (.inr rfl) h16 hev
    · have hR : Cs.expandR d.data.toList = ([], 3) := by
        unfold Cs.expandR
        rw [if_neg (by omega), if_neg (by omega), if_pos (by omega)]
      have HR := Lib.hid hR
      have e1 : (((Cs.byt d.data.toList 0 : Nat) : Int) != 8) = true := by rw [bne_iff_ne]; omega
      have e2 : (((Cs.byt d.data.toList 0 : Nat) : Int) != 16) = false := by rw [bne_eq_false_iff_eq]; omega
      have e3 : (((Cs.byt d.data.toList 0 : Nat) : Int) == 16) = true := by rw [beq_iff_eq]; omega
      have e4 : (((d.size : Int) - 1) % 2 != 0) = true := by rw [bne_iff_ne]; omega
      have hb' : ((Cs.byt d.data.toList 0 : Nat) : Int) = 16 := by omega
      clear hR hdl h8 h16 hev h0
      go_enter Tryz.func209, Tryz.ntmps209
      go_wp2_with fail
      go_ret2
      rw [HR.out]
      exact ⟨rfl, Below.refl _ _⟩
  · have hR : Cs.expandR d.data.toList = ([], 3) := by
      unfold Cs.expandR
      rw [if_neg (by omega), if_neg (by omega), if_pos (by omega)]
    have HR := Lib.hid hR
    have e1 : (((Cs.byt d.data.toList 0 : Nat) : Int) != 8) = true := by rw [bne_iff_ne]; omega
    have e2 : (((Cs.byt d.data.toList 0 : Nat) : Int) != 16) = true := by rw [bne_iff_ne]; omega
    clear hR hdl h8 h16 h0
    go_enter Tryz.func209, Tryz.ntmps209
    go_wp2_with fail
    go_ret2
    rw [HR.out]
    exact ⟨rfl, Below.refl _ _⟩

end Go.Proofs.YthkppbimkjmbnaaGreatDoor

/-
  The walks through the reference's Repeat and Entity.
-/
namespace Go.Proofs.YthkppbimkjmbnaaGreatDoor
open Go.RowKit
set_option maxHeartbeats 1600000 in
set_option maxRecDepth 100000 in
/-- masterdiscref01.Repeat of a byte. -/
theorem vRepeat_any (b : UInt8) (z : Int) (h1 : z ≤ 65536) (h0 : -9223372036854775808 ≤ z) (w : World) : Calls Tryz.prog 81 #[.int .u8 (b.toNat : Nat), .int .i64 z] w fun e w' => e = .returned (.string ⟨(List.replicate z.toNat b).toArray⟩) ∧ Below w.heap.size w w' := by
  have hb := UInt8.toNat_lt b
  have hbo := Kit.bytes_of (b.toNat : Nat) (by omega) (by omega)
  rw [Int.toNat_natCast, UInt8.ofNat_toNat] at hbo
  have HBO := Lib.hid hbo
  clear hbo
  go_enter Tryz.func81, Tryz.ntmps81
  go_wp2_with fail
  go_loopw [6, 5] (fun iv ov wr => ∃ j : Nat, (j : Int) ≤ max z 0 ∧ iv = .int .i64 j ∧ wr.ownsRow w.heap.size 5 1 ov j (Kit.bytes (List.replicate j b)) ∧ Below w.heap.size w wr) (fun iv _ _ => (z - intOf iv).toNat)
  case atStart => exact ⟨0, by omega, rfl, Kit.own_empty w _, (Below.refl _ _).alloc (Nat.le_refl _) _⟩
  case round =>
    obtain ⟨j, hj, rfl, hown, hbw⟩ := hrel
    have HOWN := Lib.hid hown
    clear hown
    have hsz := hbw.size
    by_cases hlt : (j : Int) < z
    · go_wp2_with (at_builtin; refine Kit.app byteInfo rfl (by decide) rfl _ _ 126 rfl Tryz.underlying126 w.heap.size _ _ _ rfl HOWN.out [_] 1 1 rfl rfl (Kit.one1 rfl) ?c1 hsz ?_)
      case c1 => omega
      intro v' w4 hown' hb4
      have HOWN' := Lib.hid hown'
      clear hown'
      go_wp2_with fail
      go_roundw
      case rel => exact ⟨j + 1, by omega, by go_num, by
        have h := HOWN'.out
        rw [List.replicate_succ', Kit.bytes_append, HBO.out]
        exact h, hbw.trans hb4⟩
      case measure => simp [intOf]; omega
    · have hcv := Kit.str_own HOWN.out
      have hz : z.toNat = j := by omega
      have HZ := Lib.hid hz
      clear hz
      go_wp2_with fail
      go_ret
      rw [HZ.out]
      exact ⟨rfl, hbw⟩

theorem vZeros_any (z : Int) (h1 : z ≤ 65536) (h0 : -9223372036854775808 ≤ z) (w : World) : Calls Tryz.prog 81 #[.int .u8 0, .int .i64 z] w fun e w' => e = .returned (.string ⟨(List.replicate z.toNat 0).toArray⟩) ∧ Below w.heap.size w w' :=
  vRepeat_any 0 z h1 h0 w

end Go.Proofs.YthkppbimkjmbnaaGreatDoor
